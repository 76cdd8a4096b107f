import Derived.Test.YtfemabakfkliiaaGreatDoorQp4
set_option linter.defProp false
set_option linter.unusedSectionVars false
set_option linter.unusedSimpArgs false
set_option linter.unusedVariables false
set_option maxHeartbeats 4000000
set_option maxRecDepth 100000
open Bool renaming true->aE,false->aL
open Option renaming some->aM,none->aaa
open List renaming length->I
open Go.Value renaming int->O,string->X,pointer->ae,agg->ah,tuple->ai,bool->aj
open Go.IntKind renaming i64->U,wrap->ar
open Go.Ending renaming returned->ak
open _root_.ByteArray renaming mk->ao
open _root_.Go.Proofs.Tryz renaming prog->aq
open Go.Instr renaming buildSlice->au
open Go renaming World->av,Value->aw,Calls->az
open Go.Kt renaming Only->Q,SliceF->aA,Cells->aB,OnlyP->aD,Blk->aF
open Go renaming World->av,Value->aw
namespace Go.Proofs.YtfemabakfkliiaaGreatDoor.Con
open Go Go.RowKit Go.Kt Go.Kt.V Go.Proofs.YtfemabakfkliiaaGreatDoor.Vc
def ql(d:Nat)(x:Ex):aH:=if da d x=aE then(if(iU (rG d x aL [])).2.1≠0 then[]else rG d x aL [])else[]
def agv{d:Nat}{w:av}{F:aJ}{x:Ex}{s:aI}(h:rF d w F x s)(l:yq d x)(n:my d x)(E:Er w)(b:Tb w)(m:40*oz d x<=70368744177664):
  az aq 239 #[ah s.toArray] w λe g=>e=ak (X (T (ql d x)))/\Q [] w g:=by
 obtain⟨r,rfl⟩:=mQ h;refine ret (v6w _ _ _ _ _ _ ?_);intro o p j z a;have i:=(fD d).inHeap h;refine(P1 d l (ix h a)).mono ?_;rintro _ f ⟨rfl,c⟩;have t:=a.size;have v:=c.size;have u:=a.cd c;refine⟨_,rfl,c.same aah,λhs=>?_,λhs=>(adW f).mono ?_⟩
 ·have hs:da d x=aL:=ahJ
  rw[ql,aP aec];exact⟨rfl,u⟩
 have hs:da d x=aE:=ahJ
 rw[ql,aV hs];rintro _ w2 ⟨C,rfl,TT,H⟩;have z2:=H.size;refine⟨C,rfl,H.same aah,λk1 W mc jM L vR=>?_⟩;have z3:=L.size;have P:Q [] w W:=(u.cd H).cd L;have R0:Pg (λk=>f.heap.size<=k/\k<w2.heap.size) W k1 Sl.nil C []:=⟨⟨aaa,.inl rfl,vR⟩,.inl ⟨rfl,rfl⟩,SliceF.only du Z TT L aag,λk hk=>acL⟩
 have T:=b.only P;have G4:=b.lt;refine(yN d aL hs n (ix i P) (λk hk=>acL) T J R0 acV).mono ?_;rintro _ Y ⟨y,rfl,B,A⟩;have z4:=A.1.size;have dI:Q [] w Y:=(P.qz A.1).only λk hk=>by
  rcases hk with rfl | e
  ·omega
  cases e
 obtain⟨q,hq,S⟩:=B.blk;refine⟨rfl,A.same J (λe=>aeZ) J,q,y,C,S,(Ws B.pt).mono ?_⟩;rintro _ w5 ⟨rfl,N,G⟩;have z5:=G.size;have V:=G.blk S J;have R:Q [] w w5:=(dI.qz G).only λk hk=>ad2
 refine⟨_,rfl,G.same aah,q,y,C,V,(agn _ (E.only R)).mono ?_⟩;rintro _ w6 ⟨s,rfl,hX,K⟩;have z6:=K.size;obtain⟨xl,rfl,_⟩:=hX.cells;have RW:=K.blk V aag;have D:=R.cd K;refine⟨_,_,_,_,_,_,_,_,rfl,K.same aah,q,y,C,RW,λhr k2 k3 w7 _ _ _ _ fR _=>?_,λhr k4 k5 w8 uw yg rl BI M yy=>?_⟩
 ·rw[aV afc];exact⟨rfl,D.cd fR⟩
 have z8:=M.size;refine(Ws ((N.only K).only M)).mono ?_;rintro _ w9 ⟨rfl,x,d⟩;rw[aP afc];have e:∀k,y.a=aM ⟨k,0,aaa⟩->k<Y.heap.size:=λk hk=>(B.buf.lt hk).2;refine⟨_,rfl,d.same λk hk=>?_,q,y,C,d.blk yy J,rfl,((D.cd M).qz d).only λk hk=>ad2⟩;simp only[aZ,bp,ci]at hk;rcases hk with rfl | rfl | rfl
 ·exact⟨J,λk=>by have:=k.1;omega⟩
 ·exact⟨yg,λk=>by have:=e _ k.2;omega⟩
 exact⟨BI,λk=>by have:=e _ k.2;omega⟩
mutual
def Fa:Ex->Nat
 | .mk _ _ _ _ l _=>dpL l+1
def dpL:List Ex->Nat
 | []=>0
 | x::l=>max (Fa x) (dpL l)
end
mutual
def Eb:Ex->Nat
 | .mk _ _ s _ l _=>MJ l+(I s+1)
def MJ:List Ex->Nat
 | []=>0
 | x::l=>Eb x+MJ l
end
def H7(x:Ex):Fa x=dpL x.dD+1:=by cases x;rw[Fa];rfl
def Ec(x:Ex):Eb x=MJ x.dD+(I x.s+1):=by cases x;rw[Eb];rfl
def CO{y:Ex}:∀{l:List Ex},y∈l->Fa y<=dpL l
 | [],h=>acr
 | x::l,h=>by
  rw[dpL];rcases aZ.1 h with rfl | h
  ·exact Da _ _
  exact bD (CO h) (BL _ _)
def H8{y:Ex}:∀{l:List Ex},y∈l->Eb y<=MJ l
 | [],h=>acr
 | x::l,h=>by
  rw[MJ];rcases aZ.1 h with rfl | h
  ·omega
  have:=H8 h;omega
def Wt{d:Nat}:∀{l:List Ex},(∀y,y∈l->Fa y<=d)->dpL l<=d
 | [],_=>by rw[dpL];omega
 | x::l,h=>by
  rw[dpL];exact Nat.max_le.2 ⟨h x aag,Wt λy hy=>h y ahV⟩
def H9(x:Ex):1<=Fa x:=by rw[H7];omega
def NT{w:av}{F:aJ}:∀{d:Nat} {x:Ex} {c:aI},rF d w F x c->Fa x<=d
 | 0,_,_,h=>h.elim
 | d+1,x,c,⟨sl,f,a⟩=>by
  rw[H7];refine Ul (Wt λy b=>?_);obtain⟨e,j⟩:=iA b;obtain⟨_,c,_,_,_,_,h⟩:=a.at_ e y j;exact NT h
def Ed{f g:Ex->Bool}:∀{l:List Ex},(∀y,y∈l->f y=g y)->lj f l=lj g l
 | [],_=>rfl
 | x::l,h=>by rw[lj,lj,h x aag,Ed λy hy=>h y ahV]
def K0:∀(d e:Nat) (x:Ex),Fa x<=d->Fa x<=e->da d x=da e x
 | 0,_,x,h,_=>aft
 | _,0,x,_,h=>aft
 | d+1,e+1,x,a,k=>by
  rw[H7]at a k;rw[da,da,Ed λy h=>K0 d e y (by have:=CO h;omega) (by have:=CO h;omega)]
def P5:∀(d e:Nat) (x:Ex) (wr:Bool) (l:aH),Fa x<=d->Fa x<=e->rG d x wr l=rG e x wr l
 | 0,_,x,_,_,h,_=>aft
 | _,0,x,_,_,_,h=>aft
 | d+1,e+1,x,wr,l,b,k=>by
  rw[H7]at b k;have m:∀y,y∈x.dD->Fa y<=d/\Fa y<=e:=λy h=>by have:=CO h;omega
  rw[rG,rG];cases a:x.dD with
  | nil=>rfl
  | cons y c=>
   cases c with
   | nil=>
    have h:=m y (by rw[a];simp);dsimp only;rw[P5 d e y _ _ h.1 h.2]
   | cons z c=>
    cases c with
    | nil=>
     have h:=m y (by rw[a];simp);have f:=m z (by rw[a];simp);dsimp only;rw[P5 d e y _ _ h.1 h.2,P5 d e z _ _ f.1 f.2]
    | cons _ _=>rfl
def NU:∀(d:Nat) (x:Ex),oz d x<=Eb x
 | 0,x=>be _
 | d+1,x=>by
  rw[oz,Ec];have:∀l:List Ex,qV (oz d) l<=MJ l:=λl=>by
   induction l with
   | nil=>exact be _
   | cons y l i=>rw[qV,MJ];exact mT (NU d y) i
  have:=this x.dD;omega
def NV:∀(d:Nat) (x:Ex),Eb x<4611686018427387903->yq d x
 | 0,x,_=>trivial
 | d+1,x,h=>by
  rw[Ec]at h;exact⟨J,λy a=>NV d y (by have:=H8 a;omega)⟩
def SU(x:Ex):Prop:=∀d,my d x
def xT(x:Ex):aH:=ql (Fa x) x
def P6{d:Nat}{x:Ex}(h:Fa x<=d):ql d x=xT x:=by
 unfold xT ql;rw[K0 d (Fa x) x h (aX _),P5 d (Fa x) x aL [] h (aX _)]
def K4{d:Nat}{x:Ex}(h:ql d x≠[]):da d x=aE/\ql d x=rG d x aL []/\(iU (rG d x aL [])).2.1=0:=by
 unfold ql at h⊢;by_cases s:da d x=aE
 ·rw[aV s]at h⊢;by_cases hr:(iU (rG d x aL [])).2.1≠0
  ·rw[aV hr]at h;exact absurd rfl h
  rw[aP hr];exact⟨s,rfl,afc⟩
 rw[aP s]at h;exact absurd rfl h
def abk{w:av}{F:aJ}{x:Ex}{c:aI}(b:rE aL w F x c)(n:SU x)(s:Eb x<=1759218604441)(E:Er w)(a:Tb w):
  az aq 239 #[ah c.toArray] w λe f=>e=ak (X (T (xT x)))/\Q [] w f:=by
 obtain⟨d,h⟩:=b;have h:=yL h;rw[<-P6 (NT h)];exact agv h (NV d x J) (n d) E a (by have:=NU d x;omega)
def rI(x:Ex):Bool:=(((x.k==0&&x.n==0)&&decide (x.s=[]))&&x.op==0)&&((I x.dD:Int)==0)
def uc(x:Ex):Bool:=decide (xT x≠[])
def iZ(a:Ac):Bool:=decide (1<=a.k/\a.k<=3)&&dJ a.n&&(if a.k=2 then rI a.x else uc a.x)
def mz(m:Mv):Bool:=
 decide (1<=m.k/\m.k<=3)&&(if m.k=1 then dJ m.ev else decide (m.ev=[]))&&(if m.gd then uc m.g else rI m.g)&&m.acts.all iZ&&m.tg.all dJ&&decide (m.wt=0∨m.k=3/\0<m.wt)
def fF(k:Int):Bool:=decide (k=3∨k=4)
def qm(b:Nb)(kids:Nat):Bool:=
 dJ b.nm&&(if fF b.k then dJ b.dft&&decide (b.ini=[]/\b.en=[]/\b.lv=[]/\I b.mv=0/\kids=0)
  else decide ((b.k=1∨b.k=2)/\b.dft=[])&&(decide (b.ini=[])||dJ b.ini)&&b.en.all iZ&&b.lv.all iZ&&b.mv.all mz)
mutual
def jY:Nat->Nd->Bool
 | d,.mk b l=>decide (d<12)&&qm b (I l)&&iL (d+1) l
def iL:Nat->List Nd->Bool
 | _,[]=>aE
 | d,x::l=>jY d x&&iL d l
end
def BR(b:Nb):Nat:=I b.en+I b.lv+(b.mv.map λm=>I m.acts).sum
mutual
def iH:Nd->Nat
 | .mk _ l=>dR l+1
def dR:List Nd->Nat
 | []=>0
 | x::l=>iH x+dR l
end
mutual
def zR:Nd->Nat
 | .mk b l=>I b.mv+oT l
def oT:List Nd->Nat
 | []=>0
 | x::l=>zR x+oT l
end
mutual
def yt:Nd->Nat
 | .mk b l=>BR b+nS l
def nS:List Nd->Nat
 | []=>0
 | x::l=>yt x+nS l
end
def pC(c:Ch):Bool:=
 (c.vars.all λv=>dJ v.n&&decide (v.v≠ -9223372036854775808))&&jY 0 c.root&&decide (c.root.b.k=1/\I c.vars<=16/\iH c.root<=64/\zR c.root<=200/\yt c.root<=400)
def CP(a:Ac):aH:=
 if a.k=2 then lh++32::(a.n++[59])else(if a.k=1 then sf else mV)++32::(a.n++32::61::32::(xT a.x++[59]))
def zT:List Ac->aH
 | []=>[]
 | a::l=>32::(CP a++zT l)
def ze(l:List Ac):aH:=123::(zT l++[32,125])
def Gu:List (aH)->aH
 | []=>[]
 | s::l=>44::32::(s++Gu l)
def ZY(m:Mv):aH:=if m.k=1 then CL++32::m.ev else if m.k=3 then jD++32::Lib.itoa m.wt else iV
def SW(m:Mv):aH:=if m.gd then 32::91::(xT m.g++[93])else[]
def Fb(m:Mv):aH:=
 ZY m++(SW m++((if m.acts=[]then[]else 32::ze m.acts)++((match m.tg with
  | []=>[]
  | s::l=>32::45::62::32::(s++Gu l))++[59])))
def kW(k:Int):aH:=if k=1 then DZ else if k=2 then tW else if k=3 then ww else KR
abbrev Ln:=Nat×aH
def xU(d:Nat)(b:Nb):List Ln:=if b.ini=[]then[]else[(d,fT++32::(b.ini++[59]))]
def P7(d:Nat)(b:Nb):List Ln:=if b.en=[]then[]else[(d,jk++32::ze b.en)]
def SX(d:Nat)(b:Nb):List Ln:=if b.lv=[]then[]else[(d,jl++32::ze b.lv)]
def mvL(d:Nat)(b:Nb):List Ln:=b.mv.map λm=>(d,Fb m)
def FE(d:Nat)(b:Nb):List Ln:=xU d b++(P7 d b++(SX d b++mvL d b))
mutual
def Fc:Nat->Nd->List Ln
 | d,.mk b l=>
  if fF b.k then[(d,kW b.k++32::(b.nm++32::45::62::32::(b.dft++[59])))]
  else(d,kW b.k++32::(b.nm++[32,123]))::(FE (d+1) b++(qn (d+1) l++[(d,[125])]))
def qn:Nat->List Nd->List Ln
 | _,[]=>[]
 | d,x::l=>Fc d x++qn d l
end
def ZZ(v:Vr):aH:=yJ++32::(v.n++32::61::32::(Lib.itoa v.v++[59]))
def Ee(c:Ch):List Ln:=
 (0,gf++32::(c.root.b.nm++[32,123]))::((c.vars.map λv=>(1,ZZ v))++(FE 1 c.root.b++(qn 1 c.root.kids++[(0,[125])])))
def wE:Nat->aH
 | 0=>[]
 | d+1=>32::32::wE d
def lnT(p:Ln):aH:=wE p.1++(p.2++[10])
def kJ(b:aH)(p:Ln):aH:=if 16384<I b then b else b++lnT p
def ey(b:aH)(L:List Ln):aH:=L.foldl kJ b
def BS(L:List Ln):aH:=L.flatMap lnT
def P8(b:aH)(p:Ln):I b<=I (kJ b p):=by
 unfold kJ;split
 ·exact aX _
 rw[aQ];omega
def K5:∀(L:List Ln) (b:aH),I b<=I (ey b L)
 | [],_=>aX _
 | p::L,b=>bD (P8 b p) (K5 L _)
def gP(b:aH)(L M:List Ln):ey b (L++M)=ey (ey b L) M:=jO
def u9(b:aH)(p:Ln)(L:List Ln):ey b (p::L)=ey (kJ b p) L:=rfl
def Wu:∀(L:List Ln) (b:aH),I (ey b L)<=16384->ey b L=b++BS L
 | [],b,_=>(bE b).symm
 | p::L,b,h=>by
  rw[u9]at h⊢;have a:=K5 L (kJ b p);have c:=P8 b p;rw[Wu L _ h];have:kJ b p=b++lnT p:=by unfold kJ;rw[aP J]
  rw[this,bq];rfl
def K6:∀(L:List Ln) (b:aH),16384<(I b)->ey b L=b
 | [],_,_=>rfl
 | p::L,b,h=>by
  have:kJ b p=b:=by unfold kJ;rw[aV h]
  rw[u9,this,K6 L b h]
def ja(c:Ch):aH×Int:=
 if pC c=aE then(if 16384<I (ey [] (Ee c)) then([],2)else(ey [] (Ee c),0))else([],22)
def Gv(a:Ac):Prop:=SU a.x
structure UQ (m:Mv):Prop where
 g:SU m.g
 a:∀x,x∈m.acts->Gv x
 w:tn m.wt
structure nbN (b:Nb):Prop where
 en:∀a,a∈b.en->Gv a
 lv:∀a,a∈b.lv->Gv a
 mv:∀m,m∈b.mv->UQ m
mutual
def Ci:Nd->Prop
 | .mk b l=>nbN b/\zU l
def zU:List Nd->Prop
 | []=>True
 | x::l=>Ci x/\zU l
end
structure G8 (c:Ch):Prop where
 v:∀v,v∈c.vars->tn v.v
 r:Ci c.root
def ne(l:aH):Bool:=!decide (l=[])
def iC(w:List (aH)):aH:=Lib.join (w.filter ne) [32]
def Only.below{w a:av}(h:Below w.heap.size w a):Q [] w a:=⟨h.os,h.tape,h.output,h.size,λk hk _=>h.block k hk⟩
def NW{w:av}{F:aJ}:∀{l:List (aH)} {s:List (aI)},qB mh 1 w F l s->s.flatten=l.map λx=>X (T x)
 | [],[],_=>rfl
 | c::l,d::s,a=>by
  obtain⟨⟨_,h⟩,b⟩:=a;unfold mh at h;subst h;rw[eH,NW b];rfl
def Gw(l:aH)(w:av):az aq 206 #[X (T l)] w λe a=>e=ak (aj (decide (l=[])))/\a=w:=by
 refine ret (am2 _ ?_);exact⟨by rw[show ao #[]=T []from rfl,iv],rfl⟩
section
variable {w:av} {B:Nat} {F:aJ} {s:Sl} {ws:List (aH)}
def Wv(b:Own mh 1 9 B w F s ws):az aq 237 #[s.v,.func (.func 206) #[] #[]] w λe a=>
  ∃i:Int,e=ak (O U i)/\a=w/\((i= -1/\ws.filter ne=ws)∨∃n:Nat,i=n/\n<I ws/\(ws.take (n+1)).filter ne=ws.take n):=by
 refine(am9 s ⟨.func (.func 206) #[] #[],rfl⟩ (λv a=>∃i:Int,v=O U i/\a=w/\((i= -1/\ws.filter ne=ws)∨∃n:Nat,i=n/\n<I ws/\(ws.take (n+1)).filter ne=ws.take n)) w ?_).mono (by
  rintro e a ⟨v,rfl,i,rfl,b⟩;exact⟨i,rfl,b⟩)
 have h:=b.slice du;have N:=h.len;have D:=h.big;have p:=h.cap;refine⟨λd i a=>∃n:Nat,n<=I ws/\i=(n:Int)/\d=(I ws)-n/\(ws.take n).filter ne=ws.take n/\a=w,I ws,⟨0,be _,rfl,rfl,rfl,rfl⟩,?_⟩;rintro d _ f ⟨n,j,rfl,rfl,g,rfl⟩;refine⟨λc=>?_,λc=>?_⟩
 ·have m:(n:Int)<s.n:=aO c;obtain⟨ad,x,r,o,k,u,v,q,l⟩:=h.get (ba n) m;rw[aW]at k;unfold mh at l;subst l;have t:ws.take (n+1)=ws.take n++[x]:=by
   rw[bh,k];rfl
  refine⟨ad,o,_,q,206,[],[],rfl,jR aae,?_⟩;refine(Gw x f).mono ?_;rintro _ w ⟨rfl,rfl⟩;refine⟨_,rfl,λe=>⟨_,rfl,rfl,.inr ⟨n,rfl,J,?_⟩⟩,λe=>⟨(I ws)-(n+1),J,n+1,J,aaf,rfl,?_,rfl⟩⟩
  ·have e:x=[]:=aO e;rw[t,gJ,g,e];simp[ne]
  have e:x≠[]:=aU e;rw[t,gJ,g];simp[ne,e]
 have m:¬(n:Int)<s.n:=aU c;rw[bm J]at g;exact⟨_,rfl,rfl,.inl ⟨rfl,g⟩⟩
def SY(h:Own mh 1 9 B w F s ws):az aq 205 #[s.v,.func (.func 206) #[] #[]] w λe c=>
  ∃f:Sl,e=ak f.v/\Own mh 1 9 B c F f (ws.filter ne)/\aD (λk=>B<=k) w c:=by
 refine(am1 s ⟨.func (.func 206) #[] #[],rfl⟩ (λv c=>∃f:Sl,v=f.v/\Own mh 1 9 B c F f (ws.filter ne)/\aD (λk=>B<=k) w c) w ?_).mono (by
  rintro e c ⟨v,rfl,f,rfl,h⟩;exact⟨f,rfl,h⟩)
 have N:=h.len;have l:=h.cap;have D:=(h.slice du).big;refine(Wv h).mono ?_;rintro _ j ⟨g,rfl,rfl,i⟩;refine⟨g,rfl,λd=>?_,λd=>?_⟩
 ·rcases i with⟨_,a⟩ | ⟨n,rfl,b,a⟩
  ·rw[a];exact⟨s,rfl,h,OnlyP.refl _ _⟩
  have:(n:Int)= -1:=eq_of_beq d;omega
 rcases i with⟨rfl,_⟩ | ⟨n,rfl,m,e⟩
 ·exact absurd d Z
 refine⟨λz a b c=>∃(L:List (aH)) (p q:Nat),a=p/\b=q/\p<q/\q<=I ws/\z=(I ws)-q/\I L=I ws/\L.take p=(ws.take q).filter ne/\L.drop q=ws.drop q/\Own mh 1 9 B c F s L/\aD (λk=>B<=k) j c,
  (I ws)-(n+1),⟨ws,n,n+1,rfl,aaf,J,J,rfl,rfl,e.symm,rfl,h,OnlyP.refl _ _⟩,?_⟩
 rintro z _ _ C ⟨L,p,q,rfl,rfl,A,E,rfl,y,r,hd,o,u⟩;refine⟨λd=>?_,λd=>?_⟩
 ·have R:(q:Int)<s.n:=aO d;have v:q<I ws:=J
  obtain⟨ad,x,cs,S,H,g3,g4,V,K⟩:=(o.slice du).get (ba q) R;rw[aW]at H;unfold mh at K;subst K;have Y:ws[q]? =aM x:=by
   rw[<-H];have k:=bN (λn=>n[0]?) hd;simpa using k.symm
  have P:ws.take (q+1)=ws.take q++[x]:=by
   rw[bh,Y];rfl
  have b:∀M:List (aH),(∀a,q+1<=a->M[a]? =L[a]?)->M.drop (q+1)=ws.drop (q+1):=λM W=>by
   apply oe;intro a;rw[gH,gH,W _ J];have k:=bN (λn=>n[1+a]?) hd;simp only[gH]at k;rw[show q+1+a=q+(1+a) by omega];exact k
  refine⟨λa w=>∃(M:List (aH)) (t:Nat),a=t/\t<q+1/\I M=I ws/\M.take t=(ws.take (q+1)).filter ne/\M.drop (q+1)=ws.drop (q+1)/\Own mh 1 9 B w F s M/\aD (λk=>B<=k) j w,?_,ad,S,_,V,206,[],[],rfl,jR aae,?_⟩
  ·rintro _ w ⟨M,t,rfl,k,n,p,s,x,B⟩;exact⟨(I ws)-(q+1),J,M,t,q+1,rfl,aaf,k,v,rfl,n,p,s,x,B⟩
  refine(Gw x C).mono ?_;rintro _ w ⟨rfl,rfl⟩;refine⟨_,rfl,λhb=>?_,λhb=>?_⟩
  ·have hb:x≠[]:=abS
   obtain⟨am,cells,q,b2,b3,b4,b5⟩:=o.store du (n:=p) J (x:=x) (vs:=[X (T x)]) (G:=λ_=>False) rfl rfl (λk hk=>hk.elim) Z;refine⟨⟨am,p*1,aaa⟩,b2,am,p*1,cells,_,rfl,b3,b4,λw3 s vR=>⟨L.set p x,p+1,aaf,J,by rw[vS];exact y,?_,b _ λa hj=>by rw[FZ J],b5 w3 s vR,u.trans (s.p (F:=λk=>B<=k) λk hk=>.inl ?_) λk hk=>.inl hk⟩⟩
   ·rw[P,gJ,<-r,bh,sH J,Jr J];simp[ne,hb]
   simp only[aN]at hk;subst hk;rcases o with⟨rfl,_⟩ | ⟨p,_,_,k,n,_⟩
   ·cases q
   rw[k]at q;injection q with q;injection q with q;omega
  have hb:x=[]:=abS
  refine⟨L,p,rfl,J,y,?_,b _ λa _=>rfl,o,u⟩;rw[P,gJ,<-r,hb];simp[ne]
 have R:¬(q:Int)<s.n:=aU d;have b:q=I ws:=J
 subst b;rw[bm (aX _)]at r;obtain⟨K,M,x,a,G,H⟩:=Own.clear (P:=aq) (t:=32) (ty:=0) (i:=p) du Z aae (λw=>Tryz.zeroValue9 w) (by intro v n;simp[Value.cells]at n;subst n;rfl) rfl o J;refine⟨p,⟨rfl,J,l⟩,K,x,p,⟨rfl,J⟩,_,rfl,?_,u.trans (G.p (F:=λk=>B<=k) λk hk=>.inl ?_) λk hk=>.inl hk⟩
 ·rw[<-r];exact H
 simp only[aN]at hk;subst hk;rcases o with⟨rfl,_⟩ | ⟨q,_,_,k,p,_⟩
 ·cases a
 rw[k]at a;injection a with a;injection a with a;omega
def Ef(h:Own mh 1 9 B w F s ws)(u:I (iC ws)<=140737488355328)(C:I ws<=140737488355328):az aq 172 #[s.v] w λe z=>e=ak (X (T (iC ws)))/\aD (λk=>B<=k) w z:=by
 refine ret (amK _ ?_);refine(SY h).mono ?_;rintro _ b ⟨i,rfl,g,P⟩;refine⟨i,rfl,?_⟩;have f:=g.len;have D:=kZ ne ws;have j:∀{a:av},Q [] b a->aD (λk=>B<=k) w a:=λh=>P.trans h.p0 λk hk=>.inl hk;rcases g with⟨rfl,t⟩ | ⟨r,q,tail,c,A,d,l,m,n,p,o⟩
 ·refine(Tryz.strings_Join_none aaa 0 (T [32]) b).mono ?_;rintro _ a ⟨rfl,rfl⟩;refine⟨_,rfl,?_,P⟩;unfold iC;rw[t];rfl
 obtain⟨w,sn,sc⟩:=i;dsimp only at c l m n p f;subst c f;have k:=NW o;have:=Tryz.strings_Join r 0 sc ((ws.filter ne).map T) (T [32]) b (λs x e=>by
  rw[cF,fz]at e;obtain⟨y,E,rfl⟩:=e;have:=d.cells 0 ((ws.filter ne).map λx=>Value.string (T x)) (λs v e=>by rw[bP,k,bX (bc.1 e).1];exact e) s (X (T y)) (by rw[cF,E];rfl);rw[gC]at this;exact this) d.lt aeH aeH (by
  rw[gR];have:((λx:aK=>x.data.toList)∘T)=id:=rfl;rw[this,Ur];exact u)
 rw[bK]at this;refine this.mono ?_;rintro _ a ⟨rfl,B⟩;refine⟨_,rfl,?_,j (Only.below B)⟩;rw[gR];have:((λx:aK=>x.data.toList)∘T)=id:=rfl;rw[this,Ur];rfl
end
def Gx(a:av)(s:List (aH)){n:Nat}{parts:Array (Nat×aw)}(p:parts=(((s.map λx=>Value.string (T x)).zipIdx 0).map λx=>(x.2,x.1)).toArray)(c:I s=n)(h:0<n)(g:n*1<=16777216)(l:I (iC s)<=140737488355328):
  ∃(q:Sl) (w:av),(au 32 n parts).run aq a=.ok q.v w/\Q [] a w/\Own mh 1 9 a.heap.size w (λ_=>True) q s/\az aq 172 #[q.v] w λe f=>e=ak (X (T (iC s)))/\aD (λk=>a.heap.size<=k) w f:=by
 obtain⟨q,w,d,b,k3⟩:=ld a s p c h g;exact⟨q,w,d,k3,b,Ef b l J⟩
def kO:∀(w:List (aH)),I (iC w)<=(w.map λl=>I l+1).sum:=by
 have h:∀(r:List (aH)),I (Lib.joinTail [32] r)=(r.map λl=>I l+1).sum:=λr=>by
  induction r with
  | nil=>rfl
  | cons x r i=>
   unfold Lib.joinTail at i⊢;rw[bS,eH,aQ,i,bS,dk];simp
 have a:∀(r:List (aH)),I (Lib.join r [32])<=(r.map λl=>I l+1).sum:=λr=>by
  cases r with
  | nil=>exact be _
  | cons x r=>
   rw[Lib.join_cons,aQ,h,bS,dk];omega
 have b:∀(r:List (aH)),((r.filter ne).map λl=>I l+1).sum<=(r.map λl=>I l+1).sum:=λr=>by
  induction r with
  | nil=>exact aX _
  | cons x r i=>
   rw[uz,bS,dk];split
   ·rw[bS,dk];omega
   omega
 exact λw=>bD (a _) (b w)
structure Fz (bs:List Nat) (w w':av) (ks:List Nat):Prop where
 o:Q bs w w'
 k:∀x,x∈ks->w.heap.size<=x/\x<w'.heap.size
 lo:∀x,x∈bs->x<w.heap.size
section
variable {bs bs' ks ks':List Nat} {w w1 w2 w':av} {k0 b:Nat}
def Fz.start(l:∀x,x∈bs->x<w.heap.size):Fz bs w w []:=⟨Only.refl _ _,λ_ h=>aal,l⟩
def Fz.go(h:Fz bs w w1 ks)(k:Q bs' w1 w2)(b:∀x,x∈bs'->x∈bs∨x∈ks):Fz bs w w2 ks:=
 ⟨h.o.trans k λx a=>(b x a).imp id λhk=>(h.k x hk).1,λx a=>⟨(h.k x a).1,cV (h.k x a).2 k.size⟩,h.lo⟩
def Fz.new(h:Fz bs w w1 ks)(k:Q bs' w1 w2)(b:∀x,x∈bs'->x∈bs∨w.heap.size<=x):Fz bs w w2 ks:=
 ⟨h.o.trans k b,λx a=>⟨(h.k x a).1,cV (h.k x a).2 k.size⟩,h.lo⟩
def Fz.q(h:Fz bs w w1 ks)(k:Q [] w1 w2):Fz bs w w2 ks:=h.go k λx hx=>aeX
def Fz.c(h:Fz (b::bs) w w1 ks)(k:Q [b] w1 w2):Fz (b::bs) w w2 ks:=h.go k λx hx=>.inl acz
def Fz.f(a:Fz bs w w1 ks)(k:Q [k0] w1 w2)(hk:k0∈ks):Fz bs w w2 ks:=a.go k λx h=>.inr (by simp at h;rw[h];exact hk)
def Fz.al(h:Fz bs w w1 ks)(k:Q [] w1 w2)(b:w1.heap.size<=k0)(c:k0<w2.heap.size):Fz bs w w2 (k0::ks):=
 ⟨(h.q k).o,λx a=>by
  rcases aZ.1 a with rfl | a
  ·exact⟨bD h.o.size b,c⟩
  exact(h.q k).k x a,h.lo⟩
def Fz.sm(h:Fz bs w w1 ks)(k:Q bs' w1 w2)(hk:∀x,x∈ks'->x∈ks)(b:∀x,x∈bs'->x∈bs∨∀y,y∈ks'->y≠x):cu ks' w1 w2:=k.same λx a=>
 ⟨(h.k x (hk x a)).2,λm=>by
  rcases b x m with c | c
  ·have:=(h.k x (hk x a)).1;have:=h.lo x c;omega
  exact c x a rfl⟩
def Fz.sq(h:Fz bs w w1 ks)(k:Q [] w1 w2)(hk:∀x,x∈ks'->x∈ks):cu ks' w1 w2:=h.sm k hk λx hx=>aeX
def Fz.sc(h:Fz (b::bs) w w1 ks)(k:Q [b] w1 w2)(hk:∀x,x∈ks'->x∈ks):cu ks' w1 w2:=h.sm k hk λx hx=>.inl acz
def Fz.ne(h:Fz bs w w1 ks)(hk:k0∈ks)(a:b∈bs):k0≠b:=λe=>by
 have:=(h.k k0 hk).1;have:=h.lo b a;omega
end
section
variable {α:Type} {r:Rp α} {w w1 w':av} {x:α} {cs:aI} {B:Nat}
structure Stay (B:Nat) (w w':av):Prop where
 sz:w.heap.size<=w'.heap.size
 eq:∀k,B<=k->k<w.heap.size->w'.heap[k]? =w.heap[k]?
def Stay.refl B w:Stay B w w:=⟨aX _,λ_ _ _=>rfl⟩
def Stay.go{bs}(h:Stay B w w1)(k:Q bs w1 w')(c:∀x,x∈bs->x<B∨w.heap.size<=x):Stay B w w':=
 ⟨bD h.sz k.size,λi b a=>(k.block i (cV a h.sz) λm=>by have:=c i m;omega).trans (h.eq i b a)⟩
def Stay.of{bs}(k:Q bs w w')(h:∀x,x∈bs->x<B∨w.heap.size<=x):Stay B w w':=(Stay.refl B w).go k h
def _root_.Go.Kt.Rp.Ok.stay(h:r.Ok)(a:r w (Fr B) x cs)(s:Stay B w w'):r w' (Fr B) x cs:=
 h.mono (h.keep (h.inHeap a) λk hk b=>s.eq k hk.1 b) λk hk=>hk.1
def _root_.Go.Kt.Rp.Ok.low(b:r.Ok)(h:r w (Fr B) x cs){A}(a:A<=B):r w (Fr A) x cs:=b.mono h λk hk=>bD a hk
variable {size:Nat} {e:TypeId} {s:Sl} {xs:List α} {t:Bool}
def li.stay(h:r.Ok)(c:li t r size e w (Fr B) s xs)(a:0<size)(d:Stay B w w'):li t r size e w' (Fr B) s xs:=
 ((c.inHeap h a).keep h a λk hk b=>d.eq k hk.1 b).mono h λk hk=>hk.1
def li.low(b:r.Ok)(h:li t r size e w (Fr B) s xs){A}(a:A<=B):li t r size e w (Fr A) s xs:=h.mono b λk hk=>bD a hk
end
abbrev sxv(l:Sl)(s:Sx):aI:=[l.v,O U s.i,O U s.fc,O U s.fa,O U s.v,O U s.n,O U s.d,O U s.m,O U s.a]
structure Sr (F:aJ) (ts:List Tk) (w:av) (b:Nat) (l:Sl) (s:Sx):Prop where
 blk:aF w b 151 (sxv l s)
 tok:aA Jv 4 w F l ts
 hF:∀k,F k->k<b
 en:tU ts
 lt:s.i<I ts
 sm:I ts<=16777216
abbrev rp(b:Nat):aw:=ae (aM ⟨b,0,aaa⟩)
section
variable {F:aJ} {ts:List Tk} {w w':av} {b:Nat} {l:Sl} {s s':Sx}
def Sr.own(h:Sr F ts w b l s){bs}(a:Q bs w w')(hb:∀x,x∈bs->b<x):Sr F ts w' b l s:=
 ⟨a.blk h.blk λhm=>(by have:=hb b hm;omega),SliceF.only ji Z h.tok a λk hk _ hm=>ado,h.hF,h.en,h.lt,h.sm⟩
def Sr.YA(h:Sr F ts w b l s){bs}(a:Q bs w w')(c:∀x,x∈bs->x≠b/\¬F x):Sr F ts w' b l s:=
 ⟨a.blk h.blk λm=>(c b m).1 rfl,SliceF.only ji Z h.tok a λk hk _ m=>(c k m).2 hk,h.hF,h.en,h.lt,h.sm⟩
def Sr.ahx(a:Sr F ts w b l s){k0}(c:Q [k0] w w')(hk:k0≠b/\¬F k0):Sr F ts w' b l s:=a.YA c λx h=>(by simp at h;subst h;exact hk)
def Sr.gt(h:Sr F ts w b l s){x}(c:b<x):x≠b/\¬F x:=⟨J,λa=>by have:=h.hF x a;omega⟩
def Sr.only(h:Sr F ts w b l s)(a:Q [] w w'):Sr F ts w' b l s:=h.own a λx hx=>aeX
def Sr.one(h:Sr F ts w b l s){k0}(a:Q [k0] w w')(hk:b<k0):Sr F ts w' b l s:=h.own a λx c=>(by simp at c;omega)
def Sr.lF(h:Sr F ts w b l s)(a:Q [b] w w')(B:aF w' b 151 (sxv l s'))(i:s'.i<I ts):Sr F ts w' b l s':=
 ⟨B,SliceF.only ji Z h.tok a λk hk _ m=>(by have:=h.hF k hk;simp at m;omega),h.hF,h.en,i,h.sm⟩
def Sr.lb(h:Sr F ts w b l s):b<w.heap.size:=h.blk.lt
def Sr.z(a:Sr F ts w b l s):Fz [b] w w []:=Fz.start λx h=>(by simp at h;rw[h];exact a.lb)
def Sr.big(h:Sr F ts w b l s):I ts<=9223372036854775807:=by
 have a:=h.tok.len;have c:=h.tok.cap;have d:=h.tok.big;omega
def Sr.wr(h:Sr F ts w b l s):ar U (s.i+1)=((s.i+1:Nat)):=by
 have:=h.big;have:=h.lt;rw[fh J J];rfl
def Sr.now(h:Sr F ts w b l s):∃ad,cR l s.i 4 ad/\aB w ad [O U (tk ts s.i).k,X (T (tk ts s.i).t),O U (tk ts s.i).n,O U (tk ts s.i).a]:=by
 have k:=h.tok.len;have e:=h.lt;obtain⟨ad,x,f,a,g,i,j,c,d⟩:=h.tok.get (ba s.i) J;rw[aW,DU h.lt]at g;injection g with g;subst g;subst d;exact⟨ad,a,c⟩
structure Dn (F:aJ) (ts:List Tk) (w w':av) (b:Nat) (l:Sl) (s:Sx):Prop where
 o:Q [b] w w'
 r:Sr F ts w' b l s
def Sr.dn(h:Sr F ts w b l s):Dn F ts w w b l s:=⟨Only.refl _ _,h⟩
def Dn.q(h:Dn F ts w w' b l s){w2}(k:Q [] w' w2):Dn F ts w w2 b l s:=⟨h.o.cd k,h.r.only k⟩
def Dn.nx(h:Dn F ts w w' b l s){w2}{s'}(k:Dn F ts w' w2 b l s'):Dn F ts w w2 b l s':=⟨h.o.trans k.o λx a=>.inl a,k.r⟩
def Dn.f(h:Dn F ts w w' b l s){w2}{k0}(k:Q [k0] w' w2)(hk:w.heap.size<=k0)(a:b<w.heap.size):Dn F ts w w2 b l s:=⟨h.o.new k hk,h.r.one k J⟩
def Sr.tk(h:Sr F ts w b l s){ad}(g:cR l s.i 4 ad):aB w ad [O U (tk ts s.i).k,X (T (tk ts s.i).t),O U (tk ts s.i).n,O U (tk ts s.i).a]:=by
 obtain⟨C,a,c⟩:=h.now;rw[g.Cp a];exact c
structure Zt (F:aJ) (ts:List Tk) (w w':av) (b:Nat) (l:Sl) (s:Sx) (ks:List Nat):Prop where
 z:Fz [b] w w' ks
 r:Sr F ts w' b l s
section
variable {w2:av} {ks ks':List Nat} {k0:Nat}
def Sr.zt(h:Sr F ts w b l s):Zt F ts w w b l s []:=⟨h.z,h⟩
def Zt.q(h:Zt F ts w w' b l s ks)(k:Q [] w' w2):Zt F ts w w2 b l s ks:=⟨h.z.q k,h.r.only k⟩
def Zt.al(h:Zt F ts w w' b l s ks)(k:Q [] w' w2)(a:w'.heap.size<=k0)(c:k0<w2.heap.size):Zt F ts w w2 b l s (k0::ks):=⟨h.z.al k a c,h.r.only k⟩
def Zt.ad(h:Zt F ts w w' b l s ks)(c:w.heap.size<=k0)(d:k0<w'.heap.size):Zt F ts w w' b l s (k0::ks):=⟨⟨h.z.o,λx a=>by
 rcases aZ.1 a with rfl | a
 ·exact⟨c,d⟩
 exact h.z.k x a,h.z.lo⟩,h.r⟩
def Zt.lt(h:Zt F ts w w' b l s ks)(hk:k0∈ks):b<k0:=cV (h.z.lo b aag) (h.z.k k0 hk).1
def Zt.f(h:Zt F ts w w' b l s ks)(k:Q [k0] w' w2)(hk:k0∈ks):Zt F ts w w2 b l s ks:=⟨h.z.f k hk,h.r.one k (h.lt hk)⟩
def Zt.nx(h:Zt F ts w w' b l s ks)(k:Dn F ts w' w2 b l s'):Zt F ts w w2 b l s' ks:=⟨h.z.c k.o,k.r⟩
def Zt.dn(h:Zt F ts w w' b l s ks):Dn F ts w w' b l s:=⟨h.z.o,h.r⟩
def Zt.up(h:Zt F ts w w' b l s ks)(k:Q [b] w' w2)(B:aF w2 b 151 (sxv l s'))(i:s'.i<I ts):Zt F ts w w2 b l s' ks:=⟨h.z.c k,h.r.lF k B i⟩
def Zt.sq(h:Zt F ts w w' b l s ks)(k:Q [] w' w2)(hk:∀x,x∈ks'->x∈ks):cu ks' w' w2:=h.z.sq k hk
def Zt.sc(h:Zt F ts w w' b l s ks)(k:Dn F ts w' w2 b l s')(hk:∀x,x∈ks'->x∈ks):cu ks' w' w2:=h.z.sc k.o hk
def Zt.row{gs}(h:Zt F ts w w' b l s ks)(k:Q gs w' w2)(g:∀x,x∈gs->w.heap.size<=x):Zt F ts w w2 b l s ks:=⟨h.z.new k λx a=>.inr (g x a),h.r.own k λx a=>cV (h.z.lo b aag) (g x a)⟩
def Zt.sr{gs}(h:Zt F ts w w' b l s ks)(k:Q gs w' w2)(hk:∀x,x∈ks'->x∈ks)(g:∀x,x∈gs->∀y,y∈ks'->y<x):cu ks' w' w2:=h.z.sm k hk λx a=>.inr λy c e=>by have:=g x a y c;omega
def Zt.ne(h:Zt F ts w w' b l s ks)(hk:k0∈ks):k0≠b:=h.z.ne hk aag
def Stay.q{B}(h:Stay B w w')(k:Q [] w' w2):Stay B w w2:=h.go k λx hx=>aeX
def Stay.d{B}(h:Stay B w w')(k:Dn F ts w' w2 b l s')(c:b<B):Stay B w w2:=h.go k.o λx a=>.inl (by simp at a;omega)
def Stay.f{B}(a:Stay B w w')(k:Q [k0] w' w2)(hk:k0<B∨w.heap.size<=k0):Stay B w w2:=a.go k λx h=>(by simp at h;subst h;exact hk)
end
def pV(h:Sr F ts w b l s):az aq 76 #[rp b] w λe w'=>e=ak (aj (s.fc==0))/\Q [] w w':=by
 exact ret (alP _ _ w ⟨s.fc,Blk.dP h.blk 2 rfl,rfl,Only.refl _ _⟩)
def CQ(h:Sr F ts w b l s) c:az aq 107 #[rp b,O U c] w λe w'=>e=ak (ai #[])/\Dn F ts w w' b l (jW ts s c):=by
 refine ret (al4 _ _ ?_);refine(pV h).mono ?_;rintro _ a ⟨rfl,q⟩;refine⟨_,rfl,λhc d D=>?_,λhc=>?_⟩
 ·have hc:=aaj
  have e:=h.only (q.cd D);obtain⟨ad,g,i⟩:=e.now;refine⟨l,Blk.dP e.blk 0 rfl,_,Blk.dP e.blk 1 rfl,ad,g,_,i.dP 3 _ rfl,b,2,_,_,rfl,e.blk,aag,λw f o=>⟨rfl,((q.cd D).weaken (bs':=[b]) λ_ h=>aal).trans f λx j=>.inl j,?_⟩⟩;unfold jW;rw[aV hc];exact e.lF (s':={s with fc:=c,fa:=(tk ts s.i).a}) f o h.lt
 unfold jW;rw[aP aaj];exact⟨rfl,h.dn.q q⟩
def wF(h:Sr F ts w b l s):az aq 77 #[rp b] w λe w'=>e=ak (ai #[])/\Dn F ts w w' b l (lM ts s):=by
 refine ret (alQ _ ?_);obtain⟨ad,g,d⟩:=h.now;refine⟨λw'=>Dn F ts w w' b l (if(tk ts s.i).k=5 then jW ts s 3 else s),λi a=>(CQ a.r 4).mono ?_,l,Blk.dP h.blk 0 rfl,_,Blk.dP h.blk 1 rfl,ad,g,_,d.dP 0 _ rfl,λhc f c=>?_,λhc f c=>?_⟩
 ·rintro _ w ⟨rfl,b⟩;refine⟨rfl,rfl,a.nx ?_⟩;unfold lM;split at b
  ·rename_i e;rw[aV e];exact b
  rename_i e;rw[aP e];exact b
 ·refine(CQ (h.only c) 3).mono ?_;rintro _ w ⟨rfl,b⟩;have hc:=aaj
  refine⟨rfl,?_⟩;rw[aV hc];exact(h.dn.q c).nx b
 rw[aP aaj];exact h.dn.q c
def anw{s}{w}{G}{l}(h:aA mh 1 w G s l) c:
  az aq 152 #[Sl.v s,X (T c)] w λr w'=>r=ak (O U (if xu c l<I l then xu c l else -1))/\w'=w:=by
 refine ret (adP _ _ ?_);have f:=h.len;have D:=h.big;have d:=h.cap;refine⟨λv i w'=>∃n,n<=I l/\i=n/\v=(I l)-n/\xu c l=n+xu c (l.drop n)/\w'=w,I l,⟨0,be _,rfl,rfl,by rw[im,bP],rfl⟩,?_⟩;rintro v _ _ ⟨n,b,rfl,rfl,p,rfl⟩;refine⟨λa=>?_,λa=>?_⟩
 ·have c:=aO a;obtain⟨ad,x,s,j,g,o,q,k,m⟩:=h.get (ba n) c;rw[aW]at g;subst m;have hd:l.drop n=x::l.drop (n+1):=by rw[jh (bc.1 g).1,(bc.1 g).2]
  rw[hd,xu]at p;refine⟨ad,j,_,k,?_⟩;dsimp only;rw[iv];refine⟨λe=>⟨?_,rfl⟩,λe=>⟨(I l)-_,J,n+1,J,aaf,rfl,?_,rfl⟩⟩
  ·have e:=aO e;rw[aV e]at p;rw[aV J,p,gy]
  rw[aP (aU e)]at p;omega
 have m:=aU a;rw[aP J];exact⟨rfl,rfl⟩
def Eg(k:Sr F ts w b l s){G}{q}{ss}(a:aA mh 1 w G q ss):az aq 109 #[rp b,q.v] w λe w'=>e=ak (O U (dc ts s ss))/\Q [] w w':=by
 refine ret (al6 _ _ ?_);intro o g;have h:=k.only g;obtain⟨ad,i,j⟩:=h.now;refine⟨λ_=>True,trivial,l,Blk.dP h.blk 0 rfl,trivial,_,Blk.dP h.blk 1 rfl,ad,i,trivial,_,_,_,_,j,λn p hk m D=>?_⟩;refine(pV (h.only D)).mono ?_;rintro _ r ⟨rfl,f⟩;have d:=(g.cd D).cd f;have M:((!(s.fc==0))||(((tk ts s.i).k !=2)&&((tk ts s.i).k !=4)))=decide (s.fc≠0∨((tk ts s.i).k≠2/\(tk ts s.i).k≠4)):=by
  rw[bL];simp
 refine⟨_,rfl,f.same aah,?_⟩;dsimp only;rw[M];refine⟨λc=>?_,λc=>?_⟩
 ·unfold dc;rw[aV (aO c)];exact⟨rfl,d⟩
 refine(anw (SliceF.only du Z a d aag) (tk ts s.i).t).mono ?_;rintro _ w ⟨rfl,rfl⟩;refine⟨_,rfl,cu.refl _ _,?_,d⟩;unfold dc;rw[aP (aU c)];have l:=a.len;have e:=a.big;have b:=a.cap;split
 ·rw[fh J J];rfl
 rfl
def P9(h:Sr F ts w b l s) ss {n} {parts} (p:parts=(((ss.map λx=>Value.string (T x)).zipIdx 0).map λx=>(x.2,x.1)).toArray) (d:I ss=n) (c:0<n) (g:n*1<=16777216):
  ∃(q:Sl) (a:av),(au 32 n parts).run aq w=.ok q.v a/\Q [] w a/\az aq 109 #[rp b,q.v] a λe w'=>e=ak (O U (dc ts s ss))/\Q [] a w':=by
 obtain⟨q,a,k,f,k3⟩:=ld w ss p d c g;exact⟨q,a,k,k3,Eg (h.only k3) (vF f)⟩
def abl(h:Sr F ts w b l s){G}{q}{ss}(f:aA mh 1 w G q ss):az aq 73 #[rp b,q.v] w λe w'=>e=ak (O U (dc ts s ss))/\Dn F ts w w' b l (if dc ts s ss=0 then s else eF s):=by
 refine ret (alM _ _ ?_);refine(Eg h f).mono ?_;rintro _ g ⟨rfl,c⟩;have a:=h.only c;refine⟨_,rfl,λw'=>Dn F ts w w' b l _,λi d=>⟨rfl,d⟩,λhc=>?_,λhc=>?_⟩
 ·have hc:dc ts s ss≠0:=aa1
  refine⟨_,Blk.dP a.blk 1 rfl,b,1,_,_,rfl,a.blk,aag,λw e o=>?_⟩;rw[aP hc];rw[h.wr]at o;exact⟨(c.weaken (bs':=[b]) λ_ h=>aal).trans e λx j=>.inl j,a.lF (s':=eF s) e o (h.en.next h.lt (eu hc).2)⟩
 have hc:dc ts s ss=0:=aa6
 rw[aV hc];exact h.dn.q c
def Gy(h:Sr F ts w b l s) ss {n} {parts} (p:parts=(((ss.map λx=>Value.string (T x)).zipIdx 0).map λx=>(x.2,x.1)).toArray) (d:I ss=n) (c:0<n) (g:n*1<=16777216):
  ∃(q:Sl) (a:av),(au 32 n parts).run aq w=.ok q.v a/\Q [] w a/\az aq 73 #[rp b,q.v] a λe w'=>e=ak (O U (dc ts s ss))/\Dn F ts a w' b l (if dc ts s ss=0 then s else eF s):=by
 obtain⟨q,a,k,f,k3⟩:=ld w ss p d c g;exact⟨q,a,k,k3,abl (h.only k3) (vF f)⟩
def Qc(h:Sr F ts w b l s){G}{q}{x}(a:aA mh 1 w G q [x])(d:∀k,G k->k≠b):az aq 71 #[rp b,q.v] w λe w'=>e=ak (ai #[])/\Dn F ts w w' b l (fH ts s x):=by
 refine ret (alJ _ _ ?_);have f:q.n=1:=a.len;refine⟨λv i w'=>(i=0/\v=1/\w'=w)∨(i=1/\v=0/\Dn F ts w w' b l (fH ts s x)),1,.inl ⟨rfl,rfl,rfl⟩,?_⟩;rintro v i c (⟨rfl,rfl,rfl⟩ | ⟨rfl,rfl,D⟩)
 ·refine⟨λ_=>?_,λhc=>absurd (aU hc) J⟩;refine⟨λw'=>Dn F ts c w' b l _,λC p=>⟨0,Z,.inr ⟨rfl,rfl,p⟩⟩,?_⟩;obtain⟨ad,y,z,k,j,A,B,m,o⟩:=a.get (i:=0) Z J;simp at j;subst j;subst o;obtain⟨u,w,r,t,k3⟩:=Gy h [x] (n:=1) (parts:=#[_]) rfl rfl Z Z;refine⟨ad,k,_,m,u,w,r,k3.mono ?_⟩;rintro _ E ⟨rfl,q⟩;have g:=(h.dn.q t).nx q;refine⟨_,rfl,λhc=>?_,λhc=>?_⟩
  ·have hc:dc ts s [x]=0:=by have:=aaj;omega
   rw[aV hc]at g;refine(wF g.r).mono ?_;rintro _ e ⟨rfl,b⟩;refine⟨rfl,?_⟩;unfold fH;rw[aV hc];exact g.nx b
  have hc:dc ts s [x]≠0:=λe=>by rw[e]at hc;simp at hc
  rw[aP hc]at g;unfold fH;rw[aP hc];exact g
 exact⟨λhc=>absurd (aO hc) J,λ_=>⟨rfl,D⟩⟩
def ud(h:Sr F ts w b l s) x:∃(q:Sl) (a:av),(au 32 1 #[.mk 0 (X (T x))]).run aq w=.ok q.v a/\Q [] w a/\az aq 71 #[rp b,q.v] a λe w'=>e=ak (ai #[])/\Dn F ts a w' b l (fH ts s x):=by
 obtain⟨q,a,c,d,k3⟩:=ld w [x] (n:=1) (parts:=#[_]) rfl rfl Z Z;exact⟨q,a,c,k3,Qc (h.only k3) (vF d) λk hk e=>(by have:=hk.1;have:=h.lb;omega)⟩
def zV(h:Sr F ts w b l s){k}(r:k≠5):az aq 108 #[rp b,O U k] w λe w'=>e=ak (iq ts s k).1.v/\Dn F ts w w' b l (iq ts s k).2:=by
 refine ret (al5 _ _ ?_);intro t v hk n q;have a:=h.only q;obtain⟨ad,j,m⟩:=a.now;refine⟨λ_=>True,trivial,l,Blk.dP a.blk 0 rfl,trivial,_,Blk.dP a.blk 1 rfl,ad,j,trivial,_,_,_,_,m,λu y p o D=>?_⟩;have i:=(h.z.al q hk n).al D p o;refine(pV (a.only D)).mono ?_;rintro _ A ⟨rfl,f⟩;have z:=i.q f;have g:=h.lb;have d:=h.dn.q ((q.cd D).cd f);have M:((!(s.fc==0))||((tk ts s.i).k !=k))=decide (s.fc≠0∨(tk ts s.i).k≠k):=by
  rw[bL];simp
 refine⟨_,rfl,i.sq f aag,?_⟩;dsimp only;rw[M];refine⟨λc=>(wF d.r).mono ?_,λc=>?_⟩
 ·rintro _ w ⟨rfl,b⟩;refine⟨rfl,z.sc b.o aag,λk e=>?_⟩;unfold iq;rw[aV (aO c)];exact⟨rfl,(d.nx b).f e hk g⟩
 refine⟨_,Blk.dP d.r.blk 1 rfl,b,1,_,_,rfl,d.r.blk,aag,z.ne aag aag,z.ne aag aag,λE e k G K=>?_⟩;have c:=aU c;unfold iq;rw[aP c];simp at c;rw[h.wr]at k;have B:Dn F ts w E b l (eF s):=⟨d.o.trans e λx C=>.inl C,d.r.lF e k (h.en.next h.lt (by rw[c.2];exact r))⟩
 exact⟨rfl,B.f K hk g⟩
def zW(h:Sr F ts w b l s):az aq 154 #[rp b] w λe w'=>e=ak (X (T (kR ts s).1))/\Dn F ts w w' b l (kR ts s).2:=by
 refine ret (amz _ ?_);refine(zV h (k:=1) Z).mono ?_;rintro _ c ⟨rfl,a⟩;exact⟨_,_,_,_,rfl,rfl,a⟩
def _root_.Go.Kt.Blk.at0{w}{b}{t}{cs}{v}(h:aF w b t cs) j (x:cs[j]? =aM v):aB w ⟨b,j,aaa⟩ [v]:=by
 have:=Blk.dP h j x;rwa[gC,bP]at this
def Ia(h:Sr F ts w b l s) j x c u (d:(sxv l s)[j]? =aM (.int U x)) (C:(sxv l (jW ts s c))[j]? =aM (.int U x)) (i:u.i=s.i)
  (f:sxv l u=fE (sxv l (if x=0 then jW ts s c else s)) j [O U (A9 x)]):az aq 106 #[rp b,ae (aM ⟨b,j,aaa⟩),O U c] w λe w'=>e=ak (ai #[])/\Dn F ts w w' b l u:=by
 refine ret (al3 _ _ _ ?_);refine⟨λw'=>Dn F ts w w' b l (if x=0 then jW ts s c else s),λg a=>?_,_,rfl,x,Blk.at0 h.blk j d,λhc=>?_,λhc=>?_⟩
 ·refine⟨_,rfl,x,Blk.at0 a.r.blk j (by split<;>assumption),_,rfl,b,j,_,_,rfl,a.r.blk,(bc.1 d).1,λw c s=>⟨rfl,a.o.trans c λx d=>.inl d,a.r.lF c (s':=u) ?_ (by rw[i];exact h.lt)⟩⟩;rw[f];exact s
 ·refine(CQ h c).mono ?_;rintro _ w ⟨rfl,b⟩;have hc:=aaj
  rw[aV hc];exact⟨rfl,b⟩
 rw[aP aaj];exact h.dn
def agx(h:Sr F ts w b l s):az aq 106 #[rp b,ae (aM ⟨b,8,aaa⟩),O U 2] w λe w'=>e=ak (ai #[])/\Dn F ts w w' b l (wv ts s):=
 Ia h 8 s.a 2 _ rfl aeS (H2 s) (by unfold wv jW;split<;>(try split)<;>rfl)
def agy(h:Sr F ts w b l s):az aq 106 #[rp b,ae (aM ⟨b,7,aaa⟩),O U 2] w λe w'=>e=ak (ai #[])/\Dn F ts w w' b l (u6 ts s):=
 Ia h 7 s.m 2 _ rfl aeS (H3 s) (by unfold u6 jW;split<;>(try split)<;>rfl)
def agz(h:Sr F ts w b l s):az aq 106 #[rp b,ae (aM ⟨b,5,aaa⟩),O U 2] w λe w'=>e=ak (ai #[])/\Dn F ts w w' b l (FC ts s):=
 Ia h 5 s.n 2 _ rfl aeS (by unfold FC;split;exact HX 2;rfl) (by unfold FC jW;split<;>(try split)<;>rfl)
def agA(h:Sr F ts w b l s):az aq 106 #[rp b,ae (aM ⟨b,4,aaa⟩),O U 2] w λe w'=>e=ak (ai #[])/\Dn F ts w w' b l (FD ts s):=
 Ia h 4 s.v 2 _ rfl aeS (by unfold FD;split;exact HX 2;rfl) (by unfold FD jW;split<;>(try split)<;>rfl)
def Qd(h:Sr F ts w b l s):az aq 187 #[rp b] w λe w'=>∃c,e=ak (ah c.toArray)/\rE aE w' (Fr w.heap.size) (rB ts s).1 c/\Dn F ts w w' b l (rB ts s).2:=by
 refine ik (amT _ ?_);intro a r hk n q;have g:=h.lb;have z:=h.z.al q hk n;refine(pV (h.only q)).mono ?_;rintro _ t ⟨rfl,D⟩;have p:=z.q D;have j:=h.dn.q (q.cd D);refine⟨_,rfl,z.sq D aag,λhc u m=>?_,λhc o f=>?_⟩
 ·have hc:s.fc≠0:=aaj
  unfold rB;rw[aV hc];exact⟨_,rfl,rE0 _ _ _,j.f m hk g⟩
 have hc:¬s.fc≠0:=aaj
 have z3:=p.q f;have L:=j.q f;refine⟨λk=>k=b,λw4 e=>⟨rfl,l,Blk.dP (L.q e).r.blk 0 rfl,λw5 v=>⟨rfl,_,Blk.dP ((L.q e).q v).r.blk 1 rfl,λY K=>?_⟩⟩⟩;have z6:=((z3.q e).q v).q K;have M:=((L.q e).q v).q K;have aS:=M.r.big;have H:=h.lt;refine(PO M.r.tok s.i ⟨J,J⟩).mono ?_;rintro _ Z ⟨c,rfl,E,hj,R⟩;have d7:=M.q R;obtain⟨sl,V,_⟩:=E.cells;have aT:o.heap.size<=Y.heap.size:=((e.cd v).cd K).size;refine⟨_,_,_,_,sl,_,_,_,_,by rw[V],z6.sq R aag,qI.RE R,bT.only R,λw8 N B mc jM P=>?_⟩;obtain⟨d,E⟩:=E.xg;have T:rE aE Z (λk=>Y.heap.size<=k/\k<Z.heap.size) (cO ts s.i).1 c:=⟨d,E⟩
 have am:=bD z3.o.size mc;have aC:=J
 have C:=d7.q N;have bY:=z6.o.size;have bV:=z.k a aag;have bv:=((D.cd f).cd ((e.cd v).cd K)).size;have A:∀{bs:List Nat} {G:av},Q bs w8 G->(∀x,x∈bs->x=B∨x=a∨x=b)->rE aE G (Fr w.heap.size) (cO ts s.i).1 c:=λy S=>
  (jf aE).mono ((jf aE).keep T λk b H=>(y.block k (cV H N.size) λd=>by
   rcases S k d with rfl | rfl | rfl
   ·have:=P.one;omega
   ·omega
   omega).trans (N.block k H aag)) λk b=>by have:=b.1;show w.heap.size<=k;omega
 unfold rB;rw[aP hc];refine⟨λh1 G y=>?_,λh1 eZ W=>?_⟩
 ·have h1:(cO ts s.i).2.2.1≠0:=acJ
  have i:Dn F ts w G b l s:=⟨C.o.trans y λx hx=>.inr aam,C.r.own y λx hx=>aam⟩
  refine⟨b,2,_,_,rfl,i.r.blk,aag,J,J,λdz k pK dF dT=>?_⟩;rw[aV h1];have d:Dn F ts w dz b l {s with fc:=(cO ts s.i).2.2.1,fa:=(cO ts s.i).2.2.2}:=⟨i.o.trans k λx hx=>.inl hx,i.r.lF k pK h.lt⟩
  refine⟨c,by rw[V],?_,d.f dT hk g⟩;exact A (bs:=[B,a,b]) (((y.weaken (bs':=[B,a,b]) λx hx=>.inl acS).trans k λx hx=>.inl acz).trans dT λx hx=>.inl aaz) aag
 have h1:¬(cO ts s.i).2.2.1≠0:=acJ
 have d:Dn F ts w eZ b l s:=⟨C.o.trans W λx hx=>.inr aam,C.r.own W λx hx=>aam⟩
 obtain⟨UN,Jc⟩:=hj acJ;have ej:((cO ts s.i).2.1.toNat)=(cO ts s.i).2.1:=fL UN;refine⟨b,1,_,_,rfl,d.r.blk,aag,J,J,λfl eE wY gw eS=>?_⟩;rw[aP h1];have k:Dn F ts w fl b l {s with i:=(cO ts s.i).2.1.toNat}:=⟨d.o.trans eE λx hx=>.inl hx,d.r.lF eE (by dsimp only[sxv];rw[ej];exact wY) abI⟩
 refine⟨c,by rw[V],?_,k.f eS hk g⟩;exact A (bs:=[B,a,b]) (((W.weaken (bs':=[B,a,b]) λx hx=>.inl (by simp at hx⊢;omega)).trans eE λx hx=>.inl (by simp[aN]at hx;simp[hx])).trans eS λx hx=>.inl (by simp[aN]at hx;simp[hx])) aag
end
def anx{n:Nat}(h:((n:Int)==0)=aE):n=0:=acs
def anz{n:Nat}(h:((n:Int)==0)=aL):n≠0:=λe=>by rw[e]at h;simp at h
def SZ{n:Nat}(h:decide ((n:Int)>0)=aL):n=0:=by have:=aU h;omega
def S1{n:Nat}(h:decide ((n:Int)>0)=aE):n≠0:=aeW
section
variable {F:aJ} {ts:List Tk} {w w':av} {b:Nat} {l:Sl} {s s':Sx}
def agB(g:Sr F ts w b l s):az aq 190 #[rp b] w λe w'=>∃d,e=ak (ah d.toArray)/\qy aE w' (Fr w.heap.size) (tX ts s).1 d/\Dn F ts w w' b l (tX ts s).2:=by
 refine ik (amW _ ?_);intro k S hk E v;have t:=g.zt.al v hk E;obtain⟨ad,o,_⟩:=g.now;refine⟨λ_=>True,λV D=>⟨trivial,l,Blk.dP (t.q D).r.blk 0 rfl,λY m=>⟨trivial,_,Blk.dP ((t.q D).q m).r.blk 1 rfl,ad,o,λw3 z=>?_⟩⟩⟩;have p:=((t.q D).q m).q z;refine⟨trivial,_,(p.r.tk o).dP 3 _ rfl,λN y=>?_⟩;have r:=p.q y;obtain⟨q,P,a,H,c⟩:=ld N [sf,lh,mV] (n:=3) (parts:=#[(0,X (T sf)),(1,X (T lh)),(2,X (T mV))]) rfl rfl Z Z;refine⟨q,P,a,r.sq c aag,qI.RE c,bT.only c,λw6 K=>?_⟩;have j:=(r.q c).q K;refine(Eg j.r (SliceF.only du Z (vF H) K aag)).mono ?_;rintro _ w7 ⟨rfl,f⟩;have L:=j.q f;refine⟨_,rfl,j.sq f aag,qI.RE f,bT.only f,λw8 B i G M C=>?_⟩;have u:=(L.q B).ad (bD t.z.o.size G) M;refine⟨λh w9 A=>?_,λh R W=>?_⟩
 ·have b:=u.f A aag;refine(wF b.r).mono ?_;rintro _ l ⟨rfl,e⟩;refine⟨rfl,b.sc e aag,λF T=>?_⟩;have h:=anx h;unfold tX;rw[aV h,h];exact⟨_,rfl,⟨nR 0 0 [] 0 Sl.nil 0,rfl,rE0 _ _ _⟩,((b.nx e).f T aag).dn⟩
 have h:=anz h;have am:=u.f W aag;refine(agx am.r).mono ?_;rintro _ fl ⟨rfl,uI⟩;have aC:=am.nx uI;refine⟨rfl,am.sc uI aag,(pV aC.r).mono ?_⟩;rintro _ gw ⟨rfl,eS⟩;have n:=aC.q eS;unfold tX;rw[aP h];refine⟨_,rfl,aC.sq eS aag,λhf ij iG=>?_,λhf=>?_⟩
 ·have hf:(wv ts s).fc≠0:=ade
  rw[aV hf];exact⟨_,rfl,⟨nR 0 0 [] 0 Sl.nil 0,rfl,rE0 _ _ _⟩,(n.f iG aag).dn⟩
 have hf:¬(wv ts s).fc≠0:=ade
 rw[aP hf];refine⟨_,Blk.dP n.r.blk 1 rfl,b,1,_,_,rfl,n.r.blk,aag,n.ne aag,n.ne aag,λjw jF Zh=>?_⟩;rw[n.r.wr]at Zh;have aT:Zt F ts w jw b l (eF (wv ts s)) [i,k]:=n.up jF Zh (g.en.next n.r.lt (by rw[H2];exact(eu h).2));refine(zW aT.r).mono ?_;rintro _ iX ⟨rfl,RV⟩;have bv:=aT.nx RV;refine⟨_,rfl,aT.sc RV aag,λku j9=>?_⟩;have aS:=bv.f j9 aag;generalize (kR ts (eF (wv ts s))).2=bV at*
 generalize (kR ts (eF (wv ts s))).1=nm at*
 generalize dc ts s [sf,lh,mV]=kk at*
 generalize (tk ts s.i).a=aa at*
 refine⟨λi4 s1 i5 i6 s2 i7 l2 i8 i9 w'=>∃(x:Ex) (u':Sx),i4=(kk:Int)/\s1=T nm/\i9=aa/\rE aE w' (Fr ku.heap.size) x [O U i5,O U i6,X s2,O U i7,l2.v,O U i8]/\Zt F ts w w' b l u' [i,k]/\NL ts bV kk nm aa=(⟨kk,nm,x,aa⟩,fH ts u' [59])/\ku.heap.size<=w'.heap.size,?_,λqG=>?_,λqG=>?_⟩
 ·rintro i4 s1 i5 i6 s2 i7 l2 i8 i9 lZ ⟨x,u',rfl,rfl,rfl,hx,e,T,bY⟩;obtain⟨q,kg,a,s,w⟩:=ud e.r [59];refine⟨q,kg,a,e.sq s aag,w.mono ?_⟩;rintro _ nj ⟨rfl,b⟩;have l:=e.q s;refine⟨rfl,l.sc b aag,λpI F=>?_⟩;rw[T];have zk:=aS.z.k k aag;have zs:=aS.z.o.size;have zb:=aS.r.lb;refine⟨_,rfl,⟨[O U i5,O U i6,X s2,O U i7,l2.v,O U i8],rfl,?_⟩,((l.nx b).f F aag).dn⟩;exact(jf aE).low ((jf aE).stay hx ((((Stay.refl _ _).q s).d b zb).f F (.inl zk.2))) zs
 ·have qG:¬kk=2:=λe=>by rw[e]at qG;simp at qG
  obtain⟨q,th,a,uu,hm⟩:=ud aS.r [61];refine⟨q,th,a,aS.sq uu aag,hm.mono ?_⟩;rintro _ uF ⟨rfl,b⟩;have w:=aS.q uu;have s:=w.nx b;refine⟨rfl,w.sc b aag,(Qd s.r).mono ?_⟩;rintro _ qL ⟨d,rfl,hx,l⟩;obtain⟨sl,rfl⟩:=eU hx;have T:=s.nx l;refine⟨_,_,_,_,sl,_,rfl,s.sc l aag,λsC F=>?_⟩;have x:ku.heap.size<=uF.heap.size:=bD uu.size b.o.size;have zk:=aS.z.k i aag;refine⟨_,_,rfl,rfl,rfl,(jf aE).low ((jf aE).stay hx ((Stay.refl _ _).f F (.inl J))) x,T.f F aag,?_,bD x (bD l.o.size F.size)⟩;unfold NL;rw[aP qG]
 have qG:(kk:Int)=2:=ahH
 have qG:kk=2:=J
 refine⟨yI,bV,rfl,rfl,rfl,rE0 _ _ _,aS,?_,aX _⟩;unfold NL;rw[aV qG]
abbrev AcO(B:Nat)(w:av)(l:Sl)(a:List Ac):Prop:=Own (qy aE) 9 161 B w (Fr B) l a
structure Br (F:aJ) (ts:List Tk) (w w':av) (b:Nat) (l:Sl) (k0 k1 B:Nat) (s:Sx) (acc:List Ac) (la:Sl):Prop where
 r:Sr F ts w' b l s
 b0:aF w' k0 145 [rp b]
 b1:aF w' k1 23 [la.v]
 own:AcO B w' la acc
 o:∃gs,Q (b::k1::gs) w w'/\∀x,x∈gs->B<=x
 n0:b<k0
 n1:b<k1
 n01:k0≠k1
 l0:k0<B
 l1:k1<B
 lB:B<=w'.heap.size
section
variable {k0 k1 B:Nat} {acc:List Ac} {la:Sl} {w2:av}
def Br.nx(h:Br F ts w w' b l k0 k1 B s acc la)(k:Dn F ts w' w2 b l s'):Br F ts w w2 b l k0 k1 B s' acc la:=by
 have n:=h.n0;have e:=h.n1;have d:=h.l0;obtain⟨g,a,c⟩:=h.o;exact⟨k.r,k.o.blk h.b0 aaR,k.o.blk h.b1 aaR,h.own.stay (cT aE) k.o λx hx=>.inl aak,
  ⟨g,a.trans k.o λx hx=>.inl aaz,c⟩,n,e,h.n01,d,h.l1,bD h.lB k.o.size⟩
def Br.q(h:Br F ts w w' b l k0 k1 B s acc la)(k:Q [] w' w2):Br F ts w w2 b l k0 k1 B s acc la:=h.nx (h.r.dn.q k)
def agC(h:Br F ts w w' b l k0 k1 B s acc la)(m:I acc<I ts):az aq 189 #[ae (aM ⟨k1,0,aaa⟩),ae (aM ⟨k0,0,aaa⟩)] w' λe w2=>e=ak (ai #[])/\∃o,Br F ts w w2 b l k0 k1 B (tX ts s).2 (acc++[(tX ts s).1]) o:=by
 refine ret (amV _ _ ?_);intro w0 S;have c:=h.q S;have L:=h.n1;have l1:=h.l1;refine⟨λk=>k=k1,rfl,la,c.b1.at0 0 rfl,_,c.b0.at0 0 rfl,(agB c.r).mono ?_⟩;rintro _ M ⟨cs,rfl,hx,H⟩;have V:=c.nx H;generalize BJ:(tX ts s).1=a at*
 generalize (tX ts s).2=s1 at*
 have N:=hx;obtain⟨xc,rfl,R⟩:=N;obtain⟨sl,rfl⟩:=eU R;have xI:=h.r.sm;have am:=c.own.len;obtain⟨y,w2,T,D,o,C,W,nE,⟨g,E,yz⟩,_⟩:=kj (P:=aq) (t:=23) (ty:=23) (e:=161) (i:=Tryz.t161) (bytes:=104) (size:=9) (v:=ah (acv a.k a.n (nR a.x.k a.x.n a.x.s a.x.op sl a.x.a) a.a).toArray) (x:=a) (G:=Fr w0.heap.size) aae aae rfl rfl rfl rfl Z Z Z (cT aE) V.own V.lB rfl hx (λk hk _=>⟨bD c.lB hk,c.own.new hk⟩) J;have j:Q g M C:=(D.weaken (bs':=g) λ_ h=>aal).trans E λx hx=>.inl hx;have u:∀p,p∈g->B<=p:=λp Y=>(yz p Y).2.1;refine⟨_,_,_,_,_,_,sl,_,_,rfl,λk hk q=>(by subst hk;exact H.o.block k q aaR),y,w2,T,bT.only D,o,C,W,λk hk q=>(by subst hk;exact E.block k q λm=>(by have:=u k m;omega)),k1,0,_,_,rfl,j.blk V.b1 (λm=>by have:=u k1 m;omega),aag,λw4 d sE=>⟨rfl,o,?_⟩⟩;have n0:=h.n0;have n:=h.n01;have K:=h.l0;have z3:=j.size;have z4:=d.size;have z:=V.lB;have r:∀{x:Nat},x<B->x≠k1->w4.heap[x]? =M.heap[x]? :=λhx hn=>(d.block _ J adK).trans (j.block _ J λm=>(by have:=u _ m;omega));obtain⟨f,o1,o2⟩:=V.o;have A:Sr F ts C b l s1:=V.r.own j λx hx=>(by have:=u x hx;omega)
 refine⟨A.one d L,(r K n).trans V.b0,sE,?_,⟨g++f,(((o1.weaken (bs':=b::k1::(g++f)) λx hx=>.inl (by simp only[aZ,ch]at hx⊢;rcases hx with hx | hx | hx<;>simp[hx])).trans j λx hx=>.inl adD)).trans d λx hx=>.inl aaz,λx hx=>?_⟩,n0,L,n,K,l1,J⟩
 ·refine((nE.mono (cT aE) λk hk=>?_).stay (cT aE) d λx hx=>.inl aak);rcases hk with hk | hk
  ·exact hk
  exact bD z hk
 rcases ch.1 hx with hx | hx
 ·exact u x hx
 exact o2 x hx
def Ww(f:Nat)(d:Br F ts w w' b l k0 k1 B s acc la)(g:mu ts s<f)(p:I acc+mu ts s<=I ts):
  az aq 188 #[rp b,X (ao #[125]),.func (.func 189) #[] #[ae (aM ⟨k1,0,aaa⟩),ae (aM ⟨k0,0,aaa⟩)]] w' λe w2=>e=ak (ai #[])/\∃G,Br F ts w w2 b l k0 k1 B (qk ts f acc s).2 (qk ts f acc s).1 G:=by
 refine ret (amU ⟨b,0,aaa⟩ _ ⟨.func (.func 189) #[] #[ae (aM ⟨k1,0,aaa⟩),ae (aM ⟨k0,0,aaa⟩)],rfl⟩ (λv w2=>v=(ai #[])/\∃G,Br F ts w w2 b l k0 k1 B (qk ts f acc s).2 (qk ts f acc s).1 G) w' ?_);generalize i:qk ts f acc s=r;refine⟨λa w2=>∃s' k G,Br F ts w w2 b l k0 k1 B s' k G/\qk ts a k s'=r/\mu ts s'<a/\I k+mu ts s'<=I ts,f,⟨s,acc,la,d,i,g,p⟩,?_⟩;rintro a u ⟨s',k,G,c,h,j,t⟩;obtain⟨m,rfl⟩:∃m,a=m+1:=⟨a-1,J⟩
 rw[qk]at h;refine⟨λo w2=>(o=aE/\s'.fc=0/\dc ts s' [[125]]=0/\Br F ts w w2 b l k0 k1 B s' k G)∨(o=aL/\Br F ts w w2 b l k0 k1 B r.2 r.1 G),?_,(pV c.r).mono ?_⟩
 ·rintro o e (⟨rfl,f,w,b⟩ | ⟨rfl,b⟩)
  ·refine⟨λ_=>⟨189,[],[_,_],rfl,jR aae,?_⟩,λhh=>ahy⟩;rw[aP (by simp[f]),aP (by simp[w])]at h;have q:=agr c.r.en f c.r.lt;have s:mu ts s'<=I ts:=afj
   refine(agC b J).mono ?_;rintro _ v ⟨rfl,l,n⟩;exact⟨rfl,m,J,_,_,l,n,h,J,acE⟩
  exact⟨λhh=>ahy,λ_=>⟨rfl,G,b⟩⟩
 rintro _ w ⟨rfl,e⟩;have b:=c.q e;refine⟨_,rfl,λhc=>?_,λhc=>?_⟩
 ·have hc:s'.fc=0:=aaj
  rw[aP (by simp[hc])]at h;obtain⟨q,x,s,v,hk⟩:=Gy b.r [[125]] (n:=1) (parts:=#[(0,X (T [125]))]) rfl rfl Z Z;refine⟨q,x,s,hk.mono ?_⟩;rintro _ y ⟨rfl,f⟩;have f:=(b.q v).nx f;refine⟨_,rfl,?_⟩;by_cases l:dc ts s' [[125]]=0
  ·rw[aV l]at f;exact .inl ⟨by rw[l];rfl,hc,l,f⟩
  rw[aP l]at f;rw[aV l]at h;subst h;exact .inr ⟨by simpa using l,f⟩
 have hc:s'.fc≠0:=aaj
 rw[aV hc]at h;subst h;exact .inr ⟨rfl,b⟩
end
def Eh(h:Sr F ts w b l s):az aq 155 #[rp b] w λe w'=>∃c:Sl,e=ak c.v/\li aE (qy aE) 9 161 w' (Fr w.heap.size) c (lN ts s).1/\Dn F ts w w' b l (lN ts s).2:=by
 refine ik (amA _ ?_);intro v y K Z o m u j;have t:=((h.zt.q j).ad Z o).ad m u;obtain⟨q,E,n,D,r⟩:=ud t.r [123];refine⟨q,E,n,t.sq D aag,r.mono ?_⟩;rintro _ f ⟨rfl,g⟩;have i:=t.q D;have d:=i.nx g;refine⟨rfl,i.sc g aag,λM B=>?_⟩;have H:=h.lb;have p:Br F ts f f b l v y f.heap.size (fH ts s [123]) [] Sl.nil:=
  ⟨d.r,M,B,Own.nil _ _ _ _ _ _,⟨[],Only.refl _ _,λ_ h=>aal⟩,J,J,λe=>(by subst e;have:=M.symm.trans B;simp at this),M.lt,B.lt,aX _⟩
 refine(Ww (I ts+1) p afj (by rw[bC,bP];unfold mu;split<;>omega)).mono ?_;rintro _ L ⟨rfl,c,a⟩;have z:=d.z.o.size;obtain⟨G,A,C⟩:=a.o;refine⟨rfl,_,a.b0,_,a.b1,c,rfl,?_,?_,a.r⟩
 ·exact(a.own.sl (cT aE) λk hk=>hk).low (cT aE) z
 exact d.z.o.trans A λx h=>by
  simp only[aZ]at h;rcases h with rfl | rfl | h
  ·exact .inl aag
  ·exact .inr m
  exact .inr (bD z (C x h))
end
section
variable {F:aJ} {ts:List Tk} {w w':av} {b:Nat} {l:Sl} {s s':Sx}
structure MvX (A:Nat) (w:av) (m:Mv) (k:Int) (ev:aK) (wt:Int) (gd:Bool) (gc:aI) (rh:Sl) (a:Int):Prop where
 e1:k=m.k
 e2:ev=T m.ev
 e3:wt=m.wt
 e4:gd=m.gd
 e5:a=m.a
 g:rE aE w (Fr A) m.g gc
 x:li aE (qy aE) 9 161 w (Fr A) rh m.acts
def MvX.stay{A:Nat}{m:Mv}{k:Int}{ev:aK}{wt:Int}{d:Bool}{g:aI}{r:Sl}{a:Int}(h:MvX A w m k ev wt d g r a)(s:Stay A w w'):MvX A w' m k ev wt d g r a:=
 ⟨h.e1,h.e2,h.e3,h.e4,h.e5,(jf aE).stay h.g s,h.x.stay (cT aE) Z s⟩
def vH(t:List Tk)(s:Sx):mu t s<=I t:=afj
def Ei(h:Sr F ts w b l s){c:List (aH)}(a:dc ts s c≠0):s.i+1<I ts:=h.en.next h.lt (eu a).2
def abm(h:Sr F ts w b l s)(k:Int)(hk:(tk ts s.i).k≠5):az aq 153 #[rp b,O U k] w λe w'=>∃g,e=ak (ah g.toArray)/\D7 aE w' (Fr w.heap.size) (qJ ts k s).1 g/\Dn F ts w w' b l (qJ ts k s).2:=by
 refine ik (amy _ _ ?_);intro a H A z r;have f:=h.zt.al r A z;obtain⟨ad,B,C⟩:=f.r.now;refine⟨λ_=>True,trivial,l,Blk.dP f.r.blk 0 rfl,trivial,_,Blk.dP f.r.blk 1 rfl,ad,B,trivial,_,C.dP 3 _ rfl,λc K E M D=>?_⟩;have j:=f.al D E M;refine(agy j.r).mono ?_;rintro _ L ⟨rfl,p⟩;have m:=j.nx p;refine⟨rfl,j.sc p aag,(pV m.r).mono ?_⟩;rintro _ N ⟨rfl,o⟩;have d:=m.q o;unfold qJ;refine⟨_,rfl,m.sq o aag,λhf R u=>?_,λhf=>?_⟩
 ·have hf:(u6 ts s).fc≠0:=ade
  rw[aV hf];exact⟨_,rfl,⟨nR 0 0 [] 0 Sl.nil 0,Sl.nil,Sl.nil,rfl,rE0 _ _ _,li.nil _ _ _ _ _ _,li.nil _ _ _ _ _ _⟩,(d.f u aag).dn⟩
 have hf:¬(u6 ts s).fc≠0:=ade
 rw[aP hf];refine⟨_,Blk.dP d.r.blk 1 rfl,b,1,_,_,rfl,d.r.blk,aag,d.ne aag,d.ne aag,λw5 eh vQ=>?_⟩;rw[d.r.wr]at vQ;have t5:Zt F ts w w5 b l (eF (u6 ts s)) [c,a]:=d.up eh vQ (h.en.next d.r.lt (by rw[H3];exact hk));have hA:=t5.z.o.size;have bv:=(t5.z.k a aag).2;have aC:=(t5.z.k c aag).2;have am:=t5.r.lb;generalize aS:w5.heap.size=Y at*
 generalize (tk ts s.i).a=aa at*
 generalize eF (u6 ts s)=u0 at*
 generalize S:(if k=1 then rC ts {Wb k aa with ev:=(kR ts u0).1} (kR ts u0).2 else if k=3 then rC ts {Wb k aa with wt:=(iq ts u0 3).1.n} (iq ts u0 3).2 else rC ts (Wb k aa) u0)=aT;have x0:∀{w':av} {ev:aH} {wt:Int},MvX Y w' {Wb k aa with ev:=ev,wt:=wt} k (T ev) wt aL (nR 0 0 [] 0 Sl.nil 0) Sl.nil aa:=⟨rfl,rfl,rfl,rfl,rfl,rE0 _ _ _,li.nil _ _ _ _ _ _⟩
 refine⟨λi3 s0 i4 b1 i5 i6 s1 i7 l1 i8 l2 l3 i9 w'=>∃(V:Mv) (W:Sx),MvX Y w' V i3 s0 i4 b1 [O U i5,O U i6,X s1,O U i7,l1.v,O U i8] l2 i9/\V.gd=aL/\V.tg=[]/\l3=Sl.nil/\Zt F ts w w' b l W [c,a]/\rC ts V W=aT/\Y<=w'.heap.size,?_,λhc=>?_,λhc=>⟨λme=>?_,λme=>?_⟩⟩;rotate_left
 ·have hc:k=1:=aaj
  refine(zW t5.r).mono ?_;rintro _ w ⟨rfl,h⟩;have t:=t5.nx h;refine⟨_,rfl,t5.sc h aag,λb y=>?_⟩;rw[aV hc]at S;exact⟨_,_,x0,rfl,rfl,rfl,t.f y aag,S,by rw[<-aS];exact bD h.o.size y.size⟩
 ·have hc:¬k=1:=aaj
  have me:k=3:=ahK
  refine(zV t5.r (k:=3) Z).mono ?_;rintro _ w ⟨rfl,h⟩;have t:=t5.nx h;refine⟨_,_,_,_,rfl,t5.sc h aag,λe b=>?_⟩;rw[aP hc,aV me]at S;exact⟨_,_,x0,rfl,rfl,rfl,t.f b aag,S,by rw[<-aS];exact bD h.o.size b.size⟩
 ·have hc:¬k=1:=aaj
  have me:¬k=3:=ahK
  rw[aP hc,aP me]at S;exact⟨_,_,x0,rfl,rfl,rfl,t5,S,Cz aS.symm⟩
 rintro i3 s0 i4 b1 i5 i6 s1 i7 l1 i8 l2 l3 i9 w6 ⟨V,W,hx,UR,nL,rfl,t6,S,z6⟩;unfold rC at S;obtain⟨q,uF,e1,FP,hm⟩:=Gy t6.r [[91]] (n:=1) (parts:=#[(0,X (T [91]))]) rfl rfl Z Z;have bV:=t6.q FP;refine⟨λi3 s0 i4 b1 i5 i6 s1 i7 l1 i8 l2 l3 i9 w'=>∃(V:Mv) (W:Sx),MvX Y w' V i3 s0 i4 b1 [O U i5,O U i6,X s1,O U i7,l1.v,O U i8] l2 i9/\V.tg=[]/\l3=Sl.nil/\Zt F ts w w' b l W [c,a]/\BQ ts V W=aT/\Y<=w'.heap.size,?_,q,uF,e1,t6.sq FP aag,hm.mono ?_⟩;rotate_left
 ·rintro _ q ⟨rfl,h⟩;have t:=bV.nx h;have s:Stay Y w6 q:=((Stay.refl Y w6).q FP).d h am;refine⟨_,rfl,bV.sc h aag,λhc i l=>?_,λhc e b=>?_⟩
  ·have uC:=S1 hc;rw[aP uC]at S t;have v:=t.f l aag;have x:=s.f l (.inl aC);have cc:=x.sz;refine(Qd v.r).mono ?_;rintro _ vP ⟨g,rfl,hg,n⟩;obtain⟨sl,rfl⟩:=eU hg;have P:=v.nx n;refine⟨_,_,_,_,sl,_,rfl,v.sc n aag,λzh yf=>?_⟩;have w:=P.f yf aag;obtain⟨q2,EZ,e2,G,wW⟩:=ud w.r [93];have F:=w.q G;refine⟨q2,EZ,e2,w.sq G aag,wW.mono ?_⟩;rintro _ TX ⟨rfl,k⟩;have T:=F.nx k;have y:=(((x.d n am).f yf (.inl aC)).q G).d k am;refine⟨rfl,F.sc k aag,{V with gd:=aE,g:=(rB ts (eF W)).1},_,⟨hx.e1,hx.e2,hx.e3,hc,hx.e5,?_,hx.x.stay (cT aE) Z y⟩,nL,rfl,T,S,bD z6 y.sz⟩;exact(jf aE).low ((jf aE).stay hg ((((Stay.refl _ _).f yf (.inl J)).q G).d k J)) J
  have n:=SZ hc;rw[aV n]at S t;have k:=s.f b (.inl aC);have T:=hx.stay k;exact⟨V,W,⟨T.e1,T.e2,T.e3,by rw[hc,UR],T.e5,T.g,T.x⟩,nL,rfl,t.f b aag,S,bD z6 k.sz⟩
 clear hx UR nL t6 S z6 hm bV;rintro i3 s0 i4 b1 i5 i6 s1 i7 l1 i8 l2 l3 i9 w7 ⟨V,W,hx,nL,rfl,t7,S,z7⟩;unfold BQ at S;obtain⟨q,kg,e1,lr,hm⟩:=P9 t7.r [[123]] (n:=1) (parts:=#[(0,X (T [123]))]) rfl rfl Z Z;have ce:=t7.q lr;refine⟨λi3 s0 i4 b1 i5 i6 s1 i7 l1 i8 l2 l3 i9 w'=>∃(V:Mv) (W:Sx),MvX Y w' V i3 s0 i4 b1 [O U i5,O U i6,X s1,O U i7,l1.v,O U i8] l2 i9/\l3=Sl.nil/\Zt F ts w w' b l W [c,a]/\D1 ts V W=aT/\Y<=w'.heap.size,?_,q,kg,e1,t7.sq lr aag,hm.mono ?_⟩;rotate_left
 ·rintro _ n ⟨rfl,b⟩;have t:=ce.q b;have s:Stay Y w7 n:=((Stay.refl Y w7).q lr).q b;have e:=s.sz;refine⟨_,rfl,ce.sq b aag,λhc=>(Eh t.r).mono ?_,λhc=>?_⟩
  ·rw[aP (S1 hc)]at S;rintro _ w ⟨v,rfl,l,h⟩;have k:=t.nx h;refine⟨v,rfl,t.sc h aag,λx q=>?_⟩;have i:=(s.d h am).f q (.inl aC);refine⟨{V with acts:=(lN ts W).1},_,⟨hx.e1,hx.e2,hx.e3,hx.e4,hx.e5,(jf aE).stay hx.g i,?_⟩,rfl,k.f q aag,S,bD z7 i.sz⟩;exact(l.stay (cT aE) Z ((Stay.refl _ _).f q (.inl J))).low (cT aE) J
  rw[aV (SZ hc)]at S;exact⟨V,W,hx.stay s,rfl,t,S,bD z7 e⟩
 clear hx nL t7 S z7 hm ce;rintro iF s4 iN b3 iS lE s5 lT l7 mt l8 l9 mK w8 ⟨V,W,hx,rfl,t8,S,z8⟩;unfold D1 at S;have ip:b<w8.heap.size:=J
 refine⟨λnv sg gG s7 gO b4 dO el s8 eQ gE fd rY uE gT w'=>∃(x:aH) (cC:List (aH)) (u':Sx),sg=T x/\MvX Y w8 V gG s7 gO b4 [O U dO,O U el,X s8,O U eQ,gE.v,O U fd] rY gT/\Stay Y w8 w'/\Own mh 1 9 w8.heap.size w' (Fr w8.heap.size) uE cC/\Zt F ts w w' b l u' [c,a]/\tY ts nv x cC u'=tY ts (I ts+1) [45,62] [] W/\mu ts u'<nv/\I cC+mu ts u'<=I ts,I ts+1,⟨[45,62],[],W,rfl,hx,Stay.refl _ _,Own.nil _ _ _ _ _ _,t8,rfl,zm (vH _ _),afn⟩,?_⟩;clear hx;rintro nv sg gG s7 gO b4 dO el s8 eQ gE fd rY uE gT w9 ⟨x,cC,u',rfl,hx,hS,nE,t9,hT,iD,Cs⟩;obtain⟨m',rfl⟩:∃m',nv=m'+1:=⟨nv-1,J⟩
 rw[tY]at hT;obtain⟨q,dz,e1,dX,wW⟩:=Gy t9.r [x] (n:=1) (parts:=#[(0,X (T x))]) rfl rfl Z Z;have g8:=t9.q dX;refine⟨q,dz,e1,t9.sq dX aag,wW.mono ?_⟩;rintro _ dF ⟨rfl,Ua⟩;have co:=g8.nx Ua;refine⟨_,rfl,g8.sc Ua aag,λhc eZ eW=>?_,λhc=>?_⟩
 ·have hc:=S1 hc;rw[aP hc]at hT co;have l:=co.q eW;refine⟨λk=>k=c,rfl,(zW l.r).mono ?_⟩;rintro _ fl ⟨rfl,uI⟩;have n:=l.nx uI;have fU:Q [b] w9 fl:=(((dX.weaken (bs':=[b]) λ_ h=>aal).trans Ua.o λx hx=>.inl hx).cd eW).trans uI.o λx hx=>.inl hx;have zS:=hS.sz;have z9:=fU.size;have xI:=h.sm;have FV:=vH ts u';have oN:=sU h.en (eu hc).1 t9.r.lt (eu hc).2 (sR h.en (s:=eF u')).toOn0;obtain⟨y,gw,e2,w,G9,ij,e3,nO,⟨gs,F,yz⟩,_⟩:=kj (P:=aq) (t:=32) (ty:=32) (e:=9) (i:=Tryz.t9) (bytes:=16) (size:=1) (v:=X (T (kR ts (eF u')).1)) (x:=(kR ts (eF u')).1) (G:=λ_=>False) aae aae rfl rfl rfl rfl Z Z Z du (nE.stay du fU λx hx=>.inl aak) (bD zS z9) rfl rfl (λk hk _=>hk.elim) J;have ux:∀bY,bY∈gs->w8.heap.size<=bY:=λbY hg=>(yz bY hg).2.1;have oF:=t8.z.o.size;have q:=n.q w;have n8:=q.row F λx hx=>bD oF (ux x hx);have nk:=t8.ne (k0:=c) aag;refine⟨_,rfl,l.sc uI aag,λk hk bU=>(by subst hk;exact uI.o.block k bU (by simpa using nk)),y,gw,e2,n.sq w aag,bT.only w,G9,ij,e3,q.sr F aag (λx hx y hy=>?_),λk hk bU=>(by subst hk;exact F.block k bU λhm=>(by have:=ux k hm;omega)),λjw jF=>⟨m',J,[44],_,_,rfl,hx,?_,?_,n8.f jF aag,hT,J,?_⟩⟩
  ·have:=ux x hx;simp only[aZ,bp,ci]at hy;omega
  ·exact(((hS.go fU λx hx=>.inl aak).q w).go F λx hx=>.inr (ux x hx)).f jF (.inl aC)
  ·refine((nO.mono du λk hk=>?_).stay du jF λx hx=>.inl aak);rcases hk with hk | hk
   ·exact hk
   exact bD (bD zS z9) hk
  rw[aQ,bB];omega
 have hc:=SZ hc;rw[aV hc]at hT co;obtain⟨y,x,w,i,T⟩:=ud co.r [59];have t:=co.q i;refine⟨y,x,w,co.sq i aag,T.mono ?_⟩;rintro _ G ⟨rfl,h⟩;have n:=t.nx h;refine⟨rfl,t.sc h aag,λv l=>?_⟩;rw[<-hT]at S;rw[<-S];have F:∀{e:Nat},b<e->a<e->Stay e w9 v:=λq hk=>((((Stay.refl _ _).q dX).d Ua q).q i).d h q |>.f l (.inl hk);have s:Stay Y w8 v:=(((((hS.q dX).d Ua am).q i).d h am).f l (.inl bv))
 refine⟨mvv V.k V.ev V.wt V.gd [O U dO,O U el,X s8,O U eQ,gE.v,O U fd] rY uE V.a,by rw[hx.e1,hx.e2,hx.e3,hx.e4,hx.e5];rfl,⟨_,_,_,rfl,(jf aE).low ((jf aE).stay hx.g s) hA,(hx.x.stay (cT aE) Z s).low (cT aE) hA,?_⟩,(n.f l aag).dn⟩;exact((nE.sl du λk hk=>hk).stay du Z (F ip J)).low du J
end
def Qe{lg x:aI}{j:Nat}{v:aw}(h:x[j]? =aM v):(lg++x)[I lg+j]? =aM v:=by
 rw[cj J,dN];exact h
def pD(lg x v:aI)(j:Nat):fE (lg++x) (I lg+j) v=lg++fE x j v:=by
 unfold fE;rw[aan,dM,List.drop_length_add_append];simp only[bq]
structure NbO (B:Nat) (w:av) (n:Nb) (en lv mv:Sl):Prop where
 en:li aE (qy aE) 9 161 w (λk=>B<=k/\mv.a≠aM ⟨k,0,aaa⟩) en n.en
 lv:li aE (qy aE) 9 161 w (λk=>B<=k/\mv.a≠aM ⟨k,0,aaa⟩) lv n.lv
 mv:Own (D7 aE) 13 83 B w (Fr B) mv n.mv
section
variable {B:Nat} {w w':av} {n:Nb} {en lv mv:Sl}
def NbO.go(h:NbO B w n en lv mv){s:List Nat}(k:Q s w w')(a:∀x,x∈s->x<B):NbO B w' n en lv mv:=
 ⟨h.en.keep (cT aE) Z λi c b=>k.block i b λm=>(by have:=a i m;omega),h.lv.keep (cT aE) Z λi c b=>k.block i b λm=>(by have:=a i m;omega),h.mv.stay (iJ aE) k λx d=>.inl (a x d)⟩
def NbO.vN(b:NbO B w n en lv mv){s:List Nat}{o:Sl}{m:Mv}(E:Own (D7 aE) 13 83 B w' (λk=>Fr B k∨w.heap.size<=k) o (n.mv++[m]))(k:Q s w w')(y:∀g,g∈s->mv.a=aM ⟨g,0,aaa⟩)(a:o.a=mv.a∨∃g,o.a=aM ⟨g,0,aaa⟩/\w.heap.size<=g)(c:B<=w.heap.size):NbO B w' {n with mv:=n.mv++[m]} en lv o:=by
 have go:∀{l:Sl} {x:List Ac},li aE (qy aE) 9 161 w (λk=>B<=k/\mv.a≠aM ⟨k,0,aaa⟩) l x->li aE (qy aE) 9 161 w' (λk=>B<=k/\o.a≠aM ⟨k,0,aaa⟩) l x:=λd=>
  ((d.inHeap (cT aE) Z).keep (cT aE) Z λi h f=>k.block i f λj=>h.1.2 (y i j)).mono (cT aE) λi h=>⟨h.1.1,by
   rcases a with a | ⟨g,a,k⟩
   ·rw[a];exact h.1.2
   rw[a];intro e;injection e with e;injection e with e;have:=h.2;omega⟩
 exact⟨go b.en,go b.lv,E.mono (iJ aE) λi h=>h.elim id λh=>bD c h⟩
def NbO.aor(h:NbO B w n en lv mv){A:Nat}{l:Sl}{x:List Ac}(b:li aE (qy aE) 9 161 w (Fr A) l x)(a:B<=A)(m:∀k,A<=k->mv.a≠aM ⟨k,0,aaa⟩):NbO B w {n with en:=x} l lv mv:=
 ⟨b.mono (cT aE) λk hk=>⟨bD a hk,m k hk⟩,h.lv,h.mv⟩
def NbO.aos(h:NbO B w n en lv mv){A:Nat}{l:Sl}{x:List Ac}(b:li aE (qy aE) 9 161 w (Fr A) l x)(a:B<=A)(m:∀k,A<=k->mv.a≠aM ⟨k,0,aaa⟩):NbO B w {n with lv:=x} en l mv:=
 ⟨h.en,b.mono (cT aE) λk hk=>⟨bD a hk,m k hk⟩,h.mv⟩
end
abbrev S2(h:T3):aI:=[aj aL,aj h.i,aj h.e,aj h.l]
structure Cl (F:aJ) (ts:List Tk) (w w':av) (b:Nat) (l:Sl) (g t:Nat) (lg:aI) (kh B:Nat) (s:Sx) (n:Nb) (h:T3) (en lv mv:Sl):Prop where
 r:Sr F ts w' b l s
 nb:aF w' g t (lg++ob n.k n.nm n.ini n.dft en lv mv Sl.nil n.a)
 hb:aF w' kh 193 (S2 h)
 no:NbO B w' n en lv mv
 o:∃gs,Q (b::g::kh::gs) w w'/\∀x,x∈gs->B<=x
 ng:g≠b/\¬F g
 nh:b<kh
 gh:g≠kh
 gB:g<B
 hB:kh<B
 lB:B<=w'.heap.size
section
variable {F:aJ} {ts:List Tk} {w w' w2:av} {b:Nat} {l:Sl} {g t:Nat} {lg:aI} {kh B:Nat} {s s':Sx} {n n':Nb} {h h':T3} {en lv mv ri rj oM:Sl}
def Cl.nx(c:Cl F ts w w' b l g t lg kh B s n h en lv mv)(k:Dn F ts w' w2 b l s'):Cl F ts w w2 b l g t lg kh B s' n h en lv mv:=by
 have j:=c.ng;have m:=c.nh;have a:=c.gB;have i:=c.hB;obtain⟨d,e,f⟩:=c.o;exact⟨k.r,k.o.blk c.nb aaR,k.o.blk c.hb aaR,c.no.go k.o λx hx=>aak,
  ⟨d,e.trans k.o λx hx=>.inl aaz,f⟩,j,m,c.gh,a,c.hB,bD c.lB k.o.size⟩
def Cl.q(c:Cl F ts w w' b l g t lg kh B s n h en lv mv)(k:Q [] w' w2):Cl F ts w w2 b l g t lg kh B s n h en lv mv:=c.nx (c.r.dn.q k)
def Cl.st(c:Cl F ts w w' b l g t lg kh B s n h en lv mv)(k:Q [g] w' w2)(j:aF w2 g t (lg++ob n'.k n'.nm n'.ini n'.dft ri rj oM Sl.nil n'.a))(o:NbO B w' n' ri rj oM):Cl F ts w w2 b l g t lg kh B s n' h ri rj oM:=by
 obtain⟨d,f,i⟩:=c.o;have a:=c.gB;exact⟨c.r.ahx k c.ng,j,k.blk c.hb (by simpa using λe=>c.gh e.symm),o.go k λx hx=>aak,⟨d,f.trans k λx hx=>.inl aaz,i⟩,c.ng,c.nh,c.gh,a,c.hB,bD c.lB k.size⟩
def Cl.hd(c:Cl F ts w w' b l g t lg kh B s n h en lv mv)(k:Q [kh] w' w2)(f:aF w2 kh 193 (S2 h')):Cl F ts w w2 b l g t lg kh B s n h' en lv mv:=by
 obtain⟨a,d,e⟩:=c.o;have E:=c.hB;exact⟨c.r.one k c.nh,k.blk c.nb (by simpa using c.gh),f,c.no.go k λx hx=>aak,⟨a,d.trans k λx hx=>.inl aaz,e⟩,c.ng,c.nh,c.gh,c.gB,E,bD c.lB k.size⟩
def anA(h:T3)(j:Nat):Bool:=if j=1 then h.i else if j=2 then h.e else h.l
def Wx(h:T3)(j:Nat):T3:=if j=1 then{h with i:=aE}else if j=2 then{h with e:=aE}else{h with l:=aE}
def j3{j:Nat}(h:j≠0)(a:j<=3):j=1∨j=2∨j=3:=J
def S4(c:Cl F ts w w' b l g t lg kh B s n h en lv mv)(d:I n.mv<I ts):az aq 110 #[rp b,ae (aM ⟨g,I lg,aaa⟩),ae (aM ⟨kh,0,aaa⟩)] w' λe w2=>e=ak (aj (eJ ts n h s).1)/\
  ∃ri rj oM,Cl F ts w w2 b l g t lg kh B (eJ ts n h s).2.2.2 (eJ ts n h s).2.1 (eJ ts n h s).2.2.1 ri rj oM:=by
 refine ret (al7 _ _ _ ?_);have u:=c.r.sm;obtain⟨q,p,a,o,m⟩:=P9 c.r [CL,iV,jD] (n:=3) (parts:=#[(0,X (T CL)),(1,X (T iV)),(2,X (T jD))]) rfl rfl Z Z;refine⟨q,p,a,m.mono ?_⟩;rintro _ r ⟨rfl,D⟩;have f:=(c.q o).q D;refine⟨_,rfl,λhc w2 j=>?_,λhc=>?_⟩
 ·have hc:=S1 hc;have z:=f.q j;have tE:eJ ts n h s=(aE,{n with mv:=n.mv++[(qJ ts (dc ts s [CL,iV,jD]:Nat) s).1]},h,(qJ ts (dc ts s [CL,iV,jD]:Nat) s).2):=by
   unfold eJ;rw[aV hc]
  rw[tE];refine⟨λk=>k=g,_,rfl,rfl,mv,z.nb.at0 (I lg+6) (Qe rfl),(abm z.r _ (eu hc).2).mono ?_⟩;rintro _ w3 ⟨cs,rfl,hx,T⟩;have q:=z.nx T;generalize (qJ ts (dc ts s [CL,iV,jD]:Nat) s).1=l at*
  generalize (qJ ts (dc ts s [CL,iV,jD]:Nat) s).2=am at*
  have C5:=hx;obtain⟨gc,Y,tg,rfl,hg,_,_⟩:=C5;obtain⟨sl,rfl⟩:=eU hg;have W:=c.ng;have gB:=c.gB;obtain⟨y,w4,e2,N,oM,w5,e3,nE,⟨w,S,yz⟩,ha⟩:=kj (P:=aq) (t:=24) (ty:=24) (e:=83) (i:=Tryz.t83) (bytes:=168) (size:=13) (v:=ah (mvv l.k l.ev l.wt l.gd (nR l.g.k l.g.n l.g.s l.g.op sl l.g.a) Y tg l.a).toArray) (x:=l) (G:=Fr w2.heap.size) aae aae rfl rfl rfl rfl Z Z Z (iJ aE) q.no.mv q.lB rfl hx (λk hk _=>⟨bD z.lB hk,z.no.mv.new hk⟩) J;have C:Q w w3 w5:=(N.weaken (bs':=w) λ_ h=>aal).trans S λx hx=>.inl hx;have E:∀x,x∈w->B<=x:=λx hx=>(yz x hx).2.1;have V:g∉w:=λd=>by have:=E g d;omega
  have vQ:=C.blk q.nb V;refine⟨_,_,_,_,_,_,_,_,sl,_,Y,tg,_,rfl,λk hk F=>(by subst hk;exact T.o.block k F aaR),y,w4,e2,bT.only N,oM,w5,e3,λk hk F=>(by subst hk;exact S.block k F V),_,rfl,g,_,_,_,rfl,vQ,aag,λw6 K R=>⟨rfl,en,lv,oM,?_⟩⟩;rw[pD]at R;have M:=q.no.vN nE C (λx hx=>(yz x hx).1) ha q.lB;obtain⟨A,o1,o2⟩:=q.o;have nh:=c.nh;have H:=c.hB;have lB:=q.lB;have L:=c.gh;have z5:=C.size;have z6:=K.size;exact⟨(q.r.own C λx hx=>(by have:=E x hx;omega)).ahx K W,R,(K.block kh (by have:=q.hb.lt;omega) aaR).trans (C.blk q.hb λd=>(by have:=E kh d;omega)),
   M.go K λx hx=>aak,⟨w++A,((o1.weaken (bs':=b::g::kh::(w++A)) λx hx=>.inl (by simp only[aZ,ch]at hx⊢;rcases hx with hx | hx | hx | hx<;>simp[hx])).trans C λx hx=>.inl adD).trans K λx hx=>.inl aaz,λx hx=>(ch.1 hx).elim (E x) (o2 x)⟩,W,nh,L,gB,H,J⟩
 have hc:=SZ hc;obtain⟨q,z,a,R,m⟩:=P9 f.r [fT,jk,jl] (n:=3) (parts:=#[(0,X (T fT)),(1,X (T jk)),(2,X (T jl))]) rfl rfl Z Z;refine⟨q,z,a,m.mono ?_⟩;rintro _ A ⟨rfl,y⟩;have v:=(f.q R).q y;have x:dc ts s [fT,jk,jl]<=3:=KS _;refine⟨_,rfl,λi=>?_,λi=>?_⟩
 ·have i:=anx i;have t:eJ ts n h s=(aL,n,h,s):=by unfold eJ;rw[aP aaj,i];rfl
  rw[t];exact⟨rfl,_,_,_,v⟩
 have i:=anz i;have E:=Ei c.r i;have H:eJ ts n h s=(if anA h (dc ts s [fT,jk,jl])then(aL,n,h,lM ts s)else if dc ts s [fT,jk,jl]=1 then(aE,{n with ini:=(kR ts (eF s)).1},Wx h 1,fH ts (kR ts (eF s)).2 [59])else if dc ts s [fT,jk,jl]=2 then(aE,{n with en:=(lN ts (eF s)).1},Wx h 2,(lN ts (eF s)).2)else(aE,{n with lv:=(lN ts (eF s)).1},Wx h 3,(lN ts (eF s)).2)):=by
  unfold eJ;rw[aP aaj];rcases j3 i x with e | e | e<;>rw[e]<;>rfl
 rw[H];generalize dc ts s [fT,jk,jl]=C at*
 have Y:(S2 h)[C]? =aM (aj (anA h C)):=by rcases j3 i x with e | e | e<;>rw[e]<;>rfl
 have G:Pc ⟨kh,0,aaa⟩ (C:Int) 4 1 ⟨kh,C,aaa⟩:=⟨J,J,by rw[gC,aW];simp⟩
 refine⟨_,rfl,⟨kh,C,aaa⟩,G,_,v.hb.at0 C Y,λhh=>?_,λhh=>?_⟩
 ·rw[aV hh];refine(wF v.r).mono ?_;rintro _ w ⟨rfl,h⟩;exact⟨rfl,rfl,_,_,_,v.nx h⟩
 rw[aP aeg];refine⟨_,rfl,⟨kh,C,aaa⟩,G,kh,C,_,_,rfl,v.hb,by show C+1<=4;omega,λW V pK=>?_⟩;have K:Cl F ts w W b l g t lg kh B s n (Wx h C) en lv mv:=v.hd V (by
  have e:fE (S2 h) C [aj aE]=S2 (Wx h C):=by rcases j3 i x with e | e | e<;>rw[e]<;>rfl
  rwa[e]at pK)
 refine⟨_,Blk.dP K.r.blk 1 rfl,b,1,_,_,rfl,K.r.blk,aag,λdF T P=>?_⟩;rw[c.r.wr]at P;have M:=K.nx (s':=eF s) ⟨T,K.r.lF T P E⟩;refine⟨λw'=>∃ri rj oM,Cl F ts w w' b l g t lg kh B _ _ _ ri rj oM,λeZ S=>⟨by split<;>(try split)<;>rfl,S⟩,λL=>?_,λL=>⟨λN=>?_,λN=>?_⟩⟩
 ·have a:C=1:=by have:(C:Int)=1:=(by simpa using L);omega
  subst a;rw[aV rfl];refine(zW M.r).mono ?_;rintro _ w ⟨rfl,t⟩;have c:=M.nx t;refine⟨_,rfl,_,rfl,g,_,_,_,rfl,c.nb,aag,λB e F=>?_⟩;rw[pD]at F;have b:=c.st (n':={n with ini:=(kR ts (eF s)).1}) e F ⟨c.no.en,c.no.lv,c.no.mv⟩;obtain⟨q,l,a,k,m⟩:=ud b.r [59];refine⟨q,l,a,m.mono ?_⟩;rintro _ jw ⟨rfl,h⟩;exact⟨rfl,_,_,_,(b.q k).nx h⟩
 ·have a:C=2:=by have:(C:Int)=2:=(by simpa using N);omega
  subst a;rw[aP Z,aV rfl];refine(Eh M.r).mono ?_;rintro _ t ⟨q,rfl,h,e⟩;have c:=M.nx e;refine⟨q,rfl,_,rfl,g,_,_,_,rfl,c.nb,aag,λw l b=>?_⟩;rw[pD]at b;exact⟨_,_,_,c.st (n':={n with en:=(lN ts (eF s)).1}) l b (c.no.aor h M.lB λk hk=>M.no.mv.new hk)⟩
 have w:C≠1:=λe=>by rw[e]at L;simp at L
 have a:C=3:=by have:¬(C:Int)=2:=(by simpa using N);omega
 subst a;rw[aP Z,aP Z];refine(Eh M.r).mono ?_;rintro _ F ⟨q,rfl,l,h⟩;have c:=M.nx h;refine⟨q,rfl,_,rfl,g,_,_,_,rfl,c.nb,aag,λB t b=>?_⟩;rw[pD]at b;exact⟨_,_,_,c.st (n':={n with lv:=(lN ts (eF s)).1}) t b (c.no.aos l M.lB λk hk=>M.no.mv.new hk)⟩
end
section
variable {F:aJ} {ts:List Tk} {w w' w2:av} {b:Nat} {l:Sl} {s s':Sx}
def K7(j:Sr F ts w b l s)(k:Int):az aq 72 #[rp b,O U k] w λe w'=>e=ak (ah (ob (fQ ts k s).1.k (fQ ts k s).1.nm [] [] Sl.nil Sl.nil Sl.nil Sl.nil (fQ ts k s).1.a).toArray)/\Dn F ts w w' b l (fQ ts k s).2:=by
 refine ret (alK _ _ ?_);intro m n p f z o M c;have t:=((j.zt.q c).ad f z).ad o M;obtain⟨ad,g,i⟩:=t.r.now;refine⟨λw'=>Zt F ts w w' b l (sP ts s) [n,m],λq a=>(zV a.r (k:=1) Z).mono ?_,l,Blk.dP t.r.blk 0 rfl,_,Blk.dP t.r.blk 1 rfl,ad,g,_,i.dP 0 _ rfl,λhc r h=>?_,λhc u d=>?_⟩
 ·rintro _ w2 ⟨rfl,s⟩;have A:=a.nx s;refine⟨_,_,_,_,rfl,a.sc s aag,λy E G L w C D v=>⟨λk=>k=y,rfl,λe=>v e,λe=>v e,λF l=>⟨rfl,?_⟩⟩⟩;have b:=A.q w;have B:=b.z.go l λx hx=>.inr acS;exact⟨B.o,b.r.own l λx hx=>b.lt acS⟩
 ·have hc:(tk ts s.i).k=1:=aaj
  have e:=t.q h;unfold sP;rw[aV hc];refine(agz e.r).mono ?_;rintro _ w ⟨rfl,k⟩;have b:=e.nx k;refine⟨rfl,e.sc k aag,_,Blk.dP b.r.blk 6 rfl,λhd=>?_,λhd=>?_⟩
  ·rw[aV (by simpa using hd)];refine(CQ b.r 21).mono ?_;rintro _ s ⟨rfl,l⟩;exact⟨rfl,b.sc l aag,b.nx l⟩
  rw[aP (by simpa using hd)];exact b
 have hc:¬(tk ts s.i).k=1:=aaj
 unfold sP;rw[aP hc];exact t.q d
def aeb(F:aJ)(t:List Tk)(b:Nat)(l:Sl)(f:Nat)(d:Int):Prop:=∀(k:Int) (u:Sx) (w:av),Sr F t w b l u->u.d=d->az aq 111 #[rp b,O U k] w λe w'=>∃c,e=ak (ah c.toArray)/\lO aE f w' (Fr w.heap.size) (mX t f k u).1 c/\Dn F t w w' b l (mX t f k u).2
def Wy{f:Nat}(h:0<f)(w:av)(G:aJ):lO aE f w G SM (ob 0 [] [] [] Sl.nil Sl.nil Sl.nil Sl.nil 0):=by
 obtain⟨m,rfl⟩:∃m,f=m+1:=⟨f-1,J⟩
 exact⟨_,_,_,_,rfl,⟨li.nil _ _ _ _ _ _,li.nil _ _ _ _ _ _,li.nil _ _ _ _ _ _⟩,li.nil _ _ _ _ _ _⟩
abbrev NdO(f B:Nat)(w:av)(s:Sl)(x:List Nd):Prop:=Own (lO aE f) 9 27 B w (Fr B) s x
def Gz{f B g t:Nat}{lg:aI}{n:Nb}{L V mv d l:Sl}{acc:List Nd}{x:Nd}{k:Int}{r ini dft:aH}{a j m o:Sl}{at_:Int}{q:Nat}{z:av->Prop}{H:aJ}
  (hx:lO aE f w H x (ob k r ini dft a j m o at_)) (N:∀i,H i->i<w.heap.size->Fr B i/\l.a≠aM ⟨i,0,aaa⟩) (A:∀i,H i->B<=i) (E:NdO f B w l (acc++[SM])) (hn:d.n=I acc)
  (W:aF w g t (lg++ob n.k n.nm n.ini n.dft L V mv d n.a)) (hg:g<B) (fZ:q<B) (u:q≠g)
  (R:∀w',aF w' g t (lg++ob n.k n.nm n.ini n.dft L V mv l n.a)->NdO f B w' l (acc++[x])->(∃b,B<=b/\Q [g,b] w w')->z w'):
  ∃C:Addr,cR l (d.n:Int) 9 C/\∃D:Addr,(aM (⟨g,I lg,aaa⟩:Addr))=(aM D)/\
   (∃x t:Nat,∃z2:aI,∃MU:Nat,C=⟨x,t,aaa⟩/\aF w x MU z2/\(t+9)<=I z2/\q≠x/\
    ∀p:av,Q [x] w p->aF p x MU (fE z2 t [O U k,X (T r),X (T ini),X (T dft),a.v,j.v,m.v,o.v,O U at_])->∃AU YQ:Nat,∃z3:aI,∃am:Nat,(D.add 7)=⟨AU,YQ,aaa⟩/\
    aF p AU am z3/\(YQ+1)<=I z3/\q≠AU/\∀v:av,Q [AU] p v->aF v AU am (fE z3 YQ [l.v])->z v)/\
   ∃e H:Nat,∃z4:aI,∃f:Nat,(D.add 7)=⟨e,H,aaa⟩/\aF w e f z4/\(H+1)<=I z4/\q≠e/\
    ∀c:av,Q [e] w c->aF c e f (fE z4 H [l.v])->∃JB aC:Nat,∃z5:aI,∃aS:Nat,C=⟨JB,aC,aaa⟩/\
    aF c JB aS z5/\(aC+9)<=I z5/\q≠JB/\∀ku:av,Q [JB] c ku->aF ku JB aS (fE z5 aC [O U k,X (T r),X (T ini),X (T dft),a.v,j.v,m.v,o.v,O U at_])->z ku:=by
 have y:d.n<I (acc++[SM]):=acE
 have M:(acc++[SM]).set d.n x=acc++[x]:=by rw[hn,tF _ _ (aX _),pO];rfl
 obtain⟨b,cells,K,a2,a3,a4,a5⟩:=Own.store (cf aE f) E y (vs:=ob k r ini dft a j m o at_) rfl hx N Z;have h:=(E.blk K).1;dsimp only at h;refine⟨_,a2,_,rfl,⟨b,d.n*9,cells,_,rfl,a3,a4,J,λp G Y=>⟨g,I lg+7,_,t,rfl,G.blk W aaR,aag,u,λv S F=>?_⟩⟩,g,I lg+7,_,t,rfl,W,aag,u,λc P s=>?_⟩
 ·rw[pD]at F;have a:=a5 p G Y;rw[M]at a;exact R v F (a.stay (cf aE f) S λx hx=>.inl aak) ⟨b,h,(G.weaken (bs':=[g,b]) λx hx=>.inl aaz).trans S λx hx=>.inl aaz⟩
 rw[pD]at s;have cc:=P.size;have bV:NdO f B c l (acc++[SM]):=E.stay (cf aE f) P λx hx=>.inl aak;have bY:lO aE f c (λi=>H i/\i<w.heap.size) x (ob k r ini dft a j m o at_):=(cf aE f).keep ((cf aE f).inHeap hx) λi hi y=>P.block i y (by have:=A i hi.1;simp only[aN];omega);obtain⟨t,bv,T,c2,c3,c4,c5⟩:=Own.store (cf aE f) bV y (vs:=ob k r ini dft a j m o at_) rfl bY (λi hi _=>N i hi.1 hi.2) Z;have e:t=b:=by
  rw[K]at T;injection T with T;injection T with T;exact T.symm
 subst e;refine⟨t,d.n*9,bv,_,rfl,c3,c4,J,λku j9 Zm=>?_⟩;have aT:=c5 ku j9 Zm;rw[M]at aT;exact R ku (j9.blk s aaR) aT ⟨t,h,(P.weaken (bs':=[g,t]) λx hx=>.inl aaz).trans j9 λx hx=>.inl aaz⟩
structure Kd (F:aJ) (ts:List Tk) (w w':av) (b:Nat) (l:Sl) (g t:Nat) (lg:aI) (f B B2:Nat) (n:Nb) (en lv mv:Sl) (s:Sx) (acc:List Nd) (kids:Sl):Prop where
 r:Sr F ts w' b l s
 nb:aF w' g t (lg++ob n.k n.nm n.ini n.dft en lv mv kids n.a)
 no:H4 aE w' (λk=>B<=k/\k<B2) n en lv mv
 kd:NdO f B2 w' kids acc
 o:Q [b,g] w w'
 lB:B2<=w'.heap.size
section
variable {g t:Nat} {lg:aI} {f B B2:Nat} {n:Nb} {en lv mv kids:Sl} {acc:List Nd}
def Kd.nx(h:Kd F ts w w' b l g t lg f B B2 n en lv mv s acc kids)(M:g≠b)(d:b<B)(c:B<=B2)(k:Dn F ts w' w2 b l s'):Kd F ts w w2 b l g t lg f B B2 n en lv mv s' acc kids:=
 ⟨k.r,k.o.blk h.nb aaR,h.no.keep λi e a=>k.o.block i a aaR,h.kd.stay (cf aE f) k.o λx hx=>.inl aak,
  h.o.trans k.o λx hx=>.inl aaz,bD h.lB k.o.size⟩
end
end
section
variable {F:aJ} {ts:List Tk} {w w' w2:av} {b:Nat} {l:Sl} {s s':Sx}
structure Cl0 (F:aJ) (ts:List Tk) (w w':av) (b:Nat) (l:Sl) (g t:Nat) (lg:aI) (kh B:Nat) (s:Sx) (n:Nb) (en lv mv:Sl):Prop where
 r:Sr F ts w' b l s
 nb:aF w' g t (lg++ob n.k n.nm n.ini n.dft en lv mv Sl.nil n.a)
 no:NbO B w' n en lv mv
 o:∃gs,Q (b::g::kh::gs) w w'/\∀x,x∈gs->B<=x
 ng:g≠b/\¬F g
 nh:b<kh
 gh:g≠kh
 gB:g<B
 hB:kh<B
 lB:B<=w'.heap.size
section
variable {g t:Nat} {lg:aI} {kh B:Nat} {n:Nb} {h:T3} {en lv mv:Sl}
def Cl.c0(c:Cl F ts w w' b l g t lg kh B s n h en lv mv):Cl0 F ts w w' b l g t lg kh B s n en lv mv:=⟨c.r,c.nb,c.no,c.o,c.ng,c.nh,c.gh,c.gB,c.hB,c.lB⟩
def Cl0.cl(c:Cl0 F ts w w' b l g t lg kh B s n en lv mv)(a:aF w' kh 193 (S2 h)):Cl F ts w w' b l g t lg kh B s n h en lv mv:=⟨c.r,c.nb,a,c.no,c.o,c.ng,c.nh,c.gh,c.gB,c.hB,c.lB⟩
def Cl0.nx(c:Cl0 F ts w w' b l g t lg kh B s n en lv mv)(k:Dn F ts w' w2 b l s'):Cl0 F ts w w2 b l g t lg kh B s' n en lv mv:=by
 have i:=c.ng;have a:=c.gB;have j:=c.nh;have f:=c.hB;obtain⟨d,h,e⟩:=c.o;exact⟨k.r,k.o.blk c.nb aaR,c.no.go k.o λx hx=>aak,
  ⟨d,h.trans k.o λx hx=>.inl aaz,e⟩,i,c.nh,c.gh,a,c.hB,bD c.lB k.o.size⟩
def Cl0.q(c:Cl0 F ts w w' b l g t lg kh B s n en lv mv)(k:Q [] w' w2):Cl0 F ts w w2 b l g t lg kh B s n en lv mv:=c.nx (c.r.dn.q k)
def Cl0.sc(c:Cl0 F ts w w' b l g t lg kh B s n en lv mv)(k:Dn F ts w' w2 b l s'):cu [kh] w' w2:=k.o.same λx h=>by
 have:=c.nh;have:=c.hB;have:=c.lB;simp only[aN]at h⊢;omega
def Cl0.sq(c:Cl0 F ts w w' b l g t lg kh B s n en lv mv)(k:Q [] w' w2):cu [kh] w' w2:=c.sc (c.r.dn.q k)
end
def NX(n:Nb)(h:T3)(s:Sx):(eJ ts n h s).2.1.mv.length<=I n.mv+1:=by
 unfold eJ;split
 ·dsimp only;rw[aQ,bB];omega
 split
 ·exact kx _
 ·split<;>exact kx _
 ·split<;>exact kx _
 split<;>exact kx _
def Qf{f:Nat}(o:Sr F ts w b l s){g t:Nat}{lg:aI}{n:Nb}(AV:n.en=[])(yA:n.lv=[])(oa:n.mv=[])(hB:aF w g t (lg++ob n.k n.nm n.ini n.dft Sl.nil Sl.nil Sl.nil Sl.nil n.a))(hg:g≠b/\¬F g)(hd:tn s.d)(hN:s.fc=0->0<f/\aeb F ts b l f (A9 s.d)):
  az aq 75 #[rp b,ae (aM ⟨g,I lg,aaa⟩)] w λe w'=>e=ak (ai #[])/\∃z,aF w' g t (lg++z)/\lO aE (f+1) w' (Fr w.heap.size) (tZ ts (mX ts f) n s).1 z/\Q [b,g] w w'/\Sr F ts w' b l (tZ ts (mX ts f) n s).2:=by
 refine ret (alO _ _ ?_);intro i w0 fZ ez cq;have M:=o.zt.al cq fZ ez;have bv:=hB.lt;have aT:=o.lb;refine⟨_,Blk.dP M.r.blk 6 rfl,b,6,_,_,rfl,M.r.blk,aag,M.ne aag,λS cD sB=>?_⟩;have R:Zt F ts w S b l {s with d:=A9 s.d} [i]:=M.up cD sB o.lt;have aS:aF S g t (lg++ob n.k n.nm n.ini n.dft Sl.nil Sl.nil Sl.nil Sl.nil n.a):=cD.blk (cq.blk hB aag) aaR;have N:=R.z.o.size;have zk:=(R.z.k i aag).2;generalize W:S.heap.size=B at*
 have aC:g<B:=J
 have c1:Cl0 F ts w S b l g t lg i B {s with d:=A9 s.d} n Sl.nil Sl.nil Sl.nil:=⟨R.r,aS,⟨by rw[AV];exact li.nil _ _ _ _ _ _,by rw[yA];exact li.nil _ _ _ _ _ _,by rw[oa];exact Own.nil _ _ _ _ _ _⟩,
  ⟨[],R.z.o.weaken λx hx=>.inl aaz,λx hx=>aeX⟩,hg,J,J,aC,zk,Cz W.symm⟩
 have am:b<B:=J
 unfold tZ;dsimp only;generalize Y:iw ts (I ts+1) n ⟨aL,aL,aL⟩ {s with d:=A9 s.d}=C;have K:On ts {s with d:=A9 s.d} C.2:=by rw[<-Y];exact yK o.en _ _ _ _
 refine⟨λm b0 b1 b2 b3 w'=>∃(j:Nb) (hd:T3) (s':Sx) (c v mv:Sl),b0=aL/\b1=hd.i/\b2=hd.e/\b3=hd.l/\Cl0 F ts w w' b l g t lg i B s' j c v mv/\iw ts m j hd s'=C/\mu ts s'<m/\I j.mv+mu ts s'<=I ts,I ts+1,
  ⟨n,⟨aL,aL,aL⟩,_,_,_,_,rfl,rfl,rfl,rfl,c1,Y,zm (vH _ _),by rw[oa,bC,bP];exact vH _ _⟩,?_⟩
 rintro m _ _ _ _ w2 ⟨j,p,s',c,v,mv,rfl,rfl,rfl,rfl,D,h,E,Cs⟩;obtain⟨L,rfl⟩:∃L,m=L+1:=⟨m-1,J⟩
 rw[iw]at h;refine⟨λV b5 b6 b7 b8 w'=>(V=aE/\∃(j:Nb) (hd:T3) (s':Sx) (c v mv:Sl),b5=aL/\b6=hd.i/\b7=hd.e/\b8=hd.l/\Cl0 F ts w w' b l g t lg i B s' j c v mv/\iw ts L j hd s'=C/\mu ts s'<L/\I j.mv+mu ts s'<=I ts)∨
  (V=aL/\∃(c v mv:Sl),Cl0 F ts w w' b l g t lg i B C.2 C.1 c v mv),?_,(pV D.r).mono ?_⟩
 rotate_left
 ·rintro _ b ⟨rfl,w⟩;have a:=D.q w;refine⟨_,rfl,D.sq w,λhc k=>?_,λhc=>?_⟩
  ·have hc:s'.fc=0:=aaj
   rw[aP (by simp[hc])]at h;have F:=vH ts s';have e:=D.r.lt;have C:0<mu ts s':=by unfold mu;rw[aV hc];omega
   have n:=NX (ts:=ts) j p s';refine(S4 (a.cl (h:=p) k) J).mono ?_;rintro _ T ⟨rfl,r,l,f,d⟩;refine⟨_,rfl,_,_,_,_,d.hb,?_⟩;cases t:(eJ ts j p s').1
   ·rw[aP (by rw[t];decide)]at h;refine .inr ⟨rfl,r,l,f,?_⟩;rw[<-h];exact d.c0
   rw[aV t]at h;have u:=SO o.en j p hc e t;exact .inl ⟨rfl,_,_,_,_,_,_,rfl,rfl,rfl,rfl,d.c0,h,J,J⟩
  have hc:s'.fc≠0:=aaj
  rw[aV hc]at h;refine .inr ⟨rfl,c,v,mv,?_⟩;rw[<-h];exact a
 clear h E Cs D;rintro V b5 b6 b7 b8 w3 (⟨rfl,hh⟩ | ⟨rfl,c,v,mv,c3⟩)
 ·exact⟨λ_=>⟨L,Um _,hh⟩,λhh=>ahy⟩
 refine⟨λhh=>ahy,λ_=>?_⟩;generalize C.1=n1 at*
 generalize C.2=s1 at*
 have eQ:B<=w3.heap.size:=c3.lB;have dO:H4 aE w3 (λk=>B<=k/\k<w3.heap.size) n1 c v mv:=
  ⟨(c3.no.en.inHeap (cT aE) Z).mono (cT aE) λk hk=>⟨hk.1.1,hk.2⟩,(c3.no.lv.inHeap (cT aE) Z).mono (cT aE) λk hk=>⟨hk.1.1,hk.2⟩,(c3.no.mv.sl (iJ aE) λk hk=>hk).inHeap (iJ aE) Z⟩
 obtain⟨gT,o3,el⟩:=c3.o;have o3:Q [b,g] w w3:=o3.weaken λx hx=>by
  simp only[aZ]at hx;rcases hx with rfl | rfl | rfl | hx
  ·exact .inl aag
  ·exact .inl aag
  ·exact .inr fZ
  exact .inr (bD N (el x hx))
 have k3:Kd F ts w w3 b l g t lg f B w3.heap.size n1 c v mv s1 [] Sl.nil:=⟨c3.r,c3.nb,dO,Own.nil _ _ _ _ _ _,o3,aX _⟩
 generalize od:w3.heap.size=B2 at*
 clear c3 dO o3 el Y;generalize hK:vG ts (mX ts f) (I ts+1) [] s1=fd;have sk:∀{u u':av} {x y:Sx},B2<=u.heap.size->Dn F ts u u' b l y->cu [i] u u':=λhz k=>k.o.same λx hx=>by
  simp only[aN]at hx⊢;omega
 have Zo:∀{u u':av} {x y:Sx} {bV:List Nd} {kids:Sl},Kd F ts w u b l g t lg f B B2 n1 c v mv x bV kids->Dn F ts u u' b l y->Kd F ts w u' b l g t lg f B B2 n1 c v mv y bV kids:=λa k=>a.nx hg.1 am eQ k;have go:∀{u:av} {x:Sx} {bV:List Nd} {kids:Sl},Kd F ts w u b l g t lg f B B2 n1 c v mv x bV kids->∃(q:Sl) (u2:av),(au 32 4 #[.mk 0 (X (ao #[115,116,97,116,101])),.mk 1 (X (ao #[112,97,114,97,108,108,101,108])),.mk 2 (X (ao #[104,105,115,116,111,114,121])),.mk 3 (X (ao #[100,101,101,112]))]).run aq u=.ok q.v u2/\cu [i] u u2/\az aq 109 #[rp b,q.v] u2 λe u3=>e=ak (O U (dc ts x rD:Nat))/\cu [i] u2 u3/\Kd F ts w u3 b l g t lg f B B2 n1 c v mv x bV kids:=fun{u x bV kids} a=>by
  obtain⟨q,u2,e1,e,f⟩:=P9 a.r rD (n:=4) (parts:=#[(0,X (T DZ)),(1,X (T tW)),(2,X (T ww)),(3,X (T KR))]) rfl rfl Z Z;have b:=Zo a (a.r.dn.q e);refine⟨q,u2,e1,sk (x:=x) a.lB (a.r.dn.q e),f.mono ?_⟩;rintro _ u3 ⟨rfl,d⟩;exact⟨rfl,sk (x:=x) b.lB (b.r.dn.q d),Zo b (b.r.dn.q d)⟩
 obtain⟨q,w4,e1,Fk,co⟩:=go k3;refine⟨q,w4,e1,Fk,co.mono ?_⟩;rintro _ w5 ⟨rfl,R4,k5⟩;refine⟨_,rfl,R4,λm i2 _ _ _ _ w'=>∃(s':Sx) (bV:List Nd) (kids:Sl),i2=((dc ts s' rD:Nat):Int)/\Kd F ts w w' b l g t lg f B B2 n1 c v mv s' bV kids/\vG ts (mX ts f) m bV s'=fd/\mu ts s'<m/\I bV+mu ts s'<=I ts/\s'.d=A9 s.d/\(s'.fc=0->s.fc=0),I ts+1,
  ⟨s1,[],Sl.nil,rfl,k5,hK,zm (vH _ _),afn,K.d,λe=>(K.le e).1⟩,?_⟩
 clear R4 k5 co Fk e1 k3 hK;rintro m _ b9 gE gG gO w6 ⟨s',bV,kids,rfl,k6,h,E,Cs,bY,cC⟩;obtain⟨m',rfl⟩:∃m',m=m'+1:=⟨m-1,J⟩
 rw[vG]at h;have cc:i≠b:=M.ne aag;have ce:i≠g:=J
 refine⟨λhc=>?_,λhc=>?_⟩
 ·have hc:=S1 hc;rw[aP hc]at h;obtain⟨T,rl⟩:=eu hc;obtain⟨iN,iD⟩:=hN (cC T);have a:=k6.r.lt;refine⟨_,Blk.dP k6.r.blk 1 rfl,b,1,_,_,rfl,k6.r.blk,aag,cc,λw7 fR Zp=>?_⟩;rw[k6.r.wr]at Zp;have k7:=Zo k6 (y:=eF s') ⟨fR,k6.r.lF fR Zp (Ei k6.r hc)⟩;have xI:=o.sm;have iS:=vH ts s';have n:=PW o.en f (dc ts s' rD:Nat) (eF s') (by show tn s'.d;rw[bY];exact Va _);have nO:=sU o.en T a rl n.toOn0;generalize dc ts s' rD=kk at*
  generalize iF:mX ts f (kk:Int) (eF s')=d at*
  have g8:d.2.d=A9 s.d:=n.d.trans bY;have ip:d.2.fc=0->s.fc=0:=λe=>cC (n.le e).1;refine⟨λ_ _ _ _ w'=>∃gD,Kd F ts w w' b l g t lg f B B2 n1 c v mv d.2 (bV++[d.1]) gD,λlE lT mt mK w8 h8=>?_,λC dT=>?_⟩
  ·obtain⟨gD,k⟩:=h8;obtain⟨q,w,e1,s,b⟩:=go k;refine⟨q,w,e1,s,b.mono ?_⟩;rintro _ f ⟨rfl,r,e⟩;exact⟨_,rfl,r,m',Um _,_,_,_,rfl,e,h,J,acE,g8,ip⟩
  have s:=Zo k7 (k7.r.dn.q dT);have C3:=s.lB;have BD:∀{u:av},Sr F ts u b l (eF s')->az aq 111 #[rp b,O U (kk:Int)] u λe w'=>∃z,e=ak (ah z.toArray)/\lO aE f w' (Fr u.heap.size) d.1 z/\Dn F ts u w' b l d.2:=λhu=>by
   have:=iD (kk:Int) (eF s') _ hu bY;rw[iF]at this;exact this
  have Ha:∀{u u':av} {bs:List Nat},Q bs u u'->(∀x,x∈bs->x≠g)->bT (λk=>k=g) u u':=λhO hb k hk a=>by subst hk;exact hO.block k a λq=>hb k q rfl
  have zc:Value.cells (ah (ob 0 [] [] [] Sl.nil Sl.nil Sl.nil Sl.nil 0).toArray)=(ob 0 [] [] [] Sl.nil Sl.nil Sl.nil Sl.nil 0).toArray:=rfl;have hz:∀(u:av),∃(y:Sl) (u2:av),(au 25 1 #[.mk 0 (ah (ob 0 [] [] [] Sl.nil Sl.nil Sl.nil Sl.nil 0).toArray)]).run aq u=.ok y.v u2/\Own (lO aE f) 9 27 u.heap.size u2 (λ_=>False) y [SM]/\Q [] u u2:=λu=>by
   obtain⟨y,u2,b,k,l,_⟩:=kz (P:=aq) (t:=25) (e:=27) (i:=Tryz.t27) (w:=u) (F:=λ_=>False) (r:=lO aE f) (size:=9) (vs:=[ah (ob 0 [] [] [] Sl.nil Sl.nil Sl.nil Sl.nil 0).toArray]) (xs:=[SM]) (len:=1) (parts:=#[(0,ah (ob 0 [] [] [] Sl.nil Sl.nil Sl.nil Sl.nil 0).toArray)]) aae aae rfl rfl Z rfl rfl Z Z (cf aE f) ⟨⟨rfl,Wy iN _ _⟩,trivial⟩;exact⟨y,u2,b,k,l⟩
  have oF:∀{u:av} {y:Sl} {A:Nat},B2<=A->NdO f B2 u kids bV->(∀k,A<=k->kids.a≠aM ⟨k,0,aaa⟩)->aA (lO aE f) 9 u (Fr A) y [SM]->A<=u.heap.size->∃(s8:Sl) (u2:av),(Builtin.append_ #[25,25] 25 #[kids.v,y.v]).run aq u=.ok s8.v u2/\NdO f B2 u2 s8 (bV++[SM])/\(∃gs,Q gs u u2/\∀x,x∈gs->B2<=x/\x<A)/\(∀k,A<=k->k<u.heap.size->s8.a≠aM ⟨k,0,aaa⟩):=fun{u y A} hA ho hk hy hAu=>by
   obtain⟨s8,u2,u,w,gs,A,l,b⟩:=qO (P:=aq) (t:=25) (ty:=25) (e:=27) (i:=Tryz.t27) (bytes:=160) (size:=9) (y:=y) (ys:=[SM]) aae aae rfl rfl rfl rfl (cf aE f) ho (hy.mono (cf aE f) λk r=>⟨bD hA r,hk k r⟩) (bD hA hAu) ae7 Z;refine⟨s8,u2,u,w,⟨gs,A,λx hx=>⟨(l x hx).2.1,?_⟩⟩,λk h1 h2=>?_⟩
   ·exact Nat.lt_of_not_le λe=>hk x e (l x hx).1
   rcases b with b | b
   ·rw[b];exact hk k h1
   rw[b];intro e;injection e with e;injection e with e;omega
  have T8:∀{u:av} {s8:Sl},Sr F ts u b l d.2->aF u g t (lg++ob n1.k n1.nm n1.ini n1.dft c v mv kids n1.a)->H4 aE u (λk=>B<=k/\k<B2) n1 c v mv->Q [b,g] w u->B2<=u.heap.size->NdO f B2 u s8 (bV++[SM])->∀w',aF w' g t (lg++ob n1.k n1.nm n1.ini n1.dft c v mv s8 n1.a)->NdO f B2 w' s8 (bV++[d.1])->(∃gk,B2<=gk/\Q [g,gk] u w')->∃gD,Kd F ts w w' b l g t lg f B B2 n1 c v mv d.2 (bV++[d.1]) gD:=λhr vX oN ho hz _ w' h1 h2 ⟨gk,h3,h4⟩=>
   ⟨_,hr.YA h4 λx hx=>(by
    simp only[aZ,bp,ci]at hx;rcases hx with rfl | rfl
    ·exact hg
    ·exact hr.gt J),h1,oN.keep λn8 b a=>h4.block n8 a (by simp only[aZ,bp,ci];omega),h2,ho.trans h4 λx hx=>by
    simp only[aZ,bp,ci]at hx⊢;omega,bD hz h4.size⟩
  refine⟨λk=>k=g,_,rfl,rfl,kids,s.nb.at0 (I lg+7) (Qe rfl),(BD s.r).mono ?_,?_⟩
  ·rintro _ eZ ⟨z,rfl,hx,r⟩;have t:=Zo s r;have C5:=hx;obtain⟨f',rfl⟩:∃f',f=f'+1:=⟨f-1,J⟩
   obtain⟨xe,xl,xm,xk,rfl,_⟩:=C5;obtain⟨y,fl,e2,hy,b⟩:=hz eZ;have l:=Zo t (t.r.dn.q b);obtain⟨s8,gw,e3,P,⟨gs,e,yz⟩,F⟩:=oF (u:=fl) (y:=y) (A:=C.heap.size) C3 l.kd (λk hk=>s.kd.new hk) ((hy.slice (cf aE _)).mono (cf aE _) λk hk=>(by
    rcases hk with hk | hk
    ·exact hk.elim
    exact bD r.o.size hk.1)) (bD r.o.size b.size)
   have w:∀x,x∈gs->x≠g:=λx hx=>aea
   have G:=e.size;have T2:=l.lB;have oR:=r.o.size;refine⟨_,_,_,_,xe,xl,xm,xk,_,rfl,sk (x:=s') s.lB r,Ha r.o aaR,y,fl,e2,sk (x:=s') t.lB (t.r.dn.q b),Ha b aag,s8,gw,e3,e.same (λx hx=>?_),Ha e w,?_⟩
   ·simp only[aN]at hx;subst hx;exact⟨J,λq=>by have:=(yz x q).1;omega⟩
   refine Gz (H:=λk=>C.heap.size<=k/\k<eZ.heap.size) (acc:=bV) ?_ (λk hk _=>⟨bD C3 hk.1,F k hk.1 (cV hk.2 b.size)⟩) (λk hk=>bD C3 hk.1) P s.kd.len (e.blk l.nb λq=>w g q rfl) J J ce (T8 (l.r.own e λx hx=>aea) (e.blk l.nb λq=>w g q rfl) (l.no.keep λn8 f a=>e.block n8 a λq=>(by have:=(yz n8 q).1;omega)) (l.o.trans e λx hx=>.inr (by have:=(yz x hx).1;have:=s.o.size;omega)) (bD T2 G) P);refine(cf aE _).keep ((cf aE _).inHeap hx) λk hk a=>?_;exact(e.block k (cV a b.size) λq=>by have:=(yz k q).2;have:=hk.1;omega).trans (b.block k a aag)
  obtain⟨y,lZ,e2,hy,r⟩:=hz C;have w:=Zo s (s.r.dn.q r);refine⟨y,lZ,e2,sk (x:=s') s.lB (s.r.dn.q r),Ha r aag,(BD w.r).mono ?_⟩;rintro _ kg ⟨z,rfl,hx,l⟩;have e:=Zo w l;have C5:=hx;obtain⟨f',rfl⟩:∃f',f=f'+1:=⟨f-1,J⟩
  obtain⟨xe,xl,xm,xk,rfl,_⟩:=C5;have F:=(((hy.slice (cf aE _)).inHeap (cf aE _) Z).keep (cf aE _) Z (w':=kg) λk hk a=>l.o.block k a (by
   rcases hk.1 with hk | hk
   ·exact hk.elim
   ·have:=hk.1;simp only[aN];omega)).mono (cf aE _) (G:=Fr C.heap.size) λk hk=>(by
   rcases hk.1 with hk | hk
   ·exact hk.elim
   exact hk.1)
  obtain⟨s8,nj,e3,OY,⟨gs,b,yz⟩,P⟩:=oF (u:=kg) (y:=y) (A:=C.heap.size) C3 e.kd (λk hk=>s.kd.new hk) F (bD r.size l.o.size);have t:∀x,x∈gs->x≠g:=λx hx=>aea
  have pm:=b.size;have pi:=e.lB;have pP:=r.size;refine⟨_,_,_,_,xe,xl,xm,xk,_,rfl,sk (x:=s') w.lB l,Ha l.o aaR,s8,nj,e3,b.same (λx hx=>?_),Ha b t,?_⟩
  ·simp only[aN]at hx;subst hx;exact⟨J,λq=>by have:=(yz x q).1;omega⟩
  refine Gz (H:=λk=>lZ.heap.size<=k/\k<kg.heap.size) (acc:=bV) ?_ (λk hk _=>⟨by show B2<=k;omega,P k J hk.2⟩) (λk hk=>J) OY s.kd.len (b.blk e.nb λq=>t g q rfl) J J ce (T8 (e.r.own b λx hx=>aea) (b.blk e.nb λq=>t g q rfl) (e.no.keep λn8 f a=>b.block n8 a λq=>(by have:=(yz n8 q).1;omega)) (e.o.trans b λx hx=>.inr (by have:=(yz x hx).1;have:=s.o.size;omega)) (bD pi pm) OY);refine(cf aE _).keep ((cf aE _).inHeap hx) λk hk a=>?_;exact b.block k a λq=>by have:=(yz k q).2;have:=hk.1;omega
 have hc:=SZ hc;rw[aV hc]at h;refine⟨_,Blk.dP k6.r.blk 6 rfl,b,6,_,_,rfl,k6.r.blk,aag,cc,λC s r=>?_⟩;have a:=Zo k6 (y:={s' with d:=inc s'.d}) ⟨s,k6.r.lF s r k6.r.lt⟩;obtain⟨q,P,e1,u,t⟩:=ud a.r [125];have n:=Zo a (a.r.dn.q u);refine⟨q,P,e1,sk (x:=s') a.lB (a.r.dn.q u),t.mono ?_⟩;rintro _ w ⟨rfl,l⟩;have e:=Zo n l;refine⟨rfl,sk (x:=s') n.lB l,rfl,_,e.nb,?_,e.o,?_⟩
 ·rw[<-h];refine⟨c,v,mv,kids,rfl,e.no.mono λk hk=>bD N hk.1,(e.kd.sl (cf aE f) λk hk=>hk).low (cf aE f) J⟩
 rw[<-h];exact e.r
end
def Tk.Good(t:Tk):Prop:=(t.k=2->∃c r,t.t=c::r/\fA c=aE)/\(t.k=4->∃c r,t.t=c::r/\fA c=aL)/\0<=t.n/\t.n<=9223372036854775807
def Wz{m:aH}{q:Tq}(h:nQ m=.ok q):q.1≠5/\∀a,Tk.Good ⟨q.1,q.2.1,q.2.2.1,a⟩:=by
 cases m with
 | nil=>cases h
 | cons c r=>
  simp only[nQ]at h;split at h
  ·rename_i b;unfold ov at h;split at h
   ·cases h
   injection h with h;subst h;have w:fA c=aE:=by unfold fA;rw[b];rfl
   refine⟨by dsimp only;split<;>decide,λa=>⟨λ_=>?_,λd=>?_,acC,acC⟩⟩
   ·dsimp only;rw[dL,aV w];exact⟨c,_,rfl,w⟩
   dsimp only at d;split at d<;>exact absurd d Z
  rename_i hl;split at h
  ·rename_i c;unfold uY at h;split at h
   ·cases h
   split at h
   ·cases h
   injection h with h;subst h;refine⟨acC,λa=>⟨λh=>absurd h acC,λh=>absurd h acC,abI,?_⟩⟩;dsimp only;unfold gr;split
   ·dsimp only;decide
   split
   ·dsimp only;decide
   split
   ·dsimp only;omega
   dsimp only;decide
  rename_i hd;unfold qj at h;split at h
  ·cases h
  rename_i s;injection h with h;subst h;refine⟨acC,λa=>⟨λh=>absurd h acC,λ_=>?_,acC,acC⟩⟩;obtain⟨n,b⟩:∃n,jU (c::r)=n+1:=⟨jU (c::r)-1,J⟩
  dsimp only;rw[b,gx];refine⟨c,_,rfl,?_⟩;unfold fA;rw[fy];exact⟨af5,by simpa using hd⟩
def K8{l:aH}:∀(n i:Nat),i<=(I l)->(I l)-i<=n->∀r,lJ l i=.ok r->∃(fr:List Tk) (a:Int),r=fr++[⟨5,[],0,a⟩]/\(∀t,t∈fr->t.k≠5/\t.Good)/\I r<=(I l)-i+1
 | n,i,c,b,r,h=>by
  rw[lH c]at h;split at h
  ·injection h with h;exact⟨[],_,h.symm,λt a=>(by cases a),by rw[<-h,bB];omega⟩
  split at h
  ·cases h
  rename_i q d;have g:=xt d;have f:=DT d;rw[cJ]at f;split at h
  ·cases h
  rename_i k j;injection h with h;subst h
  match n,b with
  | 0,b=>omega
  | n+1,b=>
   obtain⟨fr,a,e,p,q⟩:=K8 n _ J J _ j;have o:=Wz d;refine⟨_::fr,a,by rw[e];rfl,λt m=>?_,by rw[aY];omega⟩;rcases aZ.1 m with rfl | m
   ·exact⟨o.1,o.2 _⟩
   exact p t m
def abn{fr:List Tk}{a:Int}(b:∀t,t∈fr->t.k≠5):tU (fr++[⟨5,[],0,a⟩]):=λi c=>by
 rw[aQ,bB]at c;unfold tk;by_cases h:i<I fr
 ·rw[bX h,bf h,iz,aQ,bB];exact⟨λe=>absurd e (b _ (mU h)),λe=>J⟩
 have e:i=I fr:=J
 subst e;rw[cj (aX _),pO,aQ,bB];exact⟨λ_=>rfl,λ_=>rfl⟩
def Qg{l:aH}:∀(n i:Nat),i<=(I l)->(I l)-i<=n->∀x,lJ l i=.error x->x.1≠0
 | n,i,b,a,x,h=>by
  rw[lH b]at h;split at h
  ·cases h
  split at h
  ·rename_i e q;injection h with h;subst h;exact HT q
  rename_i q c;have e:=xt c;have d:=DT c;rw[cJ]at d;split at h
  ·rename_i y f;injection h with h;subst h
   match n,a with
   | 0,a=>omega
   | n+1,a=>exact Qg n _ J J _ f
  cases h
def yO{l:aH}(h:(di l).2.1=0):tU (di l).1/\(∀t,t∈(di l).1->t.Good)/\0<(di l).1.length/\(di l).1.length<=16385:=by
 unfold di at h⊢;split at h
 ·cases h
 rename_i b;rw[aP b];cases r:lJ l 0 with
 | error x=>
  rw[r]at h;exact absurd h (Qg (I l) 0 (be _) J _ r)
 | ok d=>
  obtain⟨fr,a,e,f,n⟩:=K8 (I l) 0 (be _) J d r;dsimp only;subst e;refine⟨abn λt c=>(f t c).1,λt c=>?_,acE,J⟩;rcases ch.1 c with c | c
  ·exact(f t c).2
  simp only[aN]at c;subst c;exact⟨λh=>absurd h acC,λh=>absurd h acC,acC,acC⟩
section
section
variable {F:aJ} {ts:List Tk} {w w' w2:av} {b:Nat} {l:Sl} {s s':Sx}
def Qh:∀(f:Nat) (d:Int),0<=d->d<f->d<=9223372036854775807->aeb F ts b l f d
 | 0,d,h,a,_=>J
 | f+1,d,h0,h1,F=>by
  intro k u w c hd;refine ik (al8 _ _ ?_);intro a w0 Z E C;have t:=c.zt.al C Z E;refine(K7 t.r k).mono ?_;rintro _ w1 ⟨rfl,h⟩;have g:=t.nx h;have o:=D3 c.en k u;have e:=abe (ts:=ts) (k:=k) (s:=u);rw[mX];have Y:(fQ ts k u).1.ini=[]/\(fQ ts k u).1.dft=[]/\(fQ ts k u).1.en=[]/\(fQ ts k u).1.lv=[]/\(fQ ts k u).1.mv=[]:=⟨rfl,rfl,rfl,rfl,rfl⟩
  generalize fQ ts k u=N at*
  obtain⟨K,z⟩:=N;dsimp only at*
  obtain⟨i,j,l,p,r⟩:=Y;obtain⟨R,m,A,P,L,S,T,H⟩:=K;dsimp only at i j l p r;subst i j l p r;dsimp only at*
  refine⟨_,_,_,_,Sl.nil,Sl.nil,Sl.nil,Sl.nil,_,rfl,t.sc h aag,λhc k1 w2 G M B=>?_,λhc v dz W V D=>?_⟩
  ·rw[aV aa1];have f:=g.al B G M;obtain⟨q,w3,b,s,d⟩:=ud f.r [45,62];have t3:=f.q s;refine⟨q,w3,b,f.sq s aag,d.mono ?_⟩;rintro _ w4 ⟨rfl,x⟩;have k:=t3.nx x;refine⟨rfl,t3.sc x aag,(zW k.r).mono ?_⟩;rintro _ w5 ⟨rfl,y⟩;have t5:=k.nx y;refine⟨_,rfl,k.sc y aag,λw6 dK=>?_⟩;have n:=t5.f dK aag;obtain⟨q,w7,b,w,d⟩:=ud n.r [59];have t7:=n.q w;refine⟨q,w7,b,n.sq w aag,d.mono ?_⟩;rintro _ w8 ⟨rfl,h8⟩;have t8:=t7.nx h8;refine⟨rfl,t7.sc h8 aag,λw9 fU=>⟨_,rfl,⟨Sl.nil,Sl.nil,Sl.nil,Sl.nil,rfl,⟨li.nil _ _ _ _ _ _,li.nil _ _ _ _ _ _,li.nil _ _ _ _ _ _⟩,li.nil _ _ _ _ _ _⟩,(t8.f fU aag).dn⟩⟩
  rw[aP aa6];have am:=g.al D W V;obtain⟨q,dF,e1,dT,hm⟩:=ud am.r [123];have aT:=am.q dT;refine⟨q,dF,e1,am.sq dT aag,hm.mono ?_⟩;rintro _ eZ ⟨rfl,E5⟩;have k:=aT.nx E5;have aC:=jX (s:=z) c.en [123];refine⟨rfl,aT.sc E5 aag,λhB _=>?_⟩;have aS:(fH ts z [123]).d=d:=aC.d.trans (o.d.trans hd);refine(Qf (f:=f) k.r (lg:=[]) (n:=⟨R,m,[],[],[],[],[],H⟩) rfl rfl rfl hB (k.r.gt (k.lt aag)) (by rw[aS];exact⟨J,F⟩) (λhf=>?_)).mono ?_
  ·have b:=e (aC.le hf).1;rw[hd]at b;have n:A9 d=d-1:=by unfold A9;rw[fh J J]
   rw[aS,n];exact⟨J,Qh f (d-1) J J J⟩
  rintro _ fl ⟨rfl,cs,wY,hx,n,d⟩;have q:=hx;obtain⟨xe,xl,xm,xk,rfl,_⟩:=q;have s:Fz [b] w fl [v,a]:=k.z.go n λx hx=>acS
  have l2:=k.lt (k0:=v) aag;have l0:=k.lt (k0:=a) aag;have bv:=(g.z.k a aag).2;refine⟨rfl,k.z.sm n aag (λx hx=>?_),_,_,_,_,xe,xl,xm,xk,_,wY,λgw f FO=>⟨_,rfl,?_,?_⟩⟩
  ·simp only[aZ,bp,ci]at hx;rcases hx with rfl | rfl
   ·exact .inl aag
   exact .inr λy hy=>ad3
  ·refine(cf aE _).low ((cf aE _).stay hx ((Stay.refl _ _).f f (.inl ?_))) k.z.o.size;have:=(k.z.k a aag).2;exact this
  exact⟨(s.f f aag).o,d.one f l0⟩
def agD(j:Sr F ts w b l s)(m:∀t,t∈ts->t.Good):az aq 74 #[rp b] w λe w'=>e=ak (ah #[X (T (wx ts s).1.n),O U (wx ts s).1.v,O U (wx ts s).1.a])/\Dn F ts w w' b l (wx ts s).2:=by
 refine ret (alN _ ?_);intro o u g z f;have a:=j.zt.al f g z;obtain⟨ad,h,i⟩:=a.r.now;unfold wx;dsimp only;generalize B:(if(tk ts s.i).k=1 then FD ts s else s)=c;refine⟨λw'=>Zt F ts w w' b l c [o],λv d=>(zV d.r (k:=1) Z).mono ?_,l,Blk.dP a.r.blk 0 rfl,_,Blk.dP a.r.blk 1 rfl,ad,h,_,i.dP 0 _ rfl,λhc p W=>?_,λhc r S=>?_⟩
 ·rintro _ w2 ⟨rfl,H⟩;have t2:=d.nx H;refine⟨_,_,_,_,rfl,d.sc H aag,λk1 w3 mc jM dh=>?_⟩;have A:=t2.al dh mc jM;obtain⟨q,w4,l,F,s⟩:=ud A.r [61];have P:=A.q F;refine⟨q,w4,l,A.sq F aag,s.mono ?_⟩;rintro _ w5 ⟨rfl,L⟩;have C:=P.nx L;refine⟨rfl,P.sc L aag,?_⟩;obtain⟨q,w6,l,K,s⟩:=Gy C.r [[45]] (n:=1) (parts:=#[(0,X (T [45]))]) rfl rfl Z Z;have R:=C.q K;refine⟨q,w6,l,C.sq K aag,s.mono ?_⟩;rintro _ w7 ⟨rfl,M⟩;have D:=R.nx M;generalize y:dc ts (fH ts (iq ts c 1).2 [61]) [[45]]=b at*
  have am:b<=1:=by rw[<-y];exact KS _
  refine⟨_,rfl,R.sc M aag,(zV D.r (k:=3) Z).mono ?_⟩;rintro _ w8 ⟨rfl,N⟩;have E:=D.nx N;refine⟨_,_,_,_,rfl,D.sc N aag,?_⟩;obtain⟨q,w9,l,G,s⟩:=ud E.r [59];have V:=E.q G;refine⟨q,w9,l,E.sq G aag,s.mono ?_⟩;rintro _ dz ⟨rfl,Y⟩;refine⟨rfl,V.sc Y aag,λdF dT=>⟨?_,((V.nx Y).f dT aag).dn⟩⟩;have hn:∀w:Sx,0<=(iq ts w 3).1.n/\(iq ts w 3).1.n<=9223372036854775807:=λw=>by
   unfold iq;split
   ·exact⟨ky 0,(by decide:(0:Int)<=9223372036854775807)⟩
   unfold tk;rcases hx:ts[w.i]? with _|t
   ·exact⟨ky 0,(by decide:(0:Int)<=9223372036854775807)⟩
   exact(m t (bn hx)).2.2
  obtain⟨n0,n1⟩:=hn (if b=0 then fH ts (iq ts c 1).2 [61]else eF (fH ts (iq ts c 1).2 [61]));generalize (iq ts (if b=0 then fH ts (iq ts c 1).2 [61]else eF (fH ts (iq ts c 1).2 [61])) 3).1.n=x at*
  have e:ar U ((ar U (1-(ar U (2*(b:Int)))))*x)=if b=0 then x else ar U (-x):=by
   rcases(by omega:b=0∨b=1)with rfl | rfl
   ·rw[aV rfl];show ar U (1*x)=x;rw[Int.one_mul,fh J J]
   rw[aP Z];show ar U (-1*x)=_;rw[Int.neg_one_mul]
  rw[e]
 ·refine(agA (a.q W).r).mono ?_;rintro _ l ⟨rfl,b⟩;refine⟨rfl,(a.q W).sc b aag,?_⟩;rw[<-B,aV aaj];exact(a.q W).nx b
 rw[<-B,aP aaj];exact a.q S
end
def aed(w:av)(F:aJ):ChR aE 15 w F ch0 Sl.nil (ob 0 [] [] [] Sl.nil Sl.nil Sl.nil Sl.nil 0):=⟨li.nil _ _ _ _ _ _,Wy Z _ _⟩
def ChR.stay{d:Nat}{w b:av}{B:Nat}{c:Ch}{v:Sl}{s:aI}(h:ChR aE d w (Fr B) c v s)(a:Stay B w b):ChR aE d b (Fr B) c v s:=⟨h.vars.stay dY Z a,(cf aE d).stay h.root a⟩
def ChR.low{d:Nat}{w:av}{A B:Nat}{c:Ch}{v:Sl}{s:aI}(h:ChR aE d w (Fr B) c v s)(a:A<=B):ChR aE d w (Fr A) c v s:=⟨h.vars.low dY a,(cf aE d).low h.root a⟩
def agE{t:List Tk}(h:tU t){s:Sx}{a:List (aH)}(i:s.i<I t)(w:dc t s a≠0):mu t (wx t (eF s)).2<mu t s:=
 sU h (eu w).1 i (eu w).2 (Wd h (eF s)).toOn0
def K9{w:av}(l:aH)(N:Er w):az aq 40 #[X (T l)] w λe c=>
  ∃(M:Sl) (s:aI),e=ak (ai #[ah (M.v::s).toArray,ah #[O U (eP l).2.1,O U (eP l).2.2]])/\ChR aE 15 c (Fr w.heap.size) (eP l).1 M s/\Q [] w c:=by
 refine ik (alx _ ?_);generalize h:eP l=P;unfold eP at h;intro m o p fZ ez mc jM A;have z0:=A.size;refine(KK l (N.only A)).mono ?_;rintro _ g ⟨r,rfl,K,D⟩;have z1:=D.size;have L:=A.cd D;have j:=yO (l:=l);have u:∀{E H:av},Q [] g E->Q [o,m] E H->Q [] w H:=λz C=>((L.cd z).trans C λx hx=>.inr aam)
 refine⟨r,_,_,rfl,D.same aah,λhc R E qG oL z n1 S W=>⟨λk=>k=R,rfl,λe=>S e,λe=>W e,λH C=>?_⟩,λhc k3 a b Y yZ ur uw yg rl BI B=>?_⟩
 ·have hc:(di l).2.1≠0:=aaj
  rw[aV hc]at h;subst h;exact⟨Sl.nil,_,rfl,aed _ _,u z C⟩
 have hc:(di l).2.1=0:=aaj
 obtain⟨aT,UR,gG,fN⟩:=j hc;rw[aP aaj]at h;have gO:=((K.sl.inHeap ji Z).mono ji (G:=λk=>p.heap.size<=k/\k<g.heap.size) λk hk=>⟨hk.1.1,hk.2⟩)
 generalize (di l).1=ts at*
 clear j K;have z4:=B.size;obtain⟨q,w5,e1,hq,eh⟩:=ld Y [gf] (n:=1) (parts:=#[(0,X (T gf))]) rfl rfl Z Z;have z5:=eh.size;refine⟨q,w5,e1,eh.same aah,λvQ wd As AC cC=>?_⟩;have r5:Sr (λk=>p.heap.size<=k/\k<g.heap.size) ts w5 a r yp:=⟨vQ,SliceF.only ji Z gO (B.cd eh) aag,λk hk=>acL,aT,gG,J⟩
 have RL:∀k,(λk=>p.heap.size<=k/\k<g.heap.size) k->k<g.heap.size:=λk hk=>hk.2;generalize (λk=>p.heap.size<=k/\k<g.heap.size)=F at*
 have gE:Q [] w w5:=(L.cd B).cd eh;have sm:∀{aC u':av} {x:Sx},w5.heap.size<=aC.heap.size->Dn F ts aC u' a r x->cu [m,o,k3,b] aC u':=λhz d=>d.o.same (by
  intro x hx;simp only[aZ,bp,ci]at hx⊢;omega)
 have sq:∀{aC u':av},w5.heap.size<=aC.heap.size->Q [] aC u'->cu [m,o,k3,a,b] aC u':=λhz bV=>bV.same λx hx=>⟨by
  simp only[aZ,bp,ci]at hx;omega,aag⟩
 have oD:∀{aC u':av} {x:Sx},Q [] w aC->Dn F ts aC u' a r x->Q [] w u':=λbV d=>bV.trans d.o λx hx=>.inr aak;have o5:∀{aC u':av},Q [] w aC->Q [b] aC u'->Q [] w u':=λbV d=>bV.trans d λx hx=>.inr aak;have fd:∀{aC u':av} {x:Sx},Sr F ts aC a r x->Q [b] aC u'->Sr F ts u' a r x:=λBy bV=>By.ahx bV ⟨cC,λhF=>by have:=RL _ hF;omega⟩;have UG:=vQ.lt;refine(Qc r5 (vF hq) λk hk e=>ad2).mono ?_;rintro _ w6 ⟨rfl,h6⟩;have z6:=h6.o.size;refine⟨rfl,sm (aX _) h6,r,_,_,_,_,_,_,_,_,h6.r.blk,(K7 h6.r 1).mono ?_⟩;rintro _ w7 ⟨rfl,h7⟩;have z7:=h7.o.size;have hC:wz ts=(⟨(wy ts (I ts+1) [] (fH ts (fQ ts 1 (fH ts yp gf)).2 [123])).1,(tZ ts (mX ts 14) (fQ ts 1 (fH ts yp gf)).1 (wy ts (I ts+1) [] (fH ts (fQ ts 1 (fH ts yp gf)).2 [123])).2).1⟩,NM ts (tZ ts (mX ts 14) (fQ ts 1 (fH ts yp gf)).1 (wy ts (I ts+1) [] (fH ts (fQ ts 1 (fH ts yp gf)).2 [123])).2).2):=rfl;have vX:(fQ ts 1 (fH ts yp gf)).1.ini=[]/\(fQ ts 1 (fH ts yp gf)).1.dft=[]/\(fQ ts 1 (fH ts yp gf)).1.en=[]/\(fQ ts 1 (fH ts yp gf)).1.lv=[]/\(fQ ts 1 (fH ts yp gf)).1.mv=[]:=⟨rfl,rfl,rfl,rfl,rfl⟩
 have oN:On ts yp (fQ ts 1 (fH ts yp gf)).2:=(jX aT _).trans (D3 aT _ _);generalize fQ ts 1 (fH ts yp gf)=pi at*
 obtain⟨⟨nk,ce,pm,pP,AS,AT,Bv,na⟩,u1⟩:=pi;dsimp only at*
 obtain⟨i1,i2,i3,i4,i5⟩:=vX;subst i1 i2 i3 i4 i5;refine⟨_,_,_,_,Sl.nil,Sl.nil,Sl.nil,Sl.nil,_,rfl,sm z6 h7,r,_,_,_,_,_,_,_,_,h7.r.blk,λw8 ft yy=>?_⟩;have z8:=ft.size;have r8:=fd h7.r ft;have oR:=o5 (oD (oD gE h6) h7) ft;obtain⟨q,w9,e1,fU,hm⟩:=ud r8 [123];have z9:=fU.size;refine⟨q,w9,e1,sq J fU,hm.mono ?_⟩;rintro _ dz ⟨rfl,vY⟩;have JG:=vY.o.size;have gT:=oD (oR.cd fU) vY;have g8:On ts yp (fH ts u1 [123]):=oN.trans (jX aT _);clear hm;generalize fH ts u1 [123]=u2 at*
 generalize hV:wy ts (I ts+1) [] u2=V at*
 generalize hB:dz.heap.size=bv at*
 refine⟨rfl,sm J vY,r,_,_,_,_,_,_,_,_,vY.r.blk,λnv am iD s3 s4 s5 rY uE yX Ct iF FK iN iS lE lT mt mK nO n8 c=>∃(aC:Sx) (aS:List Vr),iD=nk/\s3=T ce/\s4=T []/\s5=T []/\rY=Sl.nil/\uE=Sl.nil/\yX=Sl.nil/\Ct=Sl.nil/\iF=na/\Sr F ts c a r aC/\Own AP 3 76 bv c (Fr bv) am aS/\wy ts nv aS aC=V/\mu ts aC<nv/\I aS+mu ts aC<=I ts/\Q [] w c/\bv<=c.heap.size/\aC.d=12,
  (I ts)+1,⟨u2,[],rfl,rfl,rfl,rfl,rfl,rfl,rfl,rfl,rfl,vY.r,Own.nil _ _ _ _ _ _,hV,zm (vH _ _),afn,gT,Cz hB.symm,g8.d⟩,?_⟩
 clear hV;rintro nv am el _ _ _ _ _ _ _ dO FK iN iS lE lT mt mK nO n8 dF ⟨aC,aS,rfl,rfl,rfl,rfl,rfl,rfl,rfl,rfl,rfl,eQ,Zs,hR,rx,Cs,ip,zB,cc⟩;obtain⟨oF,rfl⟩:∃oF,nv=oF+1:=⟨nv-1,J⟩
 rw[wy]at hR;obtain⟨q,eZ,e1,eW,hm⟩:=Gy eQ [yJ] (n:=1) (parts:=#[(0,X (T yJ))]) rfl rfl Z Z;have BV:=eW.size;refine⟨q,eZ,e1,sq J eW,hm.mono ?_⟩;rintro _ fl ⟨rfl,uI⟩;have T2:=uI.o.size;have bY:=oD (ip.cd eW) uI;have co:Own AP 3 76 bv fl (Fr bv) am aS:=(Zs.stay dY eW λx hx=>aeX).stay dY uI.o λx hx=>.inl aak;refine⟨_,rfl,sm J uI,r,_,_,_,_,_,_,_,_,uI.r.blk,λoQ gw eS FO=>?_,λoQ wY tO ut uP=>?_⟩
 ·have oQ:=S1 oQ;rw[aP oQ]at hR uI;have EQ:=eS.size;have CC:=uI.r.only eS;refine⟨λk=>k=b,rfl,(agD CC UR).mono ?_⟩;rintro _ ij ⟨rfl,d⟩;have Fd:=d.o.size;have DO:=agE aT eQ.lt oQ;have Cc:=Wd aT (eF aC);generalize wx ts (eF aC)=Do at*
  obtain⟨x,u'⟩:=Do;dsimp only at*
  have FV:=vH ts aC;have BY:Own AP 3 76 bv ij (Fr bv) am aS:=(co.stay dY eS λx hx=>aeX).stay dY d.o λx hx=>.inl aak;obtain⟨y,jw,e2,n,G9,iX,e3,nE,⟨gs,f,yz⟩,_⟩:=kj (P:=aq) (t:=22) (ty:=22) (e:=76) (i:=Tryz.t76) (bytes:=32) (size:=3) (v:=ah #[X (T x.n),O U x.v,O U x.a]) (x:=x) (G:=λ_=>False) aae aae rfl rfl rfl rfl Z Z Z dY BY J rfl rfl (λk hk _=>hk.elim) J;have ux:∀q,q∈gs->bv<=q:=λq hg=>(yz q hg).2.1;have Fn:=n.size;have FS:=f.size;refine⟨_,_,_,rfl,sm J d,r,_,_,_,_,_,_,_,_,d.r.blk,λk hk bU=>(by subst hk;exact d.o.block k bU aaR),y,jw,e2,sq J n,bT.only n,G9,iX,e3,f.same (λx hx=>?_),λk hk bU=>(by subst hk;exact f.block k bU λhm=>(by have:=ux k hm;omega)),λku V Zm=>?_⟩
  ·simp only[aZ,bp,ci]at hx;exact⟨J,λhm=>by have:=ux x hm;omega⟩
  have i:=V.size;have e:Sr F ts iX a r u':=(d.r.only n).own f λx hx=>(by have:=ux x hx;omega)
  refine⟨oF,Um _,u',aS++[x],rfl,rfl,rfl,rfl,rfl,rfl,rfl,rfl,rfl,fd e V,?_,hR,J,acE,o5 (((oD (bY.cd eS) d).cd n).trans f λx hx=>.inr (by have:=ux x hx;have:=bY.size;omega)) V,J,Cc.d.trans cc⟩;refine(nE.mono dY λk hk=>?_).stay dY V λx hx=>.inl aak;rcases hk with hk | hk
  ·exact hk
  show bv<=k;omega
 have oQ:=SZ oQ;rw[aV oQ]at hR uI;subst hR;dsimp only at hC;have LT:=uI.r;refine(Qf (f:=14) LT (lg:=[am.v]) (n:=⟨el,ce,[],[],[],[],[],dO⟩) rfl rfl rfl wY ⟨cC,λhF=>(by have:=RL _ hF;omega)⟩ (by rw[cc];exact⟨Z,Z⟩) (λ_=>by
  rw[cc];exact⟨Z,Qh 14 11 Z Z Z⟩)).mono ?_
 generalize tZ ts (mX ts 14) ⟨el,ce,[],[],[],[],[],dO⟩ aC=MK at*
 obtain⟨t,s1⟩:=MK;dsimp only at hC;rw[hC]at h;dsimp only at h;rintro _ lZ ⟨rfl,s,Zu,hx,lQ,Ge⟩;dsimp only at*
 have Nm:=lQ.size;have Gg:Q [] w lZ:=bY.trans lQ λx hx=>.inr aam;have Gt:Stay bv fl lZ:=Stay.of lQ λx hx=>.inl aam;have GE:ChR aE 15 lZ (Fr w5.heap.size) ⟨aS,t⟩ am s:=⟨((co.sl dY λk hk=>hk).stay dY Z Gt).low dY J,(cf aE 15).low hx J⟩
 have C5:=hx;obtain⟨q,G,T,v,rfl,_⟩:=C5;have V:∀{aC u':av} {bs:List Nat},w5.heap.size<=aC.heap.size->Q bs aC u'->(∀x,x∈bs->x=a∨x=b)->cu [m,o,k3] aC u':=λhz bV hb=>bV.same λx hx=>⟨aam,λhm=>by have:=hb x hm;simp only[aZ,bp,ci]at hx;omega⟩
 refine⟨rfl,V J lQ aag,r,_,_,_,_,_,_,_,_,Ge.blk,am,_,_,_,_,q,G,T,v,_,Zu,?_⟩;have st:∀{aC u':av} {x:Sx},Sr F ts aC a r x->aF aC b 29 (am.v::ob t.b.k t.b.nm t.b.ini t.b.dft q G T v t.b.a)->Q [] w aC->ChR aE 15 aC (Fr w5.heap.size) ⟨aS,t⟩ am (ob t.b.k t.b.nm t.b.ini t.b.dft q G T v t.b.a)->∀{y:Sx},Dn F ts aC u' a r y->Sr F ts u' a r y/\aF u' b 29 (am.v::ob t.b.k t.b.nm t.b.ini t.b.dft q G T v t.b.a)/\Q [] w u'/\ChR aE 15 u' (Fr w5.heap.size) ⟨aS,t⟩ am (ob t.b.k t.b.nm t.b.ini t.b.dft q G T v t.b.a):=fun{aC u' x} i a2 a3 a4 {y} d=>
  ⟨d.r,d.o.blk a2 aaR,oD a3 d,a4.stay (Stay.of d.o λx hx=>.inl aak)⟩
 refine⟨λZ9 GG E1 Cu G6 IO IS Le Lt GO LE GT H1 Id If Is ID IF IN kg=>w5.heap.size<=kg.heap.size/\Sr F ts kg a r (NM ts s1)/\aF kg b 29 (am.v::ob t.b.k t.b.nm t.b.ini t.b.dft q G T v t.b.a)/\Q [] w kg/\ChR aE 15 kg (Fr w5.heap.size) ⟨aS,t⟩ am (ob t.b.k t.b.nm t.b.ini t.b.dft q G T v t.b.a),?_,?_⟩
 ·rintro Z9 GG E1 Cu G6 IO IS Le Lt GO LE GT H1 Id If Is ID IF IN kg ⟨y,i,a2,a3,a4⟩;refine(pV i).mono ?_;rintro _ nj ⟨rfl,d⟩;obtain⟨b1,b2,b3,b4⟩:=st i a2 a3 a4 (i.dn.q d);have RK:=d.size;refine⟨_,rfl,V y d aag,r,_,_,_,_,_,_,_,_,b1.blk,am,_,_,_,_,q,G,T,v,_,b2,λhf pI sF _ _ No NO f Of OF n ON OR Pi Pp=>⟨λk=>k=a,rfl,λe=>f e,λe=>n e,λth uu _ _=>?_⟩,λhf uF F _ _=>?_⟩
  ·have hf:(NM ts s1).fc≠0:=ade
   rw[aV hf]at h;subst h;exact⟨Sl.nil,_,rfl,aed _ _,(b3.cd sF).trans uu λx hx=>.inr aam⟩
  have hf:¬(NM ts s1).fc≠0:=ade
  rw[aP hf]at h;subst h;refine⟨am,_,rfl,(b4.stay (Stay.of F λx hx=>.inl aam)).low gE.size,b3.trans F λx hx=>.inr aam⟩
 refine⟨λd UV f RR s17 YU WF WP l42 l43 k l44 n x y So ST To TO UP e=>d=decide (s1.fc=0/\(tk ts s1.i).k≠5)/\w5.heap.size<=e.heap.size/\Sr F ts e a r s1/\aF e b 29 (am.v::ob t.b.k t.b.nm t.b.ini t.b.dft q G T v t.b.a)/\Q [] w e/\ChR aE 15 e (Fr w5.heap.size) ⟨aS,t⟩ am (ob t.b.k t.b.nm t.b.ini t.b.dft q G T v t.b.a),?_,λvP uv _ _=>?_⟩
 ·rintro d UV f RR s17 YU WF WP l42 l43 k l44 n x y So ST To TO UP e ⟨rfl,F,i,a2,a3,a4⟩;unfold NM;refine⟨λhb=>(wF i).mono ?_,λhb=>?_⟩
  ·rw[aV (aO hb)];rintro _ sC ⟨rfl,h26⟩;obtain⟨d,b2,b3,b4⟩:=st i a2 a3 a4 h26;have z26:=h26.o.size;exact⟨rfl,V F h26.o aag,r,_,_,_,_,_,_,_,_,d.blk,am,_,_,_,_,q,G,T,v,_,b2,J,d,b2,b3,b4⟩
  rw[aP (aU hb)];exact⟨F,i,a2,a3,a4⟩
 have z27:=uv.size;obtain⟨i,a2,a3,a4⟩:=st Ge Zu Gg GE (Ge.dn.q uv);refine(pV i).mono ?_;rintro _ zh ⟨rfl,yf⟩;obtain⟨d,F,b3,b4⟩:=st i a2 a3 a4 (i.dn.q yf);have z28:=yf.size;obtain⟨ad,g1,g2⟩:=d.now;refine⟨_,rfl,V J yf aag,r,_,_,_,_,_,_,_,_,d.blk,am,_,_,_,_,q,G,T,v,_,F,λhb=>⟨ad,g1,_,g2.dP 0 _ rfl,?_,J,d,F,b3,b4⟩,λhb=>⟨?_,J,d,F,b3,b4⟩⟩
 ·have hb:s1.fc=0:=abS
  rw[bL];simp[hb]
 have hb:¬s1.fc=0:=abS
 simp[hb]
def Bu(w:av)(b k:Nat):Prop:=∃n c,w.cell? ⟨b,1,aaa⟩=aM (.slice (aM ⟨k,0,aaa⟩) n c)
structure Mw (f:Bool) (b:Nat) (w w':av):Prop where
 o:aD (λk=>k=b∨(f=aL/\Bu w b k)) w w'
 u:∀k,Bu w' b k->Bu w b k∨(f=aL/\w.heap.size<=k)
abbrev St:=Bool×Int
structure Qz (w0:av) (b:Nat) (w:av) (l:aH) (st:St):Prop where
 o:Q [] w0 w
 lo:w0.heap.size<=b
 ex:∃(q:Option Addr) (sl:Sl),(q=aaa∨q=aM ⟨b,0,aaa⟩)/\aF w b 216 [ae q,sl.v,aj st.1,O U st.2]/\Bf w (b+1) sl l
 i:st.1=aL->0<=st.2/\st.2<=400
 big:I l<=274877906944
structure Up (st:St) (c:Bool) (n:Nat) (dq:St):Prop where
 w:dq.1=((st.1||!c)||decide (400<st.2+n))
 a:dq.1=aL->dq.2=st.2+n
def or3{a b c}(h:aL=((a||!b)||c)):a=aL/\b=aE/\c=aL:=by
 revert h;cases a<;>cases b<;>cases c<;>decide
def Up.ok{st dq}{c}{n}(h:Up st c n dq)(e:dq.1=aL):st.1=aL/\c=aE/\dq.2=st.2+n/\¬400<st.2+n:=by
 obtain⟨a,b,d⟩:=or3 (e.symm.trans h.w);exact⟨a,b,h.a e,aU d⟩
def Up.tr{st dq aiL}{c c'}{n n'}(h:Up st c n dq)(k:Up dq c' n' aiL):Up st (c&&c') (n+n') aiL:=by
 cases e:aiL.1
 ·obtain⟨d,f,k3,j⟩:=k.ok e;obtain⟨a,b,g,i⟩:=h.ok d;have c:¬400<st.2+((n+n':Nat)):=J
  refine⟨?_,λ_=>J⟩;rw[e,a,b,f,bA c];rfl
 refine⟨?_,λb=>by rw[e]at b;cases b⟩;rw[e];refine Eq.symm (bQ λj=>?_);obtain⟨f,a,c⟩:=or3 (fx.2 j).symm;rw[aR]at a;have c:=aU c;have g:¬400<st.2+n:=J
 have d:dq.1=aL:=by rw[h.w,f,a.1,bA g];rfl
 have b:=h.a d;have i:¬400<dq.2+n':=J
 have:=k.w;rw[e,d,a.2,bA i]at this;cases this
def Up.cg{st dq}{c c'}{n n'}(h:Up st c n dq)(e:c=c')(a:n=n'):Up st c' n' dq:=by subst e a;exact h
def Up.le{st dq}{c}{n}(h:Up st c n dq)(f:st.1=aL->0<=st.2)(e:dq.1=aL):0<=dq.2/\dq.2<=400:=by
 obtain⟨a,b,d,g⟩:=h.ok e;have:=f a;omega
section
variable {f g:Bool} {w0 ws w w' w1 vO:av} {b k:Nat} {l l':aH} {st dq:St} {ks ks':List Nat}
def Mw.refl f b w:Mw f b w w:=⟨OnlyP.refl _ _,λ_ h=>.inl h⟩
def Mw.trans(a:Mw f b w w')(k:Mw f b w' vO):Mw f b w vO:=by
 have z:=a.o.size;refine⟨a.o.trans k.o λx h=>?_,λx h=>?_⟩
 ·rcases h with h | ⟨f,h⟩
  ·exact .inl (.inl h)
  rcases a.u x h with e | ⟨_,e⟩
  ·exact .inl (.inr ⟨f,e⟩)
  exact .inr e
 rcases k.u x h with e | ⟨f,e⟩
 ·exact a.u x e
 exact .inr ⟨f,J⟩
def Mw.up(h:Mw f b w w'):Mw aL b w w':=⟨h.o.mono λk _ hk=>hk.elim .inl λe=>.inr ⟨rfl,e.2⟩,λk hk=>(h.u k hk).elim .inl λe=>.inr ⟨rfl,e.2⟩⟩
def Mw.only1(h:Mw aE b w w'):Q [b] w w':=h.o.aon λk hk=>hk.elim (λe=>.inl (by rw[e];simp)) λe=>(by cases e.1)
def zX(a:w'.heap[b]? =w.heap[b]?){k}(d:Bu w' b k):Bu w b k:=by
 obtain⟨n,c,h⟩:=d;refine⟨n,c,?_⟩;unfold World.cell? at h⊢;rw[a]at h;exact h
def Qz.lb(h:Qz w0 b w l st):b<w.heap.size:=by
 obtain⟨q,sl,_,B,_⟩:=h.ex;exact B.lt
def Qz.arg(h:Qz w0 b w l st)(a:Qz w0 b w' l' dq){k}(hk:k<w0.heap.size):w'.heap[k]? =w.heap[k]? :=(a.o.block k hk aag).trans (h.o.block k hk aag).symm
def Mw.only(a:b<w.heap.size)(h:Q [] w w'):Mw f b w w':=⟨h.p0,λk hk=>.inl (zX (h.block b a aag) hk)⟩
def Qi{q v2 v3}{t}{sl:Sl}(B:aF w b t [q,sl.v,v2,v3]){k}(h:Bu w b k):sl.a=aM ⟨k,0,aaa⟩:=by
 obtain⟨n,c,d⟩:=h;have:=Blk.dP B 1 rfl 0 sl.v rfl;have e:(Addr.add ⟨b,0,aaa⟩ 1).add 0=⟨b,1,aaa⟩:=rfl;rw[e,d]at this;have:=Db this;injection this with a _ _;exact a.symm
def Lc{q v2 v3}{t}{sl:Sl}(B:aF w b t [q,sl.v,v2,v3]){k}(h:sl.a=aM ⟨k,0,aaa⟩):Bu w b k:=by
 have:=Blk.dP B 1 rfl 0 sl.v rfl;have e:(Addr.add ⟨b,0,aaa⟩ 1).add 0=⟨b,1,aaa⟩:=rfl;rw[e]at this;refine⟨sl.n,sl.c,?_⟩;rw[this,<-h]
def Qz.bu(h:Qz w0 b w l st){k}(hk:Bu w b k):b<k/\k<w.heap.size:=by
 obtain⟨q,sl,_,B,a⟩:=h.ex;have:=a.lt (Qi B hk);omega
def Qz.only(h:Qz w0 b w l st)(a:Q [] w w'):Qz w0 b w' l st:=by
 obtain⟨q,sl,e,B,c⟩:=h.ex;exact⟨h.o.cd a,h.lo,⟨q,sl,e,a.blk B aag,c.keep λg _ d=>a.block g d aag⟩,h.i,h.big⟩
structure Zq (f:Bool) (w0 ws:av) (b:Nat) (w:av) (l:aH) (st:St) (ks:List Nat):Prop extends Qz w0 b w l st where
 m:Mw f b ws w
 k:∀k,k∈ks->k<w.heap.size/\k≠b/\¬Bu w b k
def Qz.z f (h:Qz w0 b w l st):Zq f w0 w b w l st []:=⟨h,Mw.refl f b w,λk hk=>afs⟩
def Zq.q(t:Zq f w0 ws b w l st ks)(h:Q [] w w'):Zq f w0 ws b w' l st ks:=by
 have a:=t.toQz.lb;refine⟨t.toQz.only h,t.m.trans (Mw.only a h),λk hk=>?_⟩;obtain⟨d,e,g⟩:=t.k k hk;exact⟨cV d h.size,e,λc=>g (zX (h.block b a aag) c)⟩
def Zq.al(t:Zq f w0 ws b w l st ks)(c:Q [] w w')(g:w.heap.size<=k)(d:k<w'.heap.size):Zq f w0 ws b w' l st (k::ks):=by
 have e:=t.toQz.lb;have a:=t.q c;refine⟨a.toQz,a.m,λx h=>?_⟩;rcases aZ.1 h with rfl | h
 ·exact⟨d,J,λf=>by have:=(t.toQz.bu (zX (c.block b e aag) f)).2;omega⟩
 exact a.k x h
def Zq.nx(t:Zq f w0 ws b w l st ks)(p:Qz w0 b w' l' dq)(m:Mw f b w w'):Zq f w0 ws b w' l' dq ks:=by
 refine⟨p,t.m.trans m,λk hk=>?_⟩;obtain⟨a,c,d⟩:=t.k k hk;exact⟨cV a m.o.size,c,λh=>(m.u k h).elim d λe=>by have:=e.2;omega⟩
def Zq.sq(t:Zq f w0 ws b w l st ks)(h:Q [] w w')(hk:∀k,k∈ks'->k∈ks):cu ks' w w':=h.same λx a=>⟨(t.k x (hk x a)).1,aag⟩
def Zq.sm(t:Zq f w0 ws b w l st ks)(m:Mw g b w w')(hk:∀k,k∈ks'->k∈ks):cu ks' w w':=m.o.same λx h=>⟨(t.k x (hk x h)).1,λa=>a.elim (t.k x (hk x h)).2.1 λe=>(t.k x (hk x h)).2.2 e.2⟩
def Zq.sj(t:Zq f w0 ws b w l st ks)(z:w.heap.size<=w1.heap.size)(h:aD (λk=>w.heap.size<=k) w1 w')(hk:∀k,k∈ks'->k∈ks):cu ks' w1 w':=h.same λx a=>by
 have:=(t.k x (hk x a)).1;exact⟨J,J⟩
def Zq.row(t:Zq aE w0 ws b w l st ks)(r:b<ws.heap.size)(u:∀k,Bu ws b k->k<ws.heap.size)(h:aD (λk=>ws.heap.size<=k) w w'):Zq aE w0 ws b w' l st ks:=by
 have o:=t.lo;have a:=λk hk=>(t.m.u k hk).elim id λe=>(by cases e.1)
 have F:=h.block b t.toQz.lb J;obtain⟨q,sl,p,B,f⟩:=t.ex;refine⟨⟨⟨h.os.trans t.o.os,h.tape.trans t.o.tape,h.output.trans t.o.output,bD t.o.size h.size,λk hk _=>(h.block k (cV hk t.o.size) J).trans (t.o.block k hk aag)⟩,o,⟨q,sl,p,F.trans B,f.keep λg m n=>h.block g n λe=>(by have:=u g (a g (Lc B m));omega)⟩,t.i,t.big⟩,⟨t.m.o.trans h λk hk=>.inr hk,λk hk=>.inl (a k (zX F hk))⟩,λk hk=>?_⟩;obtain⟨d,i,j⟩:=t.k k hk;exact⟨cV d h.size,i,λc=>j (zX F c)⟩
def bT.of{ks}(h:cu ks w w'):bT (λk=>k∈ks) w w':=λk hk _=>h k hk
def wG{w2}(a:Q [] w w1)(b:aD (λk=>w.heap.size<=k) w1 w2):Q [] w w2:=(a.qz b).only λ_ h=>h
end
def WA w (s:List _) {n} {parts} (p:parts=(((s.map λx=>Value.string (T x)).zipIdx 0).map λx=>(x.2,x.1)).toArray) (h:I s=n) (k:0<n) (o:n*1<=16777216):
  ∃(q:Sl) (a:av) (g:Nat) (c:aI),(au 32 n parts).run aq w=.ok q.v a/\Q [] w a/\w.heap.size<=g/\g<a.heap.size/\aF a g 9 c/\
   ∀(e:Nat) x,s[e]? =aM x->cR q e 1 ⟨g,e,aaa⟩/\∀w,aF w g 9 c->aB w ⟨g,e,aaa⟩ [X (T x)]:=by
 obtain⟨q,a,l,m,k3⟩:=ld w s p h k o;rcases m with⟨_,e⟩ | ⟨g,j,tail,d,f,b,r,t,u,v,i⟩
 ·subst e;simp at h;omega
 refine⟨q,a,g,_,l,k3,f,b.lt,b,λe x hx=>⟨⟨_,d,ba e,?_,?_⟩,λw B=>Blk.at0 B e ?_⟩⟩
 ·have:=(bc.1 hx).1;omega
 ·rw[gC,aW,rm,bP]
 have:(s.map λx=>Value.string (T x))[e]? =aM (X (T x)):=ahN
 rw[NW i,bX (bc.1 this).1,this]
section
variable {w0 w:av} {b:Nat} {l:aH} {st:St}
def WB b j:(Addr.add ⟨b,0,aaa⟩ j)=⟨b,j,aaa⟩:=by rw[gC,bP]
def Qz.set(h:Qz w0 b w l st):∃(q:Option Addr) (sl:Sl),aF w b 216 [ae q,sl.v,aj st.1,O U st.2]/\
  ∀a d,Q [b] w a->aF a b 216 [ae q,sl.v,aj d.1,O U d.2]->(d.1=aL->0<=d.2/\d.2<=400)->Qz w0 b a l d/\Mw aE b w a:=by
 obtain⟨q,sl,m,B,e⟩:=h.ex;exact⟨q,sl,B,λn F c s i=>⟨⟨⟨c.os.trans h.o.os,c.tape.trans h.o.tape,c.output.trans h.o.output,bD h.o.size c.size,λk hk _=>(c.block k (cV hk h.o.size) (by have:=h.lo;simp;omega)).trans (h.o.block k hk aag)⟩,h.lo,⟨q,sl,m,s,e.keep λg f j=>c.block g j (by have:=(e.lt f).1;simp;omega)⟩,i,h.big⟩,⟨c.p λx hx=>.inl (.inl acD),λk hk=>.inl (Lc B (Qi s hk))⟩⟩⟩
def Qz.up0(h:Qz w0 b w l st):Up st aE 0 st:=by
 refine⟨?_,λ_=>aag⟩;cases e:st.1
 ·have:=(h.i e).2;have a:¬400<st.2+((0:Nat)):=J
  rw[bA a];rfl
 rfl
def Qj{q}{sl:Sl}{wr}{ac}(h:aF w b 216 [ae q,sl.v,aj wr,O U ac]) ok:az aq 131 #[rp b,aj ok] w λe a=>
  e=ak (ai #[])/\Q [b] w a/\aF a b 216 [ae q,sl.v,aj (wr||!ok),O U ac]:=by
 exact ret (ami _ ok _ w ⟨wr,Blk.dP h 2 rfl,b,2,_,_,WB b 2,h,aag,λd c s=>⟨rfl,c,s⟩⟩)
def mR(h:Qz w0 b w l st) ok:az aq 131 #[rp b,aj ok] w λe a=>e=ak (ai #[])/\∃d,Up st ok 0 d/\Qz w0 b a l d/\Mw aE b w a:=by
 obtain⟨q,sl,B,M⟩:=h.set;refine(Qj B ok).mono ?_;rintro _ f ⟨rfl,c,s⟩;have u:Up st ok 0 (st.1||!ok,st.2):=by
  refine⟨?_,λe=>aag⟩;cases e:st.1
  ·have:=(h.i e).2;have b:¬400<st.2+((0:Nat)):=J
   rw[bA b,JJ]
  simp
 exact⟨rfl,_,u,M f _ c s λe=>u.le (λe=>(h.i e).1) e⟩
def pW(h:Qz w0 b w l st) s (j:I s<9223372036854775807):az aq 133 #[rp b,X (T s)] w λe a=>e=ak (X (T s))/\∃d,Up st (dJ s) 0 d/\Qz w0 b a l d/\Mw aE b w a:=by
 refine ret (amk _ _ ?_);refine(Wn s j).mono ?_;rintro _ k ⟨rfl,c⟩;refine⟨_,rfl,(mR (h.only c) _).mono ?_⟩;rintro _ m ⟨rfl,d,f,g,i⟩;exact⟨rfl,rfl,d,f,g,(Mw.only h.lb c).trans i⟩
def Qk(o:Qz w0 b w l st){F}{x}{cs}(j:rE aL w F x cs)(q:SU x)(s:Eb x<=1759218604441)(E:Er w0)(p:Tb w0):
  az aq 209 #[rp b,ah cs.toArray] w λe m=>e=ak (X (T (xT x)))/\∃d,Up st (uc x) 0 d/\Qz w0 b m l d/\Mw aE b w m:=by
 obtain⟨A,rfl⟩:=eU j;refine ret (am4 _ _ _ _ _ _ _ ?_);intro r u Z z c;have t:=(o.z aE).al c Z z;refine(abk ((jf aL).keep j λk _ n=>c.block k n aag) q s (E.only t.o) (p.only t.o)).mono ?_;rintro _ v ⟨rfl,f⟩;have a:=t.q f;refine⟨_,rfl,t.sq f aag,(mR a.toQz _).mono ?_⟩;rintro _ y ⟨rfl,d,h,g,i⟩;rw[show ao #[]=T []from rfl,iv]at h;have e:(!decide (xT x=[]))=uc x:=by unfold uc;rw[decide_not]
 rw[e]at h;exact⟨rfl,a.sm i aag,rfl,d,h,g,(a.nx g i).m⟩
def Ql(i:Qz w0 b w l st){F}{x}{cs}(c:rE aL w F x cs):
  az aq 210 #[rp b,ah cs.toArray] w λe g=>e=ak (ai #[])/\∃q,Up st (rI x) 0 q/\Qz w0 b g l q/\Mw aE b w g:=by
 have N:∃s,cs=nR x.k x.n x.s x.op s x.a/\s.n=I x.dD:=by
  obtain⟨d,c⟩:=c;cases d with
  | zero=>exact c.elim
  | succ d=>
   obtain⟨sl,h,a,_⟩:=c;exact⟨sl,h,a.len⟩
 obtain⟨s,rfl,j⟩:=N;refine ret (am5 _ _ _ _ _ _ _ ?_);intro k m Z z D;have t:=(i.z aE).al D Z z;refine(mR t.toQz _).mono ?_;rintro _ n ⟨rfl,q,h,a,f⟩;rw[show ao #[]=T []from rfl,iv,j]at h;exact⟨rfl,t.sm f aag,rfl,q,h,a,(t.nx a f).m⟩
def Qm(h:Qz w0 b w l st):az aq 136 #[rp b] w λe a=>e=ak (aj (decide (16384<I l)))/\a=w:=by
 refine ret (amm _ ?_);obtain⟨q,sl,d,B,c⟩:=h.ex;refine(adR _ (λv a=>v=O U (I l)/\a=w) w ?_).mono ?_
 ·exact⟨sl,Blk.dP B 1 rfl,by rw[c.len],rfl⟩
 rintro _ w ⟨v,rfl,rfl,rfl⟩;refine⟨_,rfl,?_,rfl⟩;congr 1;simp;omega
end
def GA(a:Ac):Nat:=Eb a.x+(I a.n+1)
def ki:List Ac->Nat
 | []=>0
 | a::l=>GA a+ki l
def rJ{a:Ac}:∀{l:List Ac},a∈l->GA a<=ki l
 | [],h=>acr
 | x::l,h=>by
  rw[ki];rcases aZ.1 h with rfl | h
  ·omega
  have:=rJ h;omega
def gZ:∀(l:List Ac),I l<=ki l
 | []=>be _
 | a::l=>by
  have:=gZ l;rw[ki,aY];unfold GA;omega
def Ld(l:List (aH)):Nat:=(l.map λs=>I s+1).sum
def Fe(m:Mv):Nat:=(ki m.acts+Eb m.g)+(Ld m.tg+(I m.ev+1))
def Ib(x:Ex):I (xT x)<=16384:=by
 by_cases h:xT x=[]
 ·rw[h];exact be _
 obtain⟨c,b,a⟩:=K4 h;refine bQ λd=>?_;have e:xT x=rG (Fa x) x aL []:=b;rw[<-e]at a;unfold iU at a;have:di (xT x)=([],2, -1):=by rw[di,aV J]
 rw[this,aV Z]at a;exact absurd a (show ¬(2:Int)=0 by decide)
def vd{s:aH}(h:dJ s=aE):ne s=aE:=by
 unfold dJ at h;simp only[aR]at h;have:=(aO h.1.1.1).1;unfold ne;rw[bA this];rfl
def anB{x:Ex}(h:uc x=aE):ne (xT x)=aE:=by
 unfold ne;rw[bA (aO h)];rfl
def sW{x:aH}(h:ne x=aE)(w:List (aH)):iC (x::w)=x++Lib.joinTail [32] (w.filter ne):=by
 unfold iC;rw[uz,h,aV rfl,Lib.join_cons]
def ia(x:aH)(r:List (aH)):Lib.joinTail [32] (x::r)=32::(x++Lib.joinTail [32] r):=by
 unfold Lib.joinTail;rw[bS,eH];rfl
def pE:Lib.joinTail [32] []=[]:=rfl
def ic{x:aH}(h:ne x=aE)(w:List (aH)):(x::w).filter ne=x::w.filter ne:=by rw[uz,h,aV rfl]
def WC(w:List (aH)):([]::w).filter ne=w.filter ne:=by rw[uz,aP Z]
def Z0(a:Ac):List (aH):=if a.k=2 then[lh,a.n]else[if a.k=1 then sf else mV,a.n,[61],xT a.x]
def aee{a:Ac}(h:iZ a=aE):iC (Z0 a)++[59]=CP a:=by
 unfold iZ at h;simp only[aR]at h;obtain⟨⟨d,b⟩,c⟩:=h;unfold Z0 CP;by_cases hk:a.k=2
 ·rw[aV hk,aV hk,sW Z,ic (vd b),fM,ia,pE];simp
 rw[aP hk]at c;have w:ne (if a.k=1 then sf else mV)=aE:=by split<;>decide
 rw[aP hk,aP hk,sW w,ic (vd b),ic Z,ic (anB c),fM,ia,ia,ia,pE];simp
def abo(a:Ac):I (iC (Z0 a))<=16398+I a.n:=by
 refine bD (kO _) ?_;have:=Ib a.x;unfold Z0;split
 ·simp only[bS,gU,dk,lU];show 5+1+(I a.n+1+0)<=_;omega
 simp only[bS,gU,dk,lU];have:I (if a.k=1 then sf else mV)<=4:=by split<;>decide
 show _+1+(I a.n+1+(1+1+(_+1+0)))<=_;omega
section
variable {w0 w:av} {b:Nat} {l:aH} {st:St}
def anC(i:Qz w0 b w l st){F:aJ}{a:Ac}{c:aI}(h:qy aL w F a c)(r:∀k,F k->k<w0.heap.size)(H:Gv a)(K:GA a<=1759218604441)(E:Er w0)(G:Tb w0):
  az aq 208 #[rp b,ah c.toArray] w λe d=>∃s f,e=ak (X (T s))/\I s<=16400+I a.n/\(iZ a=aE->s=CP a)/\Up st (iZ a) 0 f/\Qz w0 b d l f/\Mw aE b w d:=by
 obtain⟨N,rfl,h⟩:=h;obtain⟨P,rfl⟩:=eU h;unfold GA at K;refine ik (am3 _ _ _ _ _ _ _ _ _ _ ?_);intro u L C B D;have y:=(i.z aE).al D C B;obtain⟨q,M,g,c,A,p,m,o,v,z⟩:=WA L [[],sf,lh,mV] (n:=4) (parts:=#[.mk 0 (X (ao #[])),.mk 1 (X (ao #[115,101,116])),.mk 2 (X (ao #[114,97,105,115,101])),.mk 3 (X (ao #[101,109,105,116]))]) rfl rfl Z Z;have t:=y.al p m o;have tail:=abo a;refine⟨q,M,A,y.sq p aag,λj=>?_,λj=>?_⟩
 ·refine(mR t.toQz aL).mono ?_;rintro _ w ⟨rfl,f,l,b,k⟩;have hk:iZ a=aL:=by
   unfold iZ;have:¬(1<=a.k/\a.k<=3):=by
    simp only[cE,bG]at j;omega
   rw[bA this];rfl
  exact⟨rfl,t.sm k aag,[],f,rfl,be _,λe=>(by rw[hk]at e;cases e),by rw[hk];exact l,b,(t.nx b k).m⟩
 have b:1<=a.k/\a.k<=3:=by
  simp only[fy,dl]at j;omega
 have w:∀x,[[],sf,lh,mV][a.k.toNat]? =aM x->cR q a.k 1 ⟨g,a.k.toNat,aaa⟩/\∀d,aF d g 9 c->aB d ⟨g,a.k.toNat,aaa⟩ [X (T x)]:=λx h=>by
  have:=z _ x h;rwa[fL J]at this
 refine⟨λme=>?_,λme l e=>?_⟩
 ·have hk:a.k=2:=ahK
  have hW:Z0 a=[lh,a.n]:=by unfold Z0;rw[aV hk]
  refine(Ql t.toQz ((jf aL).keep h λk hk _=>i.arg t.toQz (r k hk))).mono ?_;rintro _ w3 ⟨rfl,am,u1,u2,W⟩;have t3:=t.nx u2 W;refine⟨rfl,t.sm W aag,λw4 dI=>⟨λk=>k∈[u,g],aag,?_⟩⟩;have x:=t3.q dI;obtain⟨y1,y2⟩:=w lh afF;have sE:aF w4 g 9 c:=(t3.sq (ks':=[g]) dI aag g aag).trans ((t.sm (ks':=[g]) W aag g aag).trans v);refine⟨_,y1,aag,_,y2 w4 sE,(pW x.toQz a.n J).mono ?_⟩;rintro _ w5 ⟨rfl,V,v1,v2,Y⟩;have q:=x.nx v2 Y;obtain⟨q6,w6,e6,s,_,hj⟩:=Gx w5 [lh,a.n] (n:=2) (parts:=#[.mk 0 (X (T lh)),.mk 1 (X (T a.n))]) rfl rfl Z Z (by rw[<-hW];omega);have z6:=s.size;refine⟨_,rfl,x.sm Y aag,bT.of (x.sm Y aag),q6,w6,e6,q.sq s aag,bT.of (q.sq s aag),hj.mono ?_⟩;rintro _ w7 ⟨rfl,R⟩;have fR:=wG s R;have t7:=q.q fR;have hU:=u1.tr v1;have S:iZ a=(rI a.x&&dJ a.n):=by
   unfold iZ;rw[aV hk,bF b,cr,Bool.and_comm]
  rw[<-S]at hU;rw[<-hW];refine⟨_,rfl,q.sj z6 R aag,bT.of (q.sj z6 R aag),aa2,iC (Z0 a)++[59],V,adu,acE,λS=>aee S,hU,t7.toQz,t7.m⟩
 have hk:a.k≠2:=ahK
 have hW:Z0 a=[if a.k=1 then sf else mV,a.n,[61],xT a.x]:=by unfold Z0;rw[aP hk]
 have S:=t.q e;obtain⟨y1,y2⟩:=w (if a.k=1 then sf else mV) (by
  by_cases k:a.k=1
  ·rw[aV k,k];rfl
  rw[aP k,show a.k=3 by omega];rfl)
 have yy:aF l g 9 c:=(t.sq (ks':=[g]) e aag g aag).trans v;refine⟨λk=>k∈[u,g],aag,_,y1,aag,_,y2 l yy,aag,(pW S.toQz a.n J).mono ?_⟩;rintro _ w9 ⟨rfl,aS,u1,u2,u3⟩;have x:=S.nx u2 u3;refine⟨_,rfl,S.sm u3 aag,bT.of (S.sm u3 aag),(Qk x.toQz ((jf aL).keep h λk hk _=>i.arg x.toQz (r k hk)) H J E G).mono ?_⟩;rintro _ dz ⟨rfl,W,v1,v2,v3⟩;have q:=x.nx v2 v3;obtain⟨aC,dF,Y,R,_,hj⟩:=Gx dz [if a.k=1 then sf else mV,a.n,[61],xT a.x] (n:=4) (parts:=#[.mk 0 (X (T (if a.k=1 then sf else mV))),.mk 1 (X (T a.n)),.mk 2 (X (T [61])),.mk 3 (X (T (xT a.x)))]) rfl rfl Z Z (by rw[<-hW];omega);have C3:=R.size;refine⟨_,rfl,x.sm v3 aag,bT.of (x.sm v3 aag),aC,dF,Y,q.sq R aag,bT.of (q.sq R aag),hj.mono ?_⟩;rintro _ eZ ⟨rfl,V⟩;have eW:=wG R V;have s:=q.q eW;have hU:=u1.tr v1;have kf:iZ a=(dJ a.n&&uc a.x):=by
  unfold iZ;rw[aP hk,bF b,cr]
 rw[<-kf]at hU;rw[<-hW];refine⟨_,rfl,q.sj C3 V aag,bT.of (q.sj C3 V aag),aa2,iC (Z0 a)++[59],W,adu,acE,λkf=>aee kf,hU,s.toQz,s.m⟩
end
def Up.bad{st d:St}{c b:Bool}{n g:Nat}(j:Up st c n d)(e:d.1=aE)(k:b=aE->c=aE)(l:n<=g):Up st b g d:=by
 refine⟨?_,λf=>by rw[e]at f;cases f⟩;rw[e];refine Eq.symm (bQ λhk=>?_);obtain⟨h,i,a⟩:=or3 (fx.2 hk).symm;have a:=aU a;have:=j.w;rw[e,h,k i,bA (show ¬400<st.2+(n:Int) by omega)]at this;cases this
def zY:∀(l m:List Ac),ki (l++m)=ki l+ki m
 | [],m=>by rw[bR];show _=0+_;omega
 | a::l,m=>by rw[bZ,ki,ki,zY l m];omega
def agF(a:Ac):ne (CP a)=aE:=by
 have:CP a≠[]:=by unfold CP;split<;>simp
 unfold ne;rw[bA this];rfl
def WD:∀l:List Ac,Lib.joinTail [32] ((l.map CP).filter ne)=zT l
 | []=>rfl
 | a::l=>by rw[bS,ic (agF a),ia,WD l,zT]
def agG(x y:List (aH)):Lib.joinTail [32] (x++y)=Lib.joinTail [32] x++Lib.joinTail [32] y:=by
 unfold Lib.joinTail;rw[cK,Jq]
def anE(l:List Ac):iC ([123]::(l.map CP++[[125]]))=ze l:=by
 rw[sW Z,gJ,agG,WD];rfl
def aef{d:av}{B:Nat}{s:Sl}{f:List (aH)}(n:Own mh 1 9 B d (λ_=>True) s f)(x:aH)(o:B<=d.heap.size)(p:I f<=1073741824):
  ∃y w,(au 32 1 #[.mk 0 (X (T x))]).run aq d=.ok (Sl.v y) w/\Q [] d w/\∃c a,(Builtin.append_ #[32,32] 32 #[Sl.v s,Sl.v y]).run aq w=.ok (Sl.v c) a/\
   Own mh 1 9 B a (λ_=>True) c (f++[x])/\∃b,Q b w a/\∀g,g∈b->s.a=aM ⟨g,0,aaa⟩/\B<=g:=by
 obtain⟨y,w,l,D,c,a,m,E,⟨b,j,z⟩,_⟩:=kj (P:=aq) (t:=32) (ty:=32) (e:=9) (i:=Tryz.t9) (bytes:=16) (size:=1) (v:=X (T x)) (x:=x) (G:=λ_=>False) aae aae rfl rfl rfl rfl Z Z Z du n o rfl rfl (λk hk _=>hk.elim) J;exact⟨y,w,l,D,c,a,m,E.mono du λk _=>trivial,b,j,λg h=>⟨(z g h).1,(z g h).2.1⟩⟩
def _root_.Go.Kt.Own.YA{w d:av}{B b:Nat}{s:Sl}{f:List (aH)}(h:Own mh 1 9 B w (λ_=>True) s f)(r:Q [b] w d)(t:b<B):Own mh 1 9 B d (λ_=>True) s f:=by
 rcases h with⟨rfl,rfl⟩ | ⟨g,a,tail,i,j,l,m,n,o,q,p⟩
 ·exact .inl ⟨rfl,rfl⟩
 have e:∀{b:List (aH)} {a:List (aI)},qB mh 1 w (λk=>True/\k≠g) b a->qB mh 1 d (λk=>True/\k≠g) b a:=fun{b}=>by
  induction b with
  | nil=>intro a h;cases a with | nil=>trivial | cons _ _=>exact h
  | cons x b e=>intro a h;cases a with | nil=>exact h | cons c a=>exact⟨h.1,e h.2⟩
 exact .inr ⟨g,a,tail,i,j,r.blk l aah,m,n,o,q,e p⟩
def WE{a:Type}{p:a->Bool}{s:List a}{j:Nat}(h:s.all p=aE):(s.take j).all p=aE:=by
 rw[dx]at h⊢;exact λx b=>h x (List.mem_of_mem_take b)
def Lh(w:List (aH))(x:aH):((w++[x]).map λl=>I l+1).sum=(w.map λl=>I l+1).sum+(I x+1):=by
 rw[cK,ZU];simp
section
variable {w0 w:av} {b:Nat} {l:aH} {st:St}
def Ic(h:Qz w0 b w l st){F:aJ}{s:Sl}{c:List Ac}(hx:aA (qy aL) 9 w F s c)(g:∀k,F k->k<w0.heap.size)(j:∀a,a∈c->Gv a)(m:ki c<=16777216)(E:Er w0)(i:Tb w0):
  az aq 176 #[rp b,s.v] w λe f=>∃t d,e=ak (X (T t))/\I t<=16405*ki c/\(d.1=aL->t=if c=[]then[]else ze c)/\Up st (c.all iZ) (I c) d/\Qz w0 b f l d/\Mw aE b w f:=by
 refine ik (amN _ _ ?_);have N:=hx.len;have z:=gZ c;refine⟨λhc=>?_,λhc=>?_⟩
 ·have hc:s.n=0:=by have:((s.n:Int))=0:=aaj;omega
  have:c=[]:=bH J;subst this;exact⟨[],st,rfl,be _,λ_=>(aV rfl).symm,h.up0,h,Mw.refl _ _ _⟩
 have D:c≠[]:=λe=>by
  subst e;have:s.n=0:=N;rw[this]at hc;exact absurd hc Z
 obtain⟨q,sl,C,M⟩:=h.set;refine⟨st.2,Blk.dP C 3 rfl,b,3,_,_,WB b 3,C,aag,λw1 K H=>⟨_,Blk.dP H 3 rfl,(Qj (q:=q) (sl:=sl) (wr:=st.1) (ac:=ar U (st.2+(s.n:Int))) H _).mono ?_⟩⟩;rintro _ o ⟨rfl,L,S⟩;have p:Up st aE (I c) (st.1||!decide (ar U (st.2+(s.n:Int))<=400),ar U (st.2+(s.n:Int))):=by
  cases e:st.1
  ·have:=h.i e;have b:ar U (st.2+(s.n:Int))=st.2+I c:=by rw[N];exact fh J J
   rw[b];refine⟨?_,λ_=>rfl⟩;rw[e];by_cases a:st.2+(I c:Int)<=400
   ·rw[bF a,bA J];rfl
   rw[bA a,bF J];rfl
  exact⟨by rw[e];rfl,λa=>by cases a⟩
 obtain⟨t,Y⟩:=M o _ (K.trans L λx hx=>.inl hx) S λe=>p.le (λe=>(h.i e).1) e;generalize (st.1||!decide (ar U (st.2+(s.n:Int))<=400),ar U (st.2+(s.n:Int)))=A at*
 have r:=t.lb;have u:∀k,Bu o b k->k<o.heap.size:=λk hk=>(t.bu hk).2;obtain⟨q3,W,R,P,B,_⟩:=Gx o [[123]] (n:=1) (parts:=#[.mk 0 (X (T [123]))]) rfl rfl Z Z Z;have V:=(t.z aE).q P;refine⟨rfl,q3,W,R,λv f=>∃w d,Own mh 1 9 o.heap.size f (λ_=>True) v w/\I w<=16777217/\(w.map λl=>I l+1).sum<=2+16401*ki c/\(d.1=aL->w=[123]::c.map CP)/\Up A (c.all iZ) 0 d/\Zq aE w0 o b f l d [],?_,?_⟩
 ·rintro v w4 ⟨w,G,a,aS,aT,n,l,q⟩;have z4:=q.m.o.size;obtain⟨y,w5,e5,eh,s6,w6,e6,b,gs,dK,yz⟩:=aef a [125] z4 J;refine⟨y,w5,e5,s6,w6,e6,?_⟩;have t6:=(q.q eh).row r u (dK.p (F:=λk=>o.heap.size<=k) λx hx=>.inl (yz x hx).2);have Uc:=Lh w [125];have mH:=kO (w++[[125]]);have am:I ([125]:aH)=1:=rfl;refine(Ef b J acE).mono ?_;rintro _ w7 ⟨rfl,T⟩;have s:=t6.row r u T;have aC:1<=ki c:=by
   have:1<=I c:=mM.2 D;omega
  refine⟨_,rfl,iC (w++[[125]]),G,rfl,J,λe=>?_,(p.tr l).cg aag aag,s.toQz,Y.trans s.m⟩;rw[aP D,n e];exact anE c
 refine⟨λnv v cc f=>∃(n:Nat) (w:List (aH)) (d:St),cc=n/\n<=I c/\nv=(I c)-n/\Own mh 1 9 o.heap.size f (λ_=>True) v w/\I w<=n+1/\(w.map λl=>I l+1).sum<=2+16401*ki (c.take n)/\(d.1=aL->w=[123]::(c.take n).map CP)/\Up A ((c.take n).all iZ) 0 d/\Zq aE w0 o b f l d [],
  (I c),⟨0,[[123]],A,rfl,be _,rfl,B,aX _,aX _,λ_=>rfl,t.up0,V⟩,?_⟩
 rintro nv l4 _ w7 ⟨n,w,T,rfl,hj,rfl,q,bY,bV,bv,R6,t7⟩;have z7:=t7.m.o.size;have YK:ki c=ki (c.take n)+ki (c.drop n):=by rw[<-zY,fk]
 refine⟨λhc=>?_,λhc=>?_⟩
 ·have bU:(n:Int)<s.n:=aO hc;have cC:aA (qy aL) 9 w7 F s c:=SliceF.keep (cT aL) hx Z λk hk _=>h.arg t7.toQz (g k hk);obtain⟨ad,a,cs,g1,g2,g3,g4,g5,g6⟩:=cC.get (ba n) bU;rw[aW]at g2;have ha:=bn g2;have oP:c.take (n+1)=c.take n++[a]:=by
   rw[bh,g2];rfl
  have co:ki (c.take (n+1))=ki (c.take n)+GA a:=by
   rw[oP,zY];show _+(GA a+0)=_;omega
  have dO:ki c=ki (c.take (n+1))+ki (c.drop (n+1)):=by rw[<-zY,fk]
  obtain⟨xc,rfl,ce⟩:=g6;obtain⟨xl,rfl⟩:=eU ce;refine⟨ad,g1,_,_,_,_,_,_,_,_,_,g5,λk5 w8 rl BI ft=>?_⟩;have t8:=t7.al ft rl BI;obtain⟨q8,el,yy,_⟩:=t8.toQz.set;refine⟨T.1,Blk.dP yy 2 rfl,λhw=>?_,λhw=>?_⟩
  ·have a:Zq aE w0 o b w8 l T []:=⟨t8.toQz,t8.m,λk hk=>afs⟩
   have s:=q.keep du λk hk bU=>ft.block k bU aag;exact⟨w,T,s,J,J,λe=>absurd (hw.symm.trans e) Z,R6.bad hw WE (aX _),a⟩
  refine(anC t8.toQz ((cT aL).keep ⟨_,rfl,ce⟩ λk _ bU=>ft.block k bU aag) g (j a ha) (by have:=rJ ha;omega) E i).mono ?_;rintro _ w9 ⟨tx,iD,rfl,iF,gG,s,h9,b⟩;have t9:=t8.nx h9 b;have gO:∀gE,l4.a=aM ⟨gE,0,aaa⟩->o.heap.size<=gE/\gE<w7.heap.size:=λgE l=>by
   rcases q with⟨rfl,_⟩ | ⟨y,x,G,a,e,k,_⟩
   ·cases l
   rw[a]at l;injection l with l;injection l with l;subst l;exact⟨e,k.lt⟩
  have gT:Own mh 1 9 o.heap.size w9 (λ_=>True) l4 w:=by
   have a:=q.keep du (w':=w8) λk hk bU=>ft.block k bU aag;refine(a.mono (G:=λ_=>True) du λ_ _=>trivial).YA b.only1 r
  obtain⟨y,dz,g8,dX,Cu,dF,ip,Zs,gs,dT,yz⟩:=aef gT tx (bD z7 (bD ft.size b.o.size)) J;have eQ:=t9.q dX;have fd:=eQ.row r u (dT.p (F:=λk=>o.heap.size<=k) λx hx=>.inl (yz x hx).2);have Cu:cu [k5] dz dF:=dT.same λx hx=>by
   have:=(eQ.k x acD).1;refine⟨this,λa=>?_⟩;have:=(gO x (yz x a).1).2;simp only[aN]at hx;omega
  have Uc:=Lh w tx;refine⟨_,rfl,t8.sm b aag,y,dz,g8,t9.sq dX aag,_,dF,ip,Cu,(I c)-(n+1),J,n+1,w++[tx],iD,aaf,J,rfl,Zs,acE,?_,λe=>?_,(R6.tr s).cg ?_ rfl,⟨fd.toQz,fd.m,λk hk=>afs⟩⟩
  ·rw[Uc,co];have:16400+I a.n+1<=16401*GA a:=by unfold GA;omega
   omega
  ·obtain⟨a,k,_⟩:=s.ok e;rw[bv a,gG k,oP,cK];rfl
  rw[oP,jc];simp
 have a:¬(n:Int)<s.n:=aU hc;have l:n=I c:=J
 subst l;rw[bm (aX _)]at bV bv R6;exact⟨w,T,q,J,bV,bv,R6,t7⟩
end
def at9{w:av}{F:aJ}{s:Sl}{a:List (aH)}(h:aA mh 1 w F s a)(p:aH)(l:I (Lib.join a p)<=140737488355328)(n:I a<=140737488355328):
  az aq 204 #[s.v,X (T p)] w λe c=>e=ak (X (T (Lib.join a p)))/\Q [] w c:=by
 have f:=h.len;have J:=h.cap;obtain⟨b,sn,sc⟩:=s;dsimp only at f J;subst f;cases a with
 | nil=>
  refine(Tryz.strings_Join_none b sc (T p) w).mono ?_;rintro _ d ⟨rfl,rfl⟩;exact⟨rfl,Only.refl _ _⟩
 | cons x a=>
  obtain⟨s,t,g,u,A,j,i⟩:=h.at_ 0 x rfl;have g:b=aM s:=g;unfold mh at i;subst i g;have d:=j 0 _ rfl;have M:s.spot=aaa:=by
   unfold World.cell? at d;split at d
   ·split at d
    ·cases d
    rename_i x;have e:((s.add (0*1)).add 0).spot=s.spot:=rfl;rw[e]at x;rcases hb:s.spot with _|v
    ·rfl
    rw[hb]at x;simp at x
   cases d
  obtain⟨k,o,sp⟩:=s;dsimp only at M;subst M;have r:k<w.heap.size:=by
   have e:((Addr.add ⟨k,o,aaa⟩ (0*1)).add 0:Addr)=⟨k,o,aaa⟩:=by simp[Addr.add]
   rw[e]at d;refine bQ λn=>?_;unfold World.cell? at d;rw[iR abI]at d;cases d
  have:=Tryz.strings_Join k o sc ((x::a).map T) (T p) w (λm y q=>by
   rw[cF,fz]at q;obtain⟨z,v,rfl⟩:=q;obtain⟨s,t,g,u,A,j,i⟩:=h.at_ m z v;unfold mh at i;subst i;cases g;have:=j 0 _ rfl;have e:((Addr.add ⟨k,o,aaa⟩ (m*1)).add 0:Addr)=⟨k,o+m,aaa⟩:=by simp[Addr.add]
   rw[e]at this;exact this) r aeH aeH (by
   rw[gR];have:((λx:aK=>x.data.toList)∘T)=id:=rfl;rw[this,Ur];exact l)
  rw[bK]at this;refine this.mono ?_;rintro _ C ⟨rfl,B⟩;refine⟨?_,Only.below B⟩;rw[gR];have:((λx:aK=>x.data.toList)∘T)=id:=rfl;rw[this,Ur]
def Qn:∀l:List (aH),Lib.joinTail [44,32] l=Gu l
 | []=>rfl
 | s::l=>by
  unfold Lib.joinTail;rw[bS,eH];show[44,32]++s++Lib.joinTail [44,32] l=_;rw[Qn l];rfl
def Qo(s:aH)(l:List (aH)):I (Lib.join (s::l) [44,32])<=2*Ld (s::l):=by
 have h:∀l:List (aH),I (Gu l)<=2*Ld l:=λl=>by
  induction l with
  | nil=>exact be _
  | cons s l i=>
   unfold Ld at i⊢;rw[bS,dk,Gu,aY,aY,aQ];omega
 rw[Lib.join_cons,Qn,aQ];have:=h l;have e:Ld (s::l)=(I s+1)+Ld l:=by unfold Ld;rw[bS,dk]
 omega
def ve(l:List (aH)):I l<=Ld l:=by
 unfold Ld
 induction l with
 | nil=>exact be _
 | cons s l i=>rw[bS,dk,aY];omega
def Ie{s:aH}{l:List (aH)}(h:s∈l):I s+1<=Ld l:=by
 unfold Ld
 induction l with
 | nil=>simp at h
 | cons x l i=>
  rw[bS,dk];rcases aZ.1 h with rfl | h
  ·omega
  have:=i h;omega
def hdM(m:Mv):aH:=if m.k=1 then iC [CL,m.ev]else if m.k=3 then iC [jD,Lib.itoa m.wt]else iV
def gdM(m:Mv):aH:=if m.gd then 91::(xT m.g++[93])else[]
def Ut(m:Mv):aH:=match m.tg with
 | []=>[]
 | s::l=>45::62::32::(s++Gu l)
def Li{n:Int}(h:tn n):I (Lib.itoa n)<=21:=Lib.itoa_length_le n h.1 h.2
def abp(n:Int):ne (Lib.itoa n)=aE:=by
 have:Lib.itoa n≠[]:=by
  unfold Lib.itoa;split
  ·simp
  rw[Lib.decDigits];split<;>simp
 unfold ne;rw[bA this];rfl
def WG{m:Mv}(h:mz m=aE):iC [hdM m,gdM m,(if m.acts=[]then[]else ze m.acts),Ut m]++[59]=Fb m:=by
 unfold mz at h;simp only[aR]at h;obtain⟨⟨⟨⟨⟨c,a⟩,d⟩,f⟩,g⟩,i⟩:=h;have b:hdM m=ZY m/\ne (hdM m)=aE:=by
  unfold hdM ZY;by_cases k:m.k=1
  ·rw[aV k]at a;rw[aV k,aV k,sW Z,ic (vd a),fM,ia,pE,bE];exact⟨rfl,rfl⟩
  rw[aP k,aP k];by_cases k3:m.k=3
  ·rw[aV k3,aV k3,sW Z,ic (abp _),fM,ia,pE,bE];exact⟨rfl,rfl⟩
  rw[aP k3,aP k3];exact⟨rfl,Z⟩
 rw[sW b.2,b.1];unfold Fb;rw[bq];congr 1;have e:Lib.joinTail [32] ([gdM m,(if m.acts=[]then[]else ze m.acts),Ut m].filter ne)=SW m++((if m.acts=[]then[]else 32::ze m.acts)++(match m.tg with
  | []=>[]
  | s::l=>32::45::62::32::(s++Gu l))):=by
  have k:∀w:List (aH),Lib.joinTail [32] ((gdM m::w).filter ne)=SW m++Lib.joinTail [32] (w.filter ne):=λw=>by
   unfold gdM SW;cases m.gd
   ·simp only[nH,lS];rw[WC];rfl
   simp only[Cy];rw[ic (by rfl),ia];rfl
  have j:∀w:List (aH),Lib.joinTail [32] (((if m.acts=[]then[]else ze m.acts)::w).filter ne)=(if m.acts=[]then[]else 32::ze m.acts)++Lib.joinTail [32] (w.filter ne):=λw=>by
   by_cases l:m.acts=[]
   ·rw[aV l,aV l,WC];rfl
   rw[aP l,aP l,ic (by rfl),ia];rfl
  rw[k,j];congr 2;unfold Ut;cases m.tg with
  | nil=>rfl
  | cons s l=>
   rw[ic (by rfl),ia,fM,pE,bE]
 rw[e];simp only[bq]
 all_goals rfl
def mvB(m:Mv):((((if m.k=1 then dJ m.ev else if m.k=3 then decide (0<=m.wt)else decide (m.k=2))&&((decide (m.ev=[])||(m.k==1))&&((m.wt==0)||(m.k==3))))&&(if m.gd then uc m.g else rI m.g))&&(m.tg.all dJ&&m.acts.all iZ))=mz m:=by
 unfold mz;generalize (if m.gd then uc m.g else rI m.g)=A;generalize m.tg.all dJ=B;generalize m.acts.all iZ=C;generalize dJ m.ev=D;by_cases k:m.k=1
 ·rw[aV k,aV k,k];cases D<;>cases A<;>cases B<;>cases C<;>by_cases h:m.wt=0<;>simp[h]
 rw[aP k,aP k];by_cases k3:m.k=3
 ·rw[aV k3,k3];cases A<;>cases B<;>cases C<;>by_cases h:m.ev=[]<;>by_cases w:m.wt=0<;>by_cases p:0<m.wt<;>simp[w,h,p]<;>omega
 rw[aP k3];by_cases a:m.k=2
 ·rw[a];cases A<;>cases B<;>cases C<;>by_cases h:m.ev=[]<;>by_cases w:m.wt=0<;>simp[w,h]
 have:¬(1<=m.k/\m.k<=3):=J
 rw[bA this,bA a];simp
section
variable {w0 w:av} {b:Nat} {l:aH} {st:St}
def agI(h:Qz w0 b w l st){j:aJ}{m:Mv}{o:aI}(C:D7 aL w j m o)(F:∀k,j k->k<w0.heap.size)(f:UQ m)(v:Fe m<=16777216)(E:Er w0)(p:Tb w0):
  az aq 177 #[rp b,ah o.toArray] w λe a=>∃t d,e=ak (X (T t))/\I t<=16450*Fe m/\(d.1=aL->t=Fb m)/\Up st (mz m) (I m.acts) d/\Qz w0 b a l d/\Mw aE b w a:=by
 obtain⟨M,P,i,rfl,q,B,L⟩:=C;obtain⟨N,rfl⟩:=eU q;have B:=B.1;have L:=L.1;have z:=v;unfold Fe at z;refine ik (amO _ _ _ _ _ _ _ _ _ _ _ _ _ _ ?_);intro g R u r D;have c:=(h.z aE).al D u r;have G:=L.len;have A:=ve m.tg;refine⟨λK a=>∃hd d,K=T hd/\I hd<=30+I m.ev/\(d.1=aL->hd=hdM m)/\Up st (if m.k=1 then dJ m.ev else if m.k=3 then decide (0<=m.wt)else decide (m.k=2)) 0 d/\Zq aE w0 w b a l d [g],?_,λhc=>?_,λhc=>⟨λH=>?_,λH=>?_⟩⟩
 ·rintro _ w2 ⟨hd,zg,rfl,yU,Y,V,t2⟩;refine(mR t2.toQz _).mono ?_;rintro _ w3 ⟨rfl,am,u1,u2,u3⟩;have t:=t2.nx u2 u3;have W:=V.tr u1;rw[show ao #[]=T []from rfl,iv]at W;refine⟨rfl,t2.sm u3 aag,λs1 a=>∃gt d,s1=T gt/\I gt<=16386/\(d.1=aL->gt=gdM m)/\Up am (if m.gd then uc m.g else rI m.g) 0 d/\Zq aE w0 w b a l d [g],?_,λS=>?_,λS=>?_⟩
  ·rintro _ w4 ⟨gt,OZ,rfl,cc,bV,bv,t4⟩;refine⟨λnv ce a=>∃(aC:Nat) (d:St),ce=aC/\aC<=I m.tg/\nv=(I m.tg)-aC/\Up OZ ((m.tg.take aC).all dJ) 0 d/\Zq aE w0 w b a l d [g],I m.tg,⟨0,OZ,rfl,be _,rfl,t4.toQz.up0,t4⟩,?_⟩;rintro nv _ w5 ⟨aC,bY,rfl,hj,rfl,aS,t5⟩;have aT:aA mh 1 w5 j i m.tg:=SliceF.keep du L Z λk hk _=>h.arg t5.toQz (F k hk);refine⟨λhc=>?_,λhc=>?_⟩
   ·have l:(aC:Int)<i.n:=aO hc;obtain⟨ad,x,o,n,b,g3,g4,w,e⟩:=aT.get (ba aC) l;rw[aW]at b;unfold mh at e;subst e;have y:=Ie (bn b);refine⟨ad,n,_,w,(pW t5.toQz x J).mono ?_⟩;rintro _ w6 ⟨rfl,s,T,v2,k⟩;refine⟨_,rfl,t5.sm k aag,(I m.tg)-(aC+1),J,aC+1,s,aaf,J,rfl,(aS.tr T).cg ?_ rfl,t5.nx v2 k⟩;rw[bh,b,jc];simp
   have ma:¬(aC:Int)<i.n:=aU hc;have x:aC=I m.tg:=J
   subst x;rw[bm (aX _)]at aS;refine⟨λs4 a=>s4=T (Ut m)/\Zq aE w0 w b a l bY [g],?_,λhc=>?_,λhc=>?_⟩
   ·rintro _ w7 ⟨rfl,t7⟩;refine(Ic t7.toQz (SliceF.keep (cT aL) B Z λk hk _=>h.arg t7.toQz (F k hk)) F f.a J E p).mono ?_;rintro _ w8 ⟨w,cC,rfl,el,co,b,v2,v3⟩;have t8:=t7.nx v2 v3;have dO:I (Ut m)<=3+2*Ld m.tg:=by
     unfold Ut;cases hm:m.tg with
     | nil=>exact be _
     | cons s l=>
      have:=Qo s l;rw[Lib.join_cons,Qn]at this;rw[aY,aY,aY];omega
    have mH:=kO [hd,gt,w,Ut m];simp only[bS,gU,dk,lU]at mH;have RJ:Fe m=(ki m.acts+Eb m.g)+(Ld m.tg+(I m.ev+1)):=rfl;obtain⟨q9,w9,e9,s,_,eQ⟩:=Gx w8 [hd,gt,w,Ut m] (n:=4) (parts:=#[.mk 0 (X (T hd)),.mk 1 (X (T gt)),.mk 2 (X (T w)),.mk 3 (X (T (Ut m)))]) rfl rfl Z Z J;have z9:=s.size;refine⟨_,rfl,t7.sm v3 aag,q9,w9,e9,t8.sq s aag,eQ.mono ?_⟩;rintro _ dz ⟨rfl,k⟩;have l:=t8.q (wG s k);have hU:=(W.tr bv).tr (aS.tr b);refine⟨_,rfl,t8.sj z9 k aag,aa2,iC [hd,gt,w,Ut m]++[59],cC,adu,acE,λe=>?_,hU.cg ?_ J,l.toQz,l.m⟩
    ·obtain⟨x5,x8,_⟩:=b.ok e;obtain⟨T,gO,_⟩:=aS.ok x5;obtain⟨x3,gG,_⟩:=bv.ok T;obtain⟨n,gE,_⟩:=u1.ok x3;obtain⟨x1,fd,_⟩:=V.ok n;rw[Y n,bV T,co e];refine WG ?_;obtain⟨_,y,_⟩:=hU.ok e;exact(mvB m).symm.trans y
    exact mvB m
   ·have b:m.tg≠[]:=λe=>by
     rw[e]at G;have:i.n=0:=G;rw[this]at hc;exact absurd hc Z
    have w:I (Lib.join m.tg [44,32])<=2*Ld m.tg:=by
     cases k:m.tg with
     | nil=>exact absurd k b
     | cons s l=>exact Qo s l
    refine(at9 aT [44,32] J J).mono ?_;rintro _ y ⟨rfl,n⟩;refine⟨_,rfl,t5.sq n aag,aa2,?_,t5.q n⟩;rw[show ao #[45,62,32]=T [45,62,32]from rfl,fJ];congr 1;unfold Ut;cases k:m.tg with
    | nil=>exact absurd k b
    | cons s l=>
     rw[Lib.join_cons,Qn];rfl
   have b:m.tg=[]:=bH aa6;refine⟨?_,t5⟩;unfold Ut;rw[b]
  ·refine(Qk t.toQz ((jf aL).keep q λk hk _=>h.arg t.toQz (F k hk)) f.g J E p).mono ?_;rintro _ w ⟨rfl,e,n,s,b⟩;have l:=t.nx s b;have:=Ib m.g;refine⟨_,rfl,t.sm b aag,aa2,?_,91::(xT m.g++[93]),e,?_,aah,λ_=>by unfold gdM;rw[aV S],by rw[aV S];exact n,l⟩
   ·rw[show ao #[91]=T [91]from rfl,fJ,cM,aQ,bB];omega
   rw[show ao #[91]=T [91]from rfl,show ao #[93]=T [93]from rfl,fJ,fJ];rfl
  refine(Ql t.toQz ((jf aL).keep q λk hk _=>h.arg t.toQz (F k hk))).mono ?_;rintro _ w ⟨rfl,e,l,n,b⟩;exact⟨rfl,t.sm b aag,[],e,rfl,be _,λ_=>by unfold gdM;rw[aP (by rw[S];decide)],by rw[aP (by rw[S];decide)];exact l,t.nx n b⟩
 ·have hk:m.k=1:=aaj
  refine(pW c.toQz m.ev J).mono ?_;rintro _ S ⟨rfl,Y,x,y,k⟩;have t:=c.nx y k;have w:=kO [CL,m.ev];simp only[bS,gU,dk,lU]at w;have hw:I CL=2:=rfl;obtain⟨q3,V,s,e,_,l⟩:=Gx S [CL,m.ev] (n:=2) (parts:=#[.mk 0 (X (T CL)),.mk 1 (X (T m.ev))]) rfl rfl Z Z J;have W:=e.size;refine⟨_,rfl,c.sm k aag,q3,V,s,t.sq e aag,l.mono ?_⟩;rintro _ w4 ⟨rfl,b⟩;exact⟨_,rfl,t.sj W b aag,_,Y,rfl,J,λ_=>by unfold hdM;rw[aV hk],by rw[aV hk];exact x,t.q (wG e b)⟩
 ·have w:m.k≠1:=aaj
  have hk:m.k=3:=by simpa using H
  refine(mR c.toQz _).mono ?_;rintro _ w2 ⟨rfl,zg,W,Y,x⟩;have t:=c.nx Y x;refine⟨rfl,c.sm x aag,(CM m.wt f.w (p.only t.o)).mono ?_⟩;rintro _ w3 ⟨rfl,s⟩;have l:=t.q s;have S:=kO [jD,Lib.itoa m.wt];simp only[bS,gU,dk,lU]at S;have hw:I jD=5:=rfl;have RS:=Li f.w;obtain⟨V,w4,y,e,_,k⟩:=Gx w3 [jD,Lib.itoa m.wt] (n:=2) (parts:=#[.mk 0 (X (T jD)),.mk 1 (X (T (Lib.itoa m.wt)))]) rfl rfl Z Z J;have z4:=e.size;refine⟨_,rfl,t.sq s aag,V,w4,y,l.sq e aag,k.mono ?_⟩;rintro _ w5 ⟨rfl,b⟩;exact⟨_,rfl,l.sj z4 b aag,_,zg,rfl,J,λ_=>by unfold hdM;rw[aP w,aV hk],by rw[aP w,aV hk];exact W,l.q (wG e b)⟩
 have b:m.k≠1:=aaj
 have y:m.k≠3:=by simpa using H
 refine(mR c.toQz _).mono ?_;rintro _ w ⟨rfl,n,k,l,e⟩;have t:=c.nx l e;refine⟨rfl,c.sm e aag,iV,n,rfl,by show 6<=_;omega,λ_=>by unfold hdM;rw[aP b,aP y],by rw[aP b,aP y];exact k,t⟩
end
def WH{w:av}{b:Nat}{q:Option Addr}{v a c:aw}(f:q=aaa∨q=aM ⟨b,0,aaa⟩)(h:aF w b 216 [ae q,v,a,c]):
  az aq 201 #[ae (aM ⟨b,0,aaa⟩)] w λe d=>e=ak (ai #[])/\Q [b] w d/\aF d b 216 [ae (aM ⟨b,0,aaa⟩),v,a,c]:=by
 refine ret (adT _ ?_);have J:w.shape? b=aM (216,4):=by
  unfold World.shape?;unfold aF at h;rw[h];rfl
 refine⟨q,Blk.dP h 0 rfl,λn=>?_,λn=>⟨q,Blk.dP h 0 rfl,?_⟩⟩
 ·have r:=Lib.run_to_unsafe (P:=aq) (src:=212) (dst:=293) w ⟨b,0,aaa⟩ (t:=214) (j:=Tryz.t214) aae aae aae Z J (by decide:(0:Nat)<4);have e:=Lib.run_from_unsafe (P:=aq) (src:=293) (dst:=212) w ⟨b,0,aaa⟩ (u:=214) (j:=Tryz.t214) aae aae aae J aae;exact⟨⟨ae (aM ⟨b,0,aaa⟩),rfl⟩,w,r,⟨ae (aM ⟨b,0,aaa⟩),rfl⟩,w,ad6 _ w,aM ⟨b,0,aaa⟩,w,e,b,0,_,_,rfl,h,aag,λi g B=>⟨rfl,g,B⟩⟩
 rcases f with rfl | rfl
 ·cases n
 exact⟨aL,w,Lib.run_neq_ptr_same w _ (te:=214) (j:=Tryz.t214) aae aae,λe=>aeZ,λ_=>⟨rfl,Only.refl _ _,h⟩⟩
section
variable {w0 w:av} {b:Nat} {l:aH} {st:St}
def abq(h:Qz w0 b w l st)(m:aH)(t:I l+I m<=274877906944):az aq 170 #[ae (aM ⟨b,0,aaa⟩),X (T m)] w λe n=>
  e=ak (ai #[O U (I m:Int),.nilIface])/\Qz w0 b n (l++m) st/\Mw aL b w n:=by
 refine ret (adQ _ _ ?_);obtain⟨q,sl,u,B,f⟩:=h.ex;refine(WH u B).mono ?_;rintro _ A ⟨rfl,c,M⟩;have D:=c.size;have C:=B.lt;have AM:Bf A (b+1) sl l:=f.keep λg hg d=>c.block g d (by have:=(f.lt hg).1;simp;omega);obtain⟨s,p,v,y,k3,j⟩:=CN AM m J J;have E:=k3.size;have z:aF p b 216 [ae (aM ⟨b,0,aaa⟩),sl.v,aj st.1,O U st.2]:=k3.blk M λe=>afi
 have AK:∀g,s.a=aM ⟨g,0,aaa⟩->b<g:=λg hg=>by
  rcases j with e | e
  ·rw[e]at hg;exact(AM.lt hg).1
  rw[e]at hg;injection hg with hg;injection hg with hg;omega
 refine⟨rfl,sl,Blk.dP M 1 rfl,s,p,v,b,1,_,_,rfl,z,aag,λr i o=>?_⟩;have o:aF r b 216 [ae (aM ⟨b,0,aaa⟩),s.v,aj st.1,O U st.2]:=o;have a:aD (λk=>k=b∨(aL=aL/\Bu w b k)) w r:=((c.p (F:=λk=>k=b∨(aL=aL/\Bu w b k)) λx hx=>.inl (.inl acD)).trans k3 λk hk=>.inl (.inr ⟨rfl,Lc B hk⟩)).trans (i.p (F:=λk=>k=b) λx hx=>.inl acD) λk hk=>.inl (.inl hk);refine⟨by rw[cM],⟨?_,h.lo,⟨_,_,.inr rfl,o,y.keep λg hg d=>i.block g d adZ⟩,h.i,by rw[aQ];exact t⟩,a,λk hk=>?_⟩
 ·refine⟨a.os.trans h.o.os,a.tape.trans h.o.tape,a.output.trans h.o.output,bD h.o.size a.size,λk hk _=>(a.block k (cV hk h.o.size) ?_).trans (h.o.block k hk aag)⟩;rintro(e | ⟨_,e⟩)
  ·have:=h.lo;omega
  have:=(h.bu e).1;have:=h.lo;omega
 have e:=Qi o hk;rcases j with b | b
 ·exact .inl (Lc B (b▸e))
 rw[b]at e;injection e with e;injection e with e;exact .inr ⟨rfl,J⟩
def Zq.sl{f g:Bool}{i d c:av}{a s:List Nat}(t:Zq f w0 i b w l st a)(e:Q [] w d)(m:Mw g b w c)(hk:∀k,k∈s->k∈a):cu s d c:=λx h=>
 (t.sm m hk x h).trans (t.sq e hk x h).symm
def Qp:∀d,Lib.repeatL [32,32] d=wE d
 | 0=>rfl
 | d+1=>by rw[Lib.repeatL,Qp d];rfl
def Qq:∀d,I (wE d)=2*d
 | 0=>rfl
 | d+1=>by rw[wE,aY,aY,Qq d];omega
def BT(h:Qz w0 b w l st)(s:List (aH)){n:Nat}{parts:Array (Nat×aw)}(p:parts=(((s.map λx=>Value.string (T x)).zipIdx 0).map λx=>(x.2,x.1)).toArray)(o:I s=n)(j:0<n)(v:n*1<=16777216)(d:Nat)(hd:d<=12)(y:I (iC s)<=274877889536):
  ∃(q:Sl) (a:av),(au 32 n parts).run aq w=.ok q.v a/\Q [] w a/\az aq 132 #[rp b,O U (d:Int),q.v] a λe f=>e=ak (ai #[])/\Qz w0 b f (if st.1 then l else kJ l (d,iC s)) st/\Mw aL b w f:=by
 obtain⟨q,a,i,c,D⟩:=ld w s p o j v;refine⟨q,a,i,D,?_⟩;have t:=(h.z aE).q D;have m:=h.lb;have u:∀k,Bu w b k->k<w.heap.size:=λk hk=>(h.bu hk).2;refine ret (amj _ _ _ ?_);refine(Qm t.toQz).mono ?_;rintro _ A ⟨rfl,rfl⟩;obtain⟨z,sl,B,_⟩:=t.toQz.set;refine⟨_,rfl,st.1,λ_=>Blk.dP B 2 rfl,λhc r g=>?_,λhc=>?_⟩
 ·simp only[aR,de,dl]at hc;obtain⟨w,q⟩:=hc;have x:=t.q g;refine(Tryz.strings_Repeat (T [32,32]) d r J (by show 2*d<=_;omega)).mono ?_;rintro _ F ⟨rfl,E⟩;have e:=Only.below E;have C:=x.q e;have N:=c.keep du (w':=F) λk hk n=>(g.cd e).block k n aag;have H:=Qq d;refine⟨T (wE d),by rw[show(T [32,32]).data.toList=[32,32]from rfl,Qp],(Ef N J J).mono ?_⟩;rintro _ G ⟨rfl,P⟩;have l:=C.row m u P;refine⟨_,rfl,by rw[cM,cM];omega,by rw[fJ,cM,aQ];omega,?_⟩;rw[show ao #[10]=T [10]from rfl,fJ,fJ,show(Addr.add ⟨b,0,aaa⟩ 0:Addr)=⟨b,0,aaa⟩from rfl];refine(abq l.toQz _ ?_).mono ?_
  ·simp only[aQ,aY,bC];omega
  rintro _ k ⟨rfl,b,d⟩;refine⟨_,⟨.nilIface,rfl⟩,rfl,rfl,?_,l.m.up.trans d⟩;rw[q,aP Z];unfold kJ lnT;rw[aP w];dsimp only;rw[bq]at b;exact b
 refine⟨rfl,?_,t.m.up⟩;have:(if st.1 then l else kJ l (d,iC s))=l:=by
  cases e:st.1
  ·rw[e]at hc;have hc:16384<I l:=aaj
   rw[aP Z];unfold kJ;rw[aV hc]
  rfl
 rw[this];exact t.toQz
def Ej(h:Qz w0 b w l st)(d:Nat)(hd:d<=12)(word t:aH)(f:I word<=100)(c:I t<=274877880000):
  az aq 175 #[rp b,O U (d:Int),X (T word),X (T t)] w λe a=>e=ak (ai #[])/\Qz w0 b a (if st.1||decide (t=[])then l else kJ l (d,iC [word,t])) st/\Mw aL b w a:=by
 refine ret (amM _ _ _ _ ?_);rw[show ao #[]=T []from rfl,iv];refine⟨λhc=>?_,λhc=>?_⟩
 ·have hc:t≠[]:=aaj
  have H:=kO [word,t];simp only[bS,gU,dk,lU]at H;obtain⟨q,w,e,D,j⟩:=BT h [word,t] (n:=2) (parts:=#[.mk 0 (X (T word)),.mk 1 (X (T t))]) rfl rfl Z Z d hd J;refine⟨q,w,e,j.mono ?_⟩;rintro _ g ⟨rfl,b,m⟩;refine⟨rfl,rfl,?_,m⟩;rw[bA hc,JJ];exact b
 have hc:t=[]:=aaj
 refine⟨rfl,?_,Mw.refl _ _ _⟩;rw[bF hc,pM,aV rfl];exact h
end
def wH:List Mv->Nat
 | []=>0
 | m::l=>Fe m+wH l
def yu(b:Nb):Nat:=((I b.nm+I b.ini)+(I b.dft+1))+((ki b.en+ki b.lv)+wH b.mv)
mutual
def mj:Nd->Nat
 | .mk b l=>yu b+jm l
def jm:List Nd->Nat
 | []=>0
 | x::l=>mj x+jm l
end
def oA{m:Mv}:∀{l:List Mv},m∈l->Fe m<=wH l
 | [],h=>acr
 | x::l,h=>by
  rw[wH];rcases aZ.1 h with rfl | h
  ·omega
  have:=oA h;omega
def mA:∀(l:List Mv),I l<=wH l
 | []=>be _
 | m::l=>by
  have:=mA l;rw[wH,aY];unfold Fe;omega
def nB{x:Nd}:∀{l:List Nd},x∈l->mj x<=jm l
 | [],h=>acr
 | y::l,h=>by
  rw[jm];rcases aZ.1 h with rfl | h
  ·omega
  have:=nB h;omega
def abr(x:Nd):1<=mj x:=by
 obtain⟨b,l⟩:=x;rw[mj];unfold yu;omega
def oB:∀(l:List Nd),I l<=jm l
 | []=>be _
 | x::l=>by
  have:=oB l;have:=abr x;rw[jm,aY];omega
def zZ{x:Nd}:∀{l:List Nd},zU l->x∈l->Ci x
 | [],_,h=>acr
 | y::l,n,h=>by
  rw[zU]at n;rcases aZ.1 h with rfl | h
  ·exact n.1
  exact zZ n.2 h
def yP(d:Nat)(x:Nd):∀l:List Nd,iL d (l++[x])=(iL d l&&jY d x)
 | []=>by simp[iL]
 | y::l=>by rw[bZ,iL,iL,yP d x l,sJ]
def Bb(x:Nd):∀l:List Nd,nS (l++[x])=nS l+yt x
 | []=>by simp[nS]
 | y::l=>by rw[bZ,nS,nS,Bb x l];omega
def Bc(d:Nat)(x:Nd):∀l:List Nd,qn d (l++[x])=qn d l++Fc d x
 | []=>by simp[qn]
 | y::l=>by rw[bZ,qn,qn,Bc d x l,bq]
def Ek(x:Nb)(k:List Nd)(d:Nat):Bool:=(decide (x.ini=[])||dJ x.ini)&&(x.en.all iZ&&(x.lv.all iZ&&(x.mv.all mz&&iL d k)))
def pF(l:aH)(p:Ln):ey l [p]=kJ l p:=rfl
def WI(l:List Ac):ze l≠[]:=by unfold ze;simp
def Aa{d:St}{l a b:aH}{L M:List Ln}{F:St}{c:Bool}{n:Nat}(g:Up F c n d)(h:F.1=aL->a=ey l L)(f:d.1=aL->b=ey a M):d.1=aL->b=ey l (L++M):=λe=>by
 rw[f e,h (g.ok e).1,gP]
def WJ(D:Nat):Prop:=∀(w a:av) (b:Nat) (l:aH) (st:St) (F:aJ) (x:Nd) (c:aI) (d:Nat),Qz w b a l st->lO aL D a F x c->(∀k,F k->k<w.heap.size)->Ci x->mj x<=8388608->d<=12->Er w->Tb w->
 az aq 178 #[rp b,ah c.toArray,O U (d:Int)] a λe g=>e=ak (ai #[])/\∃q f,Up st (jY d x) (yt x) q/\(q.1=aL->f=ey l (Fc d x))/\Qz w b g f q/\Mw aL b a g
section
variable {w0 w:av} {b:Nat} {l:aH} {st:St}
def WK{D:Nat}(N:WJ D)(f:Qz w0 b w l st){F:aJ}{x:Nb}{u z mv kids:Sl}{s:List Nd}(H:H4 aL w F x u z mv)(hk:li aL (lO aL D) 9 27 w F kids s)(h:∀k,F k->k<w0.heap.size)(j:nbN x)(m:zU s)(K:yu x+jm s<=8388608)(d:Nat)(hd:d<=12)(E:Er w0)(g:Tb w0):
  az aq 135 #[rp b,ah (ob x.k x.nm x.ini x.dft u z mv kids x.a).toArray,O U (d:Int)] w λe c=>e=ak (ai #[])/\∃q a,Up st (Ek x s d) (BR x+nS s) q/\(q.1=aL->a=ey l (FE d x++qn d s))/\Qz w0 b c a q/\Mw aL b w c:=by
 have M:=K;unfold yu at M;have V:=mA x.mv;have L:=oB s;obtain⟨A,r,o⟩:=H;have A:=A.1;have r:=r.1;have o:=o.1;have hk:=hk.1;refine ret (aml _ _ _ _ _ _ _ _ _ _ _ ?_);intro p P G C B;have t:=(f.z aL).al B G C;rw[show ao #[]=T []from rfl,iv];refine⟨λc=>∃i v,Up st (decide (x.ini=[])||dJ x.ini) 0 i/\(i.1=aL->v=ey l (xU d x))/\Zq aL w0 w b c v i [p],?_,λhc=>?_,λhc=>?_⟩
 ·rintro w2 ⟨zg,Y,am,yW,t2⟩;refine(Ic t2.toQz (SliceF.keep (cT aL) A Z λk hk _=>f.arg t2.toQz (h k hk)) h j.en J E g).mono ?_;rintro _ w3 ⟨l,S,rfl,aT,aS,W,q3,m3⟩;have t3:=t2.nx q3 m3.up;refine⟨_,rfl,t2.sm m3 aag,(Ej t3.toQz d hd jk l Z J).mono ?_⟩;rintro _ w4 ⟨rfl,q4,m4⟩;have t4:=t3.nx q4 m4;have aC:S.1=aL->(if S.1||decide (l=[])then Y else kJ Y (d,iC [jk,l]))=ey Y (P7 d x):=λe=>by
   rw[e,aS e];unfold P7;by_cases R:x.en=[]
   ·rw[aV R,aV R];rfl
   rw[aP R,aP R,bA (WI _),aP Z,pF,sW Z,ic (by rfl),fM,ia,pE,bE]
  generalize (if S.1||decide (l=[])then Y else kJ Y (d,iC [jk,l]))=l4 at*
  refine⟨rfl,t3.sm m4 aag,(Ic t4.toQz (SliceF.keep (cT aL) r Z λk hk _=>f.arg t4.toQz (h k hk)) h j.lv J E g).mono ?_⟩;rintro _ w5 ⟨bY,bV,rfl,gG,fd,ce,q5,m5⟩;have t5:=t4.nx q5 m5.up;refine⟨_,rfl,t4.sm m5 aag,(Ej t5.toQz d hd jl bY Z J).mono ?_⟩;rintro _ w6 ⟨rfl,q6,m6⟩;have t6:=t5.nx q6 m6;have el:bV.1=aL->(if bV.1||decide (bY=[])then l4 else kJ l4 (d,iC [jl,bY]))=ey l4 (SX d x):=λe=>by
   rw[e,fd e];unfold SX;by_cases R:x.lv=[]
   ·rw[aV R,aV R];rfl
   rw[aP R,aP R,bA (WI _),aP Z,pF,sW Z,ic (by rfl),fM,ia,pE,bE]
  generalize (if bV.1||decide (bY=[])then l4 else kJ l4 (d,iC [jl,bY]))=l6 at*
  have dO:=Aa W yW aC;have MD:=Aa ce dO el;refine⟨rfl,t5.sm m6 aag,λnv eQ c=>∃(bv:Nat) (q:St) (a:aH),eQ=bv/\bv<=I x.mv/\nv=(I x.mv)-bv/\Up bV ((x.mv.take bv).all mz) ((x.mv.take bv).map λcc=>I cc.acts).sum q/\(q.1=aL->a=ey l6 ((x.mv.take bv).map λcc=>(d,Fb cc)))/\Zq aL w0 w b c a q [p],
   (I x.mv),⟨0,bV,l6,rfl,be _,rfl,t6.toQz.up0,λ_=>rfl,t6⟩,?_⟩
  rintro nv _ w7 ⟨bv,co,l7,rfl,hj,rfl,R6,M2,t7⟩;have gE:=o.len;have cC:aA (D7 aL) 13 w7 F mv x.mv:=SliceF.keep (iJ aL) o Z λk hk _=>f.arg t7.toQz (h k hk);refine⟨λhc=>?_,λhc=>?_⟩
  ·have bU:(bv:Int)<mv.n:=aO hc;obtain⟨ad,cc,cs,g1,g2,g3,g4,g5,g6⟩:=cC.get (ba bv) bU;rw[aW]at g2;have Zl:=bn g2;have iS:=oA Zl;have oP:x.mv.take (bv+1)=x.mv.take bv++[cc]:=by
    rw[bh,g2];rfl
   have E4:=g6;obtain⟨gc,rh,tg,rfl,r1,r2,r3⟩:=E4;obtain⟨gl,rfl⟩:=eU r1;refine⟨ad,g1,_,_,_,_,_,_,_,_,_,_,_,_,_,g5,λk3 w8 yZ ur ft=>?_⟩;have t8:=t7.al ft yZ ur;refine(agI t8.toQz ((iJ aL).keep g6 λk _ bU=>ft.block k bU aag) h (j.mv cc Zl) J E g).mono ?_;rintro _ w9 ⟨w,iF,rfl,lE,iN,y,q9,m9⟩;have t9:=t8.nx q9 m9.up;have mH:=kO [w];simp only[bS,gU,dk,lU]at mH;obtain⟨ip,dz,g8,dX,gT⟩:=BT t9.toQz [w] (n:=1) (parts:=#[.mk 0 (X (T w))]) rfl rfl Z Z d hd J;refine⟨_,rfl,t8.sm m9 aag,ip,dz,g8,t9.sq dX aag,gT.mono ?_⟩;rintro _ dF ⟨rfl,iD,gO⟩;have b:=t9.nx iD gO;refine⟨rfl,t9.sl dX gO aag,(I x.mv)-(bv+1),J,bv+1,iF,_,aaf,J,rfl,(R6.tr y).cg ?_ ?_,λe=>?_,⟨b.toQz,b.m,λk hk=>b.k k ae1⟩⟩
   ·rw[oP,jc];simp
   ·rw[oP,cK,ZU];simp
   rw[e,aP Z,M2 (y.ok e).1,oP,cK,gP,iN e];show _=kJ _ (d,Fb cc);have:ne (Fb cc)=aE:=by
    have:Fb cc≠[]:=by unfold Fb;simp
    unfold ne;rw[bA this];rfl
   rw[sW this,fM,pE,bE]
  have ma:¬(bv:Int)<mv.n:=aU hc;have lu:bv=I x.mv:=J
  subst lu;rw[bm (aX _)]at R6 M2;have vZ:=Aa R6 MD M2;refine⟨λnv eQ c=>∃(bv:Nat) (q:St) (a:aH),eQ=bv/\bv<=I s/\nv=(I s)-bv/\Up co (iL d (s.take bv)) (nS (s.take bv)) q/\(q.1=aL->a=ey l7 (qn d (s.take bv)))/\Zq aL w0 w b c a q [p],
   (I s),⟨0,co,l7,rfl,be _,rfl,by rw[cA,iL,nS];exact t7.toQz.up0,λ_=>by rw[cA,qn];rfl,t7⟩,?_⟩
  rintro nv _ dF ⟨bv,mt,rY,rfl,hj,rfl,n,lT,T⟩;have nO:=hk.len;have mK:aA (lO aL D) 9 dF F kids s:=SliceF.keep (cf aL D) hk Z λk hk _=>f.arg T.toQz (h k hk);refine⟨λhc=>?_,λhc=>?_⟩
  ·have b:(bv:Int)<kids.n:=aO hc;obtain⟨ad,y,cs,g1,w,g3,g4,g5,g6⟩:=mK.get (ba bv) b;rw[aW]at w;have uJ:=bn w;have R7:=nB uJ;have x:s.take (bv+1)=s.take bv++[y]:=by
    rw[bh,w];rfl
   have E4:=g6;cases D with
   | zero=>exact E4.elim
   | succ D=>
   obtain⟨ri,rj,oM,gD,rfl,_⟩:=E4;refine⟨ad,g1,_,_,_,_,ri,rj,oM,gD,_,g5,λk7 eZ pm Zw eW=>?_⟩;have y:=T.al eW pm Zw;refine(N _ _ _ _ _ _ _ _ d y.toQz ((cf aL _).keep g6 λk _ b=>eW.block k b aag) h (zZ m uJ) J hd E g).mono ?_;rintro _ fl ⟨rfl,oR,yX,oF,pi,TY,oN⟩;have n8:=y.nx TY oN;refine⟨rfl,y.sm oN aag,(I s)-(bv+1),J,bv+1,oR,yX,aaf,J,rfl,(n.tr oF).cg ?_ ?_,λe=>?_,⟨n8.toQz,n8.m,λk hk=>n8.k k ae1⟩⟩
   ·rw[x,yP]
   ·rw[x,Bb]
   rw[pi e,lT (oF.ok e).1,x,Bc,gP]
  have ma:¬(bv:Int)<kids.n:=aU hc;have lu:bv=I s:=J
  subst lu;rw[bm (aX _)]at n lT;have w:=Aa n vZ lT;refine⟨rfl,mt,rY,(am.tr (W.tr (ce.tr (R6.tr n)))).cg rfl ?_,λe=>?_,T.toQz,T.m⟩
  ·unfold BR;omega
  rw[w e];unfold FE mvL;simp only[bq]
 ·have hc:x.ini≠[]:=aaj
  refine(pW t.toQz x.ini J).mono ?_;rintro _ W ⟨rfl,S,b,R,n⟩;have k:=t.nx R n.up;refine⟨_,rfl,t.sm n aag,aa2,?_⟩;rw[show ao #[59]=T [59]from rfl,fJ];refine(Ej k.toQz d hd fT (x.ini++[59]) Z acE).mono ?_;rintro _ Y ⟨rfl,q3,w⟩;refine⟨rfl,k.sm w aag,S,_,b.cg (by rw[bA hc,kw]) rfl,λe=>?_,k.nx q3 w⟩;have l:x.ini++[59]≠[]:=aag
  have y:ne (x.ini++[59])=aE:=by unfold ne;rw[bA l];rfl
  rw[e,bA l,aP Z,sW Z,ic y,fM,ia,pE,bE];unfold xU;rw[aP hc];rfl
 have hc:x.ini=[]:=aaj
 refine⟨st,l,f.up0.cg (by rw[bF hc];rfl) rfl,λ_=>by unfold xU;rw[aV hc];rfl,t⟩
end
end
end Go.Proofs.YtfemabakfkliiaaGreatDoor.Con
namespace Go.Kt
open Go Go.RowKit
section
variable {P:Program} {w:av}
def S6{m:Type}{r:Rp m}{size bytes:Nat}{F:Nat->Prop}{y:Sl}{s:List m}{e t ty:TypeId}{i:TypeInfo}{z:aw}(j:P.underlying t=aM (.slice e))(g:P.info? e=aM i)(B:i.zero=aM z)(D:i.size=size)(T:i.bytes=bytes)(J:z.cells.size=size)(f:0<size)
  (h:r.Ok) (A:SliceF r size w F y s) (hm:I s*bytes<=140737488355328) (C:0<bytes):
  ∃x a,(Instr.buildSlice t 0 #[]).run P w=.ok (Sl.v x) a/\Only [] w a/\∃l d,(Builtin.append_ #[t,t] ty #[Sl.v x,Sl.v y]).run P a=.ok (Sl.v l) d/\Own r size e w.heap.size d F l s/\OnlyP (λk=>w.heap.size<=k) a d:=by
 have b:Only [] w (w.alloc (.cells #[] e)):=Only.alloc _ _;have E:Own r size e w.heap.size (w.alloc (.cells #[] e)) (λk=>F k/\k<w.heap.size) (⟨aM ⟨w.heap.size,0,aaa⟩,0,0⟩:Sl) []:=
  .inr ⟨w.heap.size,[],[],rfl,aX _,Blk.alloc w e [],aag,rfl,aX _,be _,trivial⟩
 have c:SliceF r size (w.alloc (.cells #[] e)) (λk=>(F k/\k<w.heap.size)/\(⟨aM ⟨w.heap.size,0,aaa⟩,0,0⟩:Sl).a≠aM ⟨k,0,aaa⟩) y s:=
  ((A.inHeap h f).keep h f λk _ i=>b.block k i aag).mono h λk hk=>⟨hk,λe=>by
   injection e with e;injection e with e;have:=hk.2;omega⟩
 refine⟨⟨aM ⟨w.heap.size,0,aaa⟩,0,0⟩,_,Dh w j g,b,?_⟩;obtain⟨G,H,o,p,L,q,u,K⟩:=qO (ty:=ty) j g B D T J h E c b.size ab2 C;exact⟨G,H,o,(by simpa using p.mono h λk hk=>hk.1),q.p λn v=>.inl (u n v).2.1⟩
end
end Go.Kt
namespace Go.Proofs.YtfemabakfkliiaaGreatDoor.Con
open Go Go.RowKit Go.Kt Go.Kt.V Go.Proofs.YtfemabakfkliiaaGreatDoor.Vc
def Qr{w:av}{F:aJ}{x:Ex}{c:aI}(h:rE aL w F x c):∃sl d,c=nR x.k x.n x.s x.op sl x.a/\aA (rF d) 6 w F sl x.dD:=by
 obtain⟨d,h⟩:=h;cases d with
 | zero=>exact h.elim
 | succ d=>
  obtain⟨sl,h,a⟩:=h;exact⟨sl,d,h,D4 a.1 λx c _ h=>yL h⟩
def aeh{w:av}{F:aJ}{x:Ex}{sl:Sl}{d:Nat}(h:aA (rF d) 6 w F sl x.dD):rE aL w F x (nR x.k x.n x.s x.op sl x.a):=
 ⟨d+1,sl,rfl,D4 h λx c _ h=>NQ h,λh=>aal⟩
def Ig(d:Nat):∀l:List Ex,qV (oz d) l<=MJ l
 | []=>be _
 | y::l=>by rw[qV,MJ];exact mT (NU d y) (Ig d l)
def WL(x:Ex):MJ x.dD<=Eb x:=by rw[Ec];omega
def Ih{j:Type}{r:Rp j}{size bytes:Nat}{w u:av}{A:Nat}{s:Sl}{f:List j}{e t ty:TypeId}{i:TypeInfo}{z v:aw}{x:j}{G:aJ}(M:Tryz.prog.underlying t=aM (.slice e))(K:Tryz.prog.info? e=aM i)(S:i.zero=aM z)(W:i.size=size)(T:i.bytes=bytes)(q:z.cells.size=size)(H:0<size)(C:0<bytes)(Y:1*size<=16777216)
  (d:r.Ok) (p:Own r size e A w (λk=>A<=k) s f) (hA:A<=w.heap.size) (n:Q [] w u) (N:I v.cells.toList=size) (R:r u G x v.cells.toList) (m:∀k,G k->w.heap.size<=k) (L:(I f+1)*bytes<=140737488355328):
  ∃y a,(au t 1 #[(0,v)]).run aq u=.ok (Sl.v y) a/\Q [] u a/\∃c b,(Builtin.append_ #[t,t] ty #[Sl.v s,Sl.v y]).run aq a=.ok (Sl.v c) b/\
   Own r size e A b (λk=>A<=k) c (f++[x])/\aD (λk=>A<=k/\k<w.heap.size) a b:=by
 have z:=n.size;have h:∀k,s.a=aM ⟨k,0,aaa⟩->k<w.heap.size:=λk e=>by have:=(p.blk e).2;exact this
 obtain⟨y,a,V,q3,c,b,D,E,⟨gg,F,l⟩,Z⟩:=kj (P:=aq) (w:=u) (ty:=ty) M K S W T q H C Y d (p.keep d λk _ B=>n.block k B aag) J N R (λk hk _=>⟨by have:=m k hk;omega,λe=>by have:=h k e;have:=m k hk;omega⟩) L;exact⟨y,a,V,q3,c,b,D,E.mono d λk hk=>hk.elim id λam=>J,F.p λg o=>.inl ⟨(l g o).2.1,h g (l g o).1⟩⟩
def Ii{w:av}{H:aJ}{s:Sl}{l:List Ac}(h:aA (qy aL) 9 w H s l)(z:ki l<=8388608):
  az aq 59 #[s.v] w λe g=>(∃t:Sl,e=ak t.v/\aA (qy aL) 9 g (λk=>w.heap.size<=k) t l)/\Q [] w g:=by
 refine ik (asV _ ?_);have p:=h.len;have n:=gZ l;refine⟨λf t i u=>∃j:Nat,i=(j:Int)/\f+j=I l/\j<=I l/\Own (qy aL) 9 161 w.heap.size u (λk=>w.heap.size<=k) t (l.take j)/\Q [] w u,I l,⟨0,rfl,J,be _,Own.nil _ _ _ _ _ _,Only.refl _ _⟩,?_⟩;rintro f t _ m ⟨j,rfl,q,o,b,c⟩;have A:=c.size;refine⟨λa=>?_,λa=>?_⟩
 ·have a:=aO a;obtain⟨ad,y,ds,Y,s,a3,a4,a5,a6⟩:=(SliceF.only (cT aL) Z h c aag).get (ba j) J;rw[aW]at s;obtain⟨xc,rfl,hx⟩:=a6;obtain⟨sl,d,rfl,se⟩:=Qr hx;have K:GA y<=ki l:=rJ (bn s);unfold GA at K;have:=WL y.x;have:=Ig d y.x.dD;refine⟨ad,Y,_,_,_,_,_,_,sl,_,_,a5,λk2 V qG oL D=>(KX d (SliceF.only (fD d) Z se D aag) J).mono ?_⟩;rintro _ W ⟨M,rfl,L,B⟩;have z1:=D.size;have z2:=B.size;refine⟨M,rfl,B.same aah,λP C=>?_⟩;have z3:=C.size;have S:Q [] m P:=(D.cd B).trans C λx hx=>.inr aak;have E:aA (rF d) 6 P (λk=>V.heap.size<=k/\k<W.heap.size) M y.x.dD:=SliceF.only (fD d) Z L C λk hk _ hm=>aaV
  obtain⟨y4,w4,q1,N,t',w5,g1,g2,R⟩:=Ih (w:=m) (u:=P) (t:=23) (ty:=23) (e:=161) (i:=Tryz.t161) (bytes:=104) (size:=9) (r:=qy aL) (G:=λk=>V.heap.size<=k/\k<W.heap.size) (v:=ah #[O U y.k,X (T y.n),O U y.x.k,O U y.x.n,X (T y.x.s),O U y.x.op,M.v,O U y.x.a,O U y.a]) (x:=y) aae aae rfl rfl rfl rfl Z Z Z (cT aL) b c.size S rfl ⟨_,rfl,aeh E⟩ (λk hk=>J) ae8;have z4:=N.size;refine⟨y4,w4,q1,N.same aah,t',w5,g1,R.same λx hx=>?_,f-1,J,j+1,aaf,J,J,?_,((c.cd S).cd N).qz (F:=λk=>w.heap.size<=k) (R.mono λk _ hk=>hk.1) |>.only λk hk=>hk⟩
  ·simp only[aN]at hx;subst hx;exact⟨J,λh=>J⟩
  rw[bh,s];exact g2
 have a:=aU a;have d:j=I l:=J
 subst d;rw[bm (aX _)]at b;exact⟨⟨t,rfl,(b.slice (cT aL)).mono (cT aL) λk hk=>hk.elim id λh=>h.1⟩,c⟩
def WM{w:av}{H:aJ}{s:Sl}{l:List Mv}(h:aA (D7 aL) 13 w H s l)(z:wH l<=8388608):
  az aq 60 #[s.v] w λe m=>(∃t:Sl,e=ak t.v/\aA (D7 aL) 13 m (λk=>w.heap.size<=k) t l)/\Q [] w m:=by
 refine ik (asW _ ?_);have p:=h.len;have n:=mA l;refine⟨λg t i u=>∃j:Nat,i=(j:Int)/\g+j=I l/\j<=I l/\Own (D7 aL) 13 83 w.heap.size u (λk=>w.heap.size<=k) t (l.take j)/\Q [] w u,I l,⟨0,rfl,J,be _,Own.nil _ _ _ _ _ _,Only.refl _ _⟩,?_⟩;rintro g t _ b ⟨j,rfl,q,o,f,c⟩;have y:=c.size;refine⟨λa=>?_,λa=>?_⟩
 ·have a:=aO a;obtain⟨ad,s,ds,a1,S,a3,a4,a5,a6⟩:=(SliceF.only (iJ aL) Z h c aag).get (ba j) J;rw[aW]at S;obtain⟨gc,rh,tg,rfl,US,R,nL⟩:=a6;obtain⟨sl,d,rfl,se⟩:=Qr US;have R:=R.1;have nL:=nL.1;have aT:Fe s<=wH l:=oA (bn S);unfold Fe at aT;have:=WL s.g;have:=Ig d s.g.dD;have:=ve s.tg;refine⟨ad,a1,_,_,_,_,_,_,_,_,sl,_,rh,tg,_,a5,λk2 w1 qG oL W=>(KX d (SliceF.only (fD d) Z se W aag) J).mono ?_⟩;rintro _ w2 ⟨L,rfl,aC,Y⟩;have z1:=W.size;have z2:=Y.size;refine⟨L,rfl,Y.same aah,λM dh=>?_⟩;have z3:=dh.size;have o3:Q [] b M:=(W.cd Y).trans dh λx hx=>.inr aak;have nk:∀{u v:av},M.heap.size<=u.heap.size->Q [k2] u v->aA (rF d) 6 u (λk=>w1.heap.size<=k/\k<w2.heap.size) L s.g.dD->aA (rF d) 6 v (λk=>w1.heap.size<=k/\k<w2.heap.size) L s.g.dD:=λ_ hO hh=>SliceF.only (fD d) Z hh hO λk hk _ hm=>aaV
  have aS:=SliceF.only (fD d) Z aC dh λk hk _ hm=>aaV
  refine(Ii (SliceF.only (cT aL) Z R o3 aag) J).mono ?_;rintro _ w4 ⟨⟨C,rfl,UT⟩,E⟩;have z4:=E.size;refine⟨C,rfl,E.same aah,λA K=>?_⟩;have z5:=K.size;have o5:Q [] b A:=(o3.cd E).trans K λx hx=>.inr aak;have V:=nk J K (SliceF.only (fD d) Z aS E aag);have am:aA (qy aL) 9 A (λk=>M.heap.size<=k) C s.acts:=SliceF.only (cT aL) Z UT K λk hk _ hm=>aaV
  obtain⟨x1,w6,p1,p2,D,w7,p3,p4,p5⟩:=S6 (P:=aq) (w:=A) (t:=32) (ty:=32) (e:=9) (i:=Tryz.t9) (bytes:=16) (size:=1) (r:=mh) aae aae rfl rfl rfl rfl Z du (SliceF.only du Z nL o5 aag) J Z;have z6:=p2.size;have z7:=p5.size;refine⟨x1,w6,p1,p2.same aah,D,w7,p3,p5.same λx hx=>?_,λN B=>?_⟩
  ·simp only[aN]at hx;subst hx;exact⟨J,J⟩
  have z8:=B.size;have P:Q [] A w7:=(p2.qz p5).only λk hk=>hk;have o8:Q [] b N:=(o5.cd P).trans B λx hx=>.inr aak;have bv:=nk J B (SliceF.only (fD d) Z V P aag);have bV:aA (qy aL) 9 N (λk=>M.heap.size<=k) C s.acts:=SliceF.only (cT aL) Z (SliceF.only (cT aL) Z am P aag) B λk hk _ hm=>aaV
  have bY:aA mh 1 N (λk=>A.heap.size<=k) D s.tg:=by
   have h:aA mh 1 w7 (λk=>A.heap.size<=k) D s.tg:=by
    obtain⟨k,r,t,v,F⟩:=p4.slice du;refine⟨k,r,t,v,λj x hx=>?_⟩;obtain⟨e,cs,d,c2,G,T,c5⟩:=F j x hx;refine⟨e,cs,d,?_,G,T,c5⟩;have:=(p4.blk d).1;exact this
   exact SliceF.only du Z h B λk hk _ hm=>aaV
  obtain⟨y9,w9,q1,q2,t',dz,g1,g2,g3⟩:=Ih (w:=b) (u:=N) (t:=24) (ty:=24) (e:=83) (i:=Tryz.t83) (bytes:=168) (size:=13) (r:=D7 aL) (G:=λk=>w1.heap.size<=k) (v:=ah #[O U s.k,X (T s.ev),O U s.wt,aj s.gd,O U s.g.k,O U s.g.n,X (T s.g.s),O U s.g.op,L.v,O U s.g.a,C.v,D.v,O U s.a]) (x:=s) aae aae rfl rfl rfl rfl Z Z Z (iJ aL) f c.size o8 rfl ⟨_,C,D,rfl,(jf aL).mono (aeh bv) λk hk=>hk.1,⟨bV.mono (cT aL) λk hk=>J,λh=>aal⟩,⟨bY.mono du λk hk=>J,λh=>aal⟩⟩ (λk hk=>J) ae8;have z9:=q2.size;refine⟨y9,w9,q1,q2.same aah,t',dz,g1,g3.same λx hx=>?_,g-1,J,j+1,aaf,J,J,?_,((c.cd o8).cd q2).qz (F:=λk=>w.heap.size<=k) (g3.mono λk _ hk=>hk.1) |>.only λk hk=>hk⟩
  ·simp only[aN]at hx;subst hx;exact⟨J,λh=>J⟩
  rw[bh,S];exact g2
 have a:=aU a;have d:j=I l:=J
 subst d;rw[bm (aX _)]at f;exact⟨⟨t,rfl,(f.slice (iJ aL)).mono (iJ aL) λk hk=>hk.elim id λh=>h.1⟩,c⟩
def WN:∀(D:Nat) {w:av} {H:aJ} {s:Sl} {l:List Nd},aA (lO aL D) 9 w H s l->jm l<=8388608->
  az aq 33 #[s.v] w λe a=>(∃t:Sl,e=ak t.v/\aA (lO aL D) 9 a (λk=>w.heap.size<=k) t l)/\Q [] w a:=by
 intro D
 induction D with
 | zero=>
  intro w H s l h z;have hx:l=[]:=by
   cases l with
   | nil=>rfl
   | cons x f=>
    obtain⟨s,e,_,_,_,_,d⟩:=h.at_ 0 x rfl;exact d.elim
  subst hx;have c:s.n=0:=h.len;refine ik (alu _ ?_);refine⟨λn s i a=>s=Sl.nil/\i=0/\a=w,0,⟨rfl,rfl,rfl⟩,?_⟩;rintro n _ _ _ ⟨rfl,rfl,rfl⟩;exact⟨λb=>absurd (aO b) J,λ_=>⟨⟨_,rfl,SliceF.nil _ _ _ _⟩,Only.refl _ _⟩⟩
 | succ D g=>
  intro w H s l h z;refine ik (alu _ ?_);have o:=h.len;have m:=oB l;refine⟨λd t i u=>∃j:Nat,i=(j:Int)/\d+j=I l/\j<=I l/\Own (lO aL (D+1)) 9 27 w.heap.size u (λk=>w.heap.size<=k) t (l.take j)/\Q [] w u,I l,⟨0,rfl,J,be _,Own.nil _ _ _ _ _ _,Only.refl _ _⟩,?_⟩;rintro d t _ f ⟨j,rfl,p,n,T,c⟩;have r:=c.size;refine⟨λb=>?_,λb=>?_⟩
  ·have b:=aO b;obtain⟨ad,y,ds,a1,a2,a3,a4,a5,a6⟩:=(SliceF.only (cf aL (D+1)) Z h c aag).get (ba j) J;rw[aW]at a2;obtain⟨en,lv,mv,kids,rfl,⟨V,yA,Y⟩,M⟩:=a6;have V:=V.1;have yA:=yA.1;have Y:=Y.1;have M:=M.1;have L:mj y<=jm l:=nB (bn a2);obtain⟨B,ks⟩:=y;rw[mj]at L;unfold yu at L;dsimp only[Nd.b,Nd.kids]at V yA Y M a5;have A:∀{α:Type} {am:Rp α} {s:Nat} {u v:av} {S aC:Nat} {q:Sl} {xs:List α},am.Ok->0<s->aA am s u (λk=>aC<=k) q xs->Q [S] u v->S<aC->aA am s v (λk=>aC<=k) q xs:=λhr h0 hh hO hb=>SliceF.only hr h0 hh hO λk hk _ hm=>aaV
   refine⟨ad,a1,_,_,_,_,en,lv,mv,kids,_,a5,λS w1 qG W cD=>(Ii (SliceF.only (cT aL) Z V cD aag) J).mono ?_⟩;rintro _ w2 ⟨⟨l5,rfl,UT⟩,cQ⟩;have z1:=cD.size;have z2:=cQ.size;refine⟨l5,rfl,cQ.same aah,λw3 dh=>?_⟩;have z3:=dh.size;have nw:∀{u v v':av},Q [] f u->Q [] u v->Q [S] v v'->Q [] f v':=λh1 h2 h3=>(h1.cd h2).trans h3 λx hx=>.inr aak;have o3:=nw cD cQ dh;have aS:=A (cT aL) Z UT dh W;refine(Ii (SliceF.only (cT aL) Z yA o3 aag) J).mono ?_;rintro _ w4 ⟨⟨l6,rfl,MD⟩,N⟩;have z4:=N.size;refine⟨l6,rfl,N.same aah,λw5 P=>?_⟩;have z5:=P.size;have o5:=nw o3 N P;have aT:=A (cT aL) Z (SliceF.only (cT aL) Z aS N aag) P W;have vQ:=A (cT aL) Z MD P J;refine(WM (SliceF.only (iJ aL) Z Y o5 aag) J).mono ?_;rintro _ w6 ⟨⟨l7,rfl,vZ⟩,K⟩;have z6:=K.size;refine⟨l7,rfl,K.same aah,λw7 R=>?_⟩;have z7:=R.size;have o7:=nw o5 K R;have bv:=A (cT aL) Z (SliceF.only (cT aL) Z aT K aag) R W;have Zp:=A (cT aL) Z (SliceF.only (cT aL) Z vQ K aag) R J;have ce:=A (iJ aL) Z vZ R J;refine(g (SliceF.only (cf aL D) Z M o7 aag) J).mono ?_;rintro _ w8 ⟨⟨l8,rfl,cc⟩,E⟩;have z8:=E.size;refine⟨l8,rfl,E.same aah,λw9 C=>?_⟩;have z9:=C.size;have o9:=nw o7 E C;have bV:=A (cT aL) Z (SliceF.only (cT aL) Z bv E aag) C W;have Ud:=A (cT aL) Z (SliceF.only (cT aL) Z Zp E aag) C J;have co:=A (iJ aL) Z (SliceF.only (iJ aL) Z ce E aag) C J;have bY:=A (cf aL D) Z cc C J;obtain⟨y9,dz,q1,q2,t',dF,g1,g2,g3⟩:=Ih (w:=f) (u:=w9) (t:=25) (ty:=25) (e:=27) (i:=Tryz.t27) (bytes:=160) (size:=9) (r:=lO aL (D+1)) (G:=λk=>w1.heap.size<=k) (v:=ah (ob B.k B.nm B.ini B.dft l5 l6 l7 l8 B.a).toArray) (x:=.mk B ks) aae aae rfl rfl rfl rfl Z Z Z (cf aL (D+1)) T c.size o9 rfl ⟨l5,l6,l7,l8,rfl,⟨⟨bV,λh=>aal⟩,⟨Ud.mono (cT aL) λk hk=>J,λh=>aal⟩,⟨co.mono (iJ aL) λk hk=>J,λh=>aal⟩⟩,⟨bY.mono (cf aL D) λk hk=>J,λh=>aal⟩⟩ (λk hk=>J) ae8;have JG:=q2.size;refine⟨y9,dz,q1,q2.same aah,t',dF,g1,g3.same λx hx=>?_,d-1,J,j+1,aaf,J,J,?_,((c.cd o9).cd q2).qz (F:=λk=>w.heap.size<=k) (g3.mono λk _ hk=>hk.1) |>.only λk hk=>hk⟩
   ·simp only[aN]at hx;subst hx;exact⟨J,λh=>J⟩
   rw[bh,a2];exact g2
  have b:=aU b;have e:j=I l:=J
  subst e;rw[bm (aX _)]at T;exact⟨⟨t,rfl,(T.slice (cf aL (D+1))).mono (cf aL (D+1)) λk hk=>hk.elim id λh=>h.1⟩,c⟩
structure dU where
 k:Int
 nm:aH
 pa:Int
 dp:Int
 en:Int
mutual
def FF(a:Nat)(p d:Int):Nd->List dU
 | .mk b l=>⟨b.k,b.nm,p,d,((a+1+dR l:Nat):Int)⟩::rc (a+1) a (d+1) l
def rc(a:Nat)(p d:Int):List Nd->List dU
 | []=>[]
 | x::l=>FF a p d x++rc (a+iH x) p d l
end
mutual
def lX(a:Nat)(p d:Int):∀x,I (FF a p d x)=iH x
 | .mk b l=>by rw[FF,iH,aY,sX]
def sX(a:Nat)(p d:Int):∀l,I (rc a p d l)=dR l
 | []=>by rw[rc,dR];rfl
 | x::l=>by rw[rc,dR,aQ,lX,sX]
end
def Ab:∀l m,dR (l++m)=dR l+dR m
 | [],m=>by rw[dR,bR,bP]
 | x::l,m=>by rw[bZ,dR,dR,Ab l m,dM]
def Ij pa dp:∀l m a,rc a pa dp (l++m)=rc a pa dp l++rc (a+dR l) pa dp m
 | [],m,a=>by rw[bR,rc,bR,dR,gy]
 | x::l,m,a=>by rw[bZ,rc,rc,Ij pa dp l m,dR,bq,dM]
def Ik:∀x,1<=iH x
 | .mk b l=>by rw[iH];omega
def Lj{x}:∀{l:List Nd},x∈l->iH x<=dR l
 | [],h=>acr
 | y::l,h=>by
  rw[dR];rcases aZ.1 h with rfl | h
  ·omega
  have:=Lj h;omega
def mS{y}:∀{l:List Nd} {j:Nat},l[j]? =aM y->dR (l.take j)+iH y<=dR l
 | [],_,h=>acr
 | x::l,0,h=>by
  rw[cG,bJ]at h;subst h;rw[cA,dR,dR];omega
 | x::l,j+1,h=>by
  have:=mS (l:=l) (j:=j) (by rwa[cY]at h);rw[gx,dR,dR];omega
def qo:∀l,I l<=dR l
 | []=>be _
 | a::l=>by
  have:=qo l;have:=Ik a;rw[dR,aY];omega
def El(L:List dU)(a i:Nat)(s:dU):Prop:=∃p t,p<i/\L[p]? =aM t/\s.pa=((a+p:Nat))/\s.dp=t.dp+1/\((a+i:Nat))<t.en/\s.en<=t.en/\∀j u,p<j->j<i->L[j]? =aM u->u.en<=((a+i:Nat))
def El.vN{L M}{a i}{s}(h:El L a i s)(o:i<I L):El (L++M) a i s:=by
 obtain⟨p,t,d,e,f,j,k,l,m⟩:=h;refine⟨p,t,d,?_,f,j,k,l,λn u g b c=>m n u g b ?_⟩
 ·rw[bX J];exact e
 rwa[bX J]at c
def El.shift{L M}{a i}{s}(h:El M (a+I L) i s):El (L++M) a (I L+i) s:=by
 obtain⟨p,t,l,b,c,d,m,e,f⟩:=h;refine⟨I L+p,t,J,?_,by rw[c];omega,d,J,e,λn u j k g=>?_⟩
 ·rw[cj J,dN];exact b
 rw[cj J]at g;have:=f _ u J J g;omega
mutual
def Il(a:Nat)(p d:Int):∀(x:Nd) (i:Nat) (s:dU),(FF a p d x)[i]? =aM s->((a+i:Nat):Int)<s.en/\s.en<=((a+iH x:Nat):Int)/\(i=0->s.pa=p/\s.dp=d/\s.en=((a+iH x:Nat):Int))/\(0<i->El (FF a p d x) a i s)
 | .mk b l,i,s,h=>by
  rw[FF]at h⊢;rw[iH];cases i with
  | zero=>
   rw[cG,bJ]at h;subst h;dsimp only;exact⟨J,J,λ_=>⟨rfl,rfl,J⟩,λh=>J⟩
  | succ i=>
   rw[cY]at h;obtain⟨k,m,j⟩:=WO (a+1) a (d+1) l i s h;refine⟨J,J,λh=>J,λ_=>?_⟩;rcases j with⟨c,e,f⟩ | g
   ·refine⟨0,_,J,cG,by rw[c,gy],e,abI,abI,λa u b n k3=>?_⟩;cases a with
    | zero=>omega
    | succ a=>
     rw[cY]at k3;have:=f a u J k3;omega
   have:=El.shift (L:=[⟨b.k,b.nm,p,d,((a+1+dR l:Nat):Int)⟩]) (M:=rc (a+1) a (d+1) l) (a:=a) (i:=i) (s:=s) g;rw[bB,jG 1 i]at this;exact this
def WO(a:Nat)(p d:Int):∀(l:List Nd) (i:Nat) (s:dU),(rc a p d l)[i]? =aM s->((a+i:Nat):Int)<s.en/\s.en<=((a+dR l:Nat):Int)/\
  ((s.pa=p/\s.dp=d/\∀j u,j<i->(rc a p d l)[j]? =aM u->u.en<=((a+i:Nat):Int))∨El (rc a p d l) a i s)
 | [],i,s,h=>by rw[rc]at h;simp at h
 | x::l,i,s,h=>by
  rw[rc]at h⊢;rw[dR];have b:=lX a p d x;by_cases c:i<iH x
  ·rw[bX J]at h;obtain⟨f,m,g,k⟩:=Il a p d x i s h;refine⟨f,J,?_⟩;by_cases e:i=0
   ·obtain⟨a,n,o⟩:=g e;exact .inl ⟨a,n,λj u q=>J⟩
   exact .inr ((k J).vN J)
  rw[cj J,b]at h;obtain⟨n,o,m⟩:=WO (a+iH x) p d l (i-iH x) s h;refine⟨J,J,?_⟩;rcases m with⟨e,f,k⟩ | g
  ·refine .inl ⟨e,f,λj u s q=>?_⟩;by_cases r:j<iH x
   ·rw[bX J]at q;have:=(Il a p d x j u q).2.1;omega
   rw[cj J,b]at q;have:=k (j-iH x) u J q;omega
  refine .inr ?_;rw[<-b]at g;have:=El.shift (L:=FF a p d x) g;rw[b]at this;rwa[show iH x+(i-iH x)=i by omega]at this
end
structure Fo (xs:List dU):Prop where
 ne:0<I xs
 rt:∀s:dU,xs[0]? =aM s->s.pa= -1/\s.dp=0/\s.en=(I xs:Int)
 up:∀(i:Nat) (s:dU),xs[i]? =aM s->(i:Int)<s.en/\s.en<=(I xs:Int)
 pa:∀(i:Nat) (s:dU),0<i->xs[i]? =aM s->El xs 0 i s
def ff(c:Ch):List dU:=FF 0 (-1) 0 c.root
def CR c:Fo (ff c):=by
 unfold ff;have l:=lX 0 (-1) 0 c.root;have a:=Il 0 (-1) 0 c.root;refine⟨by have:=Ik c.root;omega,λs h=>?_,λi s h=>?_,λi s b h=>(a i s h).2.2.2 b⟩
 ·obtain⟨c,d,e⟩:=(a 0 s h).2.2.1 rfl;exact⟨c,d,by rw[e,l];omega⟩
 obtain _:=a i s h;exact⟨J,J⟩
section
variable {xs:List dU} (F:Fo xs) {i j k p:Nat} {s t u:dU}
include F
theorem Fo.lam:∀k {i:Nat} {s t:dU},xs[i]? =aM s->xs[k]? =aM t->i<k->k<s.en->t.en<=s.en
 | k,i,s,t,a,hk,b,m=>by
  obtain⟨p,v,f,h,g,j,l,c,d⟩:=F.pa k t J hk;by_cases e:p<i
  ·have:=d i s e b a;omega
  by_cases k:p=i
  ·subst k;rw[a,bJ]at h;subst h;exact c
  have:=Fo.lam p a h J J;omega
theorem Fo.par(hk:xs[k]? =aM t)(h:0<k):∃(p:Nat) (s:dU),p<k/\t.pa=p/\xs[p]? =aM s/\t.dp=s.dp+1/\k<s.en/\∀i u,xs[i]? =aM u->i<k->(k:Int)<u.en->i<=p:=by
 obtain⟨p,v,a,b,c,d,l,m,e⟩:=F.pa k t h hk;refine⟨p,v,a,by rw[c];omega,b,d,J,λi u j f n=>?_⟩;by_cases g:p<i
 ·have:=e i u g f j;omega
 omega
omit F in
theorem ir {xs:List dU} {i:Nat} {s:dU} (h:xs[i]? =aM s):i<I xs:=(bc.1 h).1
omit F in
theorem gu {xs:List dU} {i:Nat} (h:i<I xs):∃s,xs[i]? =aM s:=⟨_,bf h⟩
end
def nf(x:List dU)(b a:Nat):Prop:=∃s,x[b]? =aM s/\b<=a/\a<s.en
section
variable {xs:List dU} (F:Fo xs) {i j k p:Nat}
include F
theorem Fo.EW(h:nf xs i j):j<I xs:=by
 obtain⟨s,a,b,c⟩:=h;have:=(F.up i s a).2;omega
theorem Fo.qu(a:i<I xs):nf xs i i:=by
 obtain⟨s,h⟩:=gu a;exact⟨s,h,aX _,(F.up i s h).1⟩
theorem Fo.uo(a:i<I xs):nf xs 0 i:=by
 obtain⟨s,h⟩:=gu F.ne;exact⟨s,h,be _,by rw[(F.rt s h).2.2];omega⟩
theorem Fo.oK(c:nf xs i j)(a:nf xs j k):nf xs i k:=by
 obtain⟨s,h,l,d⟩:=c;obtain⟨t,g,f,b⟩:=a;refine⟨s,h,J,?_⟩;by_cases e:i=j
 ·subst e;rw[h,bJ]at g;subst g;exact b
 have:=F.lam j h g J d;omega
theorem Fo.rW(h:nf xs i k)(g:nf xs j k)(x:i<=j):nf xs i j:=by
 obtain⟨s,a,e,f⟩:=h;obtain⟨t,b,c,d⟩:=g;exact⟨s,a,x,J⟩
end
def Top(x:List dU)(l:List Int)(r:Int):Prop:=∃m:Nat,r=m/\(∀n,n∈l->∃k:Nat,n=k/\nf x m k)/\∀j,(∀n,n∈l->∃k:Nat,n=k/\nf x j k)->j<=m
def sY(x:List dU)(n:Int):Prop:=0<=n/\n<I x
def Mt(x:List dU)(l:List Int)(r:Int):Prop:=((l=[]∨∃n,n∈l/\¬sY x n)/\r= -1)∨((l≠[]/\∀n,n∈l->sY x n)/\Top x l r)
def Mt.aot{xs}{l}{r}(h:Mt xs l r)(a:l≠[])(b:∀n,n∈l->sY xs n):Top xs l r:=by
 rcases h with⟨c | ⟨n,e,d⟩,_⟩ | ⟨_,h⟩
 ·exact absurd c a
 ·exact absurd (b n e) d
 exact h
def jo(x:List dU)(i n:Nat):List Int:=((List.range n).filter λk=>decide ((x[k]?).map (λs:dU=>s.pa)=aM (i:Int))).map λk:Nat=>k
def wI xs i n:jo xs i (n+1)=jo xs i n++if(xs[n]?).map (λs:dU=>s.pa)=aM (i:Int)then[(n:Int)]else[]:=by
 unfold jo;rw[List.range_succ,gJ,cK];by_cases h:(xs[n]?).map (λs:dU=>s.pa)=aM (i:Int)
 ·rw[aV h,List.filter_cons_of_pos acs];rfl
 rw[aP h,List.filter_cons_of_neg acs];rfl
def wJ{xs}{i:Nat}:∀d n,(∀k,n<=k->k<n+d->(xs[k]?).map (λs:dU=>s.pa)≠aM (i:Int))->jo xs i (n+d)=jo xs i n
 | 0,n,_=>rfl
 | d+1,n,h=>by
  rw[<-dM,wI,aP (h _ J J),bE,wJ d n λk a b=>h k a J]
section
variable {xs:List dU} (F:Fo xs) {i k:Nat} {s t:dU}
include F
theorem Fo.aeO(hk:xs[k]? =aM t):t.pa<k:=by
 by_cases h:0<k
 ·obtain _:=F.par hk h;omega
 have:k=0:=J
 subst this;rw[(F.rt t hk).1];omega
theorem Fo.auv(h:xs[i]? =aM s):jo xs i (i+1)=[]:=by
 have:∀n,n<=i+1->jo xs i n=[]:=by
  intro n
  induction n with
  | zero=>intro _;rfl
  | succ n i=>
   intro a;rw[wI,i J,aP,bE];intro e;rcases hx:xs[n]? with _|u
   ·rw[hx]at e;cases e
   rw[hx,gn,bJ]at e;have:=F.aeO hx;omega
 exact this _ (aX _)
theorem Fo.ahz(g:xs[i]? =aM s)(hk:xs[k]? =aM t)(h:i<k)(l:k<s.en)(e:∀j u,i<j->j<k->xs[j]? =aM u->u.en<=k):t.pa=i:=by
 obtain⟨p,v,a,b,c,n,o,d⟩:=F.par hk J;have m:=d i s g h l;by_cases f:p=i
 ·rw[b,f]
 have:=e p v J a c;omega
theorem Fo.YC(hk:xs[k]? =aM t){n:Nat}(d:t.en=n)(b:∀j u,i<j->j<k->xs[j]? =aM u->u.en<=k):∀j u,i<j->j<n->xs[j]? =aM u->u.en<=n:=by
 intro j u a c h;have R:=(F.up k t hk).1;by_cases e:j<k
 ·have:=b j u a e h;omega
 by_cases e:j=k
 ·subst e;rw[hk,bJ]at h;subst h;omega
 have:=F.lam j hk h J J;omega
theorem Fo.YD(a:xs[i]? =aM s)(hk:xs[k]? =aM t)(h:i<k)(c:k<s.en){n:Nat}(g:t.en=n)(b:∀j u,i<j->j<k->xs[j]? =aM u->u.en<=k):jo xs i n=jo xs i k++[(k:Int)]:=by
 have R:=(F.up k t hk).1;have:=wJ (xs:=xs) (i:=i) (n-(k+1)) (k+1) λj d f e=>by
  rcases hx:xs[j]? with _|u
  ·rw[hx]at e;cases e
  rw[hx,gn,bJ]at e;obtain⟨p,v,l,m,n,o,q,i⟩:=F.par hx J;have:=i k t hk J J;omega
 rw[show k+1+_=n by omega,wI,aV (by rw[hk,gn,F.ahz a hk h c b])]at this;exact this
theorem Fo.ace(h:xs[i]? =aM s){n:Nat}(c:s.en=n):jo xs i (I xs)=jo xs i n:=by
 have u:=F.up i s h;have:=wJ (xs:=xs) (i:=i) ((I xs)-n) n λj a b e=>by
  rcases hx:xs[j]? with _|d
  ·rw[hx]at e;cases e
  rw[hx,gn,bJ]at e;obtain⟨p,v,f,k,g,l,m,n⟩:=F.par hx J;have:p=i:=J
  subst this;rw[h,bJ]at g;subst g;omega
 rw[show n+_=(I xs) by omega]at this;exact this
end
abbrev Ft:=Int×Int
def jp(f:Ft)(L:List Ft):Ft:=L.foldl (λf p=>if f.1=0 then p else f) f
def bad(ok:Bool)(e a:Int):List Ft:=if ok then[]else[(e,a)]
def gz(f:Ft)(L M:List Ft):jp f (L++M)=jp (jp f L) M:=jO
def En{f:Ft}(h:f.1≠0):∀L,jp f L=f
 | []=>rfl
 | p::L=>by
  show jp (if f.1=0 then p else f) L=f;rw[aP h];exact En h L
def Cd(L:List Ft):Prop:=∀p,p∈L->p.1≠0
def Cd.nil:Cd []:=λp h=>acr
def Cd.vN{L M:List Ft}(h:Cd L)(g:Cd M):Cd (L++M):=λp a=>(ch.1 a).elim (h p) (g p)
def Cd.bad{ok:Bool}{e a:Int}(b:e≠0):Cd (bad ok e a):=λp h=>by
 unfold Con.bad at h;split at h
 ·simp at h
 simp only[aN]at h;subst h;exact b
def Cd.flat{a:Type}{f:a->List Ft}(h:∀x,Cd (f x))(l:List a):Cd (l.flatMap f):=λp b=>by
 obtain⟨x,_,c⟩:=Un.1 b;exact h x p c
def Eo{L:List Ft}(a:Cd L)(h:(jp (0,0) L).1=0):L=[]:=by
 cases L with
 | nil=>rfl
 | cons p L=>
  have b:=a p aag;have e:jp (0,0) (p::L)=jp p L:=rfl;rw[e,En b]at h;exact absurd h b
def xv{ok:Bool}{e a:Int}:bad ok e a=[]↔ok=aE:=by
 unfold bad;cases ok<;>simp
def abt(f:Ft)(ok:Bool)(e a:Int):jp f (bad ok e a)=if(!ok&&f.1==0)=aE then(e,a)else f:=by
 unfold bad;cases ok
 ·by_cases h:f.1=0
  ·simp[jp,h]
  simp[jp,h]
 simp[jp]
def fK(a:List dU)(s:aH):Int:=if xu s (a.map λx:dU=>x.nm)<I a then(xu s (a.map λx:dU=>x.nm):Nat)else -1
def jJ(s:List dU)(n:Int):Int:=match s[n.toNat]? with
 | some x=>x.k
 | none=>0
def NY(s:List dU)(n:Int):Int:=match s[n.toNat]? with
 | some x=>x.pa
 | none=>0
def Im(x:List dU)(s:aH):Bool:=decide (0<=fK x s)&&!fF (jJ x (fK x s))
def abu(x:List dU)(b a:Nat):Bool:=match x[b]? with
 | some s=>decide (b<=a)&&decide ((a:Int)<s.en)
 | none=>aL
def lY(x:List dU)(b a:Int):Bool:=decide (0<=b/\0<=a)&&abu x b.toNat a.toNat
def Ad(x:List dU)(a b:Int):Bool:=decide (a≠b)&&lY x b a
def Ae(x:List dU)(a b:Int):Nat->Int
 | 0=> -1
 | m+1=>if(lY x m a&&lY x m b)=aE then m else Ae x a b m
def yv(x:List dU)(a b:Int):Int:=Ae x a b (I x)
def Ff(x:List dU)(a b:Int):Bool:=decide (yv x a b≠a/\yv x a b≠b)&&decide (jJ x (yv x a b)=2)
def yQ(x:List dU)(s:aH):Int:=if fF (jJ x (fK x s))then NY x (fK x s)else fK x s
def Io(x:List dU):List Int->List (aH)->Bool
 | _,[]=>aE
 | l,s::r=>if fK x s<1 then aL else if(l.any λo=>!Ff x (yQ x s) o)then aL else Io x (l++[yQ x s]) r
mutual
def AQ:Nd->List (aH×Int)
 | .mk b l=>(b.nm,b.a)::yw l
def yw:List Nd->List (aH×Int)
 | []=>[]
 | x::l=>AQ x++yw l
end
def vf:List (aH)->List (aH×Int)->List Ft
 | _,[]=>[]
 | l,p::r=>bad (!decide (p.1∈l)) 24 p.2++vf (l++[p.1]) r
def Af:∀(p q:List (aH×Int)) (l:List (aH)),vf l (p++q)=vf l p++vf (l++p.map λx=>x.1) q
 | [],q,l=>by rw[bR,vf,bR,gU,bE]
 | x::p,q,l=>by rw[bZ,vf,vf,Af p q,bq,bS,bq];rfl
def Ip:∀l m:List Nd,yw (l++m)=yw l++yw m
 | [],m=>by rw[bR,yw,bR]
 | x::l,m=>by rw[bZ,yw,yw,Ip l m,bq]
mutual
def Ll(a:Nat)(c d:Int):∀x,(FF a c d x).map (λs:dU=>s.nm)=(AQ x).map λp=>p.1
 | .mk b l=>by rw[FF,AQ,bS,bS,NZ]
def NZ(a:Nat)(b d:Int):∀l,(rc a b d l).map (λs:dU=>s.nm)=(yw l).map λp=>p.1
 | []=>by rw[rc,yw];rfl
 | x::l=>by rw[rc,yw,cK,cK,Ll,NZ]
end
def abv(x:Nd):I (AQ x)=iH x:=by
 have:=bN List.length (Ll 0 0 0 x);rw[bK,bK,lX]at this;exact this.symm
def Qs(x:List Nd):I (yw x)=dR x:=by
 have:=bN List.length (NZ 0 0 0 x);rw[bK,bK,sX]at this;exact this.symm
def N0:∀(p:List (aH×Int)) (l:List (aH)),Cd (vf l p)
 | [],l=>Cd.nil
 | x::p,l=>Cd.vN (Cd.bad Z) (N0 p _)
section
variable (xs:List dU) (vs:List (aH))
def ML(k:Int)(s:aH):Bool:=(decide (k≠2)||decide (s∈vs))&&(decide (k≠3)||Im xs s)
mutual
def Qt:Ex->List Ft
 | .mk k n s op l a=>bad (ML xs vs k s) 23 a++ue l
def ue:List Ex->List Ft
 | []=>[]
 | x::l=>Qt x++ue l
end
def WQ(x:Ex):Qt xs vs x=bad (ML xs vs x.k x.s) 23 x.a++ue xs vs x.dD:=by cases x;rw[Qt];rfl
def Ep:∀l m:List Ex,ue xs vs (l++m)=ue xs vs l++ue xs vs m
 | [],m=>by rw[bR,ue,bR]
 | x::l,m=>by rw[bZ,ue,ue,Ep l m,bq]
def acF(a:Ac):List Ft:=bad (decide (a.k≠1)||decide (a.n∈vs)) 23 a.a++Qt xs vs a.x
def lP(l:List Ac):List Ft:=l.flatMap (acF xs vs)
def Lm(m:Mv):Bool:=(m.k !=3)||(decide (m.wt>0)&&decide (m.wt<=1099511627776))
def Cj(m:Mv):List Ft:=bad (Lm m) 28 m.a++(Qt xs vs m.g++(lP xs vs m.acts++bad (Io xs [] m.tg) 27 m.a))
def CS(l:List Nd):Nat:=I (l.filter λx=>!fF x.b.k)
def vL(s:aH)(l:List Nd):Bool:=l.any λx=>decide (x.b.nm=s)
def vg(b:Nb)(l:List Nd)(at_:Nat):List Ft:=
 if fF b.k then bad (Im xs b.dft&&Ad xs (fK xs b.dft) (NY xs at_)) 26 b.a
 else if b.k=2 then bad (decide (b.ini=[])&&decide (1<CS l)) 25 b.a
 else if 0<CS l then bad (vL b.ini l) 25 b.a
 else bad (decide (b.ini=[])) 25 b.a++bad (decide (I l=0)) 26 b.a
mutual
def MM:Nat->Nd->List Ft
 | n,.mk b l=>vg xs b l n++(lP xs vs (b.en++b.lv)++(b.mv.flatMap (Cj xs vs)++qp (n+1) l))
def qp:Nat->List Nd->List Ft
 | _,[]=>[]
 | n,x::l=>MM n x++qp (n+iH x) l
end
def Es:∀(l m:List Nd) (n:Nat),qp xs vs n (l++m)=qp xs vs n l++qp xs vs (n+dR l) m
 | [],m,n=>by rw[bR,qp,bR,dR,gy]
 | x::l,m,n=>by rw[bZ,qp,qp,Es l m,bq,dR,dM]
mutual
def N1:∀x,Cd (Qt xs vs x)
 | .mk k n s op l a=>by rw[Qt];exact Cd.vN (Cd.bad Z) (Qu l)
def Qu:∀l,Cd (ue xs vs l)
 | []=>by rw[ue];exact Cd.nil
 | x::l=>by rw[ue];exact Cd.vN (N1 x) (Qu l)
end
def agJ(a:Ac):Cd (acF xs vs a):=Cd.vN (Cd.bad Z) (N1 xs vs a.x)
def Qv(l:List Ac):Cd (lP xs vs l):=Cd.flat (agJ xs vs) l
def agK(m:Mv):Cd (Cj xs vs m):=Cd.vN (Cd.bad Z) (Cd.vN (N1 xs vs _) (Cd.vN (Qv xs vs _) (Cd.bad Z)))
def agL(b:Nb)(l:List Nd)(n:Nat):Cd (vg xs b l n):=by
 unfold vg;split
 ·exact Cd.bad Z
 split
 ·exact Cd.bad Z
 split
 ·exact Cd.bad Z
 exact Cd.vN (Cd.bad Z) (Cd.bad Z)
mutual
def WR:∀(n:Nat) (x:Nd),Cd (MM xs vs n x)
 | n,.mk b l=>by rw[MM];exact Cd.vN (agL xs b l n) (Cd.vN (Qv xs vs _) (Cd.vN (Cd.flat (agK xs vs) _) (Qw (n+1) l)))
def Qw:∀(n:Nat) (l:List Nd),Cd (qp xs vs n l)
 | n,[]=>by rw[qp];exact Cd.nil
 | n,x::l=>by rw[qp];exact Cd.vN (WR n x) (Qw _ l)
end
end
def Jw(c:Ch):List (aH):=c.vars.map λv=>v.n
def Ag(c:Ch):List Ft:=vf [] (AQ c.root)++(vf [] (c.vars.map λv=>(v.n,v.a))++MM (ff c) (Jw c) 0 c.root)
def Et(c:Ch):Cd (Ag c):=Cd.vN (N0 _ _) (Cd.vN (N0 _ _) (WR _ _ _ _))
def Qx{s:aH}:∀{l:List (aH)},xu s l<(I l)->l[xu s l]? =aM s
 | [],h=>acr
 | x::l,h=>by
  rw[xu]at h⊢;split
  ·rename_i e;rw[e];rfl
  rename_i e;rw[aP e,aY]at h;rw[cY];exact Qx J
def pX{s:aH}:∀{l:List (aH)},xu s l<I l↔s∈l
 | []=>aag
 | x::l=>by
  rw[xu,aZ,aY];split
  ·rename_i e;exact⟨λ_=>.inl e,λ_=>J⟩
  rename_i e;have:=pX (s:=s) (l:=l);exact⟨λh=>.inr (this.1 J),λh=>by have:=this.2 (h.resolve_left e);omega⟩
def Iq{s:aH}(m:List (aH)):∀{l:List (aH)},s∈l->xu s (l++m)=xu s l
 | [],h=>acr
 | x::l,h=>by
  rw[bZ,xu,xu];split
  ·rfl
  rename_i e;rw[Iq m ((aZ.1 h).resolve_left e)]
def Ir{s:aH}(m:List (aH)):∀{l:List (aH)},s∉l->xu s (l++s::m)=I l
 | [],_=>by rw[bR,xu,aV rfl];rfl
 | x::l,h=>by
  rw[bZ,xu,aP (λe=>h (by rw[e];simp)),Ir m (λa=>h (dZ _ a))];rfl
section
variable {xs:List dU} {s:aH}
def jt(a:List dU)(s:aH):(fK a s= -1/\∀x∈a,x.nm≠s)∨∃(n:Nat) (x:dU),fK a s=n/\a[n]? =aM x/\x.nm=s:=by
 unfold fK;split
 ·rename_i h;right;have:=Qx (l:=a.map λx:dU=>x.nm) (s:=s) (by rw[bK];exact h);rw[cF,fz]at this;obtain⟨x,b,e⟩:=this;exact⟨_,x,rfl,b,e⟩
 rename_i h;refine .inl ⟨rfl,λx b e=>h ?_⟩;have:=(pX (s:=s) (l:=a.map λx:dU=>x.nm)).2 (dv.2 ⟨x,b,e⟩);rwa[bK]at this
def fG{n:Nat}{x:dU}(h:xs[n]? =aM x):jJ xs n=x.k:=by unfold jJ;rw[aW,h]
def lA{n:Nat}{x:dU}(h:xs[n]? =aM x):NY xs n=x.pa:=by unfold NY;rw[aW,h]
def WS{b a:Nat}:abu xs b a=aE↔nf xs b a:=by
 unfold abu nf;rcases h:xs[b]? with _|s
 ·simp
 simp
def rK{b a:Int}:lY xs b a=aE↔∃i j:Nat,b=i/\a=j/\nf xs i j:=by
 unfold lY;rw[aR,cX,WS];constructor
 ·rintro⟨⟨a,b⟩,h⟩;exact⟨_,_,(fL a).symm,(fL b).symm,h⟩
 rintro⟨i,j,rfl,rfl,h⟩;rw[aW,aW];exact⟨⟨J,J⟩,h⟩
def Lp{a b:Int}:Ad xs a b=aE↔∃i j:Nat,b=i/\a=j/\i<j/\nf xs i j:=by
 unfold Ad;rw[aR,cX,rK];constructor
 ·rintro⟨n,i,j,rfl,rfl,h⟩;have:=h;obtain⟨_,_,u,_⟩:=this;exact⟨i,j,rfl,rfl,J,h⟩
 rintro⟨i,j,rfl,rfl,a,h⟩;exact⟨J,i,j,rfl,rfl,h⟩
def uf(a b:Int):∀n:Nat,(Ae xs a b n= -1/\∀m,m<n->(lY xs m a&&lY xs m b)=aL)∨∃m:Nat,Ae xs a b n=m/\m<n/\(lY xs m a&&lY xs m b)=aE/\∀j,m<j->j<n->(lY xs j a&&lY xs j b)=aL
 | 0=>.inl ⟨rfl,λm h=>J⟩
 | n+1=>by
  rw[Ae];split
  ·rename_i h;exact .inr ⟨n,rfl,J,h,λj a b=>J⟩
  rename_i h;rw[pQ]at h;rcases uf a b n with⟨c,d⟩ | ⟨m,c,d,f,g⟩
  ·exact .inl ⟨c,λm a=>if e:m=n then by rw[e];exact h else d m J⟩
  exact .inr ⟨m,c,J,f,λj a b=>if e:j=n then by rw[e];exact h else g j a J⟩
def Fo.acf(x:Fo xs){a b r:Int}(f:Mt xs [a,b] r)(p:sY xs a)(u:sY xs b):r=yv xs a b:=by
 have v:∀n,n∈[a,b]->sY xs n:=λn d=>by
  simp only[aZ,bp,ci]at d;rcases d with rfl | rfl
  ·exact p
  exact u
 obtain⟨m,rfl,t,w⟩:=f.aot aag v;have o:∀j:Nat,(lY xs j a&&lY xs j b)=aE↔∀n:Int,n∈[a,b]->∃k:Nat,n=k/\nf xs j k:=λj=>by
  rw[aR,rK,rK];constructor
  ·rintro⟨⟨q,k,e,rfl,c⟩,⟨s,y,z,rfl,h⟩⟩ n d;simp only[aZ,bp,ci]at d;have b:j=q:=J
   have a:j=s:=J
   subst b a;rcases d with rfl | rfl
   ·exact⟨k,rfl,c⟩
   exact⟨y,rfl,h⟩
  intro f;obtain⟨k,e,c⟩:=f a aag;obtain⟨q,n,h⟩:=f b aag;exact⟨⟨j,k,rfl,e,c⟩,⟨j,q,rfl,n,h⟩⟩
 have g:=(o m).2 t;have F:m<I xs:=by
  obtain⟨k,_,s,b,_⟩:=t a aag;exact ir b
 unfold yv;rcases uf (xs:=xs) a b (I xs) with⟨_,h⟩ | ⟨q,c,h,i,l⟩
 ·rw[h m F]at g;cases g
 have:=w q ((o q).1 i);by_cases e:q=m
 ·rw[c,e]
 rw[l m J F]at g;cases g
end
end Go.Proofs.YtfemabakfkliiaaGreatDoor.Con
