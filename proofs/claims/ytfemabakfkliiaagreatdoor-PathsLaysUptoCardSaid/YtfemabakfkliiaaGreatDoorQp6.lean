import Derived.Test.YtfemabakfkliiaaGreatDoorQp5
set_option linter.defProp false
set_option linter.unusedSectionVars false
set_option linter.unusedSimpArgs false
set_option linter.unusedVariables false
set_option maxHeartbeats 4000000
set_option maxRecDepth 100000
open Bool renaming true->aE,false->aL
open Option renaming some->aM,none->aaa
open List renaming length->I
open Go.Value renaming int->O,string->X,pointer->ae,agg->ah,tuple->ai,bool->aj
open Go.IntKind renaming i64->U,wrap->ar
open Go.Ending renaming returned->ak
open _root_.ByteArray renaming mk->ao
open _root_.Go.Proofs.Tryz renaming prog->aq
open Go.Instr renaming buildSlice->au
open Go renaming World->av,Value->aw,Calls->az
open Go.Kt renaming Only->Q,SliceF->aA,Cells->aB,OnlyP->aD,Blk->aF
open Go renaming World->av,Value->aw
namespace Go.Proofs.YtfemabakfkliiaaGreatDoor.Con
open Go Go.RowKit Go.Kt Go.Kt.V Go.Proofs.YtfemabakfkliiaaGreatDoor.Vc
def Up.more{st d:St}{c:Bool}{n:Nat}(h:Up st c 0 d)(a:c=aE->n=0):Up st c n d:=by
 cases c
 ·refine⟨?_,λe=>?_⟩
  ·rw[h.w];simp
  have:=h.w;rw[e]at this;simp at this
 rw[a rfl];exact h
def aei:List (aH):=[[],DZ,tW,ww,KR]
def anF{k:Int}(h:1<=k)(a:k<=4):aei[k.toNat]? =aM (kW k):=by
 have:k=1∨k=2∨k=3∨k=4:=J
 rcases this with rfl | rfl | rfl | rfl<;>rfl
def aej(k:Int):ne (kW k)=aE:=by
 unfold kW;split
 ·rfl
 split
 ·rfl
 split
 ·rfl
 rfl
def agM(k:Int):I (kW k)<=8:=by
 unfold kW;split
 ·decide
 split
 ·decide
 split
 ·decide
 decide
def Qy{d:Nat}{b:Nb}{l:List Nd}(hk:b.k=1∨b.k=2)(hd:d<12):((decide (b.dft=[])&&dJ b.nm)&&Ek b l (d+1))=jY d (.mk b l):=by
 have h:fF b.k=aL:=ael
 rw[jY,bF hd,cr];unfold qm Ek;rw[h,aP Z];have:decide ((b.k=1∨b.k=2)/\b.dft=[])=decide (b.dft=[]):=by simp[hk]
 rw[this];generalize decide (b.dft=[])=A;generalize dJ b.nm=B;generalize (decide (b.ini=[])||dJ b.ini)=C;generalize b.en.all iZ=D;generalize b.lv.all iZ=E;generalize b.mv.all mz=G;generalize iL (d+1) l=H;cases A<;>cases B<;>cases C<;>cases D<;>cases E<;>cases G<;>cases H<;>rfl
def QA{d:Nat}{b:Nb}{l:List Nd}(hk:b.k=3∨b.k=4)(hd:d<12):(((decide (b.ini=[])&&decide (b.en=[]/\b.lv=[]/\b.mv=[]/\l=[]))&&dJ b.nm)&&dJ b.dft)=jY d (.mk b l):=by
 have a:fF b.k=aE:=by unfold fF;exact bF hk
 rw[jY,bF hd,cr];unfold qm;rw[a,aV rfl];by_cases h:l=[]
 ·subst h;have:decide (b.ini=[]/\b.en=[]/\b.lv=[]/\I b.mv=0/\I ([]:List Nd)=0)=(decide (b.ini=[])&&decide (b.en=[]/\b.lv=[]/\b.mv=[]/\([]:List Nd)=[])):=by
   rw[bL];simp
  rw[this,iL];generalize decide (b.ini=[])=A;generalize decide (b.en=[]/\b.lv=[]/\b.mv=[]/\([]:List Nd)=[])=B;cases A<;>cases B<;>cases dJ b.nm<;>cases dJ b.dft<;>rfl
 have d:decide (b.en=[]/\b.lv=[]/\b.mv=[]/\l=[])=aL:=bA λc=>h c.2.2.2;have e:decide (b.ini=[]/\b.en=[]/\b.lv=[]/\I b.mv=0/\I l=0)=aL:=bA λc=>h (bH c.2.2.2.2);rw[d,e];simp
def QB{d:Nat}{b:Nb}{l:List Nd}(h:¬(1<=b.k/\b.k<=4)∨12<=d):jY d (.mk b l)=aL:=by
 rw[jY];rcases h with h | h
 ·have a:fF b.k=aL:=ael
  have:decide ((b.k=1∨b.k=2)/\b.dft=[])=aL:=bA J;unfold qm;rw[a,aP Z,this];simp
 rw[bA J];rfl
def QC:∀D,WJ D
 | 0=>by
  intro e w b l st F x c d a h;exact h.elim
 | D+1=>by
  intro A h b l st C x i d r E F u z hd N P;obtain⟨a,s⟩:=x;have S:=E;obtain⟨j,m,mv,kids,rfl,v,y⟩:=E;have v:H4 aL h C a j m mv:=v;have y:li aL (lO aL D) 9 27 h C kids s:=y;show az aq 178 #[rp b,ah (ob a.k a.nm a.ini a.dft j m mv kids a.a).toArray,O U (d:Int)] h _;rw[Ci]at u;rw[mj]at z;have M:=z;unfold yu at M;refine ret (amR _ _ _ _ _ _ _ _ _ _ _ ?_);intro p R L K H;have g:=(r.z aL).al H L K;obtain⟨q,sl,B,_⟩:=g.toQz.set;have bad:∀{w:av} {c:St} {o:aH},c.1=aE->Zq aL A h b w o c [p]->(st.1=aE∨jY d (.mk a s)=aL)->∃c G,Up st (jY d (.mk a s)) (yt (.mk a s)) c/\(c.1=aL->G=ey l (Fc d (.mk a s)))/\Qz A b w G c/\Mw aL b h w:=by
   intro w c o e t hc;refine⟨c,o,⟨?_,λb=>absurd (e.symm.trans b) Z⟩,λb=>absurd (e.symm.trans b) Z,t.toQz,t.m⟩;rw[e];rcases hc with hc | hc
   ·rw[hc];rfl
   rw[hc];simp
  refine⟨st.1,Blk.dP B 2 rfl,λhc=>?_,λhc=>?_⟩
  ·refine(mR g.toQz aL).mono ?_;rintro _ f ⟨rfl,k,d,e,b⟩;refine⟨rfl,g.sm b aag,rfl,bad (by rw[d.w];simp) (g.nx e b.up) ?_⟩;rw[cE]at hc;rcases hc with hc | hc
   ·exact .inl hc
   exact .inr (QB (.inr aa1))
  rw[fy]at hc;have Y:d<12:=by have:=aU hc.2;omega
  obtain⟨q2,w2,q,i,e2,cQ,aS,aT,od,dQ⟩:=WA R aei (n:=5) (parts:=#[.mk 0 (X (ao #[])),.mk 1 (X (ao #[115,116,97,116,101])),.mk 2 (X (ao #[112,97,114,97,108,108,101,108])),.mk 3 (X (ao #[104,105,115,116,111,114,121])),.mk 4 (X (ao #[100,101,101,112]))]) rfl rfl Z Z;have V:=g.al cQ aS aT;have am:1<=a.k/\a.k<=4->cR q2 a.k 1 ⟨q,a.k.toNat,aaa⟩/\∀w,aF w q 9 i->aB w ⟨q,a.k.toNat,aaa⟩ [X (T (kW a.k))]:=λhk=>by
   have:=dQ _ _ (anF hk.1 hk.2);rwa[fL J]at this
  have Fj:=agM a.k;have z2:∀{W:av},Q [] w2 W->aF W q 9 i:=λhO=>hO.blk od aag;have aC:∀{W w4:av} {o:aH} {sx:St} {f:Bool},Zq aL A h b W o sx [q,p]->Mw f b W w4->aF W q 9 i->aF w4 q 9 i:=λt bv B=>(t.sm (ks':=[q]) bv aag q aag).trans B;refine⟨q2,w2,e2,g.sq cQ aag,λb1 W=>w2=W/\b1=decide (a.k=1∨a.k=2),?_,λoQ=>⟨rfl,?_⟩,λoQ=>⟨rfl,?_⟩⟩
  ·rintro b1 _ ⟨rfl,rfl⟩;refine⟨λb=>?_,λb=>?_⟩
   ·have hk:=aO b;have co:1<=a.k/\a.k<=4:=J
    obtain⟨y1,y2⟩:=am co;rw[show ao #[]=T []from rfl,iv];refine(mR V.toQz _).mono ?_;rintro _ w4 ⟨rfl,OZ,u1,u2,u3⟩;have t4:=V.nx u2 u3.up;refine⟨rfl,V.sm u3 aag,λw5 eh=>⟨λk=>k∈[p,q],aag,_,y1,aag,_,y2 w5 (eh.blk (aC V u3 od) aag),?_⟩⟩;have t5:=t4.q eh;refine(pW t5.toQz a.nm J).mono ?_;rintro _ w6 ⟨rfl,t,v1,v2,v3⟩;have f:=t5.nx v2 v3.up;have mH:=kO [kW a.k,a.nm,[123]];simp only[bS,gU,dk,lU,aY,bC]at mH;obtain⟨q7,w7,e7,fR,ce⟩:=BT f.toQz [kW a.k,a.nm,[123]] (n:=3) (parts:=#[.mk 0 (X (T (kW a.k))),.mk 1 (X (T a.nm)),.mk 2 (X (T [123]))]) rfl rfl Z Z d hd J;refine⟨_,rfl,t5.sm v3 aag,bT.of (t5.sm v3 aag),q7,w7,e7,f.sq fR aag,bT.of (f.sq fR aag),ce.mono ?_⟩;rintro _ w8 ⟨rfl,x1,x2⟩;have t8:=f.nx x1 x2;have cC:t.1=aL->(if t.1 then l else kJ l (d,iC [kW a.k,a.nm,[123]]))=ey l [(d,kW a.k++32::(a.nm++[32,123]))]:=λe=>by
     rw[e,aP Z,pF,sW (aej _),ic (vd (v1.ok e).2.1),ic (by rfl),fM,ia,ia,pE];rfl
    generalize (if t.1 then l else kJ l (d,iC [kW a.k,a.nm,[123]]))=l8 at*
    have ed:ar U ((d:Int)+1)=((d+1:Nat):Int):=aaf
    rw[ed];refine⟨rfl,f.sl fR x2 aag,bT.of (f.sl fR x2 aag),(WK (QC D) t8.toQz (v.keep λk hk _=>r.arg t8.toQz (F k hk)) (y.keep (cf aL D) Z λk hk _=>r.arg t8.toQz (F k hk)) F u.1 u.2 z (d+1) J N P).mono ?_⟩;rintro _ w9 ⟨rfl,eQ,l9,x,dO,y3,y4⟩;have t9:=t8.nx y3 y4;obtain⟨el,dz,cc,dX,bY⟩:=BT t9.toQz [[125]] (n:=1) (parts:=#[.mk 0 (X (T [125]))]) rfl rfl Z Z d hd Z;refine⟨rfl,t8.sm y4 aag,el,dz,cc,t9.sq dX aag,bY.mono ?_⟩;rintro _ dF ⟨rfl,x3,x4⟩;have bV:=t9.nx x3 x4;refine⟨rfl,t9.sl dX x4 aag,rfl,eQ,_,((u1.tr v1).tr x).cg (Qy hk Y) (by rw[yt];omega),λe=>?_,bV.toQz,bV.m⟩;have hh:fF a.k=aL:=ael
    rw[Fc,hh,e];simp only[nH,lS];rw[dO e,cC (x.ok e).1,<-gP];have e1:iC [[125]]=[125]:=Z
    rw[e1,<-pF,<-gP];simp only[bq,bZ,bR]
   have fd:=aU b;refine⟨λt eZ=>w2=eZ/\t=decide (a.k=3∨a.k=4),?_,λf=>⟨rfl,?_⟩,λf=>⟨rfl,?_⟩⟩
   ·rintro t _ ⟨rfl,rfl⟩;refine⟨λgE=>?_,λgE=>?_⟩
    ·have hk:=aO gE;have iS:1<=a.k/\a.k<=4:=J
     obtain⟨y1,y2⟩:=am iS;have n4:=v.1.1.len;have n5:=v.2.1.1.len;have n6:=v.2.2.1.len;have n7:=y.1.len;have a4:=gZ a.en;have a5:=gZ a.lv;have a6:=mA a.mv;have a7:=oB s;have ip:(ar U ((ar U ((ar U ((j.n:Int)+(m.n:Int)))+(mv.n:Int)))+(kids.n:Int))==0)=decide (a.en=[]/\a.lv=[]/\a.mv=[]/\s=[]):=by
      rw[fh (x:=(j.n:Int)+(m.n:Int)) J J,fh (x:=(j.n:Int)+(m.n:Int)+(mv.n:Int)) J J,fh J J,bL];simp only[dB,bG];refine⟨λe=>?_,λ⟨d,e2,k,n⟩=>?_⟩
      ·exact⟨bH J,bH J,bH J,bH J⟩
      rw[n4,n5,n6,n7,d,e2,k,n];rfl
     rw[show ao #[]=T []from rfl,iv,ip];refine(mR V.toQz _).mono ?_;rintro _ fl ⟨rfl,mK,u1,u2,u3⟩;have lT:=V.nx u2 u3.up;refine⟨rfl,V.sm u3 aag,λgw eS=>⟨λk=>k∈[p,q],aag,_,y1,aag,_,y2 gw (eS.blk (aC V u3 od) aag),aag,?_⟩⟩;have gO:=lT.q eS;refine(pW gO.toQz a.nm J).mono ?_;rintro _ ij ⟨rfl,mt,v1,v2,v3⟩;have gT:=gO.nx v2 v3.up;refine⟨_,rfl,gO.sm v3 aag,bT.of (gO.sm v3 aag),(pW gT.toQz a.dft J).mono ?_⟩;rintro _ jw ⟨rfl,iD,x1,x2,x3⟩;have gG:=gT.nx x2 x3.up;have mH:=kO [kW a.k,a.nm,[45,62],a.dft++[59]];simp only[bS,gU,dk,lU,aY,bC,aQ]at mH;obtain⟨lE,iX,iN,iP,iF⟩:=BT gG.toQz [kW a.k,a.nm,[45,62],a.dft++[59]] (n:=4) (parts:=#[.mk 0 (X (T (kW a.k))),.mk 1 (X (T a.nm)),.mk 2 (X (T [45,62])),.mk 3 (X (T (a.dft++[59])))]) rfl rfl Z Z d hd J;refine⟨T a.dft,rfl,gT.sm x3 aag,bT.of (gT.sm x3 aag),aa2,lE,iX,by rw[show ao #[59]=T [59]from rfl,fJ];exact iN,gG.sq iP aag,bT.of (gG.sq iP aag),iF.mono ?_⟩;rintro _ ku ⟨rfl,y3,y4⟩;have g8:=gG.nx y3 y4;have hU:=((u1.tr v1).tr x1).cg (QA hk Y) rfl;refine⟨rfl,gG.sl iP y4 aag,bT.of (gG.sl iP y4 aag),rfl,iD,_,hU.more λkf=>?_,λe=>?_,g8.toQz,g8.m⟩
     ·rw[<-QA hk Y]at kf;simp only[aR,bG]at kf;obtain⟨⟨⟨_,e,e2,d,k⟩,_⟩,_⟩:=kf;rw[yt,k,nS];unfold BR;rw[e,e2,d];rfl
     have d:fF a.k=aE:=by unfold fF;exact bF hk
     have x:ne (a.dft++[59])=aE:=by
      have:a.dft++[59]≠[]:=aag
      unfold ne;rw[bA this];rfl
     rw[Fc,d,aV rfl,e,aP Z,pF,sW (aej _),ic (vd (v1.ok (x1.ok e).1).2.1),ic (by rfl),ic x,fM,ia,ia,ia,pE,bE];rfl
    have n:=aU gE;refine(mR V.toQz aL).mono ?_;rintro _ fl ⟨rfl,x,T,u2,e⟩;have d:=V.nx u2 e.up;exact⟨rfl,V.sm e aag,rfl,bad (by rw[T.w];simp) ⟨d.toQz,d.m,λk hk=>d.k k ae1⟩ (.inr (QB (.inl J)))⟩
   ·have:a.k=3:=by simpa using f
    rw[f,bF (.inl this)]
   have:a.k≠3:=by simpa using f
   rw[bL];simp[this]
  ·have:a.k=1:=by simpa using oQ
   rw[oQ,bF (.inl this)]
  have:a.k≠1:=by simpa using oQ
  rw[bL];simp[this]
mutual
def WT:∀x:Nd,iH x<=mj x
 | .mk b l=>by
  rw[iH,mj];have:=CT l;unfold yu;omega
def CT:∀l:List Nd,dR l<=jm l
 | []=>by rw[dR];exact be _
 | x::l=>by
  rw[dR,jm];exact mT (WT x) (CT l)
end
mutual
def agN:∀x:Nd,zR x<=mj x
 | .mk b l=>by
  rw[zR,mj];have:=Ah l;have:=mA b.mv;unfold yu;omega
def Ah:∀l:List Nd,oT l<=jm l
 | []=>by rw[oT];exact be _
 | x::l=>by
  rw[oT,jm];exact mT (agN x) (Ah l)
end
def ug x:∀l,dR (l++[x])=dR l+iH x
 | []=>by simp[dR]
 | y::l=>by rw[bZ,dR,dR,ug x l];omega
def xw x:∀l,oT (l++[x])=oT l+zR x
 | []=>by simp[oT]
 | y::l=>by rw[bZ,oT,oT,xw x l];omega
def Lr:∀l m,jm (l++m)=jm l+jm m
 | [],m=>by rw[bR,jm];omega
 | y::l,m=>by rw[bZ,jm,jm,Lr l m];omega
def QD:∀D w F x c,lO aL D w F x c->mj x<=8388608->az aq 130 #[ah c.toArray] w λe b=>e=ak (ai #[O U (iH x),O U (zR x)])/\Q [] w b
 | 0,w,F,x,c,h,_=>h.elim
 | D+1,w,F,x,c,l,g=>by
  obtain⟨e,s⟩:=x;obtain⟨r,A,mv,kids,rfl,v,B⟩:=l;have q:=v.2.2.1;have hk:aA _ 9 w F kids s:=B.1;refine ret (amh _ _ _ _ _ _ _ _ _ ?_);have L:=CT s;have M:=Ah s;have N:=mA e.mv;rw[mj]at g;unfold yu at g;have C:=hk.len;have P:=oB s;intro o E t z i G f;refine⟨λn a p m b=>∃j:Nat,m=j/\j<=I s/\n=(I s)-j/\a=(1+dR (s.take j):Nat)/\p=(I e.mv+oT (s.take j):Nat)/\o<b.heap.size/\Q [] w b,I s,⟨0,rfl,be _,rfl,by rw[cA,dR];rfl,by rw[cA,oT,q.len];rfl,cV z f.size,i.cd f⟩,?_⟩;rintro n _ _ _ H ⟨j,rfl,u,rfl,rfl,rfl,K,d⟩;refine⟨λh=>?_,λh=>?_⟩
  ·have x:(j:Int)<kids.n:=aO h;obtain⟨ad,y,c,W,R,g3,g4,Y,T⟩:=(SliceF.only (cf aL D) Z hk d aag).get (ba j) x;rw[aW]at R;have R7:=nB (bn R);have a:s.take (j+1)=s.take j++[y]:=by
    rw[bh,R];rfl
   have V:jm s=jm (s.take (j+1))+jm (s.drop (j+1)):=by rw[<-Lr,fk]
   have y3:dR (s.take j)+iH y<=jm (s.take (j+1)):=by rw[<-ug,<-a];exact CT _
   have y4:oT (s.take j)+zR y<=jm (s.take (j+1)):=by rw[<-xw,<-a];exact Ah _
   have S:=T;cases D with
   | zero=>exact S.elim
   | succ D=>
   obtain⟨ri,rj,oM,gD,rfl,_⟩:=S;refine⟨ad,W,_,_,_,_,ri,rj,oM,gD,_,Y,λk3 w4 ur am dI=>?_⟩;refine(QD _ w4 F y _ ((cf aL _).keep T λk _ x=>dI.block k x aag) J).mono ?_;rintro _ w5 ⟨rfl,eh⟩;refine⟨_,_,rfl,eh.same (by have:=dI.size;simp;omega),(I s)-_,J,j+1,aaf,J,rfl,?_,?_,?_,(d.cd dI).cd eh⟩
   ·rw[a,ug,fh J J];omega
   ·rw[a,xw,fh J J];omega
   have:=dI.size;have:=eh.size;omega
  have k:¬(j:Int)<kids.n:=aU h;have a:j=I s:=J
  subst a;rw[bm (aX _)];refine⟨?_,d⟩;rw[iH,zR,jG]
structure Pt4 (w:av) (b:Nat) (sl:Sl) (l:aH) (v2 v3:aw):Prop where
 blk:∃q:Option Addr,aF w b 216 [ae q,sl.v,v2,v3]
 len:sl.n=I l
 aM:l≠[]->∃g,sl.a=.some ⟨g,0,aaa⟩/\b<g/\sl.c≠0/\(∃n,w.shape? g=.some (5,n)/\I l<=n)/\aB w ⟨g,0,aaa⟩ (l.map iT)
 cap:sl.a=aaa∨sl.c≠0
 big:I l<=9223372036854775807
section
variable {w:av} {b:Nat} {sl:Sl} {l:aH} {v2 v3:aw}
def Pt4.only{w'}(j:Pt4 w b sl l v2 v3)(h:Q [] w w'):Pt4 w' b sl l v2 v3:=by
 obtain⟨⟨q,k⟩,m,o,p,r⟩:=j;refine⟨⟨q,h.blk k aag⟩,m,λt=>?_,p,r⟩;obtain⟨g,c,d,e,⟨n,a,f⟩,i⟩:=o t;have s:g<w.heap.size:=by
  refine bQ λn=>?_;unfold World.shape? at a;rw[iR J]at a;cases a
 have hk:=h.block g s aag;exact⟨g,c,d,e,⟨n,(Ea hk).trans a,f⟩,i.keep hk⟩
def Qz.pt{w0}{st}(a:Qz w0 b w l st):∃sl,Pt4 w b sl l (aj st.1) (O U st.2)/\∀k,sl.a=aM ⟨k,0,aaa⟩->Bu w b k:=by
 obtain⟨q,sl,d,B,h⟩:=a.ex;refine⟨sl,⟨⟨_,B⟩,h.len,λc=>?_,?_,?_⟩,λk hk=>Lc B hk⟩
 ·rcases h with⟨_,e⟩ | ⟨g,tail,f,i,b,j,k,l,m,n⟩
  ·exact absurd e c
  refine⟨g,f,i,J,⟨_,by unfold World.shape?;unfold aF at b;rw[b],aag⟩,b.cells 0 _ λe v hj=>ac9⟩
 ·rcases h with⟨e,_⟩ | _
  ·exact .inl (by rw[e])
  exact .inr J
 rcases h with⟨_,e⟩ | _
 ·subst e;simp
 omega
def QE(i:Pt4 w b sl l v2 v3):az aq 137 #[ae (aM ⟨b,0,aaa⟩)] w λe g=>e=ak (X (T l))/\Pt4 g b sl l v2 v3/\aD (λk=>b<k/\sl.a=aM ⟨k,0,aaa⟩) w g:=by
 refine ret (adO _ ?_);intro c d;obtain⟨⟨q,h⟩,f,M,p,s⟩:=i.only d;refine⟨λk=>k=b,sl,Blk.dP h 1 rfl,rfl,sl,Blk.dP h 1 rfl,sl.a,c,?_,λk _ _=>rfl,?_⟩
 ·obtain⟨b,n,sc⟩:=sl;rcases b with _|a
  ·exact Lib.run_unsafeSliceData_nil _ _ _ _ _
  rcases p with e | e
  ·cases e
  exact Lib.run_unsafeSliceData_row _ _ _ _ _ _ e
 by_cases a:l=[]
 ·subst a;refine⟨T [],c,?_,λk _ _=>rfl,rfl,⟨⟨q,h⟩,f,M,p,s⟩,d.p0⟩;rw[f];exact Lib.run_unsafeString_none _ _ _ _ _
 obtain⟨b,e,z,u,⟨o,r,n⟩,y⟩:=M a;have F:=wq c ⟨b,0,aaa⟩ (I l);refine⟨T l,c.freeze _ (I l),?_,λk hk t=>F.block k t abI,rfl,⟨⟨q,F.blk h abI⟩,f,λ_=>⟨b,e,z,u,⟨o,(zQ _ _ _ _).trans r,n⟩,λm v j=>by rw[wo];exact y m v j⟩,p,s⟩,d.qz (F.mono λk _ hk=>by dsimp only at hk;exact⟨J,by rw[hk];exact e⟩)⟩;rw[e,f];exact Lib.run_unsafeString_row _ _ _ _ 5 aae aae b o r l a n s λm x j=>y m _ (by rw[cF,j];rfl)
end
def iM(c:Ch):aH×Int:=
 if pC c=aE then(if 16384<I (ey [] (Ee c)) then([],2)else if(eP (ey [] (Ee c))).2.1≠0 then([],22)else(ey [] (Ee c),0))else([],22)
def nY:List Vr->Nat
 | []=>0
 | v::l=>(I v.n+1)+nY l
def wK{v}:∀{l:List Vr},v∈l->I v.n+1<=nY l
 | [],h=>acr
 | x::l,h=>by
  rw[nY];rcases aZ.1 h with rfl | h
  ·omega
  have:=wK h;omega
def wL:∀l,I l<=nY l
 | []=>be _
 | v::l=>by
  have:=wL l;rw[nY,aY];omega
def xV(v:Vr):Bool:=dJ v.n&&decide (v.v≠ -9223372036854775808)
def abw c:((((((decide (c.root.b.k=1)&&decide (c.root.b.dft=[]))&&decide (I c.vars<=16))&&decide (iH c.root<=64))&&decide (zR c.root<=200))&&dJ c.root.b.nm)&&(c.vars.all xV&&Ek c.root.b c.root.kids 1)&&decide (yt c.root<=400))=pC c:=by
 obtain⟨v,⟨b,l⟩⟩:=c;show((((((decide (b.k=1)&&decide (b.dft=[]))&&decide _)&&decide _)&&decide _)&&dJ b.nm)&&(v.all xV&&Ek b l 1)&&decide _)=(v.all xV&&jY 0 _&&decide (b.k=1/\I v<=16/\iH _<=64/\zR _<=200/\yt _<=400))
 by_cases hk:b.k=1
 ·rw[<-Qy (d:=0) (.inl hk) Z];have:decide (b.k=1/\I v<=16/\iH (.mk b l)<=64/\zR (.mk b l)<=200/\yt (.mk b l)<=400)=(decide (I v<=16)&&decide (iH (.mk b l)<=64)&&decide (zR (.mk b l)<=200)&&decide (yt (.mk b l)<=400)):=by
   rw[bL];simp[hk,and_assoc]
  rw[this,bF hk];generalize decide (b.dft=[])=A;generalize decide (I v<=16)=B;generalize decide (iH _<=64)=C;generalize decide (zR _<=200)=D;generalize dJ b.nm=G;generalize v.all xV=H;generalize Ek b l _=a;cases A<;>cases B<;>cases C<;>cases D<;>cases G<;>cases H<;>cases a<;>rfl
 have:decide (b.k=1/\I v<=16/\iH (.mk b l)<=64/\zR (.mk b l)<=200/\yt (.mk b l)<=400)=aL:=bA λh=>hk h.1;rw[this,bA hk];simp
def abx{w:av}{F:aJ}{D:Nat}{c:Ch}{i:Sl}{g:aI}(h:ChR aL D w F c i g)(m:G8 c)(j:nY c.vars+mj c.root<=8388608)(E:Er w)(l:Tb w):
  az aq 95 #[ah (i.v::g).toArray] w λe f=>e=ak (ai #[X (T (iM c).1),O U (iM c).2])/\Q [] w f:=by
 obtain⟨a,⟨d,s⟩⟩:=c;cases D with
 | zero=>exact h.root.elim
 | succ D=>
 have R9:lO aL (D+1) w F (.mk d s) g:=h.root;have W:aA AP 3 w F i a:=h.vars.1;obtain⟨en,lv,mv,kids,rfl,S,V⟩:=(cf aL _).inHeap R9;have S:H4 aL w (λk=>F k/\k<w.heap.size) d en lv mv:=S;have V:li aL (lO aL D) 9 27 w (λk=>F k/\k<w.heap.size) kids s:=V;have r:=m.r;have r:Ci (.mk d s):=r;have Sa:∀v,v∈a->tn v.v:=m.v;rw[Ci]at r;have j:nY a+mj (.mk d s)<=8388608:=j;have N:mj (.mk d s)=yu d+jm s:=by rw[mj]
 have Y:=j;rw[N]at Y;unfold yu at Y;have p:=abw ⟨a,.mk d s⟩;generalize P:iM ⟨a,.mk d s⟩=am;unfold iM at P;rw[<-p]at P;clear p;have P:(if((((((decide (d.k=1)&&decide (d.dft=[]))&&decide _)&&decide _)&&decide _)&&dJ d.nm)&&(a.all xV&&Ek d s 1)&&decide (yt (.mk d s)<=400))=aE then(if 16384<I (ey [] (Ee ⟨a,.mk d s⟩)) then([],2)else if(eP (ey [] (Ee ⟨a,.mk d s⟩))).2.1≠0 then([],22)else(ey [] (Ee ⟨a,.mk d s⟩),0))else([],22))=am:=P;show az aq 95 #[ah (i.v::ob d.k d.nm d.ini d.dft en lv mv kids d.a).toArray] w _;refine ret (alV _ _ _ _ _ _ _ _ _ _ ?_);intro C b w1 fZ ez hb oV cD;have A:=W.len;have B:=wL a;refine(QD (D+1) w1 F (.mk d s) _ ((cf aL _).keep R9 λk _ bU=>cD.block k bU aag) J).mono ?_;rintro _ o ⟨rfl,y⟩;have z2:=y.size;refine⟨_,_,rfl,y.same aah,λod ii=>?_⟩;have q2:Qz w b o [] (aL,0):=⟨cD.cd y,hb,⟨aaa,Sl.nil,.inl rfl,od,.inl ⟨rfl,rfl⟩⟩,λ_=>⟨ky 0,Z⟩,be _⟩
 have R:Zq aL w o b o [] (aL,0) [C]:=⟨q2,Mw.refl _ _ _,λk hk=>by
  simp only[aN]at hk;subst hk;exact⟨J,ii,λb=>by have:=Qi od b;cases this⟩⟩
 have hF:∀k,(λk=>F k/\k<w.heap.size) k->k<w.heap.size:=λk hk=>hk.2;have hw:=q2.o;rw[show ao #[]=T []from rfl,iv,A];refine(mR R.toQz _).mono ?_;rintro _ w3 ⟨rfl,aS,u1,u2,u3⟩;have u:=R.nx u2 u3.up;have Hb:((((d.k==1)&&decide (d.dft=[]))&&decide ((I a:Int)<=16))&&decide ((iH (.mk d s):Int)<=64)&&decide ((zR (.mk d s):Int)<=200))=((((decide (d.k=1)&&decide (d.dft=[]))&&decide (I a<=16))&&decide (iH (.mk d s)<=64))&&decide (zR (.mk d s)<=200)):=by
  rw[bL];simp only[aR,dB,bG];constructor
  ·rintro⟨⟨⟨⟨b,e⟩,k⟩,n⟩,q⟩;exact⟨⟨⟨⟨b,e⟩,J⟩,J⟩,J⟩
  rintro⟨⟨⟨⟨b,e⟩,k⟩,n⟩,q⟩;exact⟨⟨⟨⟨b,e⟩,J⟩,J⟩,J⟩
 rw[Hb]at u1;obtain⟨G,K,_,vR,_⟩:=u.ex;refine⟨rfl,R.sm u3 aag,G,K,_,_,vR,(pW u.toQz d.nm J).mono ?_⟩;rintro _ w4 ⟨rfl,c,v1,v2,v3⟩;have t:=u.nx v2 v3.up;obtain⟨L,M,_,sE,_⟩:=t.ex;have H:=kO [gf,d.nm,[123]];simp at H;have aC:I gf=5:=rfl;obtain⟨q5,w5,e5,eh,z⟩:=BT t.toQz [gf,d.nm,[123]] (n:=3) (parts:=#[.mk 0 (X (T gf)),.mk 1 _,.mk 2 (X (T [123]))]) rfl rfl Z Z 0 Z J;refine⟨_,rfl,u.sm v3 aag,L,M,_,_,sE,q5,w5,e5,?_,z.mono ?_⟩
 ·refine eh.same λx h=>⟨?_,aag⟩
  simp at h;rcases h with rfl | rfl
  ·exact(t.k x aag).1
  exact t.toQz.lb
 rintro _ w6 ⟨rfl,x1,x2⟩;have t6:=t.nx x1 x2;have bv:=u1.tr v1;have bV:c.1=aL->(if c.1 then([]:aH)else kJ [] (0,iC [gf,d.nm,[123]]))=ey [] [(0,gf++32::(d.nm++[32,123]))]:=λe=>by
  rw[e];simp only[nH,lS];rw[pF,sW Z,ic (vd (v1.ok e).2.1),ic (by rfl),fM,ia,ia,pE];rfl
 generalize (if c.1 then([]:aH)else kJ [] (0,iC [gf,d.nm,[123]]))=l6 at*
 obtain⟨bY,cc,_,RW,_⟩:=t6.ex;refine⟨rfl,t.sl eh x2 aag,bY,cc,_,_,RW,λnv ce q l' wr ac f=>∃(aT:Nat) (dq:St) (l':aH),ce=aT/\aT<=I a/\nv=(I a)-aT/\Up c ((a.take aT).all xV) 0 dq/\(dq.1=aL->l'=ey l6 ((a.take aT).map λv=>(1,ZZ v)))/\Zq aL w o b f l' dq [C],
  (I a),⟨0,c,l6,rfl,be _,rfl,t6.toQz.up0,λ_=>rfl,t6⟩,?_⟩
 rintro nv _ qa la wr ac w7 ⟨aT,co,l7,rfl,hj,rfl,R6,M2,t7⟩;refine⟨λhc=>?_,λhc=>?_⟩
 ·have bU:(aT:Int)<I a:=aO hc;obtain⟨ad,v,g,g1,g2,g3,g4,g5,g6⟩:=(SliceF.only dY Z W t7.o aag).get (ba aT) J;rw[aW]at g2;have dO:=bn g2;have B:=wK dO;have oP:a.take (aT+1)=a.take aT++[v]:=by
   rw[bh,g2];rfl
  unfold AP at g6;subst g6;refine⟨ad,g1,_,_,_,g5,λk4 w8 uw yg ft _=>?_⟩;have t8:=t7.al ft uw yg;refine(mR t8.toQz _).mono ?_;rintro _ w9 ⟨rfl,iF,y1,y2,y3⟩;have t9:=t8.nx y2 y3.up;obtain⟨g8,ip,_,Ud,_⟩:=t9.ex;refine⟨rfl,t8.sm y3 aag,g8,ip,_,_,Ud,λdz dX _=>⟨λk=>k∈[k4],aag,?_⟩⟩;have cC:=t9.q dX;refine(pW cC.toQz v.n J).mono ?_;rintro _ dF ⟨rfl,el,y4,y5,y6⟩;have q:=cC.nx y5 y6.up;obtain⟨eQ,fd,_,FQ,_⟩:=q.ex;refine⟨_,rfl,cC.sm y6 aag,eQ,fd,_,_,FQ,bT.of (cC.sm y6 aag),(CM v.v (Sa v dO) (l.only q.o)).mono ?_⟩;rintro _ eZ ⟨rfl,eW⟩;have b:=q.q eW;obtain⟨gE,gG,_,Jl,_⟩:=b.ex;have RS:=Li (Sa v dO);have H:=kO [yJ,v.n,[61],Lib.itoa v.v++[59]];simp only[bS,gU,dk,lU,aY,bC,aQ]at H;have iD:I yJ=3:=rfl;obtain⟨TY,fl,gT,eE,gO⟩:=BT b.toQz [yJ,v.n,[61],Lib.itoa v.v++[59]] (n:=4) (parts:=#[.mk 0 (X (T yJ)),.mk 1 (X (T v.n)),.mk 2 (X (T [61])),.mk 3 (X (T (Lib.itoa v.v++[59])))]) rfl rfl Z Z 1 Z J;refine⟨T (Lib.itoa v.v),rfl,q.sq eW aag,gE,gG,_,_,Jl,bT.of (q.sq eW aag),aa2,TY,fl,by rw[show ao #[59]=T [59]from rfl,fJ];exact gT,?_,bT.of (b.sq eE aag),gO.mono ?_⟩
  ·refine eE.same λx h=>⟨?_,aag⟩
   simp only[aZ,bp,ci]at h;rcases h with rfl | rfl | rfl
   ·exact(b.k x aag).1
   ·exact b.toQz.lb
   exact(b.k x aag).1
  rintro _ gw ⟨rfl,y7,y8⟩;have n:=b.nx y7 y8;obtain⟨x,T,_,FO,_⟩:=n.ex;refine⟨rfl,b.sl eE y8 aag,x,T,_,_,FO,bT.of (b.sl eE y8 aag),(I a)-(aT+1),J,aT+1,el,_,aaf,J,rfl,((R6.tr y1).tr y4).cg ?_ rfl,λe=>?_,⟨n.toQz,n.m,λk hk=>n.k k ae1⟩⟩
  ·rw[oP,jc];have:(v.v != -9223372036854775808)=decide (v.v≠ -9223372036854775808):=by rw[bL];simp
   rw[this];unfold xV;simp only[mf,List.all_nil,eo];rw[sJ,Bool.and_comm (decide _) (dJ _)]
  have k:ne (Lib.itoa v.v++[59])=aE:=by
   have:Lib.itoa v.v++[59]≠[]:=aag
   unfold ne;rw[bA this];rfl
  rw[e];simp only[nH,lS];rw[M2 (y1.ok (y4.ok e).1).1,oP,cK,gP,sW Z,ic (vd (y4.ok e).2.1),ic (by rfl),ic k,fM,ia,ia,ia,pE,bE];rfl
 have ma:=aU hc;have lu:aT=I a:=J
 subst lu;rw[bm (aX _)]at R6 M2;refine(WK (QC D) t7.toQz (S.keep λk hk _=>t7.o.block k hk.2 aag) (V.keep (cf aL D) Z λk hk _=>t7.o.block k hk.2 aag) hF r.1 r.2 J 1 Z E l).mono ?_;rintro _ w8 ⟨rfl,q,l8,iN,lE,y1,y2⟩;have v:=t7.nx y1 y2;obtain⟨lT,mt,_,yy,_⟩:=v.ex;obtain⟨q9,w9,e9,fU,iS⟩:=BT v.toQz [[125]] (n:=1) (parts:=#[.mk 0 (X (T [125]))]) rfl rfl Z Z 0 Z Z;refine⟨rfl,t7.sm y2 aag,lT,mt,_,_,yy,q9,w9,e9,?_,iS.mono ?_⟩
 ·refine fU.same λx h=>⟨?_,aag⟩
  simp only[aZ,bp,ci]at h;rcases h with rfl | rfl
  ·exact(v.k x aag).1
  exact v.toQz.lb
 rintro _ dz ⟨rfl,x3,x4⟩;have n:=v.nx x3 x4;have hU:=bv.tr (R6.tr iN);have oN:q.1=aL->(if q.1 then l8 else kJ l8 (0,iC [[125]]))=ey [] (Ee ⟨a,.mk d s⟩):=λe=>by
  obtain⟨b,_⟩:=iN.ok e;obtain⟨x,_⟩:=R6.ok b;rw[e];simp;rw[lE e,M2 b,bV x];have k:iC [[125]]=[125]:=Z
  rw[k,<-pF,<-gP,<-gP,<-gP];unfold Ee;rw[bq (FE 1 d)];exact rfl
 obtain⟨n8,oF,_,pK,_⟩:=n.ex;have mK:((((((decide (d.k=1)&&decide (d.dft=[]))&&decide (I a<=16))&&decide (iH (.mk d s)<=64))&&decide (zR (.mk d s)<=200))&&dJ d.nm)&&(a.all xV&&Ek d s 1)&&decide (yt (.mk d s)<=400))=!q.1:=by
  have b:=hU.w;have x:decide (400<(0:Int)+((0+0+(0+(BR d+nS s)):Nat):Int))=!decide (yt (.mk d s)<=400):=by
   rw[yt];by_cases h4:BR d+nS s<=400
   ·rw[bF h4,bA J];rfl
   rw[bA h4,bF J];rfl
  have b:q.1=((aL||!(_&&(a.all xV&&Ek d s 1)))||decide _):=b;rw[x]at b;rw[b];generalize (_&&(a.all xV&&Ek d s 1))=e;generalize decide (yt (.mk d s)<=400)=k;cases e<;>cases k<;>rfl
 rw[mK]at P;have oR:∀{f:av},Q [] o f->Q [] w f:=λT=>hw.cd T;have nO:Q [] w dz:=n.o;refine⟨rfl,v.sl fU x4 aag,n8,oF,_,_,pK,λe=>?_,λe=>(Qm n.toQz).mono ?_⟩
 ·rw[aP (by rw[e];decide)]at P;subst P;exact⟨rfl,nO⟩
 rw[aV (by rw[e];rfl),<-oN e]at P;rintro _ _ ⟨rfl,rfl⟩;obtain⟨pi,rx,pm⟩:=n.toQz.pt;have pP:=λk hk=>n.toQz.bu (pm k hk);refine⟨_,rfl,λ_ _=>rfl,n8,oF,_,_,pK,λe2=>?_,λe2=>(QE rx).mono ?_⟩
 ·rw[aV (aO e2)]at P;subst P;exact⟨rfl,nO⟩
 rw[aP (aU e2)]at P;rintro _ dF ⟨rfl,tO,dT⟩;have C3:=dT.size;have wd:=n.toQz.lb;have e:=n.k C aag;have ko:∀k,(b<k/\pi.a=aM ⟨k,0,aaa⟩)->w.heap.size<=k:=λk hk=>by have:=n.lo;omega
 have ut:Q [] w dF:=(nO.qz dT).only ko;obtain⟨uP,FQ⟩:=tO.blk;refine⟨_,rfl,dT.same λx h=>?_,uP,pi,_,_,FQ,(K9 _ (E.only ut)).mono ?_⟩
 ·simp only[aN]at h;subst h;exact⟨e.1,λT=>e.2.2 (pm _ T.2)⟩
 rintro _ eZ ⟨AT,Bv,rfl,hC,eW⟩;obtain⟨xe,xl,xm,xk,rfl,_⟩:=hC.root;have b:=tO.only eW;obtain⟨AS,Jl⟩:=b.blk;have k:=ut.cd eW;have BY:=eW.size;refine⟨AT,_,_,_,_,xe,xl,xm,xk,_,_,_,rfl,eW.same aah,AS,pi,_,_,Jl,λe3 k6 k7 fl _ _ _ _ eE _=>?_,λe3 k8 k9 gw By As BV AC eS _=>?_⟩
 ·rw[aV (by simpa using e3)]at P;subst P;exact⟨rfl,k.cd eE⟩
 rw[aP (by simpa using e3)]at P;subst P;refine(QE (b.only eS)).mono ?_;rintro _ ij ⟨rfl,Cc,iG⟩;obtain⟨CC,Zn⟩:=Cc.blk;have Do:=eS.size;refine⟨_,rfl,iG.same λx h=>?_,CC,pi,_,_,Zn,rfl,((k.cd eS).qz iG).only ko⟩;simp only[aZ,bp,ci]at h;rcases h with rfl | rfl | rfl
 ·exact⟨J,λT=>e.2.2 (pm _ T.2)⟩
 ·exact⟨As,λT=>by have:=(pP _ T.2).2;omega⟩
 exact⟨AC,λT=>by have:=(pP _ T.2).2;omega⟩
def inB(n:Int):Bool:=decide (-9223372036854775808<=n/\n<=9223372036854775807)
def WU{n:Int}(h:inB n=aE):tn n:=by
 have h:=aO h;exact⟨h.1,h.2⟩
mutual
def nXb:Ex->Bool
 | .mk _ n _ _ l _=>inB n&&aby l
def aby:List Ex->Bool
 | []=>aE
 | x::l=>nXb x&&aby l
end
def QF{y:Ex}:∀{l:List Ex},aby l=aE->y∈l->nXb y=aE
 | [],_,h=>acr
 | x::l,h,y=>by
  rw[aby,aR]at h;rcases aZ.1 y with rfl | y
  ·exact h.1
  exact QF h.2 y
def agO:∀(d:Nat) {x:Ex},nXb x=aE->my d x
 | 0,_,_=>trivial
 | d+1,.mk k n s op l a,h=>by
  rw[nXb,aR]at h;exact⟨WU h.1,λy b=>agO d (QF h.2 b)⟩
def nAb(a:Ac):Bool:=nXb a.x
def nMb(m:Mv):Bool:=nXb m.g&&m.acts.all nAb&&inB m.wt
def nNb(b:Nb):Bool:=b.en.all nAb&&b.lv.all nAb&&b.mv.all nMb
mutual
def nDb:Nd->Bool
 | .mk b l=>nNb b&&abz l
def abz:List Nd->Bool
 | []=>aE
 | x::l=>nDb x&&abz l
end
def WV{l:List Ac}(h:l.all nAb=aE):∀a,a∈l->Gv a:=λa b d=>agO d ((dx.1 h) a b)
def aud{m:Mv}(h:nMb m=aE):UQ m:=by
 unfold nMb at h;simp only[aR]at h;exact⟨λd=>agO d h.1.1,WV h.1.2,WU h.2⟩
def aue{b:Nb}(h:nNb b=aE):nbN b:=by
 unfold nNb at h;simp only[aR]at h;exact⟨WV h.1.1,WV h.1.2,λa m=>aud ((dx.1 h.2) a m)⟩
mutual
def anG:∀(x:Nd),nDb x=aE->Ci x
 | .mk b l,h=>by
  rw[nDb,aR]at h;rw[Ci];exact⟨aue h.1,aek l h.2⟩
def aek:∀(l:List Nd),abz l=aE->zU l
 | [],_=>by rw[zU];trivial
 | x::l,h=>by
  rw[abz,aR]at h;rw[zU];exact⟨anG x h.1,aek l h.2⟩
end
def nCb(c:Ch):Bool:=(c.vars.all λv=>inB v.v)&&nDb c.root
def aug{c:Ch}(h:nCb c=aE):G8 c:=by
 unfold nCb at h;simp only[aR]at h;exact⟨λv a=>WU ((dx.1 h.1) v a),anG _ h.2⟩
def auh(c:Ch):Bool:=decide (nY c.vars+mj c.root<=8388608)
def ChR.off{d:Nat}{w:av}{F:aJ}{c:Ch}{v:Sl}{s:aI}(h:ChR aE d w F c v s):ChR aL d w F c v s:=⟨h.vars.off λ_ _ _ h=>h,PX h.root⟩
def spv(x:dU):aI:=[O U x.k,X (T x.nm),O U x.pa,O U x.dp,O U x.en]
def tD:Rp dU:=λ_ _ x c=>c=spv x
def dC:tD.Ok:=⟨λh _=>h,λh=>h,λh _=>h,λh=>by
 unfold tD spv at h;subst h;intro v a;simp only[aZ,bp,ci]at a;rcases a with rfl | rfl | rfl | rfl | rfl<;>rfl⟩
abbrev iy(B:Nat)(w:av)(s:Sl)(x:List dU):Prop:=Own tD 5 59 B w (λ_=>False) s x
def iy.of{B:Nat}{w:av}{F:aJ}{s:Sl}{b:List dU}(h:Own tD 5 59 B w F s b):iy B w s b:=by
 rcases h with⟨rfl,rfl⟩ | ⟨g,a,tail,d,e,f,i,j,k,m,l⟩
 ·exact .inl ⟨rfl,rfl⟩
 exact .inr ⟨g,a,tail,d,e,f,i,j,k,m,iI.TM (λx c _ n=>n) l⟩
def iy.AG{B:Nat}{w a:av}{G:aJ}{s:Sl}{x:List dU}(h:iy B w s x)(d:aD G w a)(c:∀k,B<=k->s.a=aM ⟨k,0,aaa⟩->¬G k):iy B a s x:=
 h.keep dC λk hk b=>d.block k b (hk.elim (λh=>h.elim) λh=>c k h.1 h.2)
def aem(t:Bool):∀(D:Nat) {w:av} {F:aJ} {x:Nd} {c:aI} {b:Nat} {s:Sl} {xs:List dU} {pa dp:Int},lO t D w F x c->(∀k,F k->k<b)->aF w b 135 [s.v]->iy (b+1) w s xs->
  (I xs)+iH x<=1000000->0<=dp->dp+iH x<=1000000->
  az aq 65 #[ae (aM ⟨b,0,aaa⟩),ah c.toArray,O U pa,O U dp] w λe a=>e=ak (ai #[])/\∃d,aF a b 135 [d.v]/\iy (b+1) a d (xs++FF (I xs) pa dp x)/\kc b s w d a
 | 0,_,_,_,_,_,_,_,_,_,h,_,_,_,_,_,_=>h.elim
 | D+1,w,F,.mk f g,c,b,s,xs,pa,dp,⟨en,lv,mv,kids,iO,_,E⟩,W,K,hS,hn,h0,hd=>by
  have hk:=E.1;clear E;dsimp only[Nd.kids,Nd.b]at hk iO;subst iO;rw[iH]at hn hd;have Fj:=hk.len;have am:=qo g;refine ret (asZ _ _ _ _ _ _ _ _ _ _ _ _ ?_);intro L w0 E ez B;have z0:=B.size;have Fh:=K.lt;have cell:∀{u:av} {q:Sl},aF u b 135 [q.v]->aB u ((⟨b,0,aaa⟩:Addr).add 0) [q.v]:=λh=>h.cells 0 [_] λj v hj=>ae4
  have xM:=B.blk K aag;refine⟨s,cell xM,λw1 A=>⟨λk=>k=b,rfl,s,cell (A.blk xM aag),?_⟩⟩;have M:=B.cd A;have z1:=A.size;have S:iy (b+1) w1 s xs:=hS.AG M.p0 λ_ _ _ h=>h;have sB:=M.blk K aag;obtain⟨y,w2,k1,k3,l,N,g1,g2,⟨gs,m,H⟩,V⟩:=kj (P:=aq) (t:=133) (ty:=133) (e:=59) (i:=Tryz.t59) (bytes:=48) (size:=5) (r:=tD) (G:=λ_=>False) (v:=ah #[O U f.k,X (T f.nm),O U pa,O U dp,O U 0]) (x:=⟨f.k,f.nm,pa,dp,0⟩) aae aae rfl rfl rfl rfl Z Z Z dC S J rfl rfl (λ_ h=>h.elim) J;have z2:=k3.size;have z3:=m.size;have p:∀i,i∈gs->i≠b/\i<w1.heap.size/\s.a=aM ⟨i,0,aaa⟩:=λi n=>⟨by have:=(H i n).2.1;omega,(H i n).2.2,(H i n).1⟩
  have qY:s.a≠aM ⟨L,0,aaa⟩:=λe=>acu
  have vR:aF N b 135 [s.v]:=m.blk (k3.blk sB aag) λh=>(p b h).1 rfl;refine⟨y,w2,k1,k3.same aah,bT.only k3,l,N,g1,m.same λx o=>?_,λk hk z=>?_,b,0,_,_,rfl,vR,aX 1,J,λR C sE=>?_⟩
  ·simp only[aN]at o;subst o;exact⟨J,λh=>qY (p _ h).2.2⟩
  ·subst hk;exact m.block _ z λh=>(p _ h).1 rfl
  have z4:=C.size;have UU:iy (b+1) N l (xs++[⟨f.k,f.nm,pa,dp,0⟩]):=iy.of g2;have P:iy (b+1) R l (xs++[⟨f.k,f.nm,pa,dp,0⟩]):=UU.AG (G:=λk=>k=b) (C.p aag) λk h _=>J
  have m4:kc b s w l R:=by
   refine⟨((M.cd k3).qz (m.p (F:=λk=>k=b∨s.a=aM ⟨k,0,aaa⟩) λi n=>.inl (.inr (p i n).2.2))).trans (C.p (F:=λk=>k=b∨s.a=aM ⟨k,0,aaa⟩) aag) λk hk=>.inl hk,λk hk=>?_⟩;rcases V with e | ⟨i,e,h⟩
   ·exact .inl acB
   rw[e]at hk;injection hk with hk;injection hk with hk;exact .inr J
  have n4:∀k,l.a=aM ⟨k,0,aaa⟩->k≠L:=λk hk e=>by
   subst e;rcases V with e | ⟨i,e,h⟩
   ·exact qY acB
   rw[e]at hk;injection hk with hk;injection hk with hk;omega
  have j6:∀{u:av} {q:Sl},kc b s w q u->aA (lO t D) 9 u F kids g:=λhm=>SliceF.kU (cf t D) Z hk hm.1 λk xN _=>by
   have:=W k xN;exact λh=>h.elim J λh=>by have:=(hS.blk h).1;dsimp only at this;omega
  refine⟨λT Y a=>∃(j:Nat) (q:Sl),Y=(j:Int)/\T+j=I g/\j<=I g/\aF a b 135 [q.v]/\iy (b+1) a q (xs++⟨f.k,f.nm,pa,dp,0⟩::rc (I xs+1) (I xs) (dp+1) (g.take j))/\kc b s w q a/\R.heap.size<=a.heap.size/\∀k,q.a=aM ⟨k,0,aaa⟩->k≠L,I g,⟨0,l,rfl,J,be _,sE,by rw[cA,rc];exact P,m4,aX _,n4⟩,?_⟩;rintro T _ w5 ⟨j,q,rfl,oX,mH,vQ,r,m5,z5,n5⟩;have v:s.n=I xs:=hS.len;constructor
  ·intro hc;have hj:j<I g:=aa1
   obtain⟨y,hy⟩:∃y,g[j]? =aM y:=⟨_,bf hj⟩
   obtain⟨ad,y',ds,a1,a2,a3,a4,a5,a6⟩:=(j6 m5).get (ba j) J;rw[aW,hy]at a2;injection a2 with a2;subst a2;have FT:=a6;obtain⟨G,rfl⟩:∃G,D=G+1:=by
    cases D with
    | zero=>exact a6.elim
    | succ G=>exact⟨G,rfl⟩
   obtain⟨ri,rj,oM,gD,rfl,_⟩:=FT;have uD:=mS hy;have aC:I (xs++⟨f.k,f.nm,pa,dp,0⟩::rc (I xs+1) (I xs) (dp+1) (g.take j))=I xs+1+dR (g.take j):=by
    rw[aQ,aY,sX];omega
   refine⟨ad,a1,_,_,_,_,ri,rj,oM,gD,_,a5,λk6 w6 Y1 O0 dK=>?_⟩;have z6:=dK.size;have m6:kc b s w q w6:=m5.trans (kc.only dK);rw[fh J J,v];refine(aem t (G+1) (pa:=((I xs:Nat):Int)) ((cf t (G+1)).keep a6 λk _ z=>dK.block k z aag) (s:=q) (xs:=xs++⟨f.k,f.nm,pa,dp,0⟩::rc (I xs+1) (I xs) (dp+1) (g.take j)) (b:=b) (dp:=dp+1) W (dK.blk vQ aag) (r.AG dK.p0 λ_ _ _ h=>h) (by rw[aC];omega) J J).mono ?_;rintro _ w7 ⟨rfl,q7,Zp,UW,m7⟩;have z7:=m7.1.size;refine⟨rfl,m7.1.same λx o=>?_,T-1,J,j+1,q7,aaf,J,J,Zp,?_,m6.trans m7,J,λk hk e=>?_⟩
   ·simp only[aZ,bp,ci]at o;rcases o with rfl | rfl
    ·exact⟨J,λh=>h.elim J λh=>n5 _ h rfl⟩
    refine⟨O0,λh=>h.elim J λh=>?_⟩;have:=(r.blk h).2;dsimp only at this;omega
   ·have e:g.take (j+1)=g.take j++[y]:=ahQ
    rw[e,Ij,rc,rc,bE];rw[aC,bq,bZ]at UW;exact UW
   subst e;rcases m7.2 _ hk with h | h
   ·exact n5 _ h rfl
   omega
  intro hc w8 t;have lu:j=I g:=aa6
  subst lu;rw[bm (aX _)]at r;have yy:=t.blk vQ aag;have y:iy (b+1) w8 q _:=r.AG t.p0 λ_ _ _ h=>h;have z8:=t.size;have dQ:(xs++⟨f.k,f.nm,pa,dp,0⟩::rc (I xs+1) (I xs) (dp+1) g)[I xs]? =aM ⟨f.k,f.nm,pa,dp,0⟩:=by
   rw[cj (aX _),pO];rfl
  obtain⟨i,cells,BC,p1,p2,p3,p4,p5,p6,p7⟩:=Own.aoo dC y dQ;have s:BC=spv ⟨f.k,f.nm,pa,dp,0⟩:=p6;subst s;have aS:q.n=I xs+1+dR g:=by rw[r.len,aQ,aY,sX];omega
  obtain⟨p8,p9⟩:=p7 4 (O U (q.n:Int)) ⟨f.k,f.nm,pa,dp,(q.n:Int)⟩ (λ_=>False) Z rfl λ_ h=>h.elim;rw[<-v]at p2;have G:=(r.blk p1).1;dsimp only at G;refine⟨q,cell yy,q,cell yy,_,p2,i,I xs*5+4,cells,_,by rw[gC,v],p3,by rw[<-v]at p8⊢;exact p8,λe=>n5 i p1 e.symm,λw9 x Ud=>⟨rfl,q,x.blk yy aah,?_,?_⟩⟩
  ·have:=p9 w9 x Ud;rw[tF _ _ (aX _),pO,List.set_cons_zero]at this;rw[FF];have e:(q.n:Int)=((I xs+1+dR g:Nat):Int):=by rw[aS]
   rw[e]at this;exact this
  refine(m5.trans (kc.only t)).trans ⟨x.p λk hk=>?_,λk hk=>.inl hk⟩;simp only[aN]at hk;subst hk;exact .inl (.inr p1)
def abA{w:av}{F:aJ}{D:Nat}{c:Ch}{v:Sl}{s:aI}(h:ChR aL (D+1) w F c v s)(d:G8 c)(f:nY c.vars+mj c.root<=8388608)(E:Er w)(T:Tb w):
  az aq 64 #[ah (v.v::s).toArray] w λe g=>e=ak (O U (iM c).2)/\Q [] w g:=by
 obtain⟨n,l,mv,kids,rfl,_⟩:=h.root;refine ret (alF _ _ _ _ _ _ _ _ _ _ ?_);intro m i j z q;have y:ChR aL (D+1) i F c v (ob c.root.b.k c.root.b.nm c.root.b.ini c.root.b.dft n l mv kids c.root.b.a):=⟨h.vars.keep dY Z λk _ b=>q.block k b aag,(cf aL _).keep h.root λk _ b=>q.block k b aag⟩
 refine(abx y d f (E.only q) (T.only q)).mono ?_;rintro _ o ⟨rfl,a⟩;exact⟨_,_,rfl,a.same aah,rfl,q.cd a⟩
def xx{c:Ch}(a:(iM c).2=0):iH c.root<=64:=by
 unfold iM at a;by_cases h:pC c=aE
 ·unfold pC at h;simp only[aR]at h;exact(aO h.2).2.2.1
 rw[aP h]at a;exact absurd a Z
def WW{w:av}{F:aJ}{D:Nat}{c:Ch}{d:Sl}{f:aI}(a:ChR aL (D+1) w F c d f)(i:G8 c)(j:nY c.vars+mj c.root<=8388608)(E:Er w)(g:Tb w):
  az aq 35 #[ah (d.v::f).toArray] w λe b=>(∃s,e=ak (ai #[Sl.v s,O U (iM c).2])/\((iM c).2=0->iy w.heap.size b s (ff c))/\((iM c).2≠0->s=Sl.nil))/\Q [] w b:=by
 obtain⟨n,l,mv,kids,m,_⟩:=a.root;subst m;refine(asM d c.root.b.k (T c.root.b.nm) (T c.root.b.ini) (T c.root.b.dft) n l mv kids c.root.b.a (λv b=>(∃s,v=ai #[Sl.v s,O U (iM c).2]/\((iM c).2=0->iy w.heap.size b s (ff c))/\((iM c).2≠0->s=Sl.nil))/\Q [] w b) w ?_).mono ?_
 ·intro B H A z q;have L:=q.size;have keep:∀{u:av},Q [] w u->ChR aL (D+1) u F c d (ob c.root.b.k c.root.b.nm c.root.b.ini c.root.b.dft n l mv kids c.root.b.a):=λr=>⟨a.vars.keep dY Z λk _ e=>r.block k e aag,(cf aL _).keep a.root λk _ e=>r.block k e aag⟩
  refine(abA (keep q) i j (E.only q) (g.only q)).mono ?_;rintro _ K ⟨rfl,o⟩;have N:=o.size;have t:=q.cd o;refine⟨_,rfl,o.same aah,λhc=>?_,λhc C y G M p v=>?_⟩
  ·have hc:(iM c).2≠0:=aaj
   exact⟨⟨Sl.nil,rfl,λh=>absurd h hc,λ_=>rfl⟩,t⟩
  have hc:(iM c).2=0:=aaj
  have W:=xx hc;have T:=t.cd p;have z2:=p.size;have P:lO aL (D+1) y (λk=>k<w.heap.size) c.root (ob c.root.b.k c.root.b.nm c.root.b.ini c.root.b.dft n l mv kids c.root.b.a):=
   (cf aL _).keep ((cf aL _).mono ((cf aL _).inHeap a.root) λk hk=>hk.2) λk _ e=>T.block k e aag
  refine(aem aL (D+1) (s:=Sl.nil) (xs:=[]) (pa:= -1) (dp:=0) P (λk hk=>J) v (Own.nil _ _ _ _ _ _) acV Z J).mono ?_;rintro _ w3 ⟨rfl,V,Y,S,R⟩;have z3:=R.1.size;refine⟨rfl,R.1.same λx a=>?_,V,Y,⟨V,by rw[hc],λ_=>?_,λh=>absurd hc h⟩,?_⟩
  ·simp only[aN]at a;subst a;exact⟨J,λh=>h.elim J λh=>aal⟩
  ·rw[bR]at S;exact Own.low S J
  exact(T.qz R.1).only λk hk=>hk.elim J λh=>aal
 rintro _ b ⟨v,rfl,⟨s,rfl,h,c⟩,e⟩;exact⟨⟨s,rfl,h,c⟩,e⟩
section
variable {w:av} {F:aJ} {l:Sl} {xs:List dU}
def jI(c:aA tD 5 w F l xs){i:Nat}{x:dU}(d:xs[i]? =aM x):∃ad,cR l (i:Int) 5 ad/\aB w ad (spv x)/\aB w (ad.add 2) [O U x.pa]/\aB w (ad.add 3) [O U x.dp]/\aB w (ad.add 4) [O U x.en]:=by
 have k:=(bc.1 d).1;have p:=c.len;obtain⟨ad,y,s,e,g,m,o,b,a⟩:=c.get (ba i) J;rw[aW,d]at g;injection g with g;subst g;have a:s=spv x:=a;subst a;have one:∀(n:Nat) (v:aw),(spv x)[n]? =aM v->aB w (ad.add n) [v]:=λn v f j u h=>by
  cases j with
  | zero=>
   rw[cG,bJ]at h;subst h;have:=b n v f;rw[rq,gy];exact this
  | succ j=>simp at h
 exact⟨ad,e,b,one 2 _ rfl,one 3 _ rfl,one 4 _ rfl⟩
def FG(x:List dU)(n:Int):Bool:=decide (n>=0)&&decide (n<(I x:Int))
def rL{n:Int}:FG xs n=aE↔sY xs n:=by
 unfold FG sY;rw[aR,cX,cX]
def QG(h:aA tD 5 w F l xs)(n:Int):az aq 120 #[l.v,O U n] w λe a=>e=ak (aj (FG xs n))/\a=w:=by
 refine ret (atf _ _ ?_);rw[h.len];exact⟨rfl,rfl⟩
noncomputable def S7(xs:List dU)(b a:Int):Bool:=open Classical in decide (∃i j:Nat,b=i/\a=j/\nf xs i j)
def uh{b a:Int}:S7 xs b a=aE↔∃i j:Nat,b=i/\a=j/\nf xs i j:=by
 unfold S7;exact @cX _ (Classical.propDecidable _)
def Ls(h:aA tD 5 w F l xs)(i:Fo xs)(b a:Int):az aq 141 #[l.v,O U b,O U a] w λe d=>e=ak (aj (S7 xs b a))/\d=w:=by
 refine ret (ato _ _ _ ?_);refine⟨λr d=>r=S7 xs b a/\d=w,λr d ⟨f,g⟩=>⟨by rw[f],g⟩,(QG h a).mono ?_⟩;rintro _ _ ⟨rfl,rfl⟩;refine⟨_,rfl,λc=>(QG h b).mono ?_,λc=>⟨?_,rfl⟩⟩
 ·rintro _ _ ⟨rfl,rfl⟩;have c:=rL.1 c;by_cases e:(FG xs b&&decide (b<=a))=aE
  ·rw[aR]at e;have w:=rL.1 e.1;have A:=aO e.2;obtain⟨j,rfl⟩:∃j:Nat,b=j:=⟨b.toNat,by have:=w.1;omega⟩
   obtain⟨l,rfl⟩:∃l:Nat,a=l:=⟨a.toNat,by have:=c.1;omega⟩
   obtain⟨x,k⟩:=gu (xs:=xs) (i:=j) (by have:=w.2;omega);obtain⟨ad,m,o,_,_,n⟩:=jI h k;refine⟨_,rfl,ad,λ_=>m,x.en,λ_=>n,?_,rfl⟩;rw[e.1,e.2,cr,cr,bL,uh,cX];constructor
   ·exact λh=>⟨j,l,rfl,rfl,x,k,J,h⟩
   rintro⟨p,s,a,q,y,b,f,g⟩;have a:j=p:=J
   subst a;rw[k,bJ]at b;subst b;omega
  rw[pQ]at e;refine⟨_,rfl,⟨0,0,aaa⟩,λh=>(by rw[e]at h;cases h),0,λh=>(by rw[e]at h;cases h),?_,rfl⟩;rw[e,db,eq_comm,<-pQ,uh];rintro⟨a,j,rfl,rfl,y,b,f,g⟩;have:=ir b;rw[show FG xs (a:Int)=aE from rL.2 ⟨J,J⟩,show decide ((a:Int)<=(j:Int))=aE from bF J]at e;cases e
 rw[eq_comm,<-pQ,uh];rintro⟨b,j,rfl,rfl,a⟩;have:=i.EW a;rw[show FG xs (j:Int)=aE from rL.2 ⟨J,J⟩]at c;cases c
noncomputable def S8(xs:List dU)(a b:Int):Bool:=open Classical in decide (∃i j:Nat,b=i/\a=j/\i<j/\nf xs i j)
def Eu{a b:Int}:S8 xs a b=aE↔∃i j:Nat,b=i/\a=j/\i<j/\nf xs i j:=by
 unfold S8;exact @cX _ (Classical.propDecidable _)
def S9(h:aA tD 5 w F l xs)(g:Fo xs)(a b:Int):az aq 126 #[l.v,O U a,O U b] w λe c=>e=ak (aj (S8 xs a b))/\c=w:=by
 refine ret (atj _ _ _ ?_);refine⟨λr c=>r=S8 xs a b/\c=w,λr c ⟨d,f⟩=>⟨by rw[d],f⟩,λhc=>(Ls h g b a).mono ?_,λhc=>⟨?_,rfl⟩⟩
 ·rintro _ _ ⟨rfl,rfl⟩;have hc:a≠b:=aaj
  refine⟨_,rfl,?_,rfl⟩;rw[bL,uh,Eu];refine⟨λ⟨j,k,e,i,u⟩=>⟨j,k,e,i,?_,u⟩,λ⟨j,k,e,i,_,u⟩=>⟨j,k,e,i,u⟩⟩;obtain⟨s,_,D,_⟩:=u;omega
 have hc:a=b:=aaj
 subst hc;rw[eq_comm,<-pQ,Eu];rintro⟨j,k,e,i,l,_⟩;omega
abbrev gV(B:Nat)(w:av)(s:Sl)(l:List Int):Prop:=Own gL 1 3 B w (λ_=>False) s l
def gV.of{B:Nat}{w:av}{F:aJ}{s:Sl}{l:List Int}(h:Own gL 1 3 B w F s l):gV B w s l:=by
 rcases h with⟨rfl,rfl⟩ | ⟨g,a,tail,b,d,e,f,i,j,m,k⟩
 ·exact .inl ⟨rfl,rfl⟩
 exact .inr ⟨g,a,tail,b,d,e,f,i,j,m,iI.TM (λx c _ n=>n) k⟩
def aui(w:av){u:av}{s:Sl}{f:List Int}(h:gV w.heap.size u s f)(m:Q [] w u)(n:Int)(q:tn n)(C:I f<=20000000):
  ∃y b,(au 33 1 #[.mk 0 (O U n)]).run aq u=.ok (Sl.v y) b/\Q [] u b/\∃c a,(Builtin.append_ #[33,33] 33 #[Sl.v s,Sl.v y]).run aq b=.ok (Sl.v c) a/\gV w.heap.size a c (f++[n])/\Q [] w a/\aD (λk=>w.heap.size<=k) u a:=by
 obtain⟨y,b,z,k3,c,a,o,p,⟨B,j,l⟩,A⟩:=kj (P:=aq) (t:=33) (ty:=33) (e:=3) (i:=Tryz.t3) (bytes:=8) (size:=1) (r:=gL) (G:=λ_=>False) (v:=O U n) (x:=n) aae aae rfl rfl rfl rfl Z Z Z cp h m.size rfl ⟨rfl,q⟩ (λ_ h=>h.elim) J;refine⟨y,b,z,k3,c,a,o,gV.of p,?_,k3.qz (j.p λg d=>.inl (l g d).2.1)⟩;exact((m.cd k3).qz (j.p (F:=λk=>w.heap.size<=k) λg d=>.inl (l g d).2.1)).only λk hk=>hk
def agP(c:aA tD 5 w F l xs)(h:Fo xs){n:Nat}{x:dU}(b:xs[n]? =aM x)(m:I xs<=1000):az aq 83 #[l.v,O U (n:Int)] w λe a=>(∃(s:Sl),e=ak (Sl.v s)/\gV w.heap.size a s (jo xs n (I xs)))/\Q [] w a:=by
 refine(as2 l n (λv a=>(∃(s:Sl),v=Sl.v s/\gV w.heap.size a s (jo xs n (I xs)))/\Q [] w a) w ?_).mono ?_
 ·refine(QG c n).mono ?_;rintro _ u ⟨rfl,z⟩;obtain rfl:w=u:=z.symm;have H:=ir b;have r:FG xs (n:Int)=aE:=rL.2 ⟨J,J⟩;rw[r];refine⟨_,rfl,λd=>(by cases d),λ_=>?_⟩;have B:=h.up n x b;have A:∃e:Nat,x.en=e:=⟨x.en.toNat,J⟩
  obtain⟨e,s⟩:=A;refine⟨λv q l a=>∃k:Nat,l=(k:Int)/\n<k/\k<=e/\v+k=I xs/\gV w.heap.size a q (jo xs n k)/\(∀(j:Nat) u,n<j->j<k->xs[j]? =aM u->u.en<=(k:Int))/\Q [] w a,(I xs)-(n+1),⟨n+1,aaf,J,J,J,by rw[h.auv b];exact Own.nil _ _ _ _ _ _,λj u C D=>J,Only.refl _ _⟩,?_⟩;rintro v q _ F ⟨k,rfl,g,t,E,S,f,i⟩;obtain⟨ad,o,_,_,_,p⟩:=jI (SliceF.only dC Z c i aag) b;refine⟨ad,o,x.en,p,λd=>?_,λd=>?_⟩
  ·have d:=aO d;obtain⟨y,e⟩:=gu (xs:=xs) (i:=k) J;have fN:I (jo xs n k)<=k:=by
    unfold jo;rw[bK];exact bD (kZ _ _) (by rw[zn];exact aX _)
   obtain⟨y1,Y,V,k3,W,w3,M,N,x,g4⟩:=aui w S i k ⟨J,J⟩ J;obtain⟨G,K,_,_,_,L⟩:=jI (SliceF.only dC Z c x aag) e;have R:=h.up k y e;have P:=h.lam k b e g d;obtain⟨q,T⟩:∃q:Nat,y.en=q:=⟨y.en.toNat,J⟩
   refine⟨y1,Y,V,W,w3,M,G,K,y.en,L,v-(q-k),J,q,T,J,J,J,?_,h.YC e T f,x⟩;rw[h.YD b e g d T f];exact N
  have d:=aU d;have:k=e:=J
  subst this;exact⟨⟨q,rfl,by rw[h.ace b s];exact S⟩,i⟩
 rintro _ a ⟨v,rfl,⟨s,rfl,d⟩,e⟩;exact⟨⟨s,rfl,d⟩,e⟩
end
section
variable {w:av} {F G:aJ} {l sN:Sl} {xs:List dU} {ns:List Int}
def abB{k:Nat}(h:aA tD 5 w F l xs)(B:aF w k 43 [l.v])(n:Int):az aq 140 #[O U n,ae (aM ⟨k,0,aaa⟩)] w λe a=>e=ak (aj (!FG xs n))/\a=w:=by
 refine ret (atn _ _ ?_);refine⟨l,B.cells 0 [_] λj v hj=>ae4,(QG h n).mono ?_⟩;rintro _ _ ⟨rfl,rfl⟩;exact⟨_,rfl,rfl,rfl⟩
def WX{k:Nat}(b:aA tD 5 w F l xs)(B:aF w k 43 [l.v])(h:aA gL 1 w G sN ns):az aq 119 #[sN.v,.func (.func 140) #[] #[ae (aM ⟨k,0,aaa⟩)]] w λe a=>(∃i:Int,e=ak (O U i)/\(i>=0↔∃n,n∈ns/\¬sY xs n))/\a=w:=by
 refine(VZ sN ⟨.func (.func 140) #[] #[ae (aM ⟨k,0,aaa⟩)],rfl⟩ (λv a=>(∃i:Int,v=O U i/\(i>=0↔∃n,n∈ns/\¬sY xs n))/\a=w) w ?_).mono ?_
 ·have l:=h.len;have M:=h.cap;have C:=h.big;refine⟨λv i a=>∃j:Nat,i=(j:Int)/\v+j=I ns/\j<=I ns/\(∀n,n∈ns.take j->sY xs n)/\a=w,I ns,⟨0,rfl,J,be _,λn c=>by simp at c,rfl⟩,?_⟩;rintro v _ e ⟨j,rfl,o,g,f,u⟩;obtain rfl:w=e:=u.symm;refine⟨λd=>?_,λd=>⟨⟨-1,rfl,λb=>absurd b Z,λ⟨n,c,hb⟩=>absurd (f n ?_) hb⟩,rfl⟩⟩
  ·have d:=aO d;obtain⟨ad,y,t,q,m,x,z,r,s⟩:=h.get (ba j) J;rw[aW]at m;obtain⟨rfl,A⟩:=s;refine⟨ad,q,y,r,140,[],[ae (aM ⟨k,0,aaa⟩)],rfl,jR aae,(abB b B y).mono ?_⟩;rintro _ e ⟨rfl,u⟩;obtain rfl:w=e:=u.symm;refine⟨_,rfl,λhb=>⟨⟨j,rfl,λ_=>⟨y,bn m,λp=>?_⟩,λ_=>J⟩,rfl⟩,λhb=>⟨v-1,J,j+1,aaf,J,J,λn c=>?_,rfl⟩⟩
   ·rw[rL.2 p]at hb;cases hb
   rw[bh,m,ch]at c;rcases c with c | c
   ·exact f n c
   simp only[Option.toList,aN]at c;subst c;exact rL.1 abS
  have d:=aU d;rwa[bm J]
 rintro _ a ⟨v,rfl,⟨i,rfl,c⟩,d⟩;exact⟨⟨i,rfl,c⟩,d⟩
def anH(x:List dU)(s:List Int):Prop:=s=[]∨∃n,n∈s/\¬sY x n
def WY(h:aA tD 5 w F l xs)(c:Fo xs)(N:aA gL 1 w G sN ns):az aq 97 #[l.v,sN.v] w λe d=>(∃r:Int,e=ak (O U r)/\Mt xs ns r)/\Q [] w d:=by
 refine(atd l sN (λv d=>(∃r:Int,v=O U r/\Mt xs ns r)/\Q [] w d) w ?_).mono ?_
 ·intro x j D A g;have o:=N.len;have M:=N.cap;have C:=N.big;have z:=h.len;have L:∀{u:av},Q [] w u->aA tD 5 u F l xs:=λf=>SliceF.only dC Z h f aag;have kN:∀{u:av},Q [] w u->aA gL 1 u G sN ns:=λf=>SliceF.only cp Z N f aag;refine⟨λb q u=>(b=aE↔anH xs ns)/\l=q/\Q [] w u,?_,λhc=>?_,λhc B=>?_⟩
  ·rintro b _ u ⟨hb,rfl,f⟩;refine⟨λT=>⟨⟨-1,rfl,.inl ⟨hb.1 T,rfl⟩⟩,f⟩,λK=>?_⟩;have hg:¬anH xs ns:=λP=>by rw[hb.2 P]at K;cases K
   have W:ns≠[]:=λe=>hg (.inl e);have P:∀n,n∈ns->sY xs n:=λn F=>Classical.byContradiction λhx=>hg (.inr ⟨n,F,hx⟩);have am:0<I ns:=mM.2 W;obtain⟨ad,S,cs,g1,H,g3,g4,g5,g6⟩:=(kN f).get (i:=0) J J;obtain⟨rfl,_⟩:=g6;have H:ns[0]? =aM S:=H;have R:=P S (bn H);obtain⟨G,rfl⟩:∃E:Nat,S=E:=⟨S.toNat,by have:=R.1;omega⟩
   have V:ns.take 1=[(G:Int)]:=by
    cases ns with
    | nil=>exact absurd rfl W
    | cons a ns=>
     rw[cG,bJ]at H;subst H;rfl
   refine⟨ad,g1,_,g5,⟨J,M⟩,λY i1 i2 q u=>∃E v:Nat,i1=(E:Int)/\i2=(v:Int)/\Y+v=(I ns)-1/\v<=(I ns)-1/\l=q/\Q [] w u/\Top xs (ns.take (v+1)) E,(I ns)-1,⟨G,0,rfl,rfl,J,J,rfl,f,?_⟩,?_⟩
   ·rw[V];refine⟨G,rfl,λn F=>?_,λv a=>?_⟩
    ·simp only[aN]at F;subst F;exact⟨G,rfl,c.qu (by have:=R.2;omega)⟩
    obtain⟨k,e,s,_,b,_⟩:=a G aag;omega
   rintro Y _ _ _ u1 ⟨E,v,rfl,rfl,oX,hj,rfl,b,a⟩;have YK:=SliceF.cut (kN b) (lo:=1) (hi:=sN.n) (m:=sN.c) J M (aX _) (aX _);have tE:(sN.cut 1 sN.n sN.c 1).n=(I ns)-1:=by
    rw[YK.len,cx,cJ];omega
   refine⟨λhc=>?_,λhc=>?_⟩
   ·have hc:=aO hc;obtain⟨bv,n3,cs,p1,p2,p3,p4,p5,p6⟩:=YK.get (ba v) J;obtain⟨rfl,_⟩:=p6;rw[aW,List.getElem?_take_of_lt J,gH]at p2;have p2:ns[v+1]? =aM n3:=by rw[<-p2];congr 1;omega
    have aS:=P n3 (bn p2);obtain⟨t,rfl⟩:∃E:Nat,n3=E:=⟨n3.toNat,by have:=aS.1;omega⟩
    have oP:ns.take (v+1+1)=ns.take (v+1)++[(t:Int)]:=by rw[bh,p2];rfl
    obtain⟨m',em,t1,t2⟩:=a;have em:E=m':=J
    subst em;refine⟨bv,p1,_,p5,λaT i4 q u=>∃E:Nat,i4=(E:Int)/\E=aT/\l=q/\Q [] w u/\(∀n,n∈ns.take (v+1)->∃k:Nat,n=k/\nf xs E k)/\∀j':Nat,(∀n,n∈ns.take (v+1+1)->∃k:Nat,n=k/\nf xs j' k)->j'<=E,E,⟨E,rfl,rfl,rfl,b,t1,λj' aC=>t2 j' λn F=>aC n ?_⟩,?_⟩
    ·rw[oP];exact F0 _ F
    rintro aT _ _ u2 ⟨q,rfl,rfl,rfl,w,q1,q2⟩;refine(Ls (L w) c q t).mono ?_;rintro _ u3 ⟨rfl,hu⟩;obtain rfl:u2=u3:=hu.symm;refine⟨_,rfl,cu.refl _ _,λl=>?_,λl=>?_⟩
    ·have l:¬∃i v:Nat,(q:Int)=i/\(t:Int)=v/\nf xs i v:=λe=>by rw[uh.2 e]at l;cases l
     have G4:t<I xs:=by have:=aS.2;omega
     have wW:0<q:=Nat.pos_of_ne_zero λe=>l ⟨0,t,J,rfl,c.uo G4⟩;have ZA:(G:Int)∈ns.take (v+1):=by
      rw[List.mem_iff_getElem?];exact⟨0,by rw[List.getElem?_take_of_lt J];exact H⟩
     have bV:q<I xs:=by
      obtain⟨k,_,s,e,_⟩:=q1 _ ZA;exact ir e
     obtain⟨y,hy⟩:=gu bV;obtain⟨p,s,r1,r2,r3,r4,r5,r6⟩:=c.par hy wW;obtain⟨zi,b1,_,b3,_,_⟩:=jI (L w) hy;have bY:nf xs p q:=⟨s,r3,J,r5⟩
     refine⟨zi,b1,y.pa,b3,p,r1,p,r2,rfl,rfl,w,λn F=>?_,λj' aC=>?_⟩
     ·obtain⟨k,e,hk⟩:=q1 n F;exact⟨k,e,c.oK bY hk⟩
     have y:=q2 j' aC;have i:j'≠q:=λe=>by
      subst e;obtain⟨k,e,hk⟩:=aC t (by rw[oP];simp);exact l ⟨j',k,rfl,e,hk⟩
     obtain⟨k,e,hk⟩:=aC G (by rw[oP];exact F0 _ ZA);obtain⟨p,e',n⟩:=q1 G ZA;have:k=p:=J
     subst this;obtain⟨s,v1,v2,v3⟩:=c.rW hk n y;exact r6 j' s v1 J v3
    have l:S7 xs q t=aE:=by simpa using l
    obtain⟨p,s,i,k,e⟩:=uh.1 l;have i:q=p:=J
    have k:t=s:=J
    subst i k;refine⟨Y-1,J,q,v+1,rfl,aaf,J,J,rfl,w,q,rfl,λn F=>?_,q2⟩;rw[oP,ch]at F;rcases F with F | F
    ·exact q1 n F
    simp only[aN]at F;subst F;exact⟨t,rfl,e⟩
   have hc:=aU hc;rw[bm J]at a;exact⟨⟨E,rfl,.inr ⟨⟨W,P⟩,a⟩⟩,b⟩
  ·have hc:(sN.n:Int)=0:=aaj
   exact⟨⟨λ_=>.inl (bH J),λ_=>rfl⟩,rfl,g⟩
  have hc:¬(sN.n:Int)=0:=aaj
  refine(VY sN ⟨.func (.func 140) #[] #[ae (aM ⟨x,0,aaa⟩)],rfl⟩ (λv d=>(∃b:Bool,v=aj b/\(b=aE↔∃n,n∈ns/\¬sY xs n))/\d=j) j ?_).mono ?_
  ·refine(WX (L g) B (kN g)).mono ?_;rintro _ u ⟨⟨i,rfl,m⟩,a⟩;obtain rfl:j=u:=a.symm;exact⟨i,rfl,⟨_,rfl,by rw[cX];exact m⟩,rfl⟩
  rintro _ u ⟨v,rfl,⟨b,rfl,a⟩,e⟩;obtain rfl:j=u:=e.symm;refine⟨b,rfl,l,B,⟨λh=>.inr (a.1 h),λh=>?_⟩,rfl,g⟩;rcases h with h | h
  ·subst h;exact absurd (by rw[o];rfl) hc
  exact a.2 h
 rintro _ d ⟨v,rfl,⟨r,rfl,a⟩,b⟩;exact⟨⟨r,rfl,a⟩,b⟩
end
end Go.Proofs.YtfemabakfkliiaaGreatDoor.Con
namespace Go.Kt
open Go Go.RowKit Go.MapKept
structure Jm {κ:Type} (d:TypeDesc) (kv:κ->aw) (g:κ->Prop):Prop where
 is:∀k,IsKey d (kv k)
 inj:∀{k l},kv k=kv l->k=l
structure MapV {κ:Type} (kv:κ->aw) (g:κ->Prop) (w:av) (r:Nat) (m:κ->Option aw) (n:Nat):Prop where
 mem:∃es clock,w.heap[r]? =aM (.map es clock)/\Stamped es clock/\es.size<=n/\(∀x,x∈es.toList->∃k,x.key=kv k/\g k)/\
  ∀k v,m k=aM v↔∃x,x∈es.toList/\x.key=kv k/\x.val=v
section
variable {κ:Type} {d:TypeDesc} {kv:κ->aw} {g:κ->Prop} {P:Program} {w w':av} {r n:Nat} {m:κ->Option aw} {mty kt et:TypeId}
def MapV.keep(h:MapV kv g w r m n)(hk:w'.heap[r]? =w.heap[r]?):MapV kv g w' r m n:=by
 obtain⟨e,c,a,b⟩:=h.mem;exact⟨e,c,hk.trans a,b⟩
def MapV.le(h:MapV kv g w r m n){n'}(i:n<=n'):MapV kv g w r m n':=by
 obtain⟨e,c,a,b,d,f⟩:=h.mem;exact⟨e,c,a,b,bD d i,f⟩
def MapV.lt(h:MapV kv g w r m n):r<w.heap.size:=by
 obtain⟨e,c,a,b⟩:=h.mem;exact(iQ.1 a).1
def MapV.only(h:MapV kv g w r m n){bs}(a:Only bs w w')(b:r∉bs):MapV kv g w' r m n:=h.keep (a.block r h.lt b)
def MapV.ext(h:MapV kv g w r m n){m'}(j:∀k,m' k=m k):MapV kv g w r m' n:=by
 obtain⟨e,c,a,b,d,f,i⟩:=h.mem;exact⟨e,c,a,b,d,f,λk v=>by rw[j,i]⟩
def MapV.ok(h:MapV kv g w r m n)(K:Jm d kv g){k}(hk:m k≠aaa):g k:=by
 obtain⟨e,c,f,i,j,a,b⟩:=h.mem;rcases hm:m k with _|v
 ·exact absurd hm hk
 obtain⟨x,g,c,_⟩:=(b k v).1 hm;obtain⟨m,d,l⟩:=a x g;rwa[K.inj (c.symm.trans d)]
def MapV.make w:(Instr.makeMap mty aaa).run P w=.ok (.map (aM w.heap.size)) (w.alloc (.map #[] 0))/\MapV kv g (w.alloc (.map #[] 0)) w.heap.size (λ_=>aaa) 0/\Only [] w (w.alloc (.map #[] 0)):=
 ⟨rfl,⟨#[],0,heap_alloc_new w _,stamped_empty 0,aag,aag,aag⟩,Only.alloc _ _⟩
def WZ(K:Jm d kv g){s:Array MapEntry}(h:∀x,x∈s.toList->∃k,x.key=kv k/\g k):∀x∈s.toList,IsKey d x.key:=λx a=>by
 obtain⟨k,e,_⟩:=h x a;rw[e];exact K.is k
def MapV.lookup(K:Jm d kv g)(i:P.underlying mty=aM (.map kt et))(hd:P.underlying kt=aM d){z}(q:∀w,(zeroValue et).run P w=.ok z w)(o:MapV kv g w r m n) k:
  (Instr.lookup mty (.map (aM r)) (kv k) aL).run P w=.ok ((m k).getD z) w:=by
 obtain⟨s,c,h,t,j,p,f⟩:=o.mem;rcases findNow_spec (K.is k) s.toList 0 (WZ K p)with⟨a,b⟩ | ⟨u,e,a,b,l⟩
 ·have j:m k=aaa:=by
   rcases ZB:m k with _|v
   ·rfl
   obtain⟨x,c,hk,_⟩:=(f k v).1 ZB;exact absurd hk (b x c)
  simp[Instr.lookup,run_underlying i,MapKept.run_getObj_map h,MapKept.run_checkKey hd (K.is k),MapKept.run_findKey hd a,Result.andThen,q,j]
 have c:=bn b;simp[Instr.lookup,run_underlying i,MapKept.run_getObj_map h,MapKept.run_checkKey hd (K.is k),MapKept.run_findKey hd a,Result.andThen,(f k e.val).2 ⟨e,c,l,rfl⟩]
variable [DecidableEq κ]
def MapV.update(K:Jm d kv g)(A:P.underlying mty=aM (.map kt et))(hd:P.underlying kt=aM d)(h:MapV kv g w r m n){k}(z:g k) v:
  ∃w',(Instr.mapUpdate mty (.map (aM r)) (kv k) v).run P w=.ok () w'/\MapV kv g w' r (λx=>if x=k then aM v else m x) (if m k=aaa then n+1 else n)/\Only [r] w w':=by
 obtain⟨y,c,b,p,hn,q,i⟩:=h.mem;have j:∀{s:Array MapEntry} {l u:Nat},Stamped s l->s.size<=u->(∀x,x∈s.toList->∃k,x.key=kv k/\g k)->
   (∀c d,(∃x,x∈s.toList/\x.key=kv c/\x.val=d)↔(c=k/\d=v)∨(c≠k/\m c=aM d))->∀w',w'.heap[r]? =aM (.map s l)->MapV kv g w' r (λx=>if x=k then aM v else m x) u:=by
  intro s l u e B n w w' C;refine⟨s,l,C,e,B,n,λc d=>?_⟩;rw[w];by_cases M:c=k
  ·simp[M,Cy,bJ,true_and,ne_eq,not_true_eq_false,false_and,ci];exact⟨λh=>h.symm,λh=>h.symm⟩
  simp[aP M,M,false_and,false_or,ne_eq,not_false_eq_true,true_and,lS]
 rcases findNow_spec (K.is k) y.toList 0 (WZ K q)with⟨o,a⟩ | ⟨t,e,o,a,f⟩
 ·have Z:m k=aaa:=by
   rcases hq:m k with _|v
   ·rfl
   obtain⟨x,d,hk,_⟩:=(i k v).1 hq;exact absurd hk (a x d)
  rw[aV Z];refine⟨{w with heap:=w.heap.setIfInBounds r (.map (y.push {key:=kv k,val:=v,born:=c}) _)},?_,j (stamped_push p a) aah ?_ ?_ _ (heap_set b).1,JY b⟩
  ·simp[Instr.mapUpdate,run_underlying A,MapKept.run_getObj_map b,MapKept.run_checkKey hd (K.is k),MapKept.run_findKey hd o,MapKept.run_setObj_map _ b,Result.andThen]
  ·intro x d;simp only[Array.toList_push,ch,aN]at d;rcases d with d | rfl
   ·exact q x d
   exact⟨k,rfl,z⟩
  intro k v;simp only[Array.toList_push,ch,aN];constructor
  ·rintro⟨x,d | rfl,e,c⟩
   ·exact .inr ⟨λh=>a x d (by rw[e,h]),(i k v).2 ⟨x,d,e,c⟩⟩
   exact .inl ⟨(K.inj e).symm,c.symm⟩
  rintro(⟨rfl,rfl⟩ | ⟨hn,h⟩)
  ·exact⟨_,.inr rfl,rfl,rfl⟩
  obtain⟨x,d,e,c⟩:=(i k v).1 h;exact⟨x,.inl d,e,c⟩
 have c:=by simpa using a
 have H:=(bc.1 a).1;have Z:m k≠aaa:=by rw[(i k e.val).2 ⟨e,bn a,f,rfl⟩];simp
 rw[aP Z];refine⟨{w with heap:=w.heap.setIfInBounds r _},?_,
  j (stamped_modify p t (λe=>{e with key:=kv k,val:=v}) (λ_ _=>rfl) (λg _ d=>by rw[c]at d;injection d with d;rw[<-d];exact f.symm)) adK ?_ ?_ _ (heap_set b).1,JY b⟩
 ·simp[Instr.mapUpdate,run_underlying A,MapKept.run_getObj_map b,MapKept.run_checkKey hd (K.is k),MapKept.run_findKey hd o,c,f,MapKept.run_keyThatStays (K.is k),MapKept.run_setObj_map _ b,Result.andThen]
 all_goals rw[Array.toList_modify,Nl a]
 ·intro x d;rcases List.mem_or_eq_of_mem_set d with d | rfl
  ·exact q x d
  exact⟨k,rfl,z⟩
 intro d v;constructor
 ·rintro⟨x,r,g,m⟩;obtain⟨n,e⟩:=iA r;rw[O3]at e;split at e
  ·injection e with e;rw[<-e]at g m;exact .inl ⟨(K.inj g).symm,m.symm⟩
  rename_i J;by_cases M:d=k
  ·have R:=(bc.1 e).1;have w:=List.pairwise_iff_getElem.1 ((stamped_iff _ _).1 p).2.2;have ex:=(bc.1 e).2;have k:=(bc.1 a).2;exfalso;rcases Nat.lt_or_gt_of_ne J with x | S
   ·exact w t n H R x (by rw[k,ex,f,g,M])
   exact w n t R H S (by rw[k,ex,f,g,M])
  exact .inr ⟨M,(i d v).2 ⟨x,bn e,g,m⟩⟩
 rintro(⟨rfl,rfl⟩ | ⟨hn,h⟩)
 ·exact⟨_,List.mem_set H _,rfl,rfl⟩
 obtain⟨x,n,g,m⟩:=(i d v).1 h;obtain⟨k,e⟩:=iA n;refine⟨x,bn (i:=k) ?_,g,m⟩;rw[FZ]
 ·exact e
 rintro rfl;rw[a]at e;injection e with e;rw[<-e,f]at g;exact hn (K.inj g).symm
end
abbrev kS(s:List UInt8):aw:=.string ⟨s.toArray⟩
abbrev gS(s:List UInt8):Prop:=I s<=maxLen
def anI:Jm .string kS gS:=⟨λ_=>trivial,λh=>acs⟩
abbrev kN(k:Int):aw:=.int .i64 k
section
variable {κ:Type} {d:TypeDesc} {kv:κ->aw} {g:κ->Prop} {P:Program} {w w':av} {r n:Nat} {m:κ->Option aw} {mty kt et:TypeId}
def MapV.RG(K:Jm d kv g)(i:P.underlying mty=aM (.map kt et))(hd:P.underlying kt=aM d){z:aw}(q:∀w,(zeroValue et).run P w=.ok z w)(o:MapV kv g w r m n)(k:κ):
  (Instr.lookup mty (.map (aM r)) (kv k) aE).run P w=.ok (.tuple #[(m k).getD z,.bool (m k).isSome]) w:=by
 obtain⟨s,c,h,t,j,p,f⟩:=o.mem;rcases findNow_spec (K.is k) s.toList 0 (WZ K p)with⟨a,b⟩ | ⟨u,e,a,b,l⟩
 ·have j:m k=aaa:=by
   rcases Z:m k with _|v
   ·rfl
   obtain⟨x,c,hk,_⟩:=(f k v).1 Z;exact absurd hk (b x c)
  simp[Instr.lookup,run_underlying i,MapKept.run_getObj_map h,MapKept.run_checkKey hd (K.is k),MapKept.run_findKey hd a,Result.andThen,q,j]
 have c:=bn b;have Z:m k=aM e.val:=(f k e.val).2 ⟨e,c,l,rfl⟩;simp[Instr.lookup,run_underlying i,MapKept.run_getObj_map h,MapKept.run_checkKey hd (K.is k),MapKept.run_findKey hd a,Result.andThen,Z]
end
end Go.Kt
namespace Go.Proofs.YtfemabakfkliiaaGreatDoor.Con
open Go Go.RowKit Go.Kt Go.Kt.V Go.Proofs.YtfemabakfkliiaaGreatDoor.Vc
def mI(l:List (aH)):aH->Option aw:=λk=>if xu k l<I l then aM (.int U (xu k l:Nat))else aaa
def QH(l:List (aH))(x k:aH):mI (l++[x]) k=if x∈l then mI l k else if k=x then aM (.int U (I l:Nat))else mI l k:=by
 unfold mI;rw[aQ,bB];by_cases hk:k∈l
 ·have a:=pX.2 hk;rw[Iq [x] hk,aV J,aV a];by_cases h:x∈l
  ·rw[aV h]
  rw[aP h,aP λe=>h acB]
 have a:¬xu k l<I l:=λh=>hk (pX.1 h);rw[aP a];by_cases e:k=x
 ·subst e;rw[aP hk,aV rfl,Ir [] hk,aV J]
 have:¬xu k (l++[x])<I (l++[x]):=λh=>by
  have:=pX.1 h;rw[ch,aN]at this;exact this.elim hk e
 rw[aQ,bB]at this;rw[aP this,aP e];split<;>rfl
def abC(l:List (aH))(k:aH):(mI l k).isSome=decide (k∈l):=by
 unfold mI;by_cases hk:k∈l
 ·rw[aV (pX.2 hk),bF hk];rfl
 rw[aP λh=>hk (pX.1 h),bA hk];rfl
abbrev Z1(w:av)(r:Nat)(l:List (aH)):Prop:=MapV kS gS w r (mI l) (I l)
def Z1.at{w:av}{r:Nat}{l:List (aH)}(h:Z1 w r l)(k:aH):(Instr.lookup 128 (.map (aM r)) (X (T k)) aE).run aq w=.ok (ai #[O U (if xu k l<I l then(xu k l:Nat)else 0:Int),aj (decide (k∈l))]) w:=by
 have:=h.RG (P:=aq) (mty:=128) (kt:=9) (et:=3) (z:=O U 0) anI aae aae (λw=>Tryz.zeroValue3 w) k;rw[abC]at this;rw[this];unfold mI;split<;>rfl
def Z1.add{a:av}{r:Nat}{l:List (aH)}(h:Z1 a r l){x:aH}(e:gS x)(n:x∉l):
  ∃w,(Instr.mapUpdate 128 (.map (aM r)) (X (T x)) (O U (I l:Nat))).run aq a=.ok () w/\Z1 w r (l++[x])/\Q [r] a w:=by
 obtain⟨w,b,c,d⟩:=h.update (P:=aq) (mty:=128) (kt:=9) (et:=3) anI aae aae e (O U (I l:Nat));refine⟨w,b,(c.ext λk=>?_).le ?_,d⟩
 ·rw[QH,aP n]
 rw[aQ,bB];split<;>omega
def Z1.has{w:av}{r:Nat}{l:List (aH)}(h:Z1 w r l){x:aH}(a:x∈l):Z1 w r (l++[x]):=by
 refine(h.ext λk=>?_).le ac4;rw[QH,aV a]
structure Lo (w:av) (b m0 m1:Nat) (s:Sl) (nn vn:List (aH)) (f:Ft):Prop where
 blk:aF w b 130 [.map (aM m0),s.v,.map (aM m1),O U f.1,O U f.2]
 nm:Z1 w m0 nn
 vr:Z1 w m1 vn
 n0:m0<m1
 n1:m1<b
section
variable {w w':av} {b m0 m1:Nat} {s:Sl} {nn vn:List (aH)} {f:Ft}
def Lo.only(h:Lo w b m0 m1 s nn vn f){a:List Nat}(c:Q a w w')(d:b∉a)(e:m0∉a)(g:m1∉a):Lo w' b m0 m1 s nn vn f:=⟨c.blk h.blk d,h.nm.only c e,h.vr.only c g,h.n0,h.n1⟩
def Lo.o0(h:Lo w b m0 m1 s nn vn f)(a:Q [] w w'):Lo w' b m0 m1 s nn vn f:=h.only a aag aag aag
def Lo.lF(h:Lo w b m0 m1 s nn vn f)(c:Q [b] w w'){s':Sl}{a:Ft}(B:aF w' b 130 [.map (aM m0),s'.v,.map (aM m1),O U a.1,O U a.2]):Lo w' b m0 m1 s' nn vn a:=
 ⟨B,h.nm.only c (by have:=h.n0;have:=h.n1;simp;omega),h.vr.only c (by have:=h.n1;simp;omega),h.n0,h.n1⟩
def Lo.lt(h:Lo w b m0 m1 s nn vn f):b<w.heap.size:=h.blk.lt
def CU(w:av)(k:Int):az aq 123 #[O U k] w λe w'=>e=ak (aj (fF k))/\w'=w:=by
 refine ret (atg _ ?_);refine⟨?_,rfl⟩;unfold fF;rw[show((k==3)||(k==4))=decide (k=3∨k=4) by rw[bL];simp]
def It(h:Lo w b m0 m1 s nn vn f)(ok:Bool)(e a:Int):az aq 90 #[ae (aM ⟨b,0,aaa⟩),aj ok,O U e,O U a] w λr w'=>r=ak (ai #[])/\Lo w' b m0 m1 s nn vn (jp f (bad ok e a))/\Q [b] w w':=by
 refine ret (as7 _ _ _ _ ?_);rw[abt];refine⟨f.1,λ_=>Blk.dP h.blk 3 rfl,λc=>⟨b,3,_,_,rfl,h.blk,aag,λg d B=>⟨rfl,?_,d⟩⟩,λc=>⟨rfl,?_,Only.refl _ _⟩⟩
 ·rw[aV c];exact h.lF d B
 rw[aP (by rw[c];decide)];exact h
def W0(h:Lo w b m0 m1 s nn vn f){x:aH}(hx:gS x)(a:Int):az aq 62 #[ae (aM ⟨b,0,aaa⟩),.map (aM m0),X (T x),O U (I nn:Nat),O U a] w λr w'=>r=ak (ai #[])/\Lo w' b m0 m1 s (nn++[x]) vn (jp f (bad (!decide (x∈nn)) 24 a))/\Q [b,m0] w w':=by
 refine ret (alE _ _ _ _ _ ?_);refine⟨_,_,w,h.nm.at x,(It h _ 24 a).mono ?_⟩;rintro _ d ⟨rfl,c,D⟩;refine⟨rfl,λhc=>?_,λhc=>?_⟩
 ·obtain⟨w,a,e,u⟩:=c.nm.add hx aaj;refine⟨w,a,rfl,⟨u.blk c.blk (by have:=h.n0;have:=h.n1;simp;omega),e,c.vr.only u (by have:=h.n0;simp;omega),h.n0,h.n1⟩,(D.weaken (bs':=[b,m0]) (λx hx=>.inl acz)).trans u λx hx=>.inl acz⟩
 exact⟨rfl,⟨c.blk,c.nm.has aaj,c.vr,h.n0,h.n1⟩,D.weaken λx hx=>.inl acz⟩
def W2(h:Lo w b m0 m1 s nn vn f){x:aH}(hx:gS x)(a:Int):az aq 62 #[ae (aM ⟨b,0,aaa⟩),.map (aM m1),X (T x),O U (I vn:Nat),O U a] w λr w'=>r=ak (ai #[])/\Lo w' b m0 m1 s nn (vn++[x]) (jp f (bad (!decide (x∈vn)) 24 a))/\Q [b,m1] w w':=by
 refine ret (alE _ _ _ _ _ ?_);refine⟨_,_,w,h.vr.at x,(It h _ 24 a).mono ?_⟩;rintro _ d ⟨rfl,c,D⟩;refine⟨rfl,λhc=>?_,λhc=>?_⟩
 ·obtain⟨w,a,e,u⟩:=c.vr.add hx aaj;refine⟨w,a,rfl,⟨u.blk c.blk (by have:=h.n1;simp;omega),c.nm.only u (by have:=h.n0;simp;omega),e,h.n0,h.n1⟩,(D.weaken (bs':=[b,m1]) (λx hx=>.inl acz)).trans u λx hx=>.inl acz⟩
 exact⟨rfl,⟨c.blk,c.nm,c.vr.has aaj,h.n0,h.n1⟩,D.weaken λx hx=>.inl acz⟩
end
def N2(P:aJ)(s:Sl)(w:av)(a:Sl)(b:av):Prop:=aD (λk=>P k∨s.a=aM ⟨k,0,aaa⟩) w b/\∀k,a.a=aM ⟨k,0,aaa⟩->s.a=aM ⟨k,0,aaa⟩∨w.heap.size<=k
def N2.trans{P:aJ}{s t u:Sl}{w a v:av}(h:N2 P s w t a)(g:N2 P t a u v):N2 P s w u v:=by
 refine⟨h.1.trans g.1 λk hk=>?_,λk hk=>?_⟩
 ·rcases hk with hk | hk
  ·exact .inl (.inl hk)
  exact(h.2 k hk).elim (λh=>.inl (.inr h)) .inr
 rcases g.2 k hk with hk | hk
 ·exact h.2 k hk
 exact .inr (bD h.1.size hk)
def N2.of{P:aJ}{s:Sl}{w a:av}{b:List Nat}(h:Q b w a)(c:∀k,k∈b->P k):N2 P s w s a:=⟨h.p λk hk=>.inl (.inl (c k hk)),λk hk=>.inl hk⟩
def sp0:dU:=⟨0,[],0,0,0⟩
def W3:∀(D:Nat) {w:av} {F:aJ} {x:Nd} {g:aI} {b m c:Nat} {s:Sl} {n d:List (aH)} {f:Ft},lO aL D w F x g->(∀k,F k->k<m)->Lo w b m c s n d f->iy (b+1) w s (List.replicate (I n) sp0)->
  mj x<=8388608->I n+iH x<=1000000->
  az aq 61 #[ae (aM ⟨b,0,aaa⟩),ah g.toArray] w λe a=>e=ak (ai #[])/\∃h,Lo a b m c h (n++(AQ x).map λp=>p.1) d (jp f (vf n (AQ x)))/\iy (b+1) a h (List.replicate (I n+iH x) sp0)/\N2 (λk=>k=b∨k=m) s w h a
 | 0,_,_,_,_,_,_,_,_,_,_,_,b,_,_,_,_,_=>b.elim
 | D+1,w,F,.mk l j,g,b,m,c,s,n,d,f,⟨en,lv,mv,kids,iO,_,T⟩,hF,N,hS,hz,hn=>by
  have hk:=T.1;clear T;dsimp only[Nd.kids,Nd.b]at hk iO;subst iO;rw[iH]at hn;rw[mj]at hz;have Fj:=hk.len;have aS:=qo j;have n0:=N.n0;have n1:=N.n1;have US:gS l.nm:=by
   show (I l.nm)<=maxLen;have:maxLen=9223372036854775807:=rfl;unfold yu at hz;omega
  refine ret (asX _ _ _ _ _ _ _ _ _ _ ?_);intro k0 w0 T ez H;have z0:=H.size;have Fh:=N.lt;have S:=N.o0 H;have W:iy (b+1) w0 s _:=hS.AG H.p0 λ_ _ _ i=>i;have TT:s.n=I n:=by rw[hS.len,List.length_replicate]
  have qY:s.a≠aM ⟨k0,0,aaa⟩:=λe=>acu
  refine⟨_,Blk.dP S.blk 0 rfl,s,Blk.dP S.blk 1 rfl,?_⟩;dsimp only;rw[TT];refine(W0 S US l.a).mono ?_;rintro _ w1 ⟨rfl,L,E⟩;have z1:=E.size;have Y:iy (b+1) w1 s (List.replicate (I n) sp0):=W.AG (G:=λk=>k=b∨k=m) (E.p λk hk=>.inl aay) λk i _=>J
  have am:N2 (λk=>k=b∨k=m) s w s w1:=(N2.of H aag).trans (N2.of E aag);obtain⟨y,w2,k1,k3,u,w3,g1,g2,⟨gs,M,V⟩,g5⟩:=kj (P:=aq) (t:=43) (ty:=43) (e:=59) (i:=Tryz.t59) (bytes:=48) (size:=5) (r:=tD) (G:=λ_=>False) (v:=ah #[O U 0,X (ao #[]),O U 0,O U 0,O U 0]) (x:=sp0) aae aae rfl rfl rfl rfl Z Z Z dC Y J rfl rfl (λ_ i=>i.elim) (by rw[List.length_replicate];omega);have z2:=k3.size;have z3:=M.size;have z:∀o,o∈gs->b<o/\o<w1.heap.size/\s.a=aM ⟨o,0,aaa⟩:=λo B=>⟨by have:=(V o B).2.1;omega,(V o B).2.2,(V o B).1⟩
  have A:Lo w3 b m c s (n++[l.nm]) d _:=(L.o0 k3).only M (λi=>by have:=z _ i;omega) (λi=>by have:=z _ i;omega) (λi=>by have:=z _ i;omega);refine⟨rfl,E.same aah,s,Blk.dP L.blk 1 rfl,y,w2,k1,k3.same aah,u,w3,g1,M.same λx C=>?_,b,1,_,_,rfl,A.blk,aag,J,λR K sE=>?_⟩
  ·simp only[aN]at C;subst C;exact⟨J,λi=>qY (z _ i).2.2⟩
  have z4:=K.size;have P:Lo R b m c u (n++[l.nm]) d (jp f (bad (!decide (l.nm∈n)) 24 l.a)):=A.lF K sE;have UU:iy (b+1) w3 u (List.replicate (I n+1) sp0):=by
   have:=iy.of g2;rwa[<-List.replicate_succ']at this
  have aT:iy (b+1) R u (List.replicate (I n+1) sp0):=UU.AG (G:=λk=>k=b) (K.p aag) λk i _=>J
  have m4:N2 (λk=>k=b∨k=m) s w u R:=by
   refine am.trans ⟨((k3.qz (M.p (F:=λk=>(k=b∨k=m)∨s.a=aM ⟨k,0,aaa⟩) λo B=>.inl (.inr (z o B).2.2))).trans (K.p (F:=λk=>k=b) aag) λk hk=>.inl (.inl (.inl hk))),λk hk=>?_⟩;rcases g5 with e | ⟨o,e,i⟩
   ·exact .inl acB
   rw[e]at hk;injection hk with hk;injection hk with hk;exact .inr J
  have n4:∀k,u.a=aM ⟨k,0,aaa⟩->k≠k0:=λk hk e=>by
   subst e;rcases g5 with e | ⟨o,e,i⟩
   ·exact qY acB
   rw[e]at hk;injection hk with hk;injection hk with hk;omega
  have j6:∀{bv:av} {q:Sl},N2 (λk=>k=b∨k=m) s w q bv->aA (lO aL D) 9 bv F kids j:=λhm=>SliceF.kU (cf aL D) Z hk hm.1 λk xN _=>by
   have:=hF k xN;exact λi=>i.elim J λi=>by have:=(hS.blk i).1;dsimp only at this;omega
  refine⟨λkv aC a=>∃(r:Nat) (q:Sl),aC=(r:Int)/\kv+r=I j/\r<=I j/\Lo a b m c q (n++l.nm::(yw (j.take r)).map λp=>p.1) d (jp f (vf n ((l.nm,l.a)::yw (j.take r))))/\iy (b+1) a q (List.replicate (I n+1+dR (j.take r)) sp0)/\N2 (λk=>k=b∨k=m) s w q a/\R.heap.size<=a.heap.size/\∀k,q.a=aM ⟨k,0,aaa⟩->k≠k0,I j,⟨0,u,rfl,J,be _,by
   rw[cA,yw,vf,vf,bE];exact P,by rw[cA,dR,gy];exact aT,m4,aX _,n4⟩,?_⟩
  rintro kv _ w5 ⟨r,q,rfl,oX,mH,v,t,m5,z5,n5⟩;constructor
  ·intro hc;have hj:r<I j:=aa1
   obtain⟨y,hy⟩:∃y,j[r]? =aM y:=⟨_,bf hj⟩
   obtain⟨ad,y',ds,a1,s,a3,a4,a5,a6⟩:=(j6 m5).get (ba r) J;rw[aW,hy]at s;injection s with s;subst s;have FT:=a6;obtain⟨b,rfl⟩:∃b,D=b+1:=by
    cases D with
    | zero=>exact a6.elim
    | succ b=>exact⟨b,rfl⟩
   obtain⟨ri,rj,oM,gD,rfl,_⟩:=FT;have uD:=mS hy;have bV:=nB (bn hy);have G:I (n++l.nm::(yw (j.take r)).map λp=>p.1)=I n+1+dR (j.take r):=by
    rw[aQ,aY,bK,Qs];omega
   refine⟨ad,a1,_,_,_,_,ri,rj,oM,gD,_,a5,λk6 w6 Y1 O0 f=>?_⟩;have z6:=f.size;have MD:=v.o0 f;have UG:=v.lt;refine(W3 (b+1) ((cf aL (b+1)).keep a6 λk _ bU=>f.block k bU aag) hF MD (by rw[G];exact t.AG f.p0 λ_ _ _ i=>i) J (by rw[G];omega)).mono ?_;rintro _ w7 ⟨rfl,q7,vZ,UW,F⟩;have z7:=F.1.size;have e:j.take (r+1)=j.take r++[y]:=ahQ
   have q:yw (j.take (r+1))=yw (j.take r)++AQ y:=by rw[e,Ip,yw,yw,bE]
   refine⟨rfl,F.1.same λx C=>?_,kv-1,J,r+1,q7,aaf,J,J,?_,?_,(m5.trans (N2.of f aag)).trans F,J,λk hk e=>?_⟩
   ·simp only[aZ,bp,ci]at C;rcases C with rfl | rfl
    ·exact⟨J,λi=>i.elim J λi=>n5 _ i rfl⟩
    refine⟨O0,λi=>i.elim J λi=>?_⟩;have:=(t.blk i).2;dsimp only at this;omega
   ·have e:n++l.nm::(yw (j.take (r+1))).map (λp=>p.1)=(n++l.nm::(yw (j.take r)).map λp=>p.1)++(AQ y).map λp=>p.1:=by
     rw[q,cK,bq,bZ]
    have k:vf n ((l.nm,l.a)::yw (j.take (r+1)))=vf n ((l.nm,l.a)::yw (j.take r))++vf (n++l.nm::(yw (j.take r)).map λp=>p.1) (AQ y):=by
     rw[q,<-bZ,Af];rfl
    rw[e,k,gz];exact vZ
   ·rw[G]at UW;rw[e,Ab,dR,dR,gy,<-dM];exact UW
   subst e;rcases F.2 _ hk with i | i
   ·exact n5 _ i rfl
   omega
  intro hc;have b:r=I j:=aa6
  subst b;rw[bm (aX _)]at t v;refine⟨rfl,q,?_,?_,m5⟩
  ·rw[AQ];exact v
  rw[iH,show (I n)+(dR j+1)=I n+1+dR j by omega];exact t
end Go.Proofs.YtfemabakfkliiaaGreatDoor.Con
namespace Go.Kt
open Go Go.RowKit
section
variable {P:Program} {w:av}
set_option maxRecDepth 20000 in
def Ai {t it ty e:TypeId} {i:TypeInfo} {z:Value} (ht:P.underlying t=some (.slice e)) (hit:P.underlying it=some (.int .i64)) (hi:P.info? e=some i) (hz:i.zero=some z)
  {n:Nat} (hn0:0<n) (MP:0<i.size) (h63:n<=9223372036854775807) (TS:n*i.bytes<=281474976710656) (TR:Builtin.nextslicecap n 0*i.bytes<=281474976710656):
  (Builtin.append_ #[t,it] ty #[.slice none 0 0,.int .i64 n]).run P w=
   .ok (.slice (some ⟨w.heap.size,0,none⟩) n (grownCap w n 0 e))
    (w.drew.alloc (.cells (Builtin.zeroCells z.cells n++Builtin.zeroCells z.cells (grownCap w n 0 e-n)) e)):=by
 have hn:¬(n<=0):=J
 have awD:¬(9223372036854775807<(n:Int)):=J
 have awE:¬(281474976710656<Builtin.nextslicecap n 0*i.bytes):=J
 have hwr:IntKind.i64.wrap (n:Int)=n:=fh J J;have oV:¬(281474976710656<(n:Int)*(i.bytes:Int)):=by
  have:((n*i.bytes:Nat):Int)<=281474976710656:=Int.ofNat_le.2 TS;rw[Int.natCast_mul]at this;omega
 have adf:¬((n:Int)<0):=J
 have ii:n≠0:=J
 have UO:n*i.size≠0:=by have:=Nat.mul_pos hn0 MP;omega
 simp[Builtin.append_,run_underlying ht,run_underlying hit,sizeOf,typeInfo,zeroValue,hi,hz,asInt,asIntOf,hwr,adf,oV,ii,UO,awD,awE,Question.forced,run_firstCells_none,newRow,grownCap]
def W4{l:Type}{r:Rp l}{F:Nat->Prop}{size bytes:Nat}{t it ty e:TypeId}{i:TypeInfo}{z:aw}(j:P.underlying t=aM (.slice e))(a:P.underlying it=aM (.int .i64))(g:P.info? e=aM i)(k:i.zero=aM z)(q:i.size=size)(T:i.bytes=bytes)(y:z.cells.size=size)
  {n:Nat} (h:0<n) (c:0<size) (m:n*bytes<=140737488355328) (C:0<bytes):
  ∃s b,(Builtin.append_ #[t,it] ty #[.slice aaa 0 0,.int .i64 n]).run P w=.ok (Sl.v s) b/\Own r size e w.heap.size b F (s.cut 0 0 s.c size) []/\Only [] w b/\s.a=aM ⟨w.heap.size,0,aaa⟩:=by
 subst q;subst T;have d:n<=140737488355328:=bD (by have:=Nat.mul_le_mul_left n C;omega) m;have f:=(growslice_fits h m:Builtin.nextslicecap n 0*i.bytes<=281474976710656)
 refine⟨⟨aM ⟨w.heap.size,0,aaa⟩,n,grownCap w n 0 e⟩,_,Ai j a g k h c J J f,?_,(Only.drew w).cd (Only.alloc _ _),rfl⟩;have o:=grownCap_ge w n 0 e;have u:=grownCap_le_maxLen w n 0 e (by simp only[maxLen];omega);refine .inr ⟨w.heap.size,([]:List (List aw)),(Builtin.zeroCells z.cells n++Builtin.zeroCells z.cells (grownCap w n 0 e-n)).toList,?_,aX _,?_,?_,rfl,?_,?_,trivial⟩
 ·simp[Sl.cut,Addr.add]
 ·have:=Blk.alloc w.drew e (Builtin.zeroCells z.cells n++Builtin.zeroCells z.cells (grownCap w n 0 e-n)).toList;rw[Array.toArray_toList]at this;exact this
 ·rw[Array.toList_append,aQ,zv w _ y,zv w _ y,<-jb];simp only[Sl.cut];congr 1;omega
 ·simp[Sl.cut]
 simp only[Sl.cut];simp only[maxLen]at u;omega
end
end Go.Kt
namespace Go.Proofs.YtfemabakfkliiaaGreatDoor.Con
open Go Go.RowKit Go.Kt Go.Kt.V Go.Proofs.YtfemabakfkliiaaGreatDoor.Vc
structure Lx (w:av) (b m0 m1:Nat) (F:aJ) (s:Sl) (xs:List dU) (vn:List (aH)) (f:Ft):Prop where
 lo:Lo w b m0 m1 s (xs.map λx:dU=>x.nm) vn f
 sp:aA tD 5 w F s xs
 fo:Fo xs
 ln:I xs<=64
 nF:∀k,F k->k≠b
section
variable {w w':av} {b m0 m1:Nat} {F G:aJ} {s:Sl} {xs:List dU} {vn:List (aH)} {f g:Ft}
def Lx.o0(h:Lx w b m0 m1 F s xs vn f)(a:Q [] w w'):Lx w' b m0 m1 F s xs vn f:=⟨h.lo.o0 a,SliceF.only dC Z h.sp a aag,h.fo,h.ln,h.nF⟩
def Lx.to(h:Lx w b m0 m1 F s xs vn f)(a:Q [b] w w')(l:Lo w' b m0 m1 s (xs.map λx:dU=>x.nm) vn g):Lx w' b m0 m1 F s xs vn g:=
 ⟨l,SliceF.only dC Z h.sp a λk hk _ hm=>h.nF k hk ab2,h.fo,h.ln,h.nF⟩
def oC(h:Lx w b m0 m1 F s xs vn f)(ok:Bool)(e a:Int):az aq 90 #[ae (aM ⟨b,0,aaa⟩),aj ok,O U e,O U a] w λr w'=>r=ak (ai #[])/\Lx w' b m0 m1 F s xs vn (jp f (bad ok e a))/\Q [b] w w':=by
 refine(It h.lo ok e a).mono ?_;rintro _ w' ⟨rfl,d,c⟩;exact⟨rfl,h.to c d,c⟩
def Ev(s:List dU)(n:aH):fK s n= -1∨∃j:Nat,fK s n=j/\j<I s:=by
 rcases jt s n with⟨h,_⟩ | ⟨j,x,h,a,_⟩
 ·exact .inl h
 exact .inr ⟨j,h,ir a⟩
def Iu(h:Lx w b m0 m1 F s xs vn f)(n:aH):az aq 124 #[.map (aM m0),X (T n)] w λr w'=>r=ak (O U (fK xs n))/\w'=w:=by
 refine ret (ath _ _ ?_);refine⟨_,_,w,h.lo.nm.at n,λa=>⟨?_,rfl⟩,λa=>⟨?_,rfl⟩⟩
 ·have l:=pX.2 (aO a);unfold fK;rw[aV l,aV (by rwa[bK]at l)]
 have l:¬_:=λh=>aU a (pX.1 h);unfold fK;rw[aP (by rwa[bK]at l)]
def Lu(a:Lx w b m0 m1 F s xs vn f){n:Int}(e:n<I xs):az aq 125 #[ae (aM ⟨b,0,aaa⟩),O U n] w λr w'=>r=ak (aj (decide (0<=n)&&!fF (jJ xs n)))/\w'=w:=by
 refine ret (ati _ _ ?_);refine⟨λr w'=>r=(decide (0<=n)&&!fF (jJ xs n))/\w'=w,λr w' ⟨c,d⟩=>⟨by rw[c],d⟩,λh=>?_,λh=>⟨?_,rfl⟩⟩
 ·have h:0<=n:=aO h;obtain⟨j,rfl⟩:∃j:Nat,n=j:=⟨n.toNat,J⟩
  obtain⟨x,b⟩:=gu (xs:=xs) (i:=j) J;obtain⟨ad,f,g,_⟩:=jI a.sp b;refine⟨s,Blk.dP a.lo.blk 1 rfl,ad,f,x.k,g.dP 0 _ rfl,(CU w x.k).mono ?_⟩;rintro _ k ⟨rfl,u⟩;refine⟨_,rfl,?_,u⟩;rw[fG b,bF h];rfl
 rw[show decide (0<=n)=aL from h];rfl
def Iv{b a:Nat}(d:Q [b] w w')(h:a≠b):bT (λk=>k=a) w w':=λk hk c=>d.block k c (by subst hk;simp[h])
def wM{b:Nat}{u v:av}(h:Q [b] w u)(g:Q [b] u v):Q [b] w v:=h.trans g λx a=>.inl a
def Ck{b:Nat}(h:Q [] w w'):Q [b] w w':=h.weaken λx a=>(by simp at a)
def Iw:∀(d:Nat) {w:av} {x:Ex} {c:aI} {f:Ft},NN aL d w G x c->(∀k,G k->k≠b)->Lx w b m0 m1 F s xs vn f->
  az aq 93 #[ae (aM ⟨b,0,aaa⟩),ah c.toArray] w λr w'=>r=ak (ai #[])/\Lx w' b m0 m1 F s xs vn (jp f (Qt xs vn x))/\Q [b] w w'
 | 0,_,_,_,_,h,_,_=>h.elim
 | d+1,w,x,c,f,⟨sl,n,g⟩,j,h=>by
  subst n;have g:=g.1;refine ret (ata _ _ _ _ _ _ _ ?_);intro l m A v q;have B:=q.size;have t:=h.lo.lt;have i:=h.o0 q;have o:=g.len;have p:=g.cap;have M:=g.big;have z:l≠b:=J
  refine⟨λu=>Lx u b m0 m1 F s xs vn (jp f (bad (ML xs vn x.k x.s) 23 x.a))/\Q [b] w u/\m.heap.size<=u.heap.size,?_,λhk=>?_,λhk=>⟨λa=>?_,λa=>?_⟩⟩
  ·rintro W ⟨L,P,S⟩;refine⟨λH N u=>∃C:Nat,N=(C:Int)/\H+C=I x.dD/\C<=I x.dD/\Lx u b m0 m1 F s xs vn (jp f (bad (ML xs vn x.k x.s) 23 x.a++ue xs vn (x.dD.take C)))/\Q [b] w u/\m.heap.size<=u.heap.size,I x.dD,⟨0,rfl,rfl,be _,by rw[cA,ue,bE];exact L,P,S⟩,?_⟩;rintro H _ R ⟨C,rfl,V,T,E,K,Y⟩;refine⟨λD=>?_,λD=>?_⟩
   ·have D:=aO D;have s:aA (NN aL d) 6 R G sl x.dD:=SliceF.only (mw aL d) Z g K λk hk _ hm=>j k hk ab2;obtain⟨ad,y,ds,w,a2,a3,a4,a5,b⟩:=s.get (ba C) J;rw[aW]at a2;have F:=b;obtain⟨f,rfl⟩:∃e,d=e+1:=by
     cases d with
     | zero=>exact b.elim
     | succ e=>exact⟨e,rfl⟩
    obtain⟨sl',rfl,_⟩:=F;refine⟨ad,w,_,_,_,_,_,_,a5,λk3 w3 a ur d=>?_⟩;have z3:=d.size;refine(Iw (f+1) ((mw aL (f+1)).keep b λk hk G=>d.block k G aag) j (E.o0 d)).mono ?_;rintro _ w4 ⟨rfl,h4,e⟩;have z4:=e.size;have oP:x.dD.take (C+1)=x.dD.take C++[y]:=ahR
    have AI:=E.lo.lt;refine⟨rfl,e.same aah,H-1,J,C+1,aaf,J,J,?_,(K.cd d).trans e λx hx=>.inl hx,J⟩;rw[oP,Ep,ue,ue,bE,<-bq,gz];exact h4
   have D:=aU D;have b:C=I x.dD:=J
   subst b;rw[bm (aX _),<-WQ]at E;exact⟨rfl,E,K⟩
  ·have hk:x.k=2:=aay
   intro w e;have s:=e.size;have b:=i.o0 e;refine⟨_,Blk.dP b.lo.blk 2 rfl,_,_,w,b.lo.vr.at x.s,cu.refl _ _,(oC b _ 23 x.a).mono ?_⟩;rintro _ k ⟨rfl,d,f⟩;have y:=f.size;refine⟨rfl,f.same aah,?_,wM (Ck (q.cd e)) f,J⟩;have:ML xs vn x.k x.s=decide (x.s∈vn):=by unfold ML;rw[hk];simp
   rw[this];exact d
  ·have a:x.k=3:=by simpa using a
   intro w f;have H:=f.size;have b:=i.o0 f;refine⟨λk=>k=l,_,Blk.dP b.lo.blk 0 rfl,rfl,(Iu b x.s).mono ?_⟩;rintro _ C ⟨rfl,e⟩;obtain rfl:w=C:=e.symm;refine⟨_,rfl,cu.refl _ _,bT.refl _ _,(Lu b (by rcases Ev xs x.s with h | ⟨G,h,E⟩<;>omega)).mono ?_⟩;rintro _ y ⟨rfl,e⟩;obtain rfl:w=y:=e.symm;refine⟨_,rfl,cu.refl _ _,bT.refl _ _,(oC b _ 23 x.a).mono ?_⟩;rintro _ F ⟨rfl,s,d⟩;have D:=d.size;refine⟨rfl,d.same aah,Iv d z,?_,wM (Ck (q.cd f)) d,J⟩;have:ML xs vn x.k x.s=Im xs x.s:=by unfold ML;rw[a];simp
   rw[this];exact s
  have G:x.k≠2:=aay
  have a:x.k≠3:=by simpa using a
  have:ML xs vn x.k x.s=aE:=by unfold ML;simp[G,a]
  rw[this];exact⟨i,Ck q,aX _⟩
end
def Lv:Rp Sl:=λ_ _ x c=>c=[x.v]
def vh:Lv.Ok:=⟨λh _=>h,λh=>h,λh _=>h,λh=>by
 unfold Lv at h;subst h;intro v a;simp only[aN]at a;subst a;rfl⟩
abbrev QI(B:Nat)(w:av)(G:aJ)(s:Sl)(l:List Ac):Prop:=Own (qy aL) 9 161 B w G s l
def abD(w:av)(G:aJ){n:Nat}(c:n<=20000000):az aq 169 #[Sl.nil.v,O U (n:Int)] w λe a=>(∃s:Sl,e=ak s.v/\QI w.heap.size a G s [])/\Q [] w a:=by
 refine ik (amJ _ _ ?_);have b:ar U ((n:Int)-(ar U ((Sl.nil.c:Int)-(Sl.nil.n:Int))))=n:=by
  show ar U ((n:Int)-(ar U (((0:Nat):Int)-((0:Nat):Int))))=n;rw[fh (x:=((0:Nat):Int)-((0:Nat):Int)) J J,fh J J];omega
 refine⟨λu=>w=u,?_,λh=>?_,λ_=>rfl⟩
 ·rintro _ rfl;rw[b];refine⟨λl u=>QI w.heap.size u G l []/\Q [] w u,λl u d=>⟨⟨l,rfl,d.1⟩,d.2⟩,λh=>?_,λh=>⟨Own.nil _ _ _ _ _ _,Only.refl _ _⟩⟩;have h:=aO h;obtain⟨s,k,g,f,j,_⟩:=W4 (P:=aq) (w:=w) (r:=qy aL) (F:=G) (size:=9) (bytes:=104) (t:=23) (it:=3) (ty:=23) (e:=161) (i:=Tryz.t161) (n:=n) aae aae aae rfl rfl rfl rfl J Z J Z;exact⟨0,⟨rfl,aX _⟩,s,k,g,0,⟨rfl,be _⟩,f,j⟩
 have:=aO h;omega
def qs(l:List (Sl×List Ac)):List Ac:=l.flatMap λp=>p.2
def xy{l:List (Sl×List Ac)}{j:Nat}{p:Sl×List Ac}(h:l[j]? =aM p):qs (l.take (j+1))=qs (l.take j)++p.2:=by
 rw[bh,h];unfold qs;rw[iY];simp
def QJ{l:List (Sl×List Ac)}(j:Nat):I (qs (l.take j))<=I (qs l):=by
 have:qs l=qs (l.take j)++qs (l.drop j):=by
  unfold qs;rw[<-iY,fk]
 rw[this,aQ];omega
def Ta{w:av}{rows:Sl}{F G:aJ}{l:List (Sl×List Ac)}(R:aA Lv 1 w F rows (l.map λp=>p.1))(A:∀p,p∈l->aA (qy aL) 9 w G p.1 p.2)(m:I (qs l)<=20000000):
  az aq 127 #[rows.v] w λe c=>(∃s:Sl,e=ak s.v/\QI w.heap.size c (λk=>G k/\k<w.heap.size) s (qs l))/\Q [] w c:=by
 refine ik (amg _ ?_);have a:=R.len;have d:=R.cap;have M:=R.big;rw[bK]at a;have row:∀{u:av} {j:Nat},Q [] w u->j<(I l)->∃ad p,cR rows (j:Int) 1 ad/\l[j]? =aM p/\aB u ad [p.1.v]/\aA (qy aL) 9 u (λk=>G k/\k<w.heap.size) p.1 p.2:=fun{u j} hO b=>by
  obtain⟨ad,y,s,n,f,t,x,q,e⟩:=(SliceF.only vh Z R hO aag).get (ba j) J;rw[aW,cF,fz]at f;obtain⟨p,g,rfl⟩:=f;have e:s=[p.1.v]:=e;subst e;exact⟨ad,p,n,g,q,((A p (bn g)).inHeap (cT aL) Z).keep (cT aL) Z λk _ r=>hO.block k r aag⟩
 refine⟨λv n i u=>∃j:Nat,i=(j:Int)/\n=(I (qs (l.take j)):Nat)/\v+j=I l/\j<=I l/\w=u,I l,⟨0,rfl,rfl,rfl,be _,rfl⟩,?_⟩;rintro v _ _ _ ⟨j,rfl,rfl,o,b,rfl⟩;refine⟨λh=>?_,λh=>?_⟩
 ·have h:=aO h;obtain⟨ad,p,g,e,k,q⟩:=row (Only.refl _ _) (j:=j) J;have s:=q.len;have D:=QJ (l:=l) (j+1);rw[xy e,aQ]at D;have f:ar U ((I (qs (l.take j)):Nat)+(p.1.n:Int))=(I (qs (l.take (j+1))):Nat):=by
   rw[fh J J,xy e,aQ];omega
  refine⟨λn u=>n=(I (qs (l.take (j+1))):Nat)/\w=u,?_,ad,g,p.1,k,λr=>?_,λ_=>⟨f,rfl⟩⟩
  ·rintro _ _ ⟨rfl,rfl⟩;exact⟨v-1,J,j+1,aaf,rfl,J,J,rfl⟩
  have:=aO r;rw[f]at this;omega
 have h:=aU h;have g:j=I l:=J
 subst g;rw[bm (aX _)];refine(abD w (λk=>G k/\k<w.heap.size) m).mono ?_;rintro _ q ⟨⟨s,rfl,S⟩,n⟩;refine⟨s,rfl,λv t i u=>∃j:Nat,i=(j:Int)/\v+j=I l/\j<=I l/\QI w.heap.size u (λk=>G k/\k<w.heap.size) t (qs (l.take j))/\Q [] w u,I l,⟨0,rfl,rfl,be _,by rw[cA];exact S,n⟩,?_⟩;rintro v t _ x ⟨j,rfl,o,b,T,f⟩;refine⟨λh=>?_,λh=>?_⟩
 ·have h:=aO h;obtain⟨ad,p,y,s,z,B⟩:=row f (j:=j) J;have V:=QJ (l:=l) (j+1);rw[xy s,aQ]at V;obtain⟨N,W,D,E,Y,H,K,_⟩:=qO (P:=aq) (t:=23) (ty:=23) (e:=161) (i:=Tryz.t161) (bytes:=104) (size:=9) (r:=qy aL) aae aae rfl rfl rfl rfl (cT aL) T (B.mono (cT aL) λk hk=>⟨hk,λe=>by have:=(T.blk e).1;dsimp only at this;omega⟩) f.size J Z;refine⟨ad,y,p.1,z,N,W,D,v-1,J,j+1,aaf,J,J,by rw[xy s];exact E,f.trans H λC L=>.inr (K C L).2.1⟩
 have h:=aU h;have g:j=I l:=J
 subst g;rw[bm (aX _)]at T;exact⟨⟨t,rfl,T⟩,f⟩
section
variable {w w':av} {b m0 m1:Nat} {F G H:aJ} {s:Sl} {xs:List dU} {vn:List (aH)} {f g:Ft}
def QL{rows:Sl}{l:List (Sl×List Ac)}(R:aA Lv 1 w H rows (l.map λp=>p.1))(A:∀p,p∈l->aA (qy aL) 9 w G p.1 p.2)(m:I (qs l)<=20000000)(e:∀k,G k->k≠b)(h:Lx w b m0 m1 F s xs vn f):
  az aq 92 #[ae (aM ⟨b,0,aaa⟩),rows.v] w λr w'=>r=ak (ai #[])/\Lx w' b m0 m1 F s xs vn (jp f (lP xs vn (qs l)))/\Q [b] w w':=by
 refine ret (as9 _ _ ?_);refine(Ta R A m).mono ?_;rintro _ g ⟨⟨t,rfl,T⟩,q⟩;have x:=h.lo.lt;have C:=q.size;generalize qs l=al at*
 have n:=T.len;refine⟨t,rfl,λv i u=>∃j:Nat,i=(j:Int)/\v+j=I al/\j<=I al/\Lx u b m0 m1 F s xs vn (jp f (lP xs vn (al.take j)))/\Q [b] g u,I al,⟨0,rfl,rfl,be _,by rw[cA];exact h.o0 q,Only.refl _ _⟩,?_⟩;rintro v _ o ⟨j,rfl,B,z,a,D⟩;have E:=D.size;refine⟨λc=>?_,λc=>?_⟩
 ·have c:=aO c;have l:aA (qy aL) 9 o _ t al:=SliceF.only (cT aL) Z (T.slice (cT aL)) D λk hk _ m=>by
   simp only[aN]at m;rcases hk with hk | hk
   ·exact e k hk.1 m
   omega
  obtain⟨ad,y,ds,N,K,a3,a4,P,S⟩:=l.get (ba j) J;rw[aW]at K;obtain⟨xc,rfl,M⟩:=S;obtain⟨sl,rfl⟩:=eU M;have wV:=a.lo.lt;refine⟨ad,N,_,_,_,_,_,_,sl,_,_,P,λk2 W qG oL p=>?_⟩;have z2:=p.size;have L:=a.o0 p;have V:lP xs vn (al.take (j+1))=lP xs vn (al.take j)++(bad (decide (y.k≠1)||decide (y.n∈vn)) 23 y.a++Qt xs vn y.x):=by
   rw[bh,K];unfold lP;rw[iY];simp[acF]
  refine⟨λu=>Lx u b m0 m1 F s xs vn (jp f (lP xs vn (al.take j)++bad (decide (y.k≠1)||decide (y.n∈vn)) 23 y.a))/\Q [b] W u,?_,λhk Y H=>?_,λhk=>?_⟩
  ·rintro w3 ⟨h3,F⟩;have z3:=F.size;obtain⟨d,am⟩:=M;have f:∀k,((G k/\k<w.heap.size)∨(w.heap.size<=k/\t.a=aM ⟨k,0,aaa⟩))->k≠b:=λk hk=>hk.elim (λh=>e k h.1) λh=>J
   refine(Iw d ((mw aL d).keep ((mw aL d).keep am λk _ s=>p.block k s aag) λk hk s=>F.block k s (by simp;exact f k hk)) f h3).mono ?_;rintro _ w4 ⟨rfl,h4,y⟩;have z4:=y.size;refine⟨rfl,y.same aah,v-1,J,j+1,aaf,J,J,?_,wM (wM (D.cd p) F) y⟩;rw[V,<-bq,gz];exact h4
  ·have hk:y.k=1:=aay
   have k:=H.size;have b:=L.o0 H;refine⟨_,Blk.dP b.lo.blk 2 rfl,_,_,Y,b.lo.vr.at y.n,cu.refl _ _,(oC b _ 23 y.a).mono ?_⟩;rintro _ w ⟨rfl,d,f⟩;have s:=f.size;refine⟨rfl,f.same aah,?_,wM (Ck H) f⟩;rw[gz,hk];exact d
  have hk:y.k≠1:=aay
  refine⟨?_,Only.refl _ _⟩;rw[gz,bF hk];exact L
 have c:=aU c;have l:j=I al:=J
 subst l;rw[bm (aX _)]at a;exact⟨rfl,a,wM (Ck q) D⟩
end
def anJ(u:av){a b:Int}(h:tn a)(d:tn b):∃y c,(au 33 2 #[.mk 0 (O U a),.mk 1 (O U b)]).run aq u=.ok (Sl.v y) c/\Q [] u c/\aA gL 1 c (λ_=>True) y [a,b]:=by
 obtain⟨y,c,k,f,k3,_⟩:=kz (P:=aq) (t:=33) (e:=3) (i:=Tryz.t3) (z:=O U 0) (w:=u) (F:=λ_=>False) (vs:=[O U a,O U b]) (parts:=#[.mk 0 (O U a),.mk 1 (O U b)]) (len:=2) (xs:=[a,b]) (r:=gL) (size:=1) aae aae rfl rfl Z rfl rfl Z Z cp ⟨⟨rfl,rfl,h⟩,⟨rfl,rfl,d⟩,trivial⟩;exact⟨y,c,k,k3,(f.slice cp).mono cp λ_ _=>trivial⟩
def iy.sl{B:Nat}{w:av}{s:Sl}{x:List dU}(h:iy B w s x):aA tD 5 w (λk=>B<=k) s x:=(h.slice dC).mono dC λk hk=>hk.elim (λh=>h.elim) λh=>h.1
def tup(x:dU):Int×aH×Int×Int×Int:=(x.k,x.nm,x.pa,x.dp,x.en)
section
variable {w w':av} {b m0 m1:Nat} {F G:aJ} {s:Sl} {xs:List dU} {vn:List (aH)} {f g:Ft}
def Bd{n:Int}(h:sY xs n)(l:I xs<=64):tn n:=⟨by have:=h.1;omega,by have:=h.2;omega⟩
def W5(h:Lx w b m0 m1 F s xs vn f){n c:Int}(a:sY xs n)(o:sY xs c):az aq 129 #[ae (aM ⟨b,0,aaa⟩),O U n,O U c] w λp w'=>p=ak (aj (Ff xs n c))/\Q [] w w':=by
 refine ret (atl _ _ _ ?_);obtain⟨y,A,v,m,k3⟩:=anJ w (Bd a h.ln) (Bd o h.ln);have g:=h.o0 m;refine⟨s,Blk.dP h.lo.blk 1 rfl,y,A,v,(WY g.sp h.fo k3).mono ?_⟩;rintro _ D ⟨⟨p,rfl,r⟩,d⟩;have i:=g.o0 d;have u:=h.fo.acf r a o;have Z:=r.aot aag λB j=>by
  simp only[aZ,bp,ci]at j;rcases j with rfl | rfl
  ·exact a
  exact o
 obtain⟨C,e,z,_⟩:=Z;obtain⟨k,_,x,l,_⟩:=z n aag;obtain⟨ad,q,t,_⟩:=jI i.sp l;subst e;refine⟨_,rfl,s,λ_=>Blk.dP i.lo.blk 1 rfl,ad,λ_=>q,x.k,λ_=>t.dP 0 _ rfl,?_,m.cd d⟩;unfold Ff;rw[<-u,fG l];congr 1;rw[bL];simp
def agQ{k a:Nat}(h:Lx w b m0 m1 F s xs vn f){n o:Int}(g:sY xs n)(i:sY xs o)(c:aF w k 126 [ae (aM ⟨b,0,aaa⟩)])(d:aF w a 3 [O U n]):
  az aq 128 #[O U o,ae (aM ⟨k,0,aaa⟩),ae (aM ⟨a,0,aaa⟩)] w λr w'=>r=ak (aj (!Ff xs n o))/\Q [] w w':=by
 refine ret (atk _ _ _ ?_);refine⟨_,c.cells 0 [_] λj v hj=>ae4,_,d.cells 0 [_] λj v hj=>ae4,(W5 h g i).mono ?_⟩;rintro _ l ⟨rfl,e⟩;exact⟨_,rfl,rfl,e⟩
def agR{k d:Nat}(m:Lx w b m0 m1 F s xs vn f){n:Int}(r:sY xs n){e:Sl}{a:List Int}(N:aA gL 1 w G e a)(R:∀o,o∈a->sY xs o)(p:aF w k 126 [ae (aM ⟨b,0,aaa⟩)])(q:aF w d 3 [O U n]):
  az aq 86 #[e.v,.func (.func 128) #[] #[ae (aM ⟨k,0,aaa⟩),ae (aM ⟨d,0,aaa⟩)]] w λt w'=>t=ak (aj (a.any λo=>!Ff xs n o))/\Q [] w w':=by
 refine ret (VY e ⟨.func (.func 128) #[] #[ae (aM ⟨k,0,aaa⟩),ae (aM ⟨d,0,aaa⟩)],rfl⟩ (λv w'=>v=aj (a.any λo=>!Ff xs n o)/\Q [] w w') w ?_);refine(VZ e ⟨.func (.func 128) #[] #[ae (aM ⟨k,0,aaa⟩),ae (aM ⟨d,0,aaa⟩)],rfl⟩ (λv w'=>(∃i:Int,v=O U i/\decide (i>=0)=a.any λo=>!Ff xs n o)/\Q [] w w') w ?_).mono (by
  rintro _ w' ⟨v,rfl,⟨i,rfl,b⟩,h⟩;exact⟨i,rfl,by rw[b],h⟩)
 have z:=N.len;have M:=N.cap;have C:=N.big;refine⟨λl i u=>∃j:Nat,i=(j:Int)/\l+j=I a/\j<=I a/\((a.take j).any λo=>!Ff xs n o)=aL/\Q [] w u,I a,⟨0,rfl,J,be _,rfl,Only.refl _ _⟩,?_⟩;rintro l _ u ⟨j,rfl,A,x,g,h⟩;refine⟨λc=>?_,λc=>?_⟩
 ·have c:=aO c;obtain⟨ad,y,B,s,b,E,F,v,w⟩:=(SliceF.only cp Z N h aag).get (ba j) J;rw[aW]at b;obtain⟨rfl,G⟩:=w;have n:=bn b;refine⟨ad,s,y,v,128,[],[ae (aM ⟨k,0,aaa⟩),ae (aM ⟨d,0,aaa⟩)],rfl,jR aae,(agQ (m.o0 h) r (R y n) (h.blk p aag) (h.blk q aag)).mono ?_⟩;rintro _ H ⟨rfl,D⟩;refine⟨_,rfl,λf=>⟨⟨j,rfl,?_⟩,h.cd D⟩,λf=>⟨l-1,J,j+1,aaf,J,J,?_,h.cd D⟩⟩
  ·rw[bF (by omega:(j:Int)>=0)];exact(fO.2 ⟨y,n,f⟩).symm
  rw[bh,b,vT,g];simpa using f
 have c:=aU c;rw[bm J]at g;exact⟨⟨-1,rfl,by rw[g];rfl⟩,h⟩
def QM(F:Fo xs){n:aH}(a:¬fK xs n<1):sY xs (yQ xs n):=by
 rcases jt xs n with⟨e,_⟩ | ⟨j,x,e,h,_⟩
 ·omega
 have l:=ir h;unfold yQ;rw[e,fG h,lA h];split
 ·obtain⟨p,_,b,c,_⟩:=F.par h J;exact⟨J,J⟩
 exact⟨J,J⟩
def gV.kp{B:Nat}{w a:av}{s:Sl}{l:List Int}(h:gV B w s l)(c:Q [] w a):gV B a s l:=Own.keep cp h λk _ b=>c.block k b aag
def aeo(c:av){u:av}{s:Sl}{m:List Int}(h:gV c.heap.size u s m)(p:Q [] c u)(n:Int)(B:tn n)(E:I m<=20000000):
  ∃y w,(au 33 1 #[.mk 0 (O U n)]).run aq u=.ok (Sl.v y) w/\Q [] u w/\∃b a,(Builtin.append_ #[33,33] 33 #[Sl.v s,Sl.v y]).run aq w=.ok (Sl.v b) a/\gV c.heap.size a b (m++[n])/\Q [] c a/\w.heap.size<=a.heap.size/\
   (∀k,k<u.heap.size->s.a≠aM ⟨k,0,aaa⟩->a.heap[k]? =w.heap[k]?)/\∀k,k<u.heap.size->s.a≠aM ⟨k,0,aaa⟩->b.a≠aM ⟨k,0,aaa⟩:=by
 obtain⟨y,w,C,k3,b,a,q,z,⟨D,f,o⟩,A⟩:=kj (P:=aq) (t:=33) (ty:=33) (e:=3) (i:=Tryz.t3) (bytes:=8) (size:=1) (r:=gL) (G:=λ_=>False) (v:=O U n) (x:=n) aae aae rfl rfl rfl rfl Z Z Z cp h p.size rfl ⟨rfl,B⟩ (λ_ h=>h.elim) J;have H:=k3.size;refine⟨y,w,C,k3,b,a,q,gV.of z,((p.cd k3).qz (f.p (F:=λk=>c.heap.size<=k) λg j=>.inl (o g j).2.1)).only λk hk=>hk,f.size,λk hk l=>f.block k J λj=>l (o k j).1,λk hk l e=>?_⟩;rcases A with d | ⟨g,d,h⟩
 ·exact l (by rw[<-d,e])
 rw[d]at e;injection e with e;injection e with e;omega
def Ew(l:List Int)(n:aH)(r:List (aH)):Io xs l (n::r)=if fK xs n<1 then aL else if(l.any λo=>!Ff xs (yQ xs n) o)=aE then aL else Io xs (l++[yQ xs n]) r:=rfl
def N3(h:Lx w b m0 m1 F s xs vn f){sT:Sl}{t:List (aH)}(p:aA mh 1 w G sT t)(M:I t<=20000000):az aq 94 #[ae (aM ⟨b,0,aaa⟩),sT.v] w λA w'=>A=ak (aj (Io xs [] t))/\Q [] w w':=by
 refine ret (atb _ _ ?_);intro r B H E m;have P:=m.size;have D:=h.lo.lt;have z:=p.len;refine⟨λv l i q u=>∃(j:Nat) (al:List Int),i=(j:Int)/\v+j=I t/\j<=I t/\q=aM ⟨b,0,aaa⟩/\gV w.heap.size u l al/\(∀o,o∈al->sY xs o)/\I al<=j/\Io xs [] t=Io xs al (t.drop j)/\Q [] w u/\B.heap.size<=u.heap.size/\l.a≠aM ⟨r,0,aaa⟩,I t,
  ⟨0,[],rfl,rfl,be _,rfl,Own.nil _ _ _ _ _ _,aag,aX _,rfl,m,aX _,by intro e;cases e⟩,?_⟩
 rintro v l _ _ C ⟨j,al,rfl,N,L,rfl,hS,a,K,n,c,R,g⟩;refine⟨λd=>?_,λd=>?_⟩
 ·have d:=aO d;obtain⟨ad,y,cs,g1,W,g3,g4,g5,F⟩:=(SliceF.only du Z p c aag).get (ba j) J;rw[aW]at W;have F:cs=[X (T y)]:=F;subst F;have Y:=h.o0 c;have G:t.drop j=y::t.drop (j+1):=by
   obtain⟨V,e⟩:=bc.1 W;rw[<-e,CA]
  rw[G,Ew]at n;refine⟨ad,g1,_,g5,_,rfl,_,Blk.dP Y.lo.blk 0 rfl,(Iu Y y).mono ?_⟩;rintro _ w2 ⟨rfl,S⟩;obtain rfl:C=w2:=S.symm;refine⟨_,rfl,cu.refl _ _,λf k3 w3 _ _ dh=>⟨?_,c.cd dh⟩,λf k4 w4 uw yg s=>?_⟩
  ·have f:=aO f;rw[n,aV f]
  have f:=aU f;rw[aP f]at n;have zd:=QM h.fo f;have z4:=s.size;have o4:=c.cd s;have T:gV w.heap.size w4 l al:=hS.kp s;have am:l.a≠aM ⟨k4,0,aaa⟩:=λe=>acu
  refine⟨λq i u=>q=aM ⟨b,0,aaa⟩/\i=yQ xs y/\Q [] w u/\gV w.heap.size u l al/\w4.heap.size<=u.heap.size,?_,_,rfl,λw9 fU=>?_⟩
  ·rintro _ _ w5 ⟨rfl,rfl,x,q,z5⟩ xM sE;have h5:=h.o0 x;refine(agR h5 zd (q.slice cp) a xM sE).mono ?_;rintro _ w6 ⟨rfl,b⟩;have z6:=b.size;have o6:=x.cd b;refine⟨_,rfl,_,b.blk xM aag,_,b.blk sE aag,λe=>⟨?_,o6⟩,λe=>?_⟩
   ·rw[n,aV e]
   rw[aP (by rw[e];decide)]at n;have aC:gV w.heap.size w6 l al:=q.kp b;obtain⟨y1,w7,p1,p3,s',w8,q1,q2,q3,z8,q4,q5⟩:=aeo w aC o6 (yQ xs y) (Bd zd h.ln) J;have z7:=p3.size;refine⟨y1,w7,p1,p3.same aah,s',w8,q1,λk hk=>?_,v-1,J,j+1,al++[yQ xs y],aaf,J,J,rfl,q2,λo ho=>?_,acE,n,q3,J,q5 r J g⟩
   ·simp only[aZ,bp,ci]at hk;rcases hk with rfl | rfl
    ·exact q4 _ J g
    exact q4 _ J am
   rcases ch.1 ho with ho | ho
   ·exact a o ho
   simp only[aN]at ho;subst ho;exact zd
  have z9:=fU.size;have q:=o4.cd fU;have w:=h.o0 q;obtain⟨e,_⟩ | ⟨jx,x,e,b,_⟩:=jt xs y
  ·omega
  obtain⟨zi,b1,b2,b3,_⟩:=jI w.sp b;rw[e]at f⊢;refine⟨_,Blk.dP w.lo.blk 1 rfl,zi,b1,x.k,b2.dP 0 _ rfl,(CU w9 x.k).mono ?_⟩;rintro _ dz ⟨rfl,S⟩;obtain rfl:w9=dz:=S.symm;refine⟨_,rfl,cu.refl _ _,λhh=>⟨_,rfl,λdF y=>?_⟩,λhh=>⟨rfl,?_,q,T.kp fU,J⟩⟩
  ·have C3:=y.size;have aS:=q.cd y;have Ua:=h.o0 aS;obtain⟨Se,c1,_,c3,_⟩:=jI Ua.sp b;refine⟨_,Blk.dP Ua.lo.blk 1 rfl,Se,c1,x.pa,c3,λeZ eW=>⟨rfl,?_,aS.trans eW λk hk=>.inr acK,?_,by have:=eW.size;omega⟩⟩
   ·unfold yQ;rw[e,fG b,lA b,aV hh]
   refine Own.keep cp ((T.kp fU).kp y) λk hk V=>eW.block k V ?_;simp only[aN];rintro rfl;exact hk.elim (λh=>h) λh=>am h.2
  unfold yQ;rw[e,fG b,aP aeg]
 have d:=aU d;have b:j=I t:=J
 subst b;rw[dV (aX _)]at n;exact⟨by rw[n];rfl,c⟩
end
section
variable {w w':av} {b m0 m1:Nat} {F G:aJ} {s:Sl} {xs:List dU} {vn:List (aH)} {f g:Ft}
def Ey{l:List Nd}{j}{y}(h:l[j]? =aM y):CS (l.take (j+1))=CS (l.take j)+if fF y.b.k=aE then 0 else 1:=by
 unfold CS;rw[bh,h,gJ,aQ];simp[Option.toList,uz,fM];cases fF y.b.k<;>simp
def W6 l:CS l<=I l:=kZ _ _
def W7{d:Nat}{bb}{ks}{cs}(g:lO aL (d+1) w G (.mk bb ks) cs)(M:∀k,G k->k≠b)(h:Lx w b m0 m1 F s xs vn f){n:Nat}(A:n<I xs):
  az aq 91 #[ae (aM ⟨b,0,aaa⟩),ah cs.toArray,O U (n:Int)] w λC w'=>C=ak (ai #[])/\Lx w' b m0 m1 F s xs vn (jp f (vg xs bb ks n))/\Q [b] w w':=by
 obtain⟨K,P,mv,kids,l,_,i⟩:=g;have hk:=i.1;dsimp[Nd.kids,Nd.b]at hk l;subst l;refine ret (as8 _ _ _ _ _ _ _ _ _ _ _ ?_);intro m E i L q;have S:=q.size;have H:=h.lo.lt;have p:=hk.len;have r:=hk.cap;have t:=hk.big;have z:m≠b:=J
 refine⟨λv c bg B u=>∃j:Nat,B=(j:Int)/\v+j=I ks/\j<=I ks/\c=(CS (ks.take j):Nat)/\bg=vL bb.ini (ks.take j)/\Q [] w u/\E.heap.size<=u.heap.size,I ks,⟨0,rfl,J,be _,rfl,rfl,q,aX _⟩,?_⟩;rintro v _ _ _ o ⟨j,rfl,R,N,rfl,rfl,D,V⟩;refine⟨λa=>?_,λa=>?_⟩
 ·have a:=aO a;obtain⟨ad,y,F,n,f,w,x,s,k⟩:=(SliceF.only (cf aL d) Z hk D aag).get (ba j) J;rw[aW]at f;obtain⟨b,rfl⟩:∃b,d=b+1:=by
   cases d with
   | zero=>exact k.elim
   | succ b=>exact⟨b,rfl⟩
  obtain⟨ri,rj,Y,W,rfl,_⟩:=k;have kY:=W6 (ks.take j);have se:I (ks.take j)<=j:=ae8
  refine⟨ad,n,_,_,_,_,ri,rj,Y,W,_,s,λk3 G yZ ur T=>?_⟩;have z2:=T.size;refine⟨λc u=>c=(CS (ks.take (j+1)):Nat)/\Q [] G u,?_,(CU G y.b.k).mono ?_⟩
  ·rintro _ e ⟨rfl,c⟩;have y:=c.size;refine⟨v-1,J,j+1,aaf,J,J,rfl,?_,(D.cd T).cd c,J⟩;unfold vL;rw[bh,f,vT,iv];simp
  rintro _ y ⟨rfl,c⟩;obtain rfl:G=y:=c.symm;refine⟨_,rfl,cu.refl _ _,λhh=>⟨?_,Only.refl _ _⟩,λhh=>⟨?_,Only.refl _ _⟩⟩
  ·rw[fh J J,Ey f,aP (by intro e;rw[e]at hh;cases hh)];rfl
  rw[Ey f,aV adg];rfl
 have a:=aU a;have Y:j=I ks:=J
 subst Y;rw[bm (aX _)];have y:=h.o0 D;have W:∀u,((T u).toList==(ao #[]).toList)=decide (u=[]):=λu=>iv u [];refine(CU o bb.k).mono ?_;rintro _ w5 ⟨rfl,c⟩;obtain rfl:o=w5:=c.symm;refine⟨_,rfl,cu.refl _ _,λhh w6 G=>?_,λhh=>⟨λhp=>?_,λhp=>⟨λe=>?_,λe=>?_⟩⟩⟩
 ·have z6:=G.size;have o6:=D.cd G;have h6:=h.o0 o6;have O1:vg xs bb ks n=bad (Im xs bb.dft&&Ad xs (fK xs bb.dft) (NY xs n)) 26 bb.a:=by unfold vg;rw[aV hh]
  refine⟨_,Blk.dP h6.lo.blk 0 rfl,(Iu h6 bb.dft).mono ?_⟩;rintro _ w7 ⟨rfl,c⟩;obtain rfl:w6=w7:=c.symm;refine⟨_,rfl,cu.refl _ _,λu=>Lx u b m0 m1 F s xs vn (jp f _)/\Q [b] w u,λu h=>⟨rfl,h.1,h.2⟩,λw9 fU=>?_⟩;have z9:=fU.size;have o9:=o6.cd fU;have T:=h.o0 o9;refine⟨λk=>k=m,rfl,(Lu T (by rcases Ev xs bb.dft with h | _<;>omega)).mono ?_⟩;rintro _ dz ⟨rfl,c⟩;obtain rfl:w9=dz:=c.symm;obtain⟨x,g⟩:=gu A;obtain⟨ad,a1,a2,a3,_⟩:=jI T.sp g;refine⟨_,rfl,cu.refl _ _,bT.refl _ _,λhb=>⟨s,Blk.dP T.lo.blk 1 rfl,s,Blk.dP T.lo.blk 1 rfl,ad,a1,x.pa,a3,(S9 T.sp T.fo _ x.pa).mono ?_⟩,λhb=>(oC T aL 26 bb.a).mono ?_⟩
  ·rintro _ F ⟨rfl,c⟩;obtain rfl:w9=F:=c.symm;refine⟨_,rfl,cu.refl _ _,bT.refl _ _,(oC T _ 26 bb.a).mono ?_⟩;rintro _ n ⟨rfl,f,b⟩;refine⟨rfl,b.same aah,Iv b z,?_,wM (Ck o9) b⟩;have k:S8 xs (fK xs bb.dft) x.pa=Ad xs (fK xs bb.dft) x.pa:=by rw[bL,Eu,Lp]
   rw[O1,lA g,<-k,show Im xs bb.dft=aE from hb,cr];exact f
  rintro _ k ⟨rfl,f,b⟩;refine⟨rfl,b.same aah,Iv b z,?_,wM (Ck o9) b⟩;rw[O1,show Im xs bb.dft=aL from hb,db];exact f
 ·have hp:=ahL
  have f:vg xs bb ks n=bad (decide (bb.ini=[])&&decide (1<CS ks)) 25 bb.a:=by unfold vg;rw[aP aeg,aV hp]
  rw[W,show decide ((CS ks:Int)>1)=decide (1<CS ks)from gv.2 J];refine(oC y _ 25 bb.a).mono ?_;rintro _ w ⟨rfl,k,b⟩;exact⟨rfl,b.same aah,rfl,by rw[f];exact k,wM (Ck D) b⟩
 ·have hp:=ahL
  have e:=aO e;have f:vg xs bb ks n=bad (vL bb.ini ks) 25 bb.a:=by unfold vg;rw[aP aeg,aP hp,aV J]
  refine(oC y _ 25 bb.a).mono ?_;rintro _ w ⟨rfl,k,b⟩;exact⟨rfl,b.same aah,rfl,by rw[f];exact k,wM (Ck D) b⟩
 have hp:=ahL
 have e:=aU e;have k:vg xs bb ks n=bad (decide (bb.ini=[])) 25 bb.a++bad (decide (I ks=0)) 26 bb.a:=by unfold vg;rw[aP aeg,aP hp,aP J]
 rw[W];refine(oC y _ 25 bb.a).mono ?_;rintro _ jw ⟨rfl,b,F⟩;have x:=F.size;have w:((kids.n:Int)==0)=decide (I ks=0):=by rw[p,bL];simp
 rw[w];refine⟨rfl,F.same aah,(oC b _ 26 bb.a).mono ?_⟩;rintro _ T ⟨rfl,s,f⟩;exact⟨rfl,f.same aah,rfl,by rw[k,gz];exact s,wM (wM (Ck D) F) f⟩
def anK u l:∃y a,(au 208 1 #[.mk 0 l.v]).run aq u=.ok (Sl.v y) a/\Q [] u a/\aA Lv 1 a (λ_=>True) y [l]:=by
 obtain⟨y,a,k,b,k3,_⟩:=kz (P:=aq) (t:=208) (e:=23) (i:=Tryz.t23) (z:=Sl.nil.v) (w:=u) (F:=λ_=>False) (vs:=[l.v]) (parts:=#[.mk 0 l.v]) (len:=1) (xs:=[l]) (r:=Lv) (size:=1) aae aae rfl rfl Z rfl rfl Z Z vh ⟨⟨rfl,rfl⟩,trivial⟩;exact⟨y,a,k,k3,(b.slice vh).mono vh λ_ _=>trivial⟩
def anL u l m:∃y a,(au 208 2 #[.mk 0 l.v,.mk 1 m.v]).run aq u=.ok (Sl.v y) a/\Q [] u a/\aA Lv 1 a (λ_=>True) y [l,m]:=by
 obtain⟨y,a,k,b,k3,_⟩:=kz (P:=aq) (t:=208) (e:=23) (i:=Tryz.t23) (z:=Sl.nil.v) (w:=u) (F:=λ_=>False) (vs:=[l.v,m.v]) (parts:=#[.mk 0 l.v,.mk 1 m.v]) (len:=2) (xs:=[l,m]) (r:=Lv) (size:=1) aae aae rfl rfl Z rfl rfl Z Z vh ⟨⟨rfl,rfl⟩,⟨rfl,rfl⟩,trivial⟩;exact⟨y,a,k,k3,(b.slice vh).mono vh λ_ _=>trivial⟩
def W8:∀D {w:av} {x:Nd} {c:aI} {f:Ft} {n:Nat},lO aL D w G x c->(∀k,G k->k≠b)->Lx w b m0 m1 F s xs vn f->n+iH x<=(I xs)->mj x<=8388608->
  az aq 63 #[ae (aM ⟨b,0,aaa⟩),ah c.toArray,O U n] w λr w'=>r=ak (O U ((n+iH x:Nat):Int))/\Lx w' b m0 m1 F s xs vn (jp f (MM xs vn n x))/\Q [b] w w'
 | 0,_,_,_,_,_,h,_,_,_,_=>h.elim
 | D+1,w,.mk h i,c,f,n,M,hG,l,hn,N=>by
  have S:=M;obtain⟨C,K,mv,kids,P,⟨A,z,o⟩,E⟩:=M;have hk:=E.1;have A:=A.1;have z:=z.1;have o:=o.1;clear E;dsimp only[Nd.kids,Nd.b]at hk P A z o;subst P;rw[iH]at hn;rw[mj]at N;have H:=N;unfold yu at H;have am:=gZ h.en;have yW:=gZ h.lv;have Fj:=hk.len;have FV:=o.len;have FX:=l.ln;have T:=o.cap;have V:=o.big;have W:=qo i;refine ret (asY _ _ _ _ _ _ _ _ _ _ _ ?_);intro k0 R E ez q;have z0:=q.size;have Fh:=l.lo.lt;have za:k0≠b:=J
  have tr:∀{u v:av},Q [b] w u->Q [b] u v->Q [b] w v:=λl g=>wM l g;refine(W7 ((cf aL (D+1)).keep S λk hk j=>q.block k j aag) hG (l.o0 q) (n:=n) J).mono ?_;rintro _ w1 ⟨rfl,Y,B⟩;have z1:=B.size;have o1:=tr (Ck q) B;obtain⟨y,w2,p1,x,p3⟩:=anL w1 C K;have z2:=x.size;have L:=o1.cd x;have row:∀{u:av} {sl:Sl} {t:List Ac},aA (qy aL) 9 w G sl t->Q [b] w u->aA (qy aL) 9 u G sl t:=λhs hO=>SliceF.only (cT aL) Z hs hO λk hk _ hm=>hG k hk ab2;refine⟨rfl,B.same aah,y,w2,p1,x.same aah,(QL (l:=[(C,h.en),(K,h.lv)]) p3 (λp m=>?_) ?_ hG (Y.o0 x)).mono ?_⟩
  ·simp only[aZ,bp,ci]at m;rcases m with rfl | rfl
   ·exact row A L
   exact row z L
  ·unfold qs;simp;omega
  rintro _ w3 ⟨rfl,h3,dh⟩;have z3:=dh.size;have o3:=tr L dh;have G:qs [(C,h.en),(K,h.lv)]=h.en++h.lv:=by unfold qs;simp
  rw[G]at h3;refine⟨rfl,dh.same aah,λkv aC u=>∃g:Nat,aC=(g:Int)/\kv+g=I h.mv/\g<=I h.mv/\Lx u b m0 m1 F s xs vn (jp f (vg xs h i n++(lP xs vn (h.en++h.lv)++(h.mv.take g).flatMap (Cj xs vn))))/\Q [b] w u/\R.heap.size<=u.heap.size,I h.mv,
   ⟨0,rfl,J,be _,by rw[cA,uA,bE,gz];exact h3,o3,J⟩,?_⟩
  rintro kv _ w4 ⟨g,rfl,oX,hj,h4,o4,z4⟩;refine⟨λv=>?_,λv=>?_⟩
  ·have v:=aO v;obtain⟨ad,a,ds,a1,a2,a3,a4,a5,a6⟩:=(SliceF.only (iJ aL) Z o o4 λk hk _ hm=>hG k hk ab2).get (ba g) J;rw[aW]at a2;obtain⟨gc,s,tg,rfl,US,w,nL⟩:=a6;obtain⟨gs,rfl⟩:=eU US;have w:=w.1;have nL:=nL.1;have F:=oA (bn a2);unfold Fe at F;have aT:=gZ a.acts;have G4:=ve a.tg;have bv:=h4.lo.lt;refine⟨ad,a1,_,_,_,_,_,_,_,_,gs,_,s,tg,_,a5,λk3 w5 yZ ur f=>?_⟩;have z5:=f.size;have h5:=h4.o0 f;have y:k3≠b:=J
   refine(oC h5 (Lm a) 28 a.a).mono ?_;rintro _ w6 ⟨rfl,h6,e⟩;have z6:=e.size;obtain⟨d,aS⟩:=US;refine⟨rfl,e.same aah,(Iw d ((mw aL d).keep aS λk hk j=>?_) hG h6).mono ?_⟩
   ·exact(e.block k J ae2).trans (f.block k j aag)
   rintro _ w7 ⟨rfl,h7,fR⟩;have z7:=fR.size;obtain⟨y8,w8,q1,d,q3⟩:=anK w7 s;have z8:=d.size;have s7:Q [b] w5 w7:=wM e fR;have s8:Q [b] w4 w8:=(wM (Ck f) s7).cd d;refine⟨rfl,fR.same aah,y8,w8,q1,d.same aah,(QL (l:=[(s,a.acts)]) q3 (λp m=>?_) ?_ hG (h7.o0 d)).mono ?_⟩
   ·simp only[aN]at m;subst m;exact SliceF.only (cT aL) Z w s8 λk hk _ hm=>hG k hk ab2
   ·unfold qs;simp only[zl,uA,bE];omega
   rintro _ w9 ⟨rfl,h9,fU⟩;have z9:=fU.size;have G:qs [(s,a.acts)]=a.acts:=by unfold qs;simp
   rw[G]at h9;refine⟨rfl,fU.same aah,λdz dX=>⟨λk=>k=k3,rfl,?_⟩⟩;have JG:=dX.size;have E1:Q [b] w4 dz:=(wM s8 fU).cd dX;refine(N3 (h9.o0 dX) (SliceF.only du Z nL E1 λk hk _ hm=>hG k hk ab2) J).mono ?_;rintro _ dF ⟨rfl,p⟩;have C3:=p.size;refine⟨_,rfl,p.same aah,bT.only p,(oC ((h9.o0 dX).o0 p) _ 27 a.a).mono ?_⟩;rintro _ eZ ⟨rfl,E5,eW⟩;have bV:=eW.size;refine⟨rfl,eW.same aah,Iv eW y,kv-1,J,g+1,aaf,J,J,?_,tr o4 (wM (E1.cd p) eW),J⟩;have e1:(h.mv.take (g+1)).flatMap (Cj xs vn)=(h.mv.take g).flatMap (Cj xs vn)++Cj xs vn a:=by
    rw[bh,a2,iY];simp
   have e2:vg xs h i n++(lP xs vn (h.en++h.lv)++((h.mv.take g).flatMap (Cj xs vn)++Cj xs vn a))=(vg xs h i n++(lP xs vn (h.en++h.lv)++(h.mv.take g).flatMap (Cj xs vn)))++Cj xs vn a:=by simp only[bq]
   rw[e1,e2,gz,Cj,gz,gz,gz];exact E5
  have v:=aU v;have lu:g=I h.mv:=J
  subst lu;rw[bm (aX _)]at h4;refine⟨λkv a aC u=>∃g:Nat,aC=(g:Int)/\kv+g=I i/\g<=I i/\a=((n+1+dR (i.take g):Nat):Int)/\Lx u b m0 m1 F s xs vn (jp f (vg xs h i n++(lP xs vn (h.en++h.lv)++(h.mv.flatMap (Cj xs vn)++qp xs vn (n+1) (i.take g)))))/\Q [b] w u/\R.heap.size<=u.heap.size,I i,
   ⟨0,rfl,J,be _,aaf,by rw[cA,qp,bE];exact h4,o4,z4⟩,?_⟩
  rintro kv _ _ fl ⟨g,rfl,oX,hj,rfl,p,d,T2⟩;refine⟨λv=>?_,λv=>?_⟩
  ·have v:=aO v;obtain⟨ad,y,ds,f,a2,w,a4,s,b⟩:=(SliceF.only (cf aL D) Z hk d λk hk _ hm=>hG k hk ab2).get (ba g) J;rw[aW]at a2;have F:=b;obtain⟨a,rfl⟩:∃a,D=a+1:=by
    cases D with
    | zero=>exact b.elim
    | succ a=>exact⟨a,rfl⟩
   obtain⟨ri,rj,oM,gD,rfl,_⟩:=F;have uD:=mS a2;have ce:=nB (bn a2);refine⟨ad,f,_,_,_,_,ri,rj,oM,gD,_,s,λk7 gw cc Zw eS=>?_⟩;have co:=eS.size;have bY:=p.lo.lt;refine(W8 (a+1) ((cf aL (a+1)).keep b λk _ j=>eS.block k j aag) hG (p.o0 eS) (n:=n+1+dR (i.take g)) J J).mono ?_;rintro _ ij ⟨rfl,C6,iG⟩;have cC:=iG.size;have e:i.take (g+1)=i.take g++[y]:=ahR
   refine⟨_,rfl,iG.same aah,kv-1,J,g+1,aaf,J,J,?_,?_,tr (d.cd eS) iG,J⟩
   ·have:dR (i.take (g+1))=dR (i.take g)+iH y:=by rw[e,Ab,dR,dR];omega
    omega
   have k:vg xs h i n++(lP xs vn (h.en++h.lv)++(h.mv.flatMap (Cj xs vn)++(qp xs vn (n+1) (i.take g)++MM xs vn (n+1+dR (i.take g)) y)))=(vg xs h i n++(lP xs vn (h.en++h.lv)++(h.mv.flatMap (Cj xs vn)++qp xs vn (n+1) (i.take g))))++MM xs vn (n+1+dR (i.take g)) y:=by simp only[bq]
   rw[e,Es,qp,qp,bE,k,gz];exact C6
  have v:=aU v;have lu:g=I i:=J
  subst lu;rw[bm (aX _)]at p⊢;refine⟨?_,by rw[MM];exact p,d⟩;rw[iH];congr 2;omega
end
def ke(c:Ch):Ft:=if(iM c).2≠0 then((iM c).2, -1)else jp (0,0) (Ag c)
def Lw{w}{F}{D}{c}{vs}{cs}(i:ChR aL (D+1) w F c vs cs)(H:G8 c)(K:nY c.vars+mj c.root<=8388608)(E:Er w)(C:Tb w):
  az aq 34 #[ah (vs.v::cs).toArray] w λe R=>e=ak (ah #[O U (ke c).1,O U (ke c).2])/\Q [] w R:=by
 have r:=i.root;obtain⟨o,z,mv,kids,L,_⟩:=i.root;subst L;refine ret (asL _ _ _ _ _ _ _ _ _ _ ?_);intro M N w0 V S Y W j;have z0:=j.size;have keep:∀{u:av},Q [] w u->ChR aL (D+1) u F c vs (ob c.root.b.k c.root.b.nm c.root.b.ini c.root.b.dft o z mv kids c.root.b.a):=λs=>⟨i.vars.keep dY Z λk _ d=>s.block k d aag,(cf aL _).keep i.root λk _ d=>s.block k d aag⟩
 refine(WW (keep j) H K (E.only j) (C.only j)).mono ?_;rintro _ a ⟨⟨t,rfl,m,_⟩,l⟩;have z1:=l.size;have A:=j.cd l;refine⟨_,_,rfl,l.same aah,λhc w2 B=>?_,λhc=>?_⟩
 ·have hc:(iM c).2≠0:=aaj
  unfold ke;rw[aV hc];exact⟨rfl,A.trans B λk hk=>.inr acK⟩
 have hc:(iM c).2=0:=aaj
 have bY:ke c=jp (0,0) (Ag c):=by unfold ke;rw[aP (λh=>h hc)]
 rw[bY];have m:=m hc;have ce:=xx hc;obtain⟨r3,aS,dh⟩:=MapV.make (P:=aq) (mty:=128) (kv:=kS) (g:=gS) a;have dO:=aS.lt;refine⟨_,_,r3,dh.same aah,?_⟩;generalize a.alloc (.map #[] 0)=w3 at*
 obtain⟨r4,aT,dI⟩:=MapV.make (P:=aq) (mty:=128) (kv:=kS) (g:=gS) w3;have el:=aT.lt;have z3:=dh.size;refine⟨_,_,r4,dI.same aah,?_⟩;intro b w5 hb oV eh vQ;have z5:=eh.size;have o5:=((A.cd dh).cd dI).cd eh;have UT:Lo w5 b a.heap.size w3.heap.size Sl.nil [] [] (0,0):=⟨vQ,(((aS.only dI aag).only eh aag).ext λk=>rfl).le (aX _),((aT.only eh aag).ext λk=>rfl).le (aX _),J,J⟩
 have bV:lO aL (D+1) w (λk=>k<w.heap.size) c.root (ob c.root.b.k c.root.b.nm c.root.b.ini c.root.b.dft o z mv kids c.root.b.a):=(cf aL _).mono ((cf aL _).inHeap r) λk hk=>hk.2;have bv:aA AP 3 w (λk=>k<w.heap.size) vs c.vars:=(i.vars.1.inHeap dY Z).mono dY λk hk=>hk.2;refine(W3 (D+1) ((cf aL _).keep bV λk hk d=>o5.block k d aag) (λk hk=>J) UT (Own.nil _ _ _ _ _ _) J acV).mono ?_;rintro _ w6 ⟨rfl,s6,MD,cC,m6⟩;have z6:=m6.1.size;rw[bR]at MD;have cc:=(Ll 0 (-1) 0 c.root).symm;rw[cc]at MD;have p6:aD (λk=>a.heap.size<=k) w w6:=(o5.p0).trans m6.1 λk hk=>.inl (hk.elim (λh=>J) λh=>aal);have co:cu [M,N] w5 w6:=m6.1.same λx i=>by
  simp at i;rcases i with rfl | rfl
  ·exact⟨J,λh=>h.elim J λh=>aal⟩
  exact⟨J,λh=>h.elim J λh=>aal⟩
 have eQ:=bv.len;have fd:=wL c.vars;refine⟨rfl,co,_,s6,_,_,_,MD.blk,λkv gE p gG q x y u=>∃(e:Nat) (f:Ft),gE=(e:Int)/\kv+e=I c.vars/\e<=I c.vars/\p=aM a.heap.size/\q=aM w3.heap.size/\f=(x,y)/\Lo u b a.heap.size w3.heap.size gG ((ff c).map λx:dU=>x.nm) ((Jw c).take e) f/\f=jp (0,0) (vf [] (AQ c.root)++vf [] ((c.vars.take e).map λv=>(v.n,v.a)))/\aD (λk=>a.heap.size<=k) w u/\aD (λk=>k=b∨k=w3.heap.size) w6 u,I c.vars,
  ⟨0,_,rfl,J,be _,rfl,rfl,rfl,MD,by rw[cA,gU,vf,bE],p6,OnlyP.refl _ _⟩,?_⟩
 rintro kv _ _ l2 _ _ _ w7 ⟨e,f,rfl,oX,hj,rfl,rfl,hf,vZ,am,p7,aC⟩;have z7:=aC.size;refine⟨λd=>?_,λma=>?_⟩
 ·have d:=aO d;obtain⟨ad,v,y,w,f,a3,a4,x,n⟩:=(SliceF.kU dY Z bv p7 λk hk _=>J).get (ba e) J;rw[aW]at f;have n:y=[X (T v.n),O U v.v,O U v.a]:=n;subst n;have AH:=wK (bn f);have p:gS v.n:=by
   show (I v.n)<=maxLen;have:maxLen=9223372036854775807:=rfl;omega
  have P:I ((Jw c).take e)=e:=by rw[cx];unfold Jw;rw[bK];omega
  refine⟨ad,w,_,_,_,x,λk5 w8 rl BI t yy=>?_⟩;have z8:=t.size;have G:=vZ.lt;have q:=W2 (vZ.o0 t) p v.a;rw[P]at q;refine q.mono ?_;rintro _ w9 ⟨rfl,h,g⟩;have z9:=g.size;have ev:(Jw c).take (e+1)=(Jw c).take e++[v.n]:=by
   rw[bh];unfold Jw;rw[cF,f];rfl
  refine⟨rfl,g.same aah,_,_,_,_,_,h.blk,kv-1,J,e+1,_,aaf,J,J,rfl,rfl,rfl,by rw[ev];exact h,?_,(p7.cd t).trans (g.p (F:=λk=>a.heap.size<=k) λk hk=>.inl (by simp at hk;omega)) λk hk=>.inl hk,(aC.cd t).trans (g.p (F:=λk=>k=b∨k=w3.heap.size) λk hk=>.inl aay) λk hk=>.inl hk⟩;rw[am,<-gz];have D:vf [] ((c.vars.take (e+1)).map λv=>(v.n,v.a))=vf [] ((c.vars.take e).map λv=>(v.n,v.a))++bad (!decide (v.n∈(Jw c).take e)) 24 v.a:=by
   rw[bh,f,cK,Af,bR];simp only[Option.toList,bS,gU,vf,bE,gR];unfold Jw;rw[<-mg];rfl
  rw[D,bq]
 have ma:=aU ma;have lu:e=I c.vars:=J
 subst lu;intro q g pK n0 n1;have JG:=g.size;have v:(Jw c).take (I c.vars)=Jw c:=bm (by unfold Jw;rw[bK];exact aX _);rw[v]at vZ;rw[bm (aX _)]at am;have ZC:Lo q b a.heap.size w3.heap.size t ((ff c).map λx:dU=>x.nm) (Jw c) f:=vZ.lF g (by subst hf;exact pK);have p:=p7.trans (g.p (F:=λk=>a.heap.size<=k) λk hk=>.inl acK) λk hk=>.inl hk;have P:aA tD 5 q (λk=>k<a.heap.size) t (ff c):=by
  have n:Q [] a w5:=(dh.cd dI).cd eh;have b:=SliceF.only dC Z ((m.sl.inHeap dC Z).mono dC (G:=λk=>k<a.heap.size) λk hk=>hk.2) n aag;have c:=SliceF.kU dC Z (SliceF.kU dC Z b m6.1 λk hk _ h=>h.elim J λh=>aal) aC λk hk _ h=>J
  exact SliceF.only dC Z c g λk hk _ f=>by simp at f;omega
 have hX:Lx q b a.heap.size w3.heap.size (λk=>k<a.heap.size) t _ _ f:=⟨ZC,P,CR c,by unfold ff;rw[lX];exact ce,λk hk=>J⟩
 refine(W8 (n:=0) _ ((cf aL _).keep bV λk hk d=>p.block k d J) (λk hk=>J) hX (by unfold ff;rw[lX];omega) J).mono ?_;rintro _ dF ⟨rfl,D,T⟩;have C3:=T.size;have hg:jp f (MM (ff c) (Jw c) 0 c.root)=jp (0,0) (Ag c):=by
  rw[am,<-gz,bq];rfl
 rw[hg]at D;refine⟨_,rfl,T.same aah,_,_,_,_,_,D.lo.blk,λeZ eW _=>⟨rfl,?_⟩⟩;have y:=(p.mono λk _ hk=>J).trans (T.p (F:=λk=>w.heap.size<=k) λk hk=>.inl (by simp at hk;omega)) λk hk=>.inl hk;exact(y.only λk hk=>hk).trans eW λk hk=>.inr (by simp at hk;omega)
def tA(l:aH):Ft:=if(eP l).2.1=0 then ke (eP l).1 else(eP l).2
def Ez(l:aH):Ch:=if(tA l).1=0 then(eP l).1 else ch0
def abE{w:av}(l:aH)(H:G8 (eP l).1)(J:nY (eP l).1.vars+mj (eP l).1.root<=8388608)(E:Er w)(G:Tb w):az aq 17 #[X (T l)] w λe p=>
  ∃(s:Sl) (h:aI),e=ak (ai #[ah (s.v::h).toArray,ah #[O U (tA l).1,O U (tA l).2]])/\ChR aE 15 p (Fr w.heap.size) (Ez l) s h/\Q [] w p:=by
 refine ik (asI _ ?_);intro i j d M L R N q;have z0:=q.size;refine(K9 l (E.only q)).mono ?_;rintro _ r ⟨s,h,rfl,C,g⟩;have z1:=g.size;have o:=q.cd g;obtain⟨t,z,A,y,rfl,_⟩:=C.root;refine⟨s,_,_,_,_,t,z,A,y,_,_,_,rfl,g.same aah,λP k3 K V S Y W c=>?_⟩;have z2:=c.size;have n:=o.cd c;have m:∀{u:av},Q [] r u->ChR aE 15 u (Fr d.heap.size) (eP l).1 s (ob (eP l).1.root.b.k (eP l).1.root.b.nm (eP l).1.root.b.ini (eP l).1.root.b.dft t z A y (eP l).1.root.b.a):=fun{u} hO=>
  ⟨C.vars.keep dY Z λk _ b=>hO.block k b aag,(cf aE 15).keep C.root λk _ b=>hO.block k b aag⟩
 have f:∀{u v:av},Q [] w u->Q [j,i] u v->Q [] w v:=λB F=>B.trans F λx hx=>.inr aam;refine⟨λa b u=>(a,b)=tA l/\Q [] r u/\K.heap.size<=u.heap.size,?_,λhc=>?_,λhc=>⟨?_,c,aX _⟩⟩
 ·rintro a b w3 ⟨he,v,z3⟩;have e:(tA l).1=a:=by rw[<-he]
  have e2:(tA l).2=b:=by rw[<-he]
  refine⟨λhc w4 dI n1 n2 D n4 T n6=>⟨λk=>k=k3,rfl,?_,?_,λw5 eh=>⟨Sl.nil,_,by rw[e,e2],?_,f ((o.cd v).cd dI) eh⟩⟩,λhc w6 dK n1 n2 D n4 T n6=>⟨λk=>k=k3,rfl,?_,?_,λw7 x=>⟨s,_,by rw[e,e2],?_,f ((o.cd v).cd dK) x⟩⟩⟩
  ·exact λa=>D a
  ·exact λa=>T a
  ·have hc:a≠0:=aaj
   unfold Ez;rw[e,aP hc];exact⟨li.nil _ _ _ _ _ _,Wy Z w5 _⟩
  ·exact λa=>D a
  ·exact λa=>T a
  have hc:a=0:=aaj
  unfold Ez;rw[e,aV hc];have b:=m (v.cd dK);have ap:∀k,Fr d.heap.size k->k∉[j,i]:=λk (hk:d.heap.size<=k)=>aah
  have lo:∀k,Fr d.heap.size k->Fr w.heap.size k:=λk (hk:d.heap.size<=k)=>(by omega:w.heap.size<=k)
  exact⟨(b.vars.keep dY Z λk hk bU=>x.block k bU (ap k hk)).mono dY lo,(cf aE 15).mono ((cf aE 15).keep b.root λk hk bU=>x.block k bU (ap k hk)) lo⟩
 ·have hc:(eP l).2.1=0:=aaj
  refine(Lw (D:=14) (m c).off H J (E.only n) (G.only n)).mono ?_;rintro _ e ⟨rfl,a⟩;have v:=a.size;refine⟨_,_,rfl,a.same aah,λk b=>⟨?_,?_,by have:=b.size;omega⟩⟩
  ·unfold tA;rw[aV hc]
  exact(c.cd a).trans b λx hx=>.inr aak
 have hc:(eP l).2.1≠0:=aaj
 unfold tA;rw[aP hc]
def agS(l:aH):Bool:=nCb (eP l).1&&auh (eP l).1
def agU{l:aH}(h:agS l=aE):G8 (eP l).1/\nY (eP l).1.vars+mj (eP l).1.root<=8388608:=by
 unfold agS at h;rw[aR]at h;exact⟨aug h.1,aO h.2⟩
def sh(t:Tk):Tk:=⟨t.k,t.t,t.n,t.a+1⟩
inductive Sim:Ex->Ex->Prop
 | leaf (k n:Int) (s:aH) (op a b:Int):Sim (.mk k n s op [] a) (.mk k n s op [] b)
 | one (k n:Int) (s:aH) (op a b:Int) (x y:Ex):Sim x y->Sim (.mk k n s op [x] a) (.mk k n s op [y] b)
 | two (k n:Int) (s:aH) (op a b:Int) (x y x' y':Ex):Sim x x'->Sim y y'->Sim (.mk k n s op [x,y] a) (.mk k n s op [x',y'] b)
structure Wr (ts pZ:List Tk) (n:Nat):Prop where
 e:∀i,n<=i->(tk ts i).k=5
 s:∀i,i<n->(tk pZ (i+1)).k=(tk ts i).k/\(tk pZ (i+1)).t=(tk ts i).t/\(tk pZ (i+1)).n=(tk ts i).n
 c:(tk pZ (n+1)).k=4/\(tk pZ (n+1)).t=[41]
def vV(n:Nat)(c r:Pr):Prop:=∀x j,c=.ok (x,j)->(∃b,r=.ok (b,j+1)/\Sim x b/\j<=n)∨∃a,r=.error (21,a)
section
variable {ts pZ:List Tk} {n:Nat}
def Wr.lt(h:Wr ts pZ n){i}(hk:(tk ts i).k≠5):i<n:=by
 refine bQ λa=>hk (h.e i J)
def Wr.RH(h:Wr ts pZ n){i}(c:i<n) s:sg pZ (i+1) s=sg ts i s:=by
 unfold sg;obtain⟨a,b,_⟩:=h.s i c;rw[a,b]
def vV.map{r r'}(c:vV n r r'){g g'}(i:∀x b,Sim x b->Sim (g x) (g' b)):vV n (KL g r) (KL g' r'):=by
 intro x k j;obtain⟨y,d,rfl⟩:=CJ j;rcases c y k d with⟨b,h,e,f⟩ | ⟨a,h⟩
 ·exact .inl ⟨g' b,by rw[h];rfl,i _ _ e,f⟩
 exact .inr ⟨a,by rw[h];rfl⟩
def vV.nest{r r'}{d}{a a'}(b:d+1≠20->vV n r r'):vV n (kb d a r) (kb (d+1) a' r'):=by
 intro x j e;obtain⟨c,f⟩:=tV e;by_cases h:d+1=20
 ·exact .inr ⟨a',by rw[kb,aV h]⟩
 rw[kb,aP h];exact b h x j c
def vV.par(w:Wr ts pZ n){r r'}(c:vV n r r'):vV n (uZ ts r) (uZ pZ r'):=by
 intro x k f;obtain⟨j,d,b,rfl⟩:=CK f;rcases c x j d with⟨g,h,e,i⟩ | ⟨a,h⟩
 ·have l:=w.lt (xS b);exact .inl ⟨g,by rw[h];simp only[uZ];rw[aV (by rw[w.RH l];exact b)],e,l⟩
 exact .inr ⟨a,by rw[h];rfl⟩
def vV.err{e}{r'}:vV n (.error e) r':=λx j hx=>aeX
def vV.in_(w:Wr ts pZ n) i:vV n (E9 ts i) (E9 pZ (i+1)):=by
 intro x j h;obtain⟨rfl,rfl⟩:=NJ h;unfold E9 at h;split at h
 ·rename_i a;split at h
  ·rename_i b;split at h
   ·rename_i c;have l:=w.lt (xS c);refine .inl ⟨.mk 3 0 (tk pZ (i+1+2)).t 0 [] (tk pZ (i+1)).a,?_,?_,l⟩
    ·unfold E9;rw[aV (by rw[w.RH J];exact a),aV (by rw[(w.s _ J).1];exact b),aV (by rw[w.RH l];exact c)]
    rw[(w.s (i+2) J).2.1];exact .leaf ..
   cases h
  cases h
 cases h
def vV.one(h:Wr ts pZ n){a EN E D:Nat->Pr}{d i:Nat}(c:d+1≠20->∀i,i<=n->vV n (a i) (E (i+1)))(e:d+1≠20->∀i,i<=n->vV n (EN i) (D (i+1)))(f:i<=n):vV n (qU ts a EN d i) (qU pZ E D (d+1) (i+1)):=by
 by_cases b:i=n
 ·subst b;have h5:=h.e i (aX _);have g:∀s,sg ts i s=aL:=λs=>by
   unfold sg;rw[h5];rfl
  have:qU ts a EN d i=.error (gX ts i):=by
   unfold qU;rw[g,g,g,aP Z,aP Z,aP ahS,aP ahS,aP (by rw[h5];rintro⟨d,_⟩;exact absurd d Z)]
  rw[this];exact vV.err
 have l:i<n:=J
 obtain⟨k,d,k3⟩:=h.s i l;unfold qU;rw[h.RH l,h.RH l,h.RH l,k,d,k3];split
 ·exact vV.map (vV.nest λg=>e g _ l) λx m j=>.one _ _ _ _ _ _ _ _ j
 split
 ·exact vV.nest λg=>vV.par h (c g _ l)
 split
 ·intro x j g;simp only[gp,io]at g;obtain⟨rfl,rfl⟩:=g;exact .inl ⟨_,rfl,.leaf ..,l⟩
 split
 ·intro x j g;simp only[gp,io]at g;obtain⟨rfl,rfl⟩:=g;exact .inl ⟨_,rfl,.leaf ..,l⟩
 split
 ·exact vV.in_ h i
 exact vV.err
end
def aep{ts}{E}{k}{x}{j}(h:lK ts k j=0):∀g,jV ts E k g x j=.ok (x,j)
 | 0=>rfl
 | g+1=>by rw[jV,aV h]
def agV{ts}{j}(h:(tk ts j).k=5) k:lK ts k j=0:=by
 exact bQ λn=>ra _ _ n h
def anM{ts}{j}{t}(h:(tk ts j).t=t)(n:∀op,op<16->eY op≠t∨op=0∨14<=op) k:lK ts k j=0:=by
 have:∀f op,1<=op->op+f<=14->kH ts k j f op=0:=by
  intro f
  induction f with
  | zero=>intro op _ _;rfl
  | succ f i=>
   intro op a b;rw[kH,aP,i _ J J];rintro⟨_,s⟩;simp[sg,aR,bG]at s;rcases n op J with e | e | e
   ·exact e (by rw[<-h,s.2])
   ·omega
   omega
 exact this 13 1 J J
def Sim.same{x y:Ex}(h:Sim x y):∀d,oY aL d x y=aE:=by
 have hd:∀{k n:Int} {s:aH} {op:Int} {xs ys:List Ex} {a b:Int},I xs=(I ys)->D6 aL (.mk k n s op xs a) (.mk k n s op ys b)=aL:=λh=>by
  simp[D6,Ex.k,Ex.n,Ex.s,Ex.op,Ex.dD,Ex.a,h]
 induction h with
 | leaf k n s op a b=>
  intro d;cases d with
  | zero=>rfl
  | succ d=>rw[oY,aP (by rw[hd rfl];decide)];rfl
 | one k n s op a b x y h i=>
  intro d;cases d with
  | zero=>rfl
  | succ d=>
   rw[oY,aP (by rw[hd (xs:=[x]) (ys:=[y]) rfl];decide)];simp only[Ex.dD,D5,i d,eo]
 | two k n s op a b x y c e f g F J=>
  intro d;cases d with
  | zero=>rfl
  | succ d=>
   rw[oY,aP (by rw[hd (xs:=[x,y]) (ys:=[c,e]) rfl];decide)];simp only[Ex.dD,D5,F d,J d,eo]
def kt(t:Tk):Int×aH:=(t.k,t.t)
def MN{c:UInt8}{r:aH}(h:qD c=aL)(a:(c==47)=aL):lz aL (c::r)=0:=by
 rw[lz,aP (by rw[h];decide),aP (by rw[a,db];decide)]
def oE{c:UInt8}{r:aH}(h:fS c=aL)(a:dw c=aL)(b:qE.contains c=aE)(d:tS (c::r)=aL):nQ (c::r)=.ok (4,[c],0,1):=by
 have e:nQ (c::r)=if fS c then ov (c::r)else if dw c then uY (c::r)else qj (c::r):=rfl
 have n:jU (c::r)=1:=by
  unfold jU;rw[d];dsimp only;rw[aP Z,aV b]
 rw[e,h,a,aP Z,aP Z,qj,n];rfl
def soft(r:aH):Prop:=∀d,r.head? =aM d->d≠61/\d≠62
def mC{c:UInt8}{r:aH}(a:[38,124].contains c=aL)(h:soft r):tS (c::r)=aL:=by
 cases r with
 | nil=>rfl
 | cons d r=>
  obtain⟨h1,h2⟩:=h d rfl;have e:(d==61)=aL:=acJ
  have b:(d==62)=aL:=adh
  show((d==61&&[60,62,61,33].contains c)||(d==c&&[38,124].contains c)||(c==45&&d==62))=aL;rw[e,b,a,db,gK,gK];rfl
structure De (ts:List Tk) (n m:Nat) (s:aH):Prop where
 a:∀i,i<n->(tk ts i).k=4/\(tk ts i).t=s
 b:∀i,n<=i->i<n+m->(tk ts i).k=4/\(tk ts i).t=[40]
 c:(tk ts (n+m)).k=1/\(tk ts (n+m)).t=[120]
 e:∀i,n+m<i->i<=n+m+m->(tk ts i).k=4/\(tk ts i).t=[41]
 z:(tk ts (n+m+m+1)).k=5
 l:I ts=n+m+m+2
section
variable {ts:List Tk} {n m:Nat} {s:aH}
def W9{a:List Tk}{i:Nat}{t s:aH}(h:(tk a i).t=t)(b:t≠s):sg a i s=aL:=by
 unfold sg;rw[h,bA b,gK]
def N4{s:List Tk}{i:Nat}{t:aH}(h:(tk s i).k=4/\(tk s i).t=t):sg s i t=aE:=by
 unfold sg;rw[h.1,h.2,bF rfl];rfl
end
abbrev K3:=Int×aH×Int
def k3(t:Tk):K3:=(t.k,t.t,t.n)
def Xa{p:UInt8->Prop}(h:∀n:Fin 256,p (UInt8.ofNat n.val))(c:UInt8):p c:=by
 have:=h ⟨c.toNat,c.toNat_lt⟩;simpa using this
def Be{p:UInt8->Bool}{r:aH}(h:∀c,r.head? =aM c->p c=aL):∀(l:aH),(∀c,c∈l->p c=aE)->(l++r).takeWhile p=l
 | [],_=>by
  cases r with
  | nil=>rfl
  | cons c r=>rw[bR,dL,aP (by rw[h c rfl];decide)]
 | c::l,a=>by rw[bZ,dL,aV (a c aag),Be h l λx hx=>a x adD]
def Ly{a b:aH}(h:a≠[]):(a++b).head? =a.head? :=by
 cases a with
 | nil=>exact absurd rfl h
 | cons c a=>rfl
def qW{u:Nat}(h:u<10):Lib.decDigits u=[UInt8.ofNat (48+u)]:=by rw[Lib.decDigits,dif_pos h]
def ui{u:Nat}(h:¬u<10):Lib.decDigits u=Lib.decDigits (u/10)++[UInt8.ofNat (48+u % 10)]:=by rw[Lib.decDigits,dif_neg h]
def Aj{u:Nat}(h:u<10):(UInt8.ofNat (48+u)).toNat=48+u:=by
 rw[UInt8.toNat_ofNat'];omega
def aeq{u:Nat}(h:u<10):dw (UInt8.ofNat (48+u))=aE:=by
 unfold dw;rw[Aj h];simp;omega
def CV(u:Nat):∀c,c∈Lib.decDigits u->dw c=aE:=by
 induction u using Nat.strongRecOn with
 | _ u i=>
  intro c h;by_cases a:u<10
  ·rw[qW a,aN]at h;subst h;exact aeq a
  rw[ui a,ch,aN]at h;rcases h with h | rfl
  ·exact i (u/10) J c h
  exact aeq (Nat.mod_lt _ Z)
def Bg(u:Nat):Lib.decDigits u≠[]:=by
 by_cases h:u<10
 ·rw[qW h];simp
 rw[ui h];simp
def N5(a:Nat)(l:aH)(c:UInt8):mP a (l++[c])=mP a l*10+(c.toNat-48):=by
 simp[mP,jO]
def abF(u:Nat):mP 0 (Lib.decDigits u)=u:=by
 induction u using Nat.strongRecOn with
 | _ u i=>
  by_cases h:u<10
  ·rw[qW h];have:=Aj h;simp only[mP,C8,List.foldl_nil];omega
  rw[ui h,N5,i (u/10) J,Aj (Nat.mod_lt _ Z)];omega
def Xb(u:Nat)(h:0<u):(Lib.decDigits u).head? ≠aM 48:=by
 induction u using Nat.strongRecOn with
 | _ u i=>
  by_cases a:u<10
  ·rw[qW a,j7];intro e;injection e with e;have:=bN UInt8.toNat e;rw[Aj a]at this;have b:(48:UInt8).toNat=48:=rfl;omega
  rw[ui a,Ly (Bg _)];exact i (u/10) J J
def Xc(u:Nat)(h:1<I (Lib.decDigits u)):0<u:=by
 refine bQ λn=>?_;have:u=0:=J
 subst this;rw[qW Z]at h;simp at h
def N6{c:UInt8}(h:dw c=aE):fA c=aE:=by unfold fA;rw[h,pM]
def Xd{c:UInt8}(h:dw c=aE):fS c=aL:=by
 unfold dw at h;unfold fS;simp only[aR,bG]at h;simp;omega
def rM{n:Int}(h:0<=n):Lib.itoa n=Lib.decDigits n.toNat:=by
 unfold Lib.itoa;rw[aP J]
def Xe{n:Int}(f:0<=n)(l:n<=9223372036854775807){r:aH}(d:∀c,r.head? =aM c->fA c=aL):nQ (Lib.itoa n++r)=.ok (3,[],n,I (Lib.itoa n)):=by
 rw[rM f];generalize q:n.toNat=u;have j:n=(u:Int):=J
 have g:=CV u;have i:=Bg u;have w:=Be (p:=fA) d (Lib.decDigits u) λc h=>N6 (g c h);have hd:=Be (p:=dw) (λc b=>by
  have:=d c b;unfold fA at this;exact(fy.1 this).2) (Lib.decDigits u) g
 have k:gr (Lib.decDigits u++r)=(u,I (Lib.decDigits u),0):=by
  unfold gr;rw[hd,abF];rw[aP (by simp[i]),aP,aV J];rintro(b | ⟨e,c⟩)
  ·exact i b
  rw[Ly i]at c;exact Xb u (Xc u e) c
 have a:uY (Lib.decDigits u++r)=.ok (3,[],n,I (Lib.decDigits u)):=by
  unfold uY;rw[k,w,aP aag,aP aag,j]
 generalize o:Lib.decDigits u=m at*
 cases m with
 | nil=>exact absurd rfl i
 | cons c m=>
  have h:=g c aag;have e:nQ (c::m++r)=if fS c then ov (c::m++r)else if dw c then uY (c::m++r)else qj (c::m++r):=rfl
  rw[e,Xd h,h,aP Z,aV rfl,a]
def wN{l:aH}{i:Nat}{p r:aH}{k:Int}{t:aH}{n:Int}{s:List Tk}(h:l.drop i=p++r)(a:p≠[])(b:lz aL (p++r)=0)(d:nQ (p++r)=.ok (k,t,n,I p))(c:lJ l (i+I p)=.ok s):lJ l i=.ok (⟨k,t,n,(i:Nat)⟩::s):=by
 have R:=mM.2 a;have e:i<I l:=by
  have:=bN List.length h;rw[cJ,aQ]at this;omega
 rw[lH J,h,b,gy,aP J,h,d];dsimp only;rw[c]
def lC{l:aH}{i:Nat}{p r:aH}(h:l.drop i=p++r):l.drop (i+I p)=r:=by
 rw[<-jH,h,List.drop_left]
def BU{l:aH}{i:Nat}{p r:aH}(a:i<=I l)(h:l.drop i=p++r):i+I p<=I l:=by
 have:=bN List.length h;rw[cJ,aQ]at this;omega
def nK:Nat->Ex->Bool->aH
 | 0,_,_=>[]
 | d+1,x,wr=>clo wr (opn wr []++(
  if x.k=1 then Lib.itoa x.n
  else if x.k=2 then x.s
  else if x.k=3 then[105,110,40]++x.s++[41]
  else if x.k=4 then(match x.dD with
   | [y]=>eY x.op.toNat++nK d y (decide (cN y<6))
   | _=>[])
  else(match x.dD with
   | [y,z]=>nK d y (decide (cN y<cN x))++([32]++eY x.op.toNat++[32])++nK d z (decide (cN z<=cN x))
   | _=>[])))
def pG wr l:opn wr l=l++opn wr []:=by cases wr<;>simp[opn]
def Xf wr l m:clo wr (l++m)=l++clo wr m:=by cases wr<;>simp[clo]
def N7 wr l:I l<=I (clo wr l):=by cases wr<;>simp[clo]
def agW wr l:I l<=I (opn wr l):=by cases wr<;>simp[opn]
def Lz:∀d x wr l,I l<=I (rG d x wr l)
 | 0,_,_,_=>aX _
 | d+1,x,wr,l=>by
  rw[rG];split
  ·exact aX _
  refine bD ?_ (N7 _ _);have h:=agW wr l;split
  ·rw[aQ];omega
  split
  ·rw[aQ];omega
  split
  ·rw[aQ];omega
  split
  ·split
   ·rename_i y _;have:=Lz d y (decide (cN y<6)) (opn wr l++eY x.op.toNat);rw[aQ]at this;omega
   exact aX _
  split
  ·rename_i y z _;have b:=Lz d y (decide (cN y<cN x)) (opn wr l);have a:=Lz d z (decide (cN z<=cN x)) (rG d y (decide (cN y<cN x)) (opn wr l)++([32]++eY x.op.toNat++[32]));rw[aQ]at a;omega
  exact aX _
def GB:∀d {x:Ex} wr l,da d x=aE->I (rG d x wr l)<=16384->rG d x wr l=l++nK d x wr
 | 0,x,wr,l,h,_=>aal
 | d+1,x,wr,l,h,c=>by
  rw[da,aR]at h;obtain⟨b,a⟩:=h;have f:=Lz (d+1) x wr l;have e:¬16384<I l:=J
  rw[rG,aP e]at c⊢;rw[nK,<-Xf];have W:=bD (N7 wr _) c;by_cases k:x.k=1
  ·rw[aV k,aV k,pG wr l,bq]
  by_cases g:x.k=2
  ·rw[aP k,aP k,aV g,aV g,pG wr l,bq]
  by_cases k3:x.k=3
  ·rw[aP k,aP k,aP g,aP g,aV k3,aV k3,pG wr l,bq]
  by_cases h:x.k=4
  ·obtain⟨y,i,_⟩:=wC b h;rw[aP k,aP g,aP k3,aV h,i]at W;rw[aP k,aP k,aP g,aP g,aP k3,aP k3,aV h,aV h,i];rw[i]at a;dsimp only at W⊢;simp[lj,eo]at a;rw[GB d _ _ a W,pG wr l];simp
  obtain⟨_,y,z,i,_⟩:=rH b k g k3 h;rw[aP k,aP g,aP k3,aP h,i]at W;rw[aP k,aP k,aP g,aP g,aP k3,aP k3,aP h,aP h,i];rw[i]at a;dsimp only at W⊢;simp[lj,eo,aR]at a;have j:=Lz d z (decide (cN z<=cN x)) (rG d y (decide (cN y<cN x)) (opn wr l)++([32]++eY x.op.toNat++[32]));rw[aQ]at j;rw[GB d _ _ a.2 W,GB d _ _ a.1 J,pG wr l];simp
def opk(wr:Bool):List K3:=if wr then[(4,[40],0)]else[]
def clk(wr:Bool):List K3:=if wr then[(4,[41],0)]else[]
def qt:Nat->Ex->Bool->List K3
 | 0,_,_=>[]
 | d+1,x,wr=>opk wr++(
  if x.k=1 then[(3,[],x.n)]
  else if x.k=2 then[(1,x.s,0)]
  else if x.k=3 then[(2,[105,110],0),(4,[40],0),(1,x.s,0),(4,[41],0)]
  else if x.k=4 then(match x.dD with
   | [y]=>(4,eY x.op.toNat,0)::qt d y (decide (cN y<6))
   | _=>[])
  else(match x.dD with
   | [y,z]=>qt d y (decide (cN y<cN x))++(4,eY x.op.toNat,0)::qt d z (decide (cN z<=cN x))
   | _=>[]))++clk wr
def nT(c:UInt8):Bool:=fS c||dw c||c==40||c==45||c==33
def Tc:∀n:Fin 256,nT (UInt8.ofNat n.val)=aE->qD (UInt8.ofNat n.val)=aL/\(UInt8.ofNat n.val==47)=aL/\UInt8.ofNat n.val≠61/\UInt8.ofNat n.val≠62:=afp
def nC{c}(h:nT c=aE):qD c=aL/\(c==47)=aL/\c≠61/\c≠62:=Xa (p:=λc=>nT c=aE->qD c=aL/\(c==47)=aL/\c≠61/\c≠62) Tc c h
def Xg(c:UInt8):Bool:=[32,41,59,93,44,10].contains c
def vM(r:aH):Prop:=∀c,r.head? =aM c->Xg c=aE
def abG:∀n:Fin 256,Xg (UInt8.ofNat n.val)=aE->fA (UInt8.ofNat n.val)=aL/\dw (UInt8.ofNat n.val)=aL/\UInt8.ofNat n.val≠61/\UInt8.ofNat n.val≠62:=afp
def N8{c}(h:Xg c=aE):fA c=aL/\dw c=aL/\c≠61/\c≠62:=Xa (p:=λc=>Xg c=aE->fA c=aL/\dw c=aL/\c≠61/\c≠62) abG c h
def vM.word{r}(h:vM r):∀l,(∀c,c∈l->fA c=aE)->(l++r).takeWhile fA=l
 | [],_=>by
  cases r with
  | nil=>rfl
  | cons c r=>
   rw[bR,dL,aP (by rw[(N8 (h c rfl)).1];decide)]
 | c::l,a=>by
  rw[bZ,dL,aV (a c aag),h.word l λx hx=>a x adD]
def QN{n}(a:0<=n)(b:n<=9223372036854775807){r}(d:vM r):nQ (Lib.itoa n++r)=.ok (3,[],n,I (Lib.itoa n)):=Xe a b λc h=>(N8 (d c h)).1
def LA{s r}(n:dJ s=aE)(d:vM r):nQ (s++r)=.ok (1,s,0,I s):=by
 unfold dJ at n;simp only[aR]at n;obtain⟨⟨⟨h,a⟩,b⟩,h4⟩:=n;obtain⟨h,f⟩:=aO h;have h4:lf.contains s=aL:=aff
 have w:ov (s++r)=.ok (1,s,0,I s):=by
  unfold ov;rw[d.word s λc e=>by rw[<-aO b]at e;exact A8 c e,aP J,h4];rfl
 cases s with
 | nil=>exact absurd rfl h
 | cons c s=>
  have e:nQ (c::s++r)=if fS c then ov _ else if dw c then uY _ else qj _:=rfl
  have a:fS c=aE:=a;rw[e,a,aV rfl,w]
def agX{op}(h:1<=op)(a:op<=13) r:nQ (eY op++32::r)=.ok (4,eY op,0,I (eY op))/\lz aL (eY op++32::r)=0:=by
 match op,h,a with
 | 1,_,_=>exact⟨rfl,rfl⟩
 | 2,_,_=>exact⟨rfl,rfl⟩
 | 3,_,_=>exact⟨rfl,rfl⟩
 | 4,_,_=>exact⟨rfl,rfl⟩
 | 5,_,_=>exact⟨rfl,rfl⟩
 | 6,_,_=>exact⟨rfl,rfl⟩
 | 7,_,_=>exact⟨rfl,rfl⟩
 | 8,_,_=>exact⟨rfl,rfl⟩
 | 9,_,_=>exact⟨rfl,rfl⟩
 | 10,_,_=>exact⟨rfl,rfl⟩
 | 11,_,_=>exact⟨rfl,rfl⟩
 | 12,_,_=>exact⟨rfl,rfl⟩
 | 13,_,_=>exact⟨rfl,rfl⟩
def xz:∀d {x:Ex} wr,da d x=aE->my d x->∃c t,nK d x wr=c::t/\nT c=aE
 | 0,x,wr,h,_=>aal
 | d+1,x,aE,h,_=>⟨40,_,rfl,Z⟩
 | d+1,x,aL,h,⟨n,s⟩=>by
  rw[da,aR]at h;obtain⟨a,b⟩:=h;have e:nK (d+1) x aL=(
  if x.k=1 then Lib.itoa x.n
  else if x.k=2 then x.s
  else if x.k=3 then[105,110,40]++x.s++[41]
  else if x.k=4 then(match x.dD with
   | [y]=>eY x.op.toNat++nK d y _
   | _=>[])
  else(match x.dD with
   | [y,z]=>nK d y _++_++nK d z _
   | _=>[])):=rfl
  rw[e];by_cases k:x.k=1
  ·rw[aV k];have d:0<=x.n:=by
    rw[iK,aV k]at a;have:=(yr a).1;split at this<;>omega
   rw[rM d];cases h:Lib.decDigits x.n.toNat with
   | nil=>exact absurd h (Bg _)
   | cons c m=>
    have:=CV x.n.toNat c (by rw[h];simp);exact⟨c,m,rfl,by unfold nT;rw[this];simp⟩
  have m:dJ x.s=aE->∃c t,x.s=c::t/\nT c=aE:=λn=>by
   unfold dJ at n;simp at n;obtain⟨⟨⟨d,h⟩,f⟩,g⟩:=n;cases s:x.s with
   | nil=>rw[s]at h;cases h
   | cons c t=>
    rw[s]at h;have h:fS c=aE:=h;exact⟨c,t,rfl,by unfold nT;rw[h];simp⟩
  by_cases e:x.k=2
  ·rw[aP k,aV e];exact m (lm a (.inl e))
  by_cases k3:x.k=3
  ·rw[aP k,aP e,aV k3];exact⟨105,_,rfl,Z⟩
  by_cases f:x.k=4
  ·obtain⟨y,c,h⟩:=wC a f;rw[aP k,aP e,aP k3,aV f,c];rcases h with h | h
   ·rw[h];exact⟨45,_,rfl,Z⟩
   rw[h];exact⟨33,_,rfl,Z⟩
  obtain⟨_,y,z,h,_⟩:=rH a k e k3 f;rw[aP k,aP e,aP k3,aP f,h];rw[h]at b s;simp[lj,eo,aR]at b;obtain⟨c,t,g,i⟩:=xz d _ b.1 (s y aag);dsimp only;rw[g];exact⟨c,_,rfl,i⟩
def rN{r}(a:∃c t,r=c::t/\nT c=aE):soft r:=by
 obtain⟨c,t,rfl,h⟩:=a;intro d hd;simp at hd;subst hd;exact⟨(nC h).2.2.1,(nC h).2.2.2⟩
def vM.soft{r}(h:vM r):soft r:=λd hd=>(N8 (h d hd)).2.2
def xA{a b}(h:∃c t,a=c::t/\nT c=aE):∃c t,a++b=c::t/\nT c=aE:=by
 obtain⟨c,t,rfl,s⟩:=h;exact⟨c,t++b,rfl,s⟩
def aer{l}{i}{r}(h:l.drop i=32::r)(b:lz aL r=0):lJ l i=lJ l (i+1):=by
 have a:i<=I l:=by
  refine bQ λn=>?_;rw[dV J]at h;cases h
 rw[pw a,h,lz,aV Z,b]
def xB{l}:∀d {x:Ex} wr i {r:aH} {s:List Tk},da d x=aE->my d x->i<=(I l)->l.drop i=nK d x wr++r->vM r->lJ l (i+I (nK d x wr))=.ok s->∃u,lJ l i=.ok (u++s)/\u.map k3=qt d x wr
 | 0,x,wr,i,r,s,h,_,_,_,_,_=>aal
 | d+1,x,wr,i,r,s,h,⟨A,g⟩,w,m,p,f=>by
  have B:=h;rw[da,aR]at h;obtain⟨v,j⟩:=h;have o:∀(i:Nat) {r:aH} {s:List Tk},i<=(I l)->l.drop i=nK (d+1) x aL++r->vM r->lJ l (i+I (nK (d+1) x aL))=.ok s->∃u,lJ l i=.ok (u++s)/\u.map k3=qt (d+1) x aL:=by
   intro i r s w m p f;have e:nK (d+1) x aL=(
   if x.k=1 then Lib.itoa x.n
   else if x.k=2 then x.s
   else if x.k=3 then[105,110,40]++x.s++[41]
   else if x.k=4 then(match x.dD with
    | [y]=>eY x.op.toNat++nK d y (decide (cN y<6))
    | _=>[])
   else(match x.dD with
    | [y,z]=>nK d y (decide (cN y<cN x))++([32]++eY x.op.toNat++[32])++nK d z (decide (cN z<=cN x))
    | _=>[])):=rfl
   have h:qt (d+1) x aL=(
   if x.k=1 then[(3,[],x.n)]
   else if x.k=2 then[(1,x.s,0)]
   else if x.k=3 then[(2,[105,110],0),(4,[40],0),(1,x.s,0),(4,[41],0)]
   else if x.k=4 then(match x.dD with
    | [y]=>(4,eY x.op.toNat,0)::qt d y (decide (cN y<6))
    | _=>[])
   else(match x.dD with
    | [y,z]=>qt d y (decide (cN y<cN x))++(4,eY x.op.toNat,0)::qt d z (decide (cN z<=cN x))
    | _=>[]))++[]:=rfl
   rw[bE]at h;obtain⟨c0,G,M,D⟩:=xz (d+1) aL B ⟨A,g⟩;have E:lz aL (nK (d+1) x aL++r)=0:=by
    rw[M,bZ];exact MN (nC D).1 (nC D).2.1
   have F:nK (d+1) x aL≠[]:=by rw[M];simp
   by_cases C:x.k=1
   ·rw[aV C]at e h;have a:0<=x.n:=by
     rw[iK,aV C]at v;have:=(yr v).1;split at this<;>omega
    rw[h];exact⟨[⟨3,[],x.n,(i:Nat)⟩],wN m F E (by rw[e];exact QN a A.2 p) f,rfl⟩
   by_cases H:x.k=2
   ·rw[aP C,aV H]at e h;rw[h];exact⟨[⟨1,x.s,0,(i:Nat)⟩],wN m F E (by rw[e];exact LA (lm v (.inl H)) p) f,rfl⟩
   by_cases Y:x.k=3
   ·rw[aP C,aP H,aV Y]at e h;have N:=lm v (.inr Y);obtain⟨P,L,K,q⟩:∃c t,x.s=c::t/\nT c=aE:=by
     have y:=N;unfold dJ at y;simp only[aR]at y;obtain⟨⟨⟨_,z⟩,_⟩,_⟩:=y;cases g:x.s with
     | nil=>rw[g]at z;cases z
     | cons c t=>
      rw[g]at z;have z:fS c=aE:=z;exact⟨c,t,rfl,by unfold nT;rw[z];simp⟩
    have R:l.drop i=[105,110]++([40]++(x.s++([41]++r))):=by rw[m,e];simp
    have S:=lC R;have T:=lC S;have V:=lC T;have len:I (nK (d+1) x aL)=2+1+I x.s+1:=by rw[e];simp;omega
    have f:lJ l (i+I ([105,110]:aH)+I ([40]:aH)+I x.s+I ([41]:aH))=.ok s:=by
     rw[<-f,len];congr 1;simp only[aY,bC];omega
    have b3:=wN (n:=0) V aag (MN Z Z) (oE Z Z Z (mC Z p.soft)) f;have b2:=wN (n:=0) (k:=1) (t:=x.s) T (by rw[K];simp) (by rw[K,bZ];exact MN (nC q).1 (nC q).2.1) (LA N λc hc=>ada) b3;have b1:=wN (n:=0) S aag (MN Z Z) (oE Z Z Z (mC Z (rN (xA (a:=x.s) (b:=[41]++r) ⟨P,L,K,q⟩)))) b2;have W:=wN (n:=0) (k:=2) (t:=[105,110]) R aag (MN Z Z) rfl b1;rw[h];exact⟨[_,_,_,_],W,rfl⟩
   by_cases k:x.k=4
   ·obtain⟨y,z,n⟩:=wC v k;rw[aP C,aP H,aP Y,aV k,z]at e h;dsimp only at e h;rw[z]at j g;simp only[lj,eo]at j;have W:=g y aag;have K:=xz d (decide (cN y<6)) j W;have q:l.drop i=eY x.op.toNat++(nK d y (decide (cN y<6))++r):=by rw[m,e,bq]
    have L:=lC q;have f:lJ l (i+I (eY x.op.toNat)+I (nK d y (decide (cN y<6))))=.ok s:=by
     rw[<-f,e,aQ,dM]
    obtain⟨u,N,P⟩:=xB d (decide (cN y<6)) _ j W (BU w q) L p f;have t:nQ (eY x.op.toNat++(nK d y (decide (cN y<6))++r))=.ok (4,eY x.op.toNat,0,I (eY x.op.toNat))/\eY x.op.toNat≠[]/\lz aL (eY x.op.toNat++(nK d y (decide (cN y<6))++r))=0:=by
     rcases n with n | n
     ·rw[n];exact⟨oE (c:=45) Z Z Z (mC Z (rN (xA (a:=nK d y (decide (cN y<6))) (b:=r) K))),Z,MN Z Z⟩
     rw[n];exact⟨oE (c:=33) Z Z Z (mC Z (rN (xA (a:=nK d y (decide (cN y<6))) (b:=r) K))),Z,MN Z Z⟩
    rw[h];exact⟨⟨4,eY x.op.toNat,0,(i:Nat)⟩::u,wN q t.2.1 t.2.2 t.1 N,by rw[bS,P];rfl⟩
   obtain⟨_,y,z,R,YV,OB⟩:=rH v C H Y k;rw[aP C,aP H,aP Y,aP k,R]at e h;dsimp only at e h;rw[R]at j g;simp only[lj,eo,aR]at j;have W:=g y aag;have P:=g z aag;obtain⟨cz,tz,K,N⟩:=xz d (decide (cN z<=cN x)) j.2 P;have T:lz aL (nK d z (decide (cN z<=cN x))++r)=0:=by
    rw[K,bZ];exact MN (nC N).1 (nC N).2.1
   have L:=agX (op:=x.op.toNat) J J (nK d z (decide (cN z<=cN x))++r);have V:eY x.op.toNat≠[]:=by
    have:∀q,q<14->1<=q->eY q≠[]:=Z
    exact this _ J J
   have a:l.drop i=nK d y (decide (cN y<cN x))++([32]++(eY x.op.toNat++([32]++(nK d z (decide (cN z<=cN x))++r)))):=by rw[m,e];simp only[bq]
   have b:=lC a;have n:=lC b;have t:=lC n;have a4:=lC t;have i1:=BU w a;have i2:=BU i1 b;have i3:=BU i2 n;have i4:=BU i3 t;have f:lJ l (i+I (nK d y (decide (cN y<cN x)))+I ([32]:aH)+I (eY x.op.toNat)+I ([32]:aH)+I (nK d z (decide (cN z<=cN x))))=.ok s:=by
    rw[<-f,e];congr 1;simp only[aQ,aY,bC];omega
   obtain⟨S,v1,v2⟩:=xB d (decide (cN z<=cN x)) _ j.2 P i4 a4 p f;have b3:lJ l (i+I (nK d y (decide (cN y<cN x)))+I ([32]:aH)+I (eY x.op.toNat))=.ok (S++s):=by
    exact(aer t T).trans v1
   have b2:=wN n V L.2 L.1 b3;have b1:=(aer b L.2).trans b2;obtain⟨u,u1,u2⟩:=xB d (decide (cN y<cN x)) i j.1 W w a (λc hc=>ada) b1;rw[h];exact⟨u++⟨4,eY x.op.toNat,0,_⟩::S,by rw[u1,bq];rfl,by rw[cK,bS,u2,v2];rfl⟩
  cases wr
  ·exact o i w m p f
  have e:nK (d+1) x aE=[40]++(nK (d+1) x aL++[41]):=by
   unfold nK;simp[clo,opn]
  have z:qt (d+1) x aE=(4,[40],0)::(qt (d+1) x aL++[(4,[41],0)]):=by
   unfold qt;simp[opk,clk]
  have Y:=xz (d+1) aL B ⟨A,g⟩;have h:l.drop i=[40]++(nK (d+1) x aL++([41]++r)):=by rw[m,e];simp only[bq]
  have k:=lC h;have q:=lC k;have f:lJ l (i+I ([40]:aH)+I (nK (d+1) x aL)+I ([41]:aH))=.ok s:=by
   rw[<-f,e];congr 1;simp only[aQ,aY,bC];omega
  have y:=wN (n:=0) q aag (MN Z Z) (oE Z Z Z (mC Z p.soft)) f;obtain⟨u,C,D⟩:=o _ (BU w h) k (λc hc=>ada) y;have t:=wN (n:=0) h aag (MN Z Z) (oE Z Z Z (mC Z (rN (xA (a:=nK (d+1) x aL) (b:=[41]++r) Y)))) C;rw[z];refine⟨⟨4,[40],0,(i:Nat)⟩::(u++[⟨4,[41],0,((i+I ([40]:aH)+I (nK (d+1) x aL):Nat):Int)⟩]),by rw[t];simp only[bZ,bq,bR,jr],?_⟩;rw[bS,cK,D];rfl
def At(t:List Tk)(i:Nat)(L:List K3):Prop:=∀j q,L[j]? =aM q->k3 (tk t (i+j))=q
section
variable {ts:List Tk} {i:Nat} {A B:List K3}
def At.left(a:At ts i (A++B)):At ts i A:=λj q h=>a j q (by rw[bX (bc.1 h).1];exact h)
def At.right(h:At ts i (A++B)):At ts (i+I A) B:=λa q j=>by
 have:=h (I A+a) q (by rw[cj J,dN];exact j);rwa[<-dM]at this
def At.head{q}(h:At ts i (q::A)):(tk ts i).k=q.1/\(tk ts i).t=q.2.1/\(tk ts i).n=q.2.2:=by
 have:=h 0 q rfl;rw[<-this];exact⟨rfl,rfl,rfl⟩
def At.tail{q}(h:At ts i (q::A)):At ts (i+1) A:=λj p a=>by
 have:=h (j+1) p a;rwa[dM,jG 1 j]
def Xh{p q}(a:1<=p)(Y:p<=13)(b:1<=q)(c:q<=13)(h:eY p=eY q):p=q:=by
 have:∀p,p<14->∀q,q<14->1<=p->1<=q->eY p=eY q->p=q:=Z
 exact this p J q J a b h
def anP{op}(a:1<=op)(b:op<=13)(hk:(tk ts i).k=4)(t:(tk ts i).t=eY op) k:lK ts k i=if gq op=k then(op:Int)else 0:=by
 have:∀f q,1<=q->q+f<=14->kH ts k i f q=if q<=op/\op<q+f/\gq op=k then(op:Int)else 0:=by
  intro f
  induction f with
  | zero=>intro q _ _;rw[aP J];rfl
  | succ f d=>
   intro q c g;rw[kH,d _ J J];by_cases e:q=op
   ·subst e;have s:=N4 ⟨hk,t⟩;by_cases h:gq q=k
    ·rw[aV ⟨h,s⟩,aV ⟨aX _,J,h⟩]
    rw[aP (λf=>h f.1),aP J,aP (λf=>h f.2.2)]
   have s:¬sg ts i _=aE:=λs=>e (by
    simp[sg,aR,bG]at s;exact Xh c J a b (by rw[<-t,s.2]))
   rw[aP (λl=>s l.2)];by_cases j:q+1<=op/\op<q+1+f/\gq op=k
   ·rw[aV j,aV ⟨J,J,j.2.2⟩]
   rw[aP j,aP (λl=>j ⟨J,J,l.2.2⟩)]
 rw[lK,this 13 1 J J];by_cases h:gq op=k
 ·rw[aV h,aV ⟨a,J,h⟩]
 rw[aP h,aP (λc=>h c.2.2)]
def CW{op}(h:1<=op)(a:op<=13):0<=gq op/\gq op<=5:=by
 unfold gq;split
 ·omega
 split
 ·omega
 split
 ·omega
 split
 ·omega
 split
 ·omega
 split
 ·omega
 omega
def QO{f d k0}{x}{j}(h:dE ts f k0 d i=.ok (x,j))(a:k0<=6):∀m k,k+m=k0->(∀q:Int,k<=q->q<k0->lK ts q j=0)->dE ts (f+m) k d i=.ok (x,j)
 | 0,k,hk,_=>by
  have:k=k0:=J
  subst this;exact h
 | m+1,k,hk,b=>by
  rw[<-dM,dE,aP J,QO h a m _ J λq d c=>b q J c];exact aep (b _ (ky _) J) _
def LB{f d k0}{e}(h:dE ts f k0 d i=.error e)(a:k0<=6):∀m k,k+m=k0->dE ts (f+m) k d i=.error e
 | 0,k,hk=>by
  have:=J
  subst this;exact h
 | m+1,k,hk=>by
  rw[<-dM,dE,aP J,LB h a m _ J];rfl
end
def Ok5(x:Ex)(j:Nat)(r:Pr):Prop:=(∃b,r=.ok (b,j)/\Sim x b)∨∃a,r=.error (21,a)
def Ok5.down{ts}{i f d k0 k}{x}{j}(c:Ok5 x j (dE ts (f-(k0-k)) k0 d i))(n:k0-k<=f)(b:k0<=6)(hk:k<=k0)(g:∀q:Int,k<=q->q<k0->lK ts q j=0):Ok5 x j (dE ts f k d i):=by
 have e:f=(f-(k0-k))+(k0-k):=J
 rcases c with⟨m,h,l⟩ | ⟨a,h⟩
 ·exact .inl ⟨m,by rw[e];exact QO h b _ k J g,l⟩
 exact .inr ⟨a,by rw[e];exact LB h b _ k J⟩
abbrev PP(t:List Tk)(d:Nat):Prop:=∀{x:Ex} wr (k a i f:Nat),da d x=aE->At t i (qt d x wr)->k<=6->(wr=aL->k<=cN x)->a<=20->gY k a<=f->i+I (qt d x wr)<(I t)->(∀q:Int,k<=q->q<=5->lK t q (i+I (qt d x wr))=0)->Ok5 x (i+I (qt d x wr)) (dE t f k a i)
abbrev QQ(t:List Tk)(d:Nat):Prop:=∀{x:Ex} (k b i f:Nat),da d x=aE->x.k=5->k=cN x->At t i (qt d x aL)->b<=20->gY k b<=f+1->i+I (qt d x aL)<(I t)->(∀q:Int,k<q->q<=5->lK t q (i+I (qt d x aL))=0)->
 (∃c g,(I t)-(i+I (qt d x aL))<=g/\dE t (f+1) k b i=jV t (dE t f (k+1) b) k g c (i+I (qt d x aL))/\Sim x c)∨∃a,dE t (f+1) k b i=.error (21,a)
def EA(x:Ex):x=.mk x.k x.n x.s x.op x.dD x.a:=by cases x;rfl
section
variable {ts:List Tk} {d:Nat}
def QP(P:PP ts d)(T:QQ ts d):QQ ts (d+1):=by
 intro x k b c f H E K t Y F s p;rw[da,aR]at H;obtain⟨A,n⟩:=H;obtain⟨_,y,z,D,V,M⟩:=rH A J J J J;have o:x.n=0/\x.s=[]:=by
  rw[iK,aP J,aP J,aP J,aV E,aR]at A;have:=yr A.2;exact⟨this.1,this.2.1⟩
 have W:cN x=gq x.op:=by rw[cN,aV E]
 obtain⟨r0,r5⟩:=CW V M;have N:qt (d+1) x aL=(qt d y (decide (cN y<cN x))++(4,eY x.op.toNat,0)::qt d z (decide (cN z<=cN x))):=by
  rw[qt,aP J,aP J,aP J,aP J,D];simp[opk,clk]
 rw[N]at t s p⊢;rw[D]at n;simp only[lj,eo,aR]at n;have i:=t.left;have m:=t.right;have w:=m.tail;obtain⟨t1,t2,_⟩:=m.head;rw[aQ,aY]at s p⊢;generalize l:c+I (qt d y _)=j at*
 have B:c+(I (qt d y (decide (cN y<cN x)))+(I (qt d z (decide (cN z<=cN x)))+1))=j+1+I (qt d z (decide (cN z<=cN x))):=J
 rw[B]at s p⊢;generalize L:j+1+I (qt d z _)=j2 at*
 have Z:∀q:Int,lK ts q j=if gq x.op=q then x.op else 0:=λq=>by
  have:=anP (ts:=ts) (i:=j) (op:=x.op.toNat) J J t1 t2 q;rwa[fL J]at this
 have v:x=.mk 5 0 [] x.op [y,z] x.a:=by
  have:=EA x;rw[E,o.1,o.2,D]at this;exact this
 have S:gY (k+1) b<=f:=by unfold gY at F⊢;omega
 have r:(∃e g,(I ts)-j<=g/\dE ts (f+1) k b c=jV ts (dE ts f (k+1) b) k g e j/\Sim y e)∨∃a,dE ts (f+1) k b c=.error (21,a):=by
  by_cases d:cN y=cN x
  ·have a:decide (cN y<cN x)=aL:=bA J;have z:y.k=5:=by
    refine bQ λhn=>?_;have:cN y=6:=by rw[cN,aP hn]
    omega
   rw[a]at i l;have:=T (x:=y) k b c f n.1 z (by rw[d];exact K) i Y F J (λq h1 h=>by rw[l,Z,aP J]);rw[l]at this;exact this
  have:=P (x:=y) _ (k+1) b c f n.1 i J (λC=>by have:=aU C;omega) Y S J (λq h1 h=>by rw[l,Z,aP J]);rw[l]at this;rw[dE,aP J];rcases this with⟨e,h1,h⟩ | ⟨a,h1⟩
  ·exact .inl ⟨e,(I ts)-j,aX _,ahU,h⟩
  exact .inr ⟨a,ahU⟩
 refine r.elim (λ⟨e,g,hg,h1,h⟩=>?_) .inr;obtain⟨g,rfl⟩:∃am,g=am+1:=⟨g-1,J⟩
 have kf:lK ts (k:Int) j=x.op:=by rw[Z,aV J]
 have G:=P (x:=z) _ (k+1) b (j+1) f n.2 w J (λC=>by have:=aU C;omega) Y S J (λq h1 h=>by rw[L];exact p q J h);rw[L]at G;rw[h1,jV,kf,aP J];rcases G with⟨z',u,R⟩ | ⟨a,u⟩
 ·refine .inl ⟨.mk 5 0 [] x.op [e,z'] e.a,g,J,by rw[u];rfl,?_⟩;rw[v];exact .two _ _ _ _ _ _ _ _ _ _ h R
 exact .inr ⟨a,by rw[u];rfl⟩
def abH(P:PP ts d)(l:QQ ts d):PP ts (d+1):=by
 have p:∀{x:Ex} (k c i f:Nat),da (d+1) x=aE->At ts i (qt (d+1) x aL)->k<=6->(k:Int)<=cN x->c<=20->gY k c<=f->i+I (qt (d+1) x aL)<(I ts)->(∀q:Int,(k:Int)<=q->q<=5->lK ts q (i+I (qt (d+1) x aL))=0)->Ok5 x (i+I (qt (d+1) x aL)) (dE ts f k c i):=by
  intro x k c i f v b j F Y hf e h;have w:=v;rw[da,aR]at v;obtain⟨m,n⟩:=v;by_cases r:x.k=5
  ·obtain⟨_,y,z,G,V,B⟩:=rH m J J J J;have u:cN x=gq x.op:=by rw[cN,aV r]
   obtain⟨H,K⟩:=CW V B;obtain⟨g,s⟩:∃g:Nat,(g:Int)=cN x:=⟨(cN x).toNat,J⟩
   refine Ok5.down (k0:=g) ?_ acP J J λq h1 a=>h q h1 J;obtain⟨o,d⟩:∃A,f-(g-k)=A+1:=⟨f-(g-k)-1,acP⟩
   rw[d];rcases QP P l g c i o w r s b Y (by unfold gY at hf⊢;omega) e (λq h1 a=>h q J a)with⟨C,D,E,h1,a⟩ | t
   ·exact .inl ⟨C,by rw[h1];exact aep (h _ J J) _,a⟩
   exact .inr t
  refine Ok5.down (k0:=6) ?_ acP J J λq h1 t=>h q h1 J;obtain⟨z,u⟩:∃A,f-(6-k)=A+1:=⟨f-(6-k)-1,acP⟩
  have S:(20-c)*8<=z:=acP
  rw[u,dE,aV rfl];unfold qU;by_cases o:x.k=1
  ·have y:qt (d+1) x aL=[(3,[],x.n)]:=by rw[qt,aV o];rfl
   rw[y]at b⊢;obtain⟨f,a,k⟩:=b.head;dsimp only at f a k;rw[W9 a Z,W9 a Z,W9 a Z,aP Z,aP Z,aV f,k];refine .inl ⟨_,rfl,?_⟩;rw[iK,aV o]at m;obtain⟨_,q,s,C⟩:=yr m;have B:x.dD=[]:=bH J;have:=EA x;rw[o,q,s,B]at this;rw[this];exact .leaf ..
  by_cases k:x.k=2
  ·have C:qt (d+1) x aL=[(1,x.s,0)]:=by rw[qt,aP o,aV k];rfl
   rw[C]at b⊢;obtain⟨a,q,E⟩:=b.head;dsimp only at a q E;have f:∀s,sg ts i s=aL:=λs=>by unfold sg;rw[a];rfl
   rw[f,f,f,aP Z,aP Z,aP (by rw[a];decide),aV a,q];refine .inl ⟨_,rfl,?_⟩;rw[iK,aP o,aV (.inl k),aR]at m;obtain⟨y,G,B,H⟩:=yr m.2;have D:x.dD=[]:=bH J;have:=EA x;rw[k,y,B,D]at this;rw[this];exact .leaf ..
  by_cases f:x.k=3
  ·have M:qt (d+1) x aL=[(2,[105,110],0),(4,[40],0),(1,x.s,0),(4,[41],0)]:=by rw[qt,aP o,aP k,aV f];rfl
   rw[M]at b⊢;obtain⟨a,C,T⟩:=b.head;obtain⟨D,E,V⟩:=b.tail.head;obtain⟨G,H,W⟩:=b.tail.tail.head;obtain⟨y,B,R⟩:=b.tail.tail.tail.head;dsimp only at a C T D E V G H W y B R;have q:∀s,sg ts i s=aL:=λs=>by unfold sg;rw[a];rfl
   rw[q,q,q,aP Z,aP Z,aP (by rw[a];decide),aP (by rw[a];decide),aV ⟨a,C⟩];unfold E9;rw[aV (N4 ⟨D,E⟩),aV G,aV (N4 ⟨y,B⟩)];refine .inl ⟨_,rfl,?_⟩;rw[iK,aP o,aV (.inr f),aR]at m;obtain⟨K,b2,L,b4⟩:=yr m.2;have N:x.dD=[]:=bH J;have:=EA x;rw[f,K,L,N]at this;rw[H,this];exact .leaf ..
  have B:x.k=4:=bQ λB=>r (rH m o k f B).1;obtain⟨y,E,s⟩:=wC m B;have K:qt (d+1) x aL=(4,eY x.op.toNat,0)::qt d y (decide (cN y<6)):=by
   rw[qt,aP o,aP k,aP f,aV B,E];simp[opk,clk]
  rw[K]at b e⊢;rw[E]at n;simp only[lj,eo]at n;obtain⟨G,C,L⟩:=b.head;dsimp only at G C L;have D:(sg ts i [45]||sg ts i [33])=aE:=by
   rcases s with s | s
   ·have:sg ts i [45]=aE:=N4 ⟨G,by rw[C,s];rfl⟩;rw[this,CB]
   have:sg ts i [33]=aE:=N4 ⟨G,by rw[C,s];rfl⟩;rw[this,pM]
  rw[aV D];by_cases H:c=20
  ·exact .inr ⟨(tk ts i).a,by rw[kb,aV H];rfl⟩
  rw[kb,aP H];rw[aY]at e⊢;have M:i+(I (qt d y (decide (cN y<6)))+1)=i+1+I (qt d y (decide (cN y<6))):=J
  rw[M]at e⊢;rcases P (x:=y) (decide (cN y<6)) 6 (c+1) (i+1) z n b.tail (aX _) (λN=>by have:=aU N;omega) J ac7 e (λq h1 t=>J)with⟨R,h1,t⟩ | ⟨a,h1⟩
  ·refine .inl ⟨_,ahU,?_⟩;rw[iK,aP o,aP J,aV B]at m;obtain⟨a,d,y,T⟩:=yr m;have q:(if(tk ts i).t=[33]then(15:Int)else 14)=x.op:=by
    rcases s with s | s
    ·rw[C,s];rfl
    rw[C,s];rfl
   have:=EA x;rw[B,a,d,E]at this;rw[q,this];exact .one _ _ _ _ _ _ _ _ t
  exact .inr ⟨a,ahU⟩
 intro x wr k c i f v b j F Y hf e h;cases wr
 ·exact p k c i f v b j (F rfl) Y hf e h
 have y:qt (d+1) x aE=(4,[40],0)::(qt (d+1) x aL++[(4,[41],0)]):=by
  unfold qt;simp[opk,clk]
 refine Ok5.down (k0:=6) ?_ acP J J λq h1 m=>h q h1 J;rw[y]at b e⊢;obtain⟨r,n⟩:∃z,f-(6-k)=z+1:=⟨f-(6-k)-1,acP⟩
 have S:(20-c)*8<=r:=acP
 obtain⟨u,t,B⟩:=b.head;have w:=b.tail.left;obtain⟨s,o,A⟩:=b.tail.right.head;dsimp only at u t B s o A;rw[n,dE,aV rfl];unfold qU;rw[W9 t Z,W9 t Z,N4 ⟨u,t⟩,aP Z,aV rfl];by_cases C:c=20
 ·exact .inr ⟨(tk ts i).a,by rw[kb,aV C]⟩
 rw[kb,aP C];rw[aY,aQ,bB]at e⊢;have k:i+(I (qt (d+1) x aL)+1+1)=i+1+I (qt (d+1) x aL)+1:=J
 rw[k]at e⊢;have f:0<=cN x:=by
  unfold cN gq;split
  ·split
   ·omega
   split
   ·omega
   split
   ·omega
   split
   ·omega
   split
   ·omega
   split
   ·omega
   omega
  omega
 rcases p 0 (c+1) (i+1) r v w J J J ac7 J (λq h1 m=>anM o Z q)with⟨D,h1,m⟩ | ⟨a,h1⟩
 ·refine .inl ⟨D,?_,m⟩;rw[h1];simp only[uZ];rw[aV (N4 ⟨s,o⟩)]
 exact .inr ⟨a,ahU⟩
def LC ts:∀d,PP ts d/\QQ ts d
 | 0=>⟨(by intro x wr k d i f h;cases h),(by intro x k d i f h;cases h)⟩
 | d+1=>⟨abH (LC ts d).1 (LC ts d).2,QP (LC ts d).1 (LC ts d).2⟩
end
def LD{d:Nat}{x:Ex}(o:da d x=aE)(F:my d x)(h:(iU (rG d x aL [])).2.1=0):I (rG d x aL [])<=16384/\Sim x (iU (rG d x aL [])).1:=by
 have N:I (rG d x aL [])<=16384:=by
  refine bQ λb=>?_;unfold iU at h;have:di (rG d x aL [])=([],2, -1):=by rw[di,aV J]
  rw[this,aV Z]at h;exact absurd h (show ¬(2:Int)=0 by decide)
 refine⟨N,?_⟩;have f:=GB d aL [] o N;rw[bR]at f;rw[f]at h N⊢;generalize y:nK d x aL=L at*
 have E:lJ L (0+I L)=.ok [⟨5,[],0,((I L:Nat):Int)⟩]:=by
  have hd:L.drop (I L)=[]:=dV (aX _);have a:lz aL []=0:=rfl;rw[bP,lH (aX _),hd,a,aV J];rfl
 obtain⟨i,D,w⟩:=xB (l:=L) d (x:=x) aL 0 (r:=[]) o F (be _) (by rw[im,bE,y]) (λc b=>by cases b) (by rw[y];exact E);generalize e:i++[(⟨5,[],0,((I L:Nat):Int)⟩:Tk)]=s at*
 have G:di L=(s,0,0):=by
  rw[di,aP J,D]
 have u:I i=I (qt d x aL):=by rw[<-w,bK]
 have H:I s=I i+1:=by rw[<-e,aQ,bB]
 have B:At s 0 (qt d x aL):=λv q z=>by
  rw[<-w,cF,fz]at z;obtain⟨t,g,rfl⟩:=z;have:tk s (0+v)=t:=by
   unfold tk;rw[<-e,bP,bX (bc.1 g).1,g];rfl
  rw[this]
 have k:(tk s (I i)).k=5:=by
  unfold tk;rw[<-e,cj (aX _),pO];rfl
 have A:0<=cN x:=by
  unfold cN gq;split
  ·split
   ·omega
   split
   ·omega
   split
   ·omega
   split
   ·omega
   split
   ·omega
   split
   ·omega
   omega
  omega
 have P:=(LC s d).1 (x:=x) aL 0 0 0 (gY 0 0) o B Z (λ_=>J) Z (aX _) J (λq _ _=>agV (by rw[bP,<-u];exact k) q);have m:tu s 0=dE s (gY 0 0) 0 0 0:=rfl;rw[<-m]at P;have n:iU L=if(cO s 0).2.2.1≠0 then(yI,(cO s 0).2.2.1,(cO s 0).2.2.2)else if(tk s (cO s 0).2.1.toNat).k≠5 then(yI,4,(tk s (cO s 0).2.1.toNat).a)else((cO s 0).1,0,(cO s 0).2.2.2):=by
  unfold iU;rw[G];rfl
 rw[n]at h⊢;have j:cO s 0=if 0<I s/\mr s+1=I s then(match tu s 0 with
  | .error (c,p)=>(yI,0,c,p)
  | .ok (x,v)=>(x,(v:Int),0,0))else(yI,0,1, -1):=by
  unfold cO;by_cases b:0<I s/\mr s+1=I s
  ·rw[aV b,aV ⟨ky _,J,b.2⟩];rfl
  rw[aP b,aP (λa=>b ⟨J,a.2.2⟩)]
 rw[j]at h⊢;have b:0<I s/\mr s+1=I s:=bQ λb=>by
  rw[aP b,aV Z]at h;exact absurd h (show ¬(1:Int)=0 by decide)
 rw[aV b]at h⊢;rcases P with⟨K,g,C⟩ | ⟨a,g⟩
 ·rw[g]at h⊢;dsimp only at h⊢;rw[aP Z,aW,bP,<-u,k,aP Z];exact C
 rw[g]at h;dsimp only at h;rw[aV Z]at h;exact absurd h (show ¬(21:Int)=0 by decide)
structure Em (ts pZ:List Tk) (n o:Nat):Prop where
 e:∀i,n<=i->(tk ts i).k=5
 s:∀i,i<n->(tk pZ (o+i)).k=(tk ts i).k/\(tk pZ (o+i)).t=(tk ts i).t/\(tk pZ (o+i)).n=(tk ts i).n
 c:(tk pZ (o+n)).k=4/\((tk pZ (o+n)).t=[59]∨(tk pZ (o+n)).t=[93])
def Rm(n o:Nat)(r b:Pr):Prop:=∀x j,r=.ok (x,j)->∃a,b=.ok (a,o+j)/\Sim x a/\j<=n
def LF(op:Nat):eY op≠[59]/\eY op≠[93]:=by
 rcases pN op 16 with h | h
 ·have:∀q,q<16->eY q≠[59]/\eY q≠[93]:=Z
  exact this op h
 unfold eY;rw[dG (by exact h)];decide
section
variable {ts pZ:List Tk} {n o:Nat}
def Em.lt(h:Em ts pZ n o){i:Nat}(hk:(tk ts i).k≠5):i<n:=bQ λa=>hk (h.e i J)
def Em.RH(h:Em ts pZ n o){i:Nat}(c:i<n)(s:aH):sg pZ (o+i) s=sg ts i s:=by
 unfold sg;obtain⟨a,b,_⟩:=h.s i c;rw[a,b]
def Em.sgn(h:Em ts pZ n o){i:Nat}(d:i<=n){s:aH}(a:s≠[59])(b:s≠[93]):sg pZ (o+i) s=sg ts i s:=by
 rcases pN i n with l | l
 ·exact h.RH l s
 have:i=n:=J
 subst this;unfold sg;rw[h.e i (aX _)];have:decide ((tk pZ (o+i)).t=s)=aL:=bA λe=>by
  rcases h.c.2 with c | c
  ·exact a (by rw[<-e,c])
  exact b (by rw[<-e,c])
 rw[this,gK];rfl
def Em.opf(h:Em ts pZ n o){i:Nat}(a:i<=n)(k:Int):∀(f op:Nat),kH pZ k (o+i) f op=kH ts k i f op
 | 0,_=>rfl
 | f+1,op=>by rw[kH,kH,h.sgn a (LF op).1 (LF op).2,h.opf a k f]
def Em.op(h:Em ts pZ n o){i:Nat}(a:i<=n)(k:Int):lK pZ k (o+i)=lK ts k i:=h.opf a k 13 1
def Rm.map{r c:Pr}(h:Rm n o r c){b g:Ex->Ex}(j:∀x a,Sim x a->Sim (b x) (g a)):Rm n o (KL b r) (KL g c):=by
 intro x l k;obtain⟨y,d,rfl⟩:=CJ k;obtain⟨a,e,f,i⟩:=h y l d;exact⟨g a,by rw[e];rfl,j _ _ f,i⟩
def Rm.and{r c:Pr}{f b:Ex->Nat->Pr}(d:Rm n o r c)(l:∀x a j,r=.ok (x,j)->j<=n->Sim x a->Rm n o (f x j) (b a (o+j))):Rm n o (FB r f) (FB c b):=by
 intro x j p;obtain⟨y,m,h,k⟩:=zM p;obtain⟨a,e,g,i⟩:=d y m h;rw[e];exact l y a m h i g x j k
def Rm.nest{r b:Pr}{d:Nat}{a c:Int}(f:Rm n o r b):Rm n o (kb d a r) (kb d c b):=by
 intro x j h;obtain⟨g,i⟩:=tV h;have:d≠20:=λe=>by rw[kb,aV e]at h;cases h
 rw[kb,aP this];exact f x j g
def Rm.par(w:Em ts pZ n o){r a:Pr}(b:Rm n o r a):Rm n o (uZ ts r) (uZ pZ a):=by
 intro x k f;obtain⟨j,c,h,rfl⟩:=CK f;obtain⟨g,d,e,i⟩:=b x j c;have l:=w.lt (xS h);exact⟨g,by rw[d];simp only[uZ];rw[aV (by rw[w.RH l];exact h)];rfl,e,l⟩
def Rm.err{e:Int×Int}{r:Pr}:Rm n o (.error e) r:=λx j hx=>aeX
def Rm.in_(w:Em ts pZ n o)(i:Nat):Rm n o (E9 ts i) (E9 pZ (o+i)):=by
 intro x j h;have Z:=h;obtain⟨rfl,rfl⟩:=NJ Z;unfold E9 at h;split at h
 ·rename_i a;split at h
  ·rename_i b;split at h
   ·rename_i c;have l:=w.lt (xS c);have e:(tk pZ (o+i+2)).k=(tk ts (i+2)).k/\(tk pZ (o+i+2)).t=(tk ts (i+2)).t/\(tk pZ (o+i+2)).n=(tk ts (i+2)).n:=w.s (i+2) J;refine⟨.mk 3 0 (tk pZ (o+i+2)).t 0 [] (tk pZ (o+i)).a,?_,?_,l⟩
    ·unfold E9;rw[aV (show sg pZ (o+i+1) [40]=aE from(w.RH (i:=i+1) J _).trans a),aV (by rw[e.1];exact b),aV (show sg pZ (o+i+3) [41]=aE from(w.RH (i:=i+3) l _).trans c)];rfl
    rw[e.2.1];exact .leaf ..
   cases h
  cases h
 cases h
def Rm.one(h:Em ts pZ n o){a EN E D:Nat->Pr}{d i:Nat}(c:∀i,i<=n->Rm n o (a i) (E (o+i)))(e:∀i,i<=n->Rm n o (EN i) (D (o+i)))(f:i<=n):Rm n o (qU ts a EN d i) (qU pZ E D d (o+i)):=by
 by_cases b:i=n
 ·subst b;have h5:=h.e i (aX _);have g:∀s,sg ts i s=aL:=λs=>by
   unfold sg;rw[h5];rfl
  have:qU ts a EN d i=.error (gX ts i):=by
   unfold qU;rw[g,g,g,aP Z,aP Z,aP ahS,aP ahS,aP (by rw[h5];rintro⟨d,_⟩;exact absurd d Z)]
  rw[this];exact Rm.err
 have l:i<n:=J
 obtain⟨k,d,k3⟩:=h.s i l;unfold qU;rw[h.RH l,h.RH l,h.RH l,k,d,k3];split
 ·exact Rm.map (Rm.nest (e (i+1) l)) λx j g=>.one _ _ _ _ _ _ _ _ g
 split
 ·exact Rm.nest (Rm.par h (c (i+1) l))
 split
 ·intro x j g;simp only[gp,io]at g;obtain⟨rfl,rfl⟩:=g;exact⟨_,rfl,.leaf ..,l⟩
 split
 ·intro x j g;simp only[gp,io]at g;obtain⟨rfl,rfl⟩:=g;exact⟨_,rfl,.leaf ..,l⟩
 split
 ·exact Rm.in_ h i
 exact Rm.err
def Rm.loop(h:Em ts pZ n o){E c:Nat->Pr}{k:Int}(m:∀i x j,E i=.ok (x,j)->i<j)(d:∀i,i<=n->Rm n o (E i) (c (o+i))):∀(g a:Nat) (x b:Ex) (j:Nat),j<=n->n-j<g->n-j<a->Sim x b->Rm n o (jV ts E k g x j) (jV pZ c k a b (o+j))
 | 0,_,_,_,j,_,e,_,_=>J
 | _,0,_,_,j,_,_,e,_=>J
 | g+1,a+1,x,b,j,e,f,k,s=>by
  rw[jV,jV,h.op e];split
  ·intro y n l;simp only[gp,io]at l;obtain⟨rfl,rfl⟩:=l;exact⟨_,rfl,s,e⟩
  rename_i l;have o:=h.lt (ra _ _ l);refine Rm.and (d (j+1) o) λy r q p n A=>?_;have:=m _ _ _ p;exact Rm.loop h m d g a _ _ q n J J (.two _ _ _ _ _ _ _ _ _ _ s A)
def Rm.expr(w:Em ts pZ n o)(l:I ts=n+1)(h:o+n<I pZ):∀(f k d i:Nat),i<=n->Rm n o (dE ts f k d i) (dE pZ f k d (o+i))
 | 0,k,d,i,_=>Rm.err
 | f+1,k,d,i,a=>by
  rw[dE,dE];split
  ·exact Rm.one w (λi a=>Rm.expr w l h f 0 (d+1) i a) (λi a=>Rm.expr w l h f 6 (d+1) i a) a
  have R:∀i,i<=n->Rm n o (dE ts f (k+1) d i) (dE pZ f (k+1) d (o+i)):=λi a=>Rm.expr w l h f (k+1) d i a;refine Rm.and (R i a) λx g c e j s=>?_;exact Rm.loop w (λi x c b=>mq _ _ _ _ b) R _ _ _ _ _ j J J s
end
def Sim.trans{x y:Ex}(h:Sim x y):∀{z:Ex},Sim y z->Sim x z:=by
 induction h with
 | leaf k n s op a b=>intro z c;cases c;exact .leaf ..
 | one k n s op a b x y h i=>intro z e;cases e with | one _ _ _ _ _ c _ z d=>exact .one _ _ _ _ _ _ _ _ (i d)
 | two k n s op a b x y m o j l i e=>intro z d;cases d with | two _ _ _ _ _ c _ _ p q f g=>exact .two _ _ _ _ _ _ _ _ _ _ (i f) (e g)
def Pk(E:aH->Prop)(p:aH)(k:List K3):Prop:=∀(l:aH) (i:Nat) (r:aH) (t:List Tk),i<=(I l)->l.drop i=p++r->E r->lJ l (i+I p)=.ok t->∃u,lJ l i=.ok (u++t)/\u.map k3=k
abbrev Tr:aH->Prop:=λ_=>True
def Uu(q:aH):Prop:=∃c t,q=c::t/\Xg c=aE
section
variable {E E':aH->Prop} {p q:aH} {a b:List K3}
def Pk.nil(E:aH->Prop):Pk E [] []:=λ_ _ _ t _ _ _ h=>⟨[],h,rfl⟩
def Pk.glue(d:Pk E p a)(k:Pk E' q b)(j:∀r,E' r->E (q++r)):Pk E' (p++q) (a++b):=by
 intro m l r s h hd c t;rw[bq]at hd;obtain⟨u,e,f⟩:=k _ _ _ _ (BU h hd) (lC hd) c (by rw[dM,<-aQ];exact t);obtain⟨v,g,i⟩:=d _ _ _ _ h hd (j r c) e;exact⟨v++u,by rw[bq];exact g,by rw[cK,f,i]⟩
def Pk.t(h:Pk Tr p a)(k:Pk E q b):Pk E (p++q) (a++b):=h.glue k λ_ _=>trivial
def Uu.vN(h:Uu q)(r:aH):vM (q++r):=by
 obtain⟨c,t,rfl,a⟩:=h;intro d hd;rw[bZ,j7,bJ]at hd;subst hd;exact a
def Pk.e(h:Pk vM p a)(k:Pk E q b)(c:Uu q):Pk E (p++q) (a++b):=h.glue k λr _=>c.vN r
def Xi{c:UInt8}(b:qD c=aE):Pk Tr [c] []:=by
 intro l i r s a hd _ t;refine⟨[],?_,rfl⟩;have h:l.drop i=c::r:=hd;have f:i+1<=I l:=BU a hd;have d:l.drop (i+1)=r:=lC hd;have e:lz aL (c::r)=1+lz aL r:=by rw[lz,aV b]
 rw[pw a,h,e,<-dM];rw[bB,pw f,d]at t;exact t
def Pk.sp(h:Pk E q b):Pk E (32::q) b:=(Xi (c:=32) Z).t h
def Pk.nl(h:Pk Tr p a):Pk Tr (p++[10]) a:=by
 have:=h.t (Xi (c:=10) Z);rwa[bE]at this
def Bh{k:Int}{t:aH}{n:Int}(b:p≠[])(h:∀r,E r->lz aL (p++r)=0/\nQ (p++r)=.ok (k,t,n,I p)):Pk E p [(k,t,n)]:=λl i r s d hd a c=>
 ⟨[⟨k,t,n,(i:Nat)⟩],wN hd b (h r a).1 (h r a).2 c,rfl⟩
def auj{c:UInt8}(h:fS c=aL)(a:dw c=aL)(b:[60,62,61,33].contains c=aL)(e:[38,124].contains c=aL)(f:(c==45)=aL)(g:qE.contains c=aE)(r:aH):nQ (c::r)=.ok (4,[c],0,1):=by
 have s:tS (c::r)=aL:=by
  cases r with
  | nil=>rfl
  | cons d r=>
   show((d==61&&[60,62,61,33].contains c)||(d==c&&[38,124].contains c)||(c==45&&d==62))=aL;rw[b,e,f];simp
 exact oE h a g s
def lD(c:UInt8):K3:=(4,[c],0)
def kTo:K3:=(4,[45,62],0)
def Pk.one(c:UInt8)(a:fS c=aL)(d:dw c=aL)(e:[60,62,61,33].contains c=aL)(f:[38,124].contains c=aL)(g:(c==45)=aL)(i:qE.contains c=aE)(j:qD c=aL)(k:(c==47)=aL)(h:Pk E q b):Pk E (c::q) (lD c::b):=
 (Bh (p:=[c]) (E:=Tr) aag λr _=>⟨MN j k,auj a d e f g i r⟩).t h
def Pk.lb(h:Pk E q b):Pk E (123::q) (lD 123::b):=h.one 123 Z Z Z Z Z Z Z Z
def Pk.rb(h:Pk E q b):Pk E (125::q) (lD 125::b):=h.one 125 Z Z Z Z Z Z Z Z
def Pk.lk(h:Pk E q b):Pk E (91::q) (lD 91::b):=h.one 91 Z Z Z Z Z Z Z Z
def Pk.rk(h:Pk E q b):Pk E (93::q) (lD 93::b):=h.one 93 Z Z Z Z Z Z Z Z
def Pk.sc(h:Pk E q b):Pk E (59::q) (lD 59::b):=h.one 59 Z Z Z Z Z Z Z Z
def Pk.cm(h:Pk E q b):Pk E (44::q) (lD 44::b):=h.one 44 Z Z Z Z Z Z Z Z
def Pk.eq(h:Pk E q b)(a:Uu q):Pk E (61::q) (lD 61::b):=
 (Bh (p:=[61]) (E:=vM) aag λc r=>⟨MN Z Z,oE Z Z Z (mC Z r.soft)⟩).e h a
def Pk.to(h:Pk E q b):Pk E (45::62::q) (kTo::b):=
 (Bh (p:=[45,62]) (E:=Tr) aag λr _=>⟨MN Z Z,rfl⟩).t h
def yR:Uu (59::q):=⟨59,q,rfl,rfl⟩
def jK:Uu (32::q):=⟨32,q,rfl,rfl⟩
def agY:Uu (93::q):=⟨93,q,rfl,rfl⟩
def agZ:Uu (44::q):=⟨44,q,rfl,rfl⟩
def QS{s:aH}(a:s≠[])(g:I s<=24)(b:∃c t,s=c::t/\fS c=aE)(d:∀c,c∈s->fA c=aE):Pk vM s [(if lf.contains s then 2 else 1,s,0)]:=by
 obtain⟨c,t,rfl,h⟩:=b;refine Bh a λr f=>⟨?_,?_⟩
 ·have:=nC (c:=c) (by unfold nT;rw[h];simp);exact MN this.1 this.2.1
 have e:nQ (c::t++r)=if fS c then ov (c::t++r)else if dw c then uY (c::t++r)else qj (c::t++r):=rfl
 rw[e,h,aV rfl];unfold ov;rw[f.word _ d,aP J]
def oG{s:aH}(n:dJ s=aE):Pk vM s [(1,s,0)]:=by
 unfold dJ at n;simp only[aR]at n;obtain⟨⟨⟨h,b⟩,a⟩,h4⟩:=n;obtain⟨h,d⟩:=aO h;have a:=aO a;have h4:lf.contains s=aL:=aff
 have:=QS h d (by
  cases s with
  | nil=>exact absurd rfl h
  | cons c t=>exact⟨c,t,rfl,b⟩) (λc e=>by rw[<-a]at e;exact A8 c e)
 rw[h4]at this;exact this
def rO{s:aH}(a:(decide (s≠[]/\I s<=24)&&(match s with | c::_=>fS c | []=>aL)&&s.all fA&&lf.contains s)=aE):Pk vM s [(2,s,0)]:=by
 simp only[aR]at a;obtain⟨⟨⟨h,b⟩,d⟩,e⟩:=a;obtain⟨h,f⟩:=aO h;have:=QS h f (by
  cases s with
  | nil=>exact absurd rfl h
  | cons c t=>exact⟨c,t,rfl,b⟩) (λc g=>(dx.1 d) c g)
 rw[e]at this;exact this
def N9{n:Int}(h:0<=n)(a:n<=9223372036854775807):Pk vM (Lib.itoa n) [(3,[],n)]:=by
 have i:Lib.itoa n≠[]:=by rw[rM h];exact Bg _
 refine Bh i λb r=>⟨?_,QN h a r⟩
 rw[rM h];cases m:Lib.decDigits n.toNat with
 | nil=>exact absurd m (Bg _)
 | cons c d=>
  have hd:=CV n.toNat c (by rw[m];simp);have:=nC (c:=c) (by unfold nT;rw[hd];simp);exact MN this.1 this.2.1
def Ix(v:Int):List K3:=if v<0 then[lD 45,(3,[], -v)]else[(3,[],v)]
def ag0{v:Int}(a:tn v)(m:v≠ -9223372036854775808):Pk vM (Lib.itoa v) (Ix v):=by
 obtain⟨b,d⟩:=a;unfold Ix;by_cases h:v<0
 ·rw[aV h];have e:Lib.itoa v=45::Lib.itoa (-v):=by
   unfold Lib.itoa;rw[aV h,aP J,show v.natAbs=(-v).toNat by omega]
  rw[e];have g:=N9 (n:= -v) J J;refine(Bh (p:=[45]) (E:=λr=>soft r) (k:=4) (t:=[45]) (n:=0) aag λr f=>⟨MN Z Z,oE Z Z Z (mC Z f)⟩).glue g λr f=>?_;show soft (Lib.itoa (-v)++r);rw[rM (n:= -v) J];cases m:Lib.decDigits (-v).toNat with
  | nil=>exact absurd m (Bg _)
  | cons c e=>
   have hd:=CV (-v).toNat c (by rw[m];simp);exact rN ⟨c,e++r,rfl,by unfold nT;rw[hd];simp⟩
 rw[aP h];exact N9 J J
end
def LG(x:Ex):List K3:=qt (Fa x) x aL
def aet{x:Ex}(h:uc x=aE)(n:SU x):da (Fa x) x=aE/\xT x=nK (Fa x) x aL/\(iU (xT x)).2.1=0/\I (xT x)<=16384/\Sim x (iU (xT x)).1:=by
 have h:=aO h;obtain⟨a,d,b⟩:=K4 h;obtain⟨c,e⟩:=LD a (n _) b;have f:=GB _ aL [] a c;unfold xT;rw[d];exact⟨a,f,b,c,e⟩
def aeu{x:Ex}(a:uc x=aE)(h:SU x):Pk vM (xT x) (LG x):=by
 obtain⟨b,c,_⟩:=aet a h;rw[c];exact λl d e s i hd r t=>xB (Fa x) aL d b (h _) i hd r t
def Oa(a:Ac):List K3:=
 if a.k=2 then(2,lh,0)::(1,a.n,0)::[lD 59]else(2,if a.k=1 then sf else mV,0)::(1,a.n,0)::lD 61::(LG a.x++[lD 59])
def EB:List Ac->List K3
 | []=>[]
 | a::l=>Oa a++EB l
def EC(l:List Ac):List K3:=lD 123::(EB l++[lD 125])
def anQ{a:Ac}(h:iZ a=aE)(n:Gv a):Pk Tr (CP a) (Oa a):=by
 unfold iZ at h;simp only[aR]at h;obtain⟨⟨d,b⟩,c⟩:=h;unfold CP Oa;by_cases hk:a.k=2
 ·rw[aV hk,aV hk];exact(rO (s:=lh) Z).e (Pk.sp ((oG b).e (Pk.sc (Pk.nil _)) yR)) jK
 rw[aP hk]at c⊢;rw[aP hk];have tail:=Pk.sp ((oG b).e (Pk.sp (Pk.eq (Pk.sp ((aeu c n).e (Pk.sc (Pk.nil Tr)) yR)) jK)) jK);by_cases k:a.k=1
 ·simp only[aV k];exact(rO (s:=sf) Z).e tail jK
 simp only[aP k];exact(rO (s:=mV) Z).e tail jK
def Xj:∀{l:List Ac},l.all iZ=aE->(∀a,a∈l->Gv a)->Pk Tr (zT l) (EB l)
 | [],_,_=>Pk.nil _
 | a::l,h,n=>by
  rw[mf,aR]at h;exact Pk.sp ((anQ h.1 (n a aag)).t (Xj h.2 λb c=>n b (by simp[c])))
def Xk{l:List Ac}(h:l.all iZ=aE)(n:∀a,a∈l->Gv a):Pk Tr (ze l) (EC l):=
 Pk.lb ((Xj h n).t (Pk.sp (Pk.rb (Pk.nil _))))
def Uv:List (aH)->List K3
 | []=>[]
 | s::l=>lD 44::(1,s,0)::Uv l
def hdK(m:Mv):List K3:=if m.k=1 then[(2,CL,0),(1,m.ev,0)]else if m.k=3 then[(2,jD,0),(3,[],m.wt)]else[(2,iV,0)]
def gdK(m:Mv):List K3:=if m.gd then lD 91::(LG m.g++[lD 93])else[]
def QT(m:Mv):List K3:=match m.tg with
 | []=>[]
 | s::l=>kTo::(1,s,0)::Uv l
def QU(m:Mv):List K3:=hdK m++(gdK m++((if m.acts=[]then[]else EC m.acts)++(QT m++[lD 59])))
def aew:∀{l:List (aH)},l.all dJ=aE->Pk Tr (Gu l++[59]) (Uv l++[lD 59])/\Uu (Gu l++[59])
 | [],_=>⟨Pk.sc (Pk.nil _),yR⟩
 | s::l,h=>by
  rw[mf,aR]at h;obtain⟨a,b⟩:=aew h.2;refine⟨?_,agZ⟩;have:=Pk.cm (Pk.sp ((oG h.1).e a b));simpa[Gu,Uv]using this
def anS{m:Mv}(h:mz m=aE)(n:UQ m):Pk Tr (Fb m) (QU m):=by
 unfold mz at h;simp only[aR]at h;obtain⟨⟨⟨⟨⟨c,d⟩,e⟩,l⟩,a⟩,f⟩:=h;have c:=aO c;have f:=aO f;unfold Fb QU;have g:Pk Tr ((match m.tg with
  | []=>[]
  | s::p=>32::45::62::32::(s++Gu p))++[59]) (QT m++[lD 59])/\Uu ((match m.tg with
  | []=>[]
  | s::p=>32::45::62::32::(s++Gu p))++[59]):=by
  unfold QT;cases p:m.tg with
  | nil=>exact⟨Pk.sc (Pk.nil _),yR⟩
  | cons s u=>
   rw[p,mf,aR]at a;obtain⟨q,r⟩:=aew a.2;refine⟨?_,jK⟩;have:=Pk.sp (Pk.to (Pk.sp ((oG a.1).e q r)));simpa using this
 generalize ((match m.tg with
  | []=>[]
  | s::p=>32::45::62::32::(s++Gu p))++[59]:aH)=R1 at*
 generalize QT m++[lD 59]=K at*
 have i:Pk Tr ((if m.acts=[]then[]else 32::ze m.acts)++R1) ((if m.acts=[]then[]else EC m.acts)++K)/\Uu ((if m.acts=[]then[]else 32::ze m.acts)++R1):=by
  by_cases p:m.acts=[]
  ·rw[aV p,aV p];exact g
  rw[aP p,aP p];exact⟨Pk.sp ((Xk l n.a).t g.1),jK⟩
 generalize ((if m.acts=[]then[]else 32::ze m.acts)++R1:aH)=R at*
 generalize (if m.acts=[]then[]else EC m.acts)++K=b at*
 have t:Pk Tr (SW m++R) (gdK m++b)/\Uu (SW m++R):=by
  unfold SW gdK;cases p:m.gd
  ·exact i
  rw[p]at e;refine⟨?_,jK⟩;have:=Pk.sp (Pk.lk ((aeu e n.g).e (Pk.rk i.1) agY));simpa using this
 generalize (SW m++R:aH)=o at*
 generalize gdK m++b=j at*
 unfold ZY hdK;by_cases k:m.k=1
 ·rw[aV k]at d⊢;rw[aV k,bq];exact(rO (s:=CL) Z).e (Pk.sp ((oG d).e t.1 t.2)) jK
 rw[aP k,aP k];by_cases k3:m.k=3
 ·rw[aV k3,aV k3,bq];exact(rO (s:=jD) Z).e (Pk.sp ((N9 J n.w.2).e t.1 t.2)) jK
 rw[aP k3,aP k3];exact(rO (s:=iV) Z).e t.1 t.2
def Xl{p:aH}{a:List K3}(h:Pk Tr p a):∀d,Pk Tr (wE d++p) a
 | 0=>h
 | d+1=>Pk.sp (Pk.sp (Xl h d))
def anT{d:Nat}{p:aH}{a:List K3}(h:Pk Tr p a):Pk Tr (lnT (d,p)) a:=Xl h.nl d
def Lq(L:List Ln)(k:List K3):Prop:=Pk Tr (BS L) k
def Lq.nil:Lq [] []:=Pk.nil _
def Lq.vN{L M:List Ln}{a b:List K3}(h:Lq L a)(k:Lq M b):Lq (L++M) (a++b):=by
 unfold Lq BS;rw[iY];exact h.t k
def Lq.one{d:Nat}{p:aH}{a:List K3}(h:Pk Tr p a):Lq [(d,p)] a:=by
 unfold Lq BS;rw[zl,uA,bE];exact anT h
def Lq.cons{d:Nat}{p:aH}{a:List K3}{L:List Ln}{b:List K3}(h:Pk Tr p a)(k:Lq L b):Lq ((d,p)::L) (a++b):=(Lq.one h).vN k
def Td(b:Nb):List K3:=if b.ini=[]then[]else[(2,fT,0),(1,b.ini,0),lD 59]
def enK(b:Nb):List K3:=if b.en=[]then[]else(2,jk,0)::EC b.en
def Uw(b:Nb):List K3:=if b.lv=[]then[]else(2,jl,0)::EC b.lv
def Ak:List Mv->List K3
 | []=>[]
 | m::l=>QU m++Ak l
def Cm(b:Nb):List K3:=Td b++(enK b++(Uw b++Ak b.mv))
mutual
def Ux:Nd->List K3
 | .mk b l=>
  if fF b.k then(2,kW b.k,0)::(1,b.nm,0)::kTo::(1,b.dft,0)::[lD 59]
  else(2,kW b.k,0)::(1,b.nm,0)::lD 123::(Cm b++(nZ l++[lD 125]))
def nZ:List Nd->List K3
 | []=>[]
 | x::l=>Ux x++nZ l
end
structure nbS (b:Nb):Prop where
 nm:dJ b.nm=aE
 ini:b.ini=[]∨dJ b.ini=aE
 en:b.en.all iZ=aE
 lv:b.lv.all iZ=aE
 mv:b.mv.all mz=aE
def Xm{b:Nb}{n:Nat}(h:qm b n=aE)(i:fF b.k=aL):(b.k=1∨b.k=2)/\b.dft=[]/\nbS b:=by
 unfold qm at h;rw[i]at h;simp only[aR,nH,lS,cE,bG]at h;obtain⟨c,⟨⟨⟨a,d⟩,e⟩,f⟩,g⟩:=h;exact⟨a.1,a.2,c,d,e,f,g⟩
def anU{b:Nb}{n:Nat}(h:qm b n=aE)(j:fF b.k=aE):dJ b.nm=aE/\dJ b.dft=aE/\b.ini=[]/\b.en=[]/\b.lv=[]/\b.mv=[]/\n=0:=by
 unfold qm at h;rw[j]at h;simp only[aR,Cy,bG]at h;obtain⟨a,c,d,e,f,g,i⟩:=h;exact⟨a,c,d,e,f,bH g,i⟩
def aex{d:Nat}{b:Nb}(h:nbS b)(n:nbN b):Lq (FE d b) (Cm b):=by
 unfold FE Cm;refine Lq.vN ?_ (Lq.vN ?_ (Lq.vN ?_ ?_))
 ·unfold xU Td;by_cases i:b.ini=[]
  ·rw[aV i,aV i];exact Lq.nil
  rw[aP i,aP i];exact Lq.one ((rO (s:=fT) Z).e (Pk.sp ((oG (h.ini.resolve_left i)).e (Pk.sc (Pk.nil _)) yR)) jK)
 ·unfold P7 enK;by_cases i:b.en=[]
  ·rw[aV i,aV i];exact Lq.nil
  rw[aP i,aP i];exact Lq.one ((rO (s:=jk) Z).e (Pk.sp (Xk h.en n.en)) jK)
 ·unfold SX Uw;by_cases i:b.lv=[]
  ·rw[aV i,aV i];exact Lq.nil
  rw[aP i,aP i];exact Lq.one ((rO (s:=jl) Z).e (Pk.sp (Xk h.lv n.lv)) jK)
 unfold mvL;have m:=h.mv;have hk:=n.mv;generalize b.mv=l at*
 induction l with
 | nil=>exact Lq.nil
 | cons a l i=>
  rw[mf,aR]at m;exact Lq.cons (anS m.1 (hk a aag)) (i m.2 λx hx=>hk x adD)
def QV(k:Int):Pk vM (kW k) [(2,kW k,0)]:=by
 unfold kW;split
 ·exact rO Z
 split
 ·exact rO Z
 split
 ·exact rO Z
 exact rO Z
mutual
def anV:∀(d:Nat) (x:Nd),jY d x=aE->Ci x->Lq (Fc d x) (Ux x)
 | d,.mk b l,h,n=>by
  rw[jY]at h;rw[Ci]at n;rw[Fc,Ux];simp only[aR]at h;obtain⟨⟨_,a⟩,e⟩:=h;cases c:fF b.k
  ·obtain⟨_,_,s⟩:=Xm a c;rw[aP Z,aP Z];exact Lq.cons ((QV b.k).e (Pk.sp ((oG s.nm).e (Pk.sp (Pk.lb (Pk.nil _))) jK)) jK) ((aex s n.1).vN ((Ob (d+1) l e n.2).vN (Lq.one (Pk.rb (Pk.nil _)))))
  obtain⟨d,f,_⟩:=anU a c;rw[aV rfl,aV rfl];exact Lq.one ((QV b.k).e (Pk.sp ((oG d).e (Pk.sp (Pk.to (Pk.sp ((oG f).e (Pk.sc (Pk.nil _)) yR)))) jK)) jK)
def Ob:∀(d:Nat) (l:List Nd),iL d l=aE->zU l->Lq (qn d l) (nZ l)
 | d,[],_,_=>by
  rw[qn,nZ];exact Lq.nil
 | d,x::l,h,n=>by
  rw[iL,aR]at h;rw[zU]at n;rw[qn,nZ];exact(anV d x h.1 n.1).vN (Ob d l h.2 n.2)
end
def Z2(v:Vr):List K3:=(2,yJ,0)::(1,v.n,0)::lD 61::(Ix v.v++[lD 59])
def Al:List Vr->List K3
 | []=>[]
 | v::l=>Z2 v++Al l
def chK(c:Ch):List K3:=(2,gf,0)::(1,c.root.b.nm,0)::lD 123::(Al c.vars++(Cm c.root.b++(nZ c.root.kids++[lD 125])))
def anX{c:Ch}(f:pC c=aE)(n:G8 c):Lq (Ee c) (chK c):=by
 unfold pC at f;simp only[aR]at f;obtain⟨⟨h,g⟩,e⟩:=f;replace e:=aO e;obtain⟨a,⟨b,m⟩⟩:=c;have r:=n.r;rw[Ci]at r;rw[jY]at g;simp only[aR]at g;obtain⟨⟨_,i⟩,j⟩:=g;have hk:b.k=1:=e.1;have l:fF b.k=aL:=afF
 obtain⟨_,_,k⟩:=Xm i l;unfold Ee chK;have d:Lq (a.map λv=>(1,ZZ v)) (Al a):=by
  have d:=n.v;dsimp only at h d;clear e n i j r
  induction a with
  | nil=>exact Lq.nil
  | cons v c b=>
   rw[mf,aR,aR]at h;refine Lq.cons ?_ (b h.2 λx hx=>d x adD);exact(rO (s:=yJ) Z).e (Pk.sp ((oG h.1.1).e (Pk.sp (Pk.eq (Pk.sp ((ag0 (d v aag) (aO h.1.2)).e (Pk.sc (Pk.nil _)) yR)) jK)) jK)) jK
 exact Lq.cons ((rO (s:=gf) Z).e (Pk.sp ((oG k.nm).e (Pk.sp (Pk.lb (Pk.nil _))) jK)) jK) (d.vN ((aex k r.1).vN ((Ob 1 m j r.2).vN (Lq.one (Pk.rb (Pk.nil _))))))
def Iy{p:Prop}:aL=aE->p:=λh=>aal
def ED{α}{R:α->α->Prop}:kQ R [] []:=⟨rfl,λi x y h _=>by simp at h⟩
def abJ{α}{R}{x y:α}{xs ys}(c:R x y)(k:kQ R xs ys):kQ R (x::xs) (y::ys):=⟨by rw[aY,aY,k.1],λi a b h hb=>by
 cases i with
 | zero=>
  simp at h hb;subst h hb;exact c
 | succ i=>exact k.2 i a b (by simpa using h) abS⟩
def eI(s:Sx)(n:Nat)(a m k:Nat):Sx:={s with i:=s.i+n,a:=s.a-a,m:=s.m-m,n:=s.n-k}
def dA s n a m k n' a' m' k':eI (eI s n a m k) n' a' m' k'=eI s (n+n') (a+a') (m+m') (k+k'):=by
 unfold eI;simp;refine⟨J,?_,?_,?_⟩<;>omega
def ag1 s:eI s 0 0 0 0=s:=by
 unfold eI;simp
def jZ s:eF s=eI s 1 0 0 0:=by
 unfold eF eI;simp
def LH{ts}(h:tU ts)(b:0<I ts):mr ts+1=I ts:=by
 have a:mr ts<I ts:=by
  refine bQ λn=>?_;have:=zN ts ((I ts)-1) J;exact this ((h _ J).2 J)
 exact(h _ a).1 (zO ts a)
def aey{ts}{i}(h:(tk ts i).k≠5):i<I ts:=bQ λn=>h (by
 unfold tk;rw[dG J];rfl)
def Uy(q:K3)(l:List (aH)):Nat:=if q.1≠2/\q.1≠4 then 0 else if xu q.2.1 l<I l then xu q.2.1 l+1 else 0
section
variable {ts:List Tk} {s:Sx} {q:K3} {A:List K3}
def eK(b:s.fc=0)(a:At ts s.i (q::A)) l:dc ts s l=Uy q l:=by
 obtain⟨c,d,_⟩:=a.head;unfold dc Uy;rw[c,d];by_cases h:q.1≠2/\q.1≠4
 ·rw[aV (.inr h),aV h]
 rw[aP (λa=>a.elim (λe=>e b) h),aP h]
def kq(a:s.fc=0){x}(h:At ts s.i (q::A))(b:Uy q [x]=1):fH ts s x=eI s 1 0 0 0:=by
 unfold fH;rw[eK a h,b,aP Z,jZ]
def xC(a:s.fc=0){k}(h:At ts s.i (q::A))(f:q.1=k):(iq ts s k).1.t=q.2.1/\(iq ts s k).1.n=q.2.2/\(iq ts s k).2=eI s 1 0 0 0:=by
 obtain⟨b,c,d⟩:=h.head;unfold iq;rw[aP (λn=>n.elim (λe=>e a) λe=>e (by rw[b,f])),jZ];exact⟨c,d,rfl⟩
def xD(d:s.fc=0){x}(h:At ts s.i ((1,x,0)::A)):kR ts s=(x,eI s 1 0 0 0):=by
 obtain⟨a,b,c⟩:=xC (k:=1) d h rfl;unfold kR;rw[a,c]
def Am{x}(h:1<=x)(a:x<=1000):A9 x=x-1:=by
 unfold A9;rw[fh J J]
end
def GC{x}(h:rI x=aE):ZX aL x yI:=by
 obtain⟨k,n,s,op,l,a⟩:=x;unfold rI at h;simp only[aR,dB,bG]at h;obtain⟨⟨⟨⟨b,c⟩,e⟩,f⟩,g⟩:=h;obtain rfl:k=0:=b;obtain rfl:n=0:=c;obtain rfl:s=[]:=e;obtain rfl:op=0:=f;have i:(I l:Int)=0:=g;obtain rfl:l=[]:=bH J;exact λd=>(Sim.leaf 0 0 [] 0 a 0).same d
section
variable {ts:List Tk} (hE:tU ts)
include hE
theorem Xn{s}(B:s.fc=0){x}(z:uc x=aE)(n:SU x){q}{A}(i:At ts s.i (LG x++q::A))(o:q.1=4/\(q.2.1=[59]∨q.2.1=[93])):
  ZX aL x (rB ts s).1/\(rB ts s).2=eI s (I (LG x)) 0 0 0:=by
 obtain⟨C,D,b,H,h⟩:=aet z n;have m:=D;generalize xT x=L at*
 have v:lJ L (0+I L)=.ok [⟨5,[],0,I L⟩]:=by
  have hd:L.drop (I L)=[]:=dV (aX _);have h:lz aL []=0:=rfl;rw[bP,lH (aX _),hd,h,aV J];rfl
 obtain⟨u,w,k⟩:=xB (l:=L) _ (x:=x) aL 0 (r:=[]) C (n _) (be _) (by rw[im,bE,m]) (λc F=>by cases F) (by rw[<-m];exact v);generalize f:u++[_]=a at*
 have j:di L=(a,0,0):=by rw[di,aP J,w]
 have g:I u=I (LG x):=by unfold LG;rw[<-k,bK]
 have G:I a=I u+1:=by rw[<-f,aQ,bB]
 have E:tU a:=by
  have:=(yO (l:=L) (by rw[j])).1;rw[j]at this;exact this
 unfold iU at b h;rw[j]at b h;dsimp only at b h;rw[aP Z]at b h;by_cases d:(cO a 0).2.2.1≠0
 ·rw[aV d]at b;exact absurd b d
 rw[aP d]at b h;by_cases l:(tk a (cO a 0).2.1.toNat).k≠5
 ·rw[aV l]at b;exact absurd b (show ¬(4:Int)=0 by decide)
 rw[aP l]at h;have d:=og.1 d;have l:=og.1 l;have q:cO a 0=(match tu a 0 with
  | .error (c,p)=>(yI,0,c,p)
  | .ok (x,r)=>(x,(r:Int),0,0)):=by
  unfold cO;rw[aV ⟨ky 0,J,LH E J⟩];rfl
 have M:Em a ts (I u) s.i:=by
  refine⟨λc p=>?_,λc p=>?_,?_⟩
  ·unfold tk;rw[<-f];rcases Nat.eq_or_lt_of_le p with e | e
   ·rw[<-e,cj (aX _),pO];rfl
   rw[dG acE];rfl
  ·have s:c<I (LG x):=J
   have y:k3 (tk a c)=(LG x)[c]:=by
    have:(u.map k3)[c]? =aM (LG x)[c]:=by
     rw[k];exact bf s
    rw[cF,fz]at this;obtain⟨t,K,N⟩:=this;rw[<-N];unfold tk;rw[<-f,bX p,K];rfl
   have e:=(i.left c _ (bf s)).trans y.symm;unfold k3 at e;simp at e;exact e
  have:=i.right.head;rw[<-g]at this;rw[this.1,this.2.1];exact o
 cases A:tu a 0 with
 | error e=>
  obtain⟨c,p⟩:=e;rw[A]at q;exfalso;rw[q]at d l;subst d;exact pz _ _ _ _ A rfl
 | ok y=>
  obtain⟨N,r⟩:=y;rw[A]at q;dsimp only at q;rw[q]at l h;have p:s.i+I u<I ts:=by
   refine aey λe=>?_;have:=i.right.head.1;rw[<-g]at this;rw[this,o.1]at e;exact absurd e Z
  obtain⟨K,c,x,Y⟩:=Rm.expr M G p _ 0 0 0 (be _) N r A;have t:r=I u:=by
   have:=(E r J).1 l;omega
  subst t;have R:cO ts s.i=(K,((s.i+I u:Nat):Int),0,0):=by
   unfold cO;rw[aV ⟨ba _,J,LH hE J⟩,aW];unfold tu;rw[gy]at c;rw[c]
  unfold rB;rw[aP (λe=>e B),R];refine⟨(h.trans x).same,?_⟩;rw[aW,g];unfold eI;simp
theorem abK{s}(a:s.fc=0)(h:1<=s.a)(b:s.a<=1000):wv ts s=eI s 0 1 0 0:=by
 unfold wv eI;rw[aP J,Am h b];simp
theorem anZ{s}(h:s.fc=0)(r:1<=s.a)(t:s.a<=1000){a}(c:iZ a=aE)(u:Gv a){A}(d:At ts s.i (Oa a++A)):AcE aL a (tX ts s).1/\(tX ts s).2=eI s (I (Oa a)) 1 0 0:=by
 unfold iZ at c;simp only[aR]at c;obtain⟨⟨i,p⟩,b⟩:=c;have i:=aO i;obtain⟨k,n,x,at_⟩:=a;dsimp only at i p b;have g:∃w j,Oa ⟨k,n,x,at_⟩++A=(2,w,0)::(1,n,0)::j/\(Uy (2,w,0) [sf,lh,mV])=k.toNat:=by
  unfold Oa;by_cases hk:k=2
  ·rw[aV hk];exact⟨_,_,rfl,by rw[hk];decide⟩
  rw[aP hk];by_cases a:k=1
  ·rw[aV a];exact⟨_,_,rfl,by rw[a];decide⟩
  rw[aP a];have:k=3:=J
  exact⟨_,_,rfl,by rw[this];decide⟩
 obtain⟨w,j,m,o⟩:=g;have f:=d;rw[m]at f;have l:=eK h f [sf,lh,mV];rw[o]at l;have R:k.toNat=k:=fL J;unfold tX;rw[l,aP J,abK (ts:=ts) hE h r t,aP (λe=>e h)];rw[jZ,dA,xD (s:=eI s _ _ _ _) h f.tail];unfold NL;by_cases hk:k=2
 ·subst hk;rw[aV (show Int.toNat 2=2 from rfl)];rw[kq (s:=eI (eI s _ _ _ _) 1 0 0 0) h d.tail.tail Z,dA,dA];exact⟨⟨rfl,rfl,GC b,Iy⟩,rfl⟩
 rw[aP J];rw[aP hk]at b;have e:Oa ⟨k,n,x,at_⟩=(2,if k=1 then sf else mV,0)::(1,n,0)::lD 61::(LG x++[lD 59]):=by
  unfold Oa;rw[aP hk]
 rw[e]at d⊢;have T:=d.tail.tail;rw[kq (s:=eI (eI s _ _ _ _) 1 0 0 0) h T Z,dA,dA];have a:At ts _ (_++A):=T.tail;rw[bq]at a;obtain⟨v,y⟩:=Xn hE (s:=eI s (0+1+1+1) _ _ _) h b u (q:=lD 59) (A:=A) a ⟨rfl,.inl rfl⟩;rw[y];rw[kq (s:=eI (eI s (0+1+1+1) _ _ _) (I (LG x)) 0 0 0) h a.right Z,dA,dA];refine⟨⟨R.symm,rfl,v,Iy⟩,?_⟩;simp;congr 1;omega
theorem aez:∀l f c {s:Sx},s.fc=0->I l<f->I l<=s.a->s.a<=1000->l.all iZ=aE->(∀a,a∈l->Gv a)->∀{A:List K3},At ts s.i (EB l++lD 125::A)->
  ∃r,qk ts f c s=(c++r,eI s (I (EB l)+1) (I l) 0 0)/\kQ (AcE aL) l r
 | [],f,c,s,h,hf,b,i,a,n,A,d=>by
  obtain⟨f,rfl⟩:∃g,f=g+1:=⟨f-1,aes⟩
  rw[qk,aP (λe=>e h),eK h d,aV Z,jZ];exact⟨[],by rw[bE];rfl,ED⟩
 | a::l,f,c,s,h,hf,o,k,j,n,A,d=>by
  rw[aY]at hf o;obtain⟨f,rfl⟩:∃m,f=m+1:=⟨f-1,J⟩
  rw[mf,aR]at j;have d:At ts s.i ((Oa a++EB l)++lD 125::A):=d;rw[bq]at d;have w:dc ts s [[125]]=0:=by
   have:∃b B,Oa a++(EB l++lD 125::A)=(2,b,0)::B/\Uy (2,b,0) [[125]]=0:=by
    unfold Oa;split
    ·exact⟨_,_,rfl,Z⟩
    split
    ·exact⟨_,_,rfl,Z⟩
    exact⟨_,_,rfl,Z⟩
   obtain⟨b,B,g,i⟩:=this;have f:=d;rw[g]at f;rw[eK h f,i]
  obtain⟨p,q⟩:=anZ hE h J k j.1 (n a aag) d;rw[qk,aP (λe=>e h),w,aP (λe=>e rfl),q];obtain⟨r,g,i⟩:=aez l f _ (s:=eI s (I (Oa a)) 1 0 0) h J aai aai j.2 (λb k=>n b (by simp[k])) d.right;refine⟨(tX ts s).1::r,?_,abJ p i⟩;rw[g,dA,bq];simp only[EB,aQ,aY,jr];congr 2<;>omega
theorem LI:∀l,I l<=I (EB l)
 | []=>aX _
 | a::l=>by
  have h:=LI l;have b:1<=I (Oa a):=by
   unfold Oa;split<;>simp
  rw[EB,aQ,aY];omega
theorem At.inr{s:Sx}{L}{q}{A}(d:At ts s.i (L++q::A))(h:q.1≠5):s.i+I L<I ts:=aey (by rw[d.right.head.1];exact h)
theorem ag2{s:Sx}(h:s.fc=0){l}(i:I l<=s.a)(j:s.a<=1000)(f:l.all iZ=aE)(n:∀a,a∈l->Gv a){A}(d:At ts s.i (EC l++A)):
  ∃r,lN ts s=(r,eI s (I (EC l)) (I l) 0 0)/\kQ (AcE aL) l r:=by
 unfold lN;have d:At ts s.i (lD 123::(_++A)):=d;rw[bq]at d;have b:=d.tail;have g:=At.inr hE (s:=eI s 1 0 0 0) (L:=EB l) b Z;rw[kq h d Z];have:=LI (ts:=ts) hE l;obtain⟨r,e,c⟩:=aez hE l (I ts+1) [] (s:=eI s 1 0 0 0) h J aai aai f n b;refine⟨r,?_,c⟩;rw[e,dA,bR];unfold EC;simp only[aY,aQ,bC];congr 2
 ·omega
 omega
theorem an0:∀l f a {s:Sx},s.fc=0->I l<f->∀{A:List K3},At ts s.i (Uv l++lD 59::A)->tY ts f [44] a s=(a++l,eI s (I (Uv l)) 0 0 0)
 | [],f,a,s,h,hf,A,d=>by
  obtain⟨f,rfl⟩:∃g,f=g+1:=⟨f-1,aes⟩
  rw[tY,eK h d,aV Z,bE];show _=(a,eI s 0 0 0 0)
  rw[ag1]
 | x::l,f,a,s,h,hf,A,d=>by
  rw[aY]at hf;obtain⟨f,rfl⟩:∃g,f=g+1:=⟨f-1,J⟩
  rw[tY,eK h d,aP Z,jZ,xD (s:=eI s 1 0 0 0) h d.tail];rw[dA,an0 l f _ (s:=eI s (1+1) _ _ _) h J d.tail.tail,dA,bq];simp only[Uv,aY,jr];congr 2;omega
theorem QW:∀l,I l<=I (Uv l)
 | []=>aX _
 | x::l=>by
  have:=QW l;rw[Uv,aY,aY,aY];omega
theorem QX{s}(h:s.fc=0) m m0 {A} (d:At ts s.i ((QT m++[lD 59])++A)) (t:m0.tg=[]):D1 ts m0 s=({m0 with tg:=m.tg},eI s (I (QT m++[lD 59])) 0 0 0):=by
 unfold D1;rw[bq]at d;unfold QT at d⊢;cases a:m.tg with
 | nil=>
  rw[a]at d;rw[tY,eK h d,aV Z];rw[kq h d Z];rfl
 | cons x l=>
  rw[a]at d;have b:=At.inr hE (s:=eI s 2 0 0 0) (L:=Uv l) d.tail.tail Z;have:=QW (ts:=ts) hE l;rw[tY,eK h d,aP Z,jZ,xD (s:=eI s 1 0 0 0) h d.tail];rw[dA,an0 hE l (I ts) _ (s:=eI s (1+1) _ _ _) h J d.tail.tail,dA];rw[kq (s:=eI s _ _ _ _) h (q:=lD 59) (A:=A) (by
   have:=d.tail.tail.right;have e:s.i+1+1+I (Uv l)=(eI s (1+1+I (Uv l)) (0+0+0) (0+0+0) (0+0+0)).i:=aai
   rw[<-e];exact this) Z,dA]
  simp;congr 2;omega
theorem QY{s:Sx}(h:s.fc=0) m m0 (c:I m.acts<=s.a) (f:s.a<=1000) (b:m.acts.all iZ=aE) (n:∀x,x∈m.acts->Gv x) {A} (d:At ts s.i (((if m.acts=[]then[]else EC m.acts)++(QT m++[lD 59]))++A)) (t:m0.tg=[]) (a:m0.acts=[]):
  ∃r,BQ ts m0 s=({m0 with acts:=r,tg:=m.tg},eI s (I ((if m.acts=[]then[]else EC m.acts)++(QT m++[lD 59]))) (I m.acts) 0 0)/\kQ (AcE aL) m.acts r:=by
 obtain⟨k,v,j,g,l,ac0,i,p0⟩:=m0;subst t a;unfold BQ;by_cases e:m.acts=[]
 ·rw[aV e]at d⊢;have w:dc ts s [[123]]=0:=by
   have u:=d;unfold QT at u;cases o:m.tg with
   | nil=>
    rw[o]at u;rw[eK h (q:=lD 59) (A:=A) u];decide
   | cons x m=>
    rw[o]at u;rw[eK h (q:=kTo) (A:=_) u];decide
  rw[w,aV rfl,QX hE h m _ d rfl];refine⟨[],?_,by rw[e];exact ED⟩;rw[e];rfl
 rw[aP e]at d⊢;rw[bq]at d;have w:dc ts s [[123]]=1:=by
  rw[eK h (q:=lD 123) d];decide
 obtain⟨r,o,p⟩:=ag2 hE h c f b n d;rw[w,aP Z,o];rw[QX hE (s:=eI s (I (EC m.acts)) (I m.acts) 0 0) h m _ d.right rfl,dA];refine⟨r,?_,p⟩;simp
theorem Iz{s:Sx}(h:s.fc=0) m m0 (o:I m.acts<=s.a) (p:s.a<=1000) (b:mz m=aE) (n:UQ m) {A} (dQ:At ts s.i ((gdK m++((if m.acts=[]then[]else EC m.acts)++(QT m++[lD 59])))++A))
  (t:m0.tg=[]) (c:m0.acts=[]) (d:m0.gd=aL) (f:m0.g=yI):
  ∃g r,rC ts m0 s=({m0 with gd:=m.gd,g:=g,acts:=r,tg:=m.tg},eI s (I (gdK m++((if m.acts=[]then[]else EC m.acts)++(QT m++[lD 59])))) (I m.acts) 0 0)/\ZX aL m.g g/\kQ (AcE aL) m.acts r:=by
 unfold mz at b;simp only[aR]at b;obtain⟨⟨⟨⟨⟨_,_⟩,a⟩,i⟩,_⟩,_⟩:=b;obtain⟨k,v,l,u,y,ac0,w,p0⟩:=m0;subst t c d f;unfold rC;unfold gdK at dQ⊢;cases j:m.gd
 ·rw[j]at a dQ;have B:dc ts s [[91]]=0:=by
   have e:=dQ;by_cases z:m.acts=[]
   ·rw[aV z]at e;unfold QT at e;cases s:m.tg with
    | nil=>
     rw[s]at e;rw[eK h (q:=lD 59) (A:=A) e];decide
    | cons x m=>
     rw[s]at e;rw[eK h (q:=kTo) (A:=_) e];decide
   rw[aP z]at e;rw[eK h (q:=lD 123) (A:=_) e];decide
  obtain⟨r,s,x⟩:=QY hE h m ⟨k,v,l,aL,yI,[],[],p0⟩ o p i n.a dQ rfl rfl;rw[B,aV rfl,s];exact⟨yI,r,rfl,GC a,x⟩
 rw[j]at a dQ;have dQ:At ts s.i (lD 91::(LG m.g++lD 93::(((if m.acts=[]then[]else EC m.acts)++(QT m++[lD 59]))++A))):=ahM
 have B:dc ts s [[91]]=1:=by
  rw[eK h dQ];decide
 obtain⟨C,D⟩:=Xn hE (s:=eI s 1 0 0 0) h a n.g (q:=lD 93) dQ.tail ⟨rfl,.inr rfl⟩;rw[B,aP Z,jZ,D,dA,kq (s:=eI s _ _ _ _) h (q:=lD 93) (by
  have:=dQ.tail.right;have e:s.i+1+I (LG m.g)=(eI s (1+I (LG m.g)) (0+0) (0+0) (0+0)).i:=aai
  rw[<-e];exact this) Z,dA]
 obtain⟨r,x,z⟩:=QY hE (s:=eI s _ (0+0+0) _ _) h m ⟨k,v,l,aE,(rB ts _).1,[],[],p0⟩ aai aai i n.a (by
  have:=dQ.tail.right.tail;have e:s.i+1+I (LG m.g)+1=(eI s (1+I (LG m.g)+1) (0+0+0) (0+0+0) (0+0+0)).i:=aai
  rw[<-e];exact this) rfl rfl
 rw[x,dA];refine⟨_,r,?_,C,z⟩;congr 2<;>(try simp)<;>omega
theorem abL{s}(a:s.fc=0)(h:1<=s.m)(b:s.m<=1000):u6 ts s=eI s 0 0 1 0:=by
 unfold u6 eI;rw[aP J,Am h b];simp
theorem auk{s:Sx}(h:s.fc=0){m}(l:I m.acts<=s.a)(o:s.a<=1000)(C:1<=s.m)(w:s.m<=1000)(c:mz m=aE)(n:UQ m){A}(d:At ts s.i (QU m++A)):
  dc ts s [CL,iV,jD]=m.k.toNat/\1<=m.k/\MvE aL m (qJ ts m.k s).1/\(qJ ts m.k s).2=eI s (I (QU m)) (I m.acts) 1 0:=by
 have f:=c;unfold mz at f;simp only[aR]at f;obtain⟨⟨⟨⟨⟨g,a⟩,_⟩,_⟩,_⟩,i⟩:=f;have g:=aO g;have i:=aO i;unfold QU at d⊢;rw[bq]at d;unfold qJ;rw[abL (ts:=ts) hE h C w,aP (λe=>e h)];generalize R:gdK m++_=j at*
 unfold hdK at d⊢;by_cases b:m.k=1
 ·rw[aV b]at d a⊢;rw[aV b];refine⟨by rw[eK h d,b];decide,J,?_⟩;rw[jZ,dA,xD (s:=eI s _ _ _ _) h d.tail];rw[dA];obtain⟨q,r,e,k,p⟩:=Iz hE (s:=eI s (0+1+1) (0+0+0) _ _) h m {Wb m.k (tk ts s.i).a with ev:=m.ev} aai aai c n (by rw[R];exact d.tail.tail) rfl rfl rfl rfl;rw[e,R,dA];refine⟨⟨rfl,rfl,?_,rfl,k,p,rfl,Iy⟩,?_⟩
  ·show m.wt=0;omega
  dsimp only;congr 1<;>(try simp)<;>omega
 rw[aP b]at d a⊢;rw[aP b];have a:=aO a;by_cases k3:m.k=3
 ·rw[aV k3]at d⊢;rw[aV k3];refine⟨by rw[eK h d,k3];decide,J,?_⟩;obtain⟨u,e,p⟩:=xC (s:=eI s _ _ _ _) (k:=3) h d.tail rfl;rw[jZ,dA,e,p];rw[dA];obtain⟨v,x,q,r,t⟩:=Iz hE (s:=eI s (0+1+1) (0+0+0) _ _) h m {Wb m.k (tk ts s.i).a with wt:=m.wt} aai aai c n (by rw[R];exact d.tail.tail) rfl rfl rfl rfl;rw[q,R,dA];refine⟨⟨rfl,a,rfl,rfl,r,t,rfl,Iy⟩,?_⟩;dsimp only;congr 1<;>(try simp)<;>omega
 rw[aP k3]at d⊢;rw[aP k3];have q:m.k=2:=J
 refine⟨by rw[eK h d,q];decide,J,?_⟩;rw[jZ,dA];obtain⟨r,t,e,k,p⟩:=Iz hE (s:=eI s _ (0+0) _ _) h m (Wb m.k (tk ts s.i).a) aai aai c n (by rw[R];exact d.tail) rfl rfl rfl rfl;rw[e,R,dA];refine⟨⟨rfl,a,?_,rfl,k,p,rfl,Iy⟩,?_⟩
 ·show m.wt=0;omega
 dsimp only;congr 1<;>(try simp)<;>omega
end
end Go.Proofs.YtfemabakfkliiaaGreatDoor.Con
