import Derived.Test.YtpbgcbdclnfpnaaGreatDoorQr7
set_option linter.unusedSectionVars false
set_option linter.unusedSimpArgs false
set_option linter.unusedVariables false
set_option maxHeartbeats 4000000
set_option maxRecDepth 100000
open Go.Value renaming int->O,string->ah,pointer->ai,agg->aj,tuple->ak,bool->ao
open Go.IntKind renaming i64->ae,wrap->av
open Go.Ending renaming returned->aq
open _root_.ByteArray renaming mk->ar
open _root_.Go.Proofs.Tryz renaming prog->au
open Go.Instr renaming buildSlice->aw
open Go renaming World->ay,Value->az,Calls->aB
open Go.Kt renaming Only->aA,SliceF->aD,Cells->aE,OnlyP->aF,Blk->aH
open Go renaming World->ay,Value->az
namespace Go.Proofs.YtpbgcbdclnfpnaaGreatDoor.Con
open Go Go.RowKit Go.Kt Go.Kt.V Go.Proofs.YtpbgcbdclnfpnaaGreatDoor.Vc
section
def AZ:List Mv->Nat
 | []=>0
 | m::l=>NW m+AZ l
def G6(b:Nb):Nat:=((b.nm.length+b.ini.length)+(b.dft.length+1))+((kg b.en+kg b.lv)+AZ b.mv)
mutual
def pD:Nd->Nat
 | .mk b l=>G6 b+iU l
def iU:List Nd->Nat
 | []=>0
 | x::l=>pD x+iU l
end
theorem vS{m:Mv}:∀{l:List Mv},m∈l->NW m<=AZ l
 | [],h=>abk
 | x::l,h=>by
  rw[AZ];rcases aR.1 h with rfl | h
  ·omega
  have:=vS h;omega
theorem oq:∀(l:List Mv),l.length<=AZ l
 | []=>bB _
 | m::l=>by
  have:=oq l;rw[AZ,bp];unfold NW;omega
theorem qu{x:Nd}:∀{l:List Nd},x∈l->pD x<=iU l
 | [],h=>abk
 | y::l,h=>by
  rw[iU];rcases aR.1 h with rfl | h
  ·omega
  have:=qu h;omega
theorem VK(x:Nd):1<=pD x:=by
 obtain⟨b,l⟩:=x;rw[pD];unfold G6;omega
theorem vT:∀(l:List Nd),l.length<=iU l
 | []=>bB _
 | x::l=>by
  have:=vT l;have:=VK x;rw[iU,bp];omega
theorem G7{x:Nd}:∀{l:List Nd},AP l->x∈l->Lr x
 | [],_,h=>abk
 | y::l,hn,h=>by
  rw[AP]at hn;rcases aR.1 h with rfl | h
  ·exact hn.1
  exact G7 hn.2 h
theorem A0(d:Nat)(x:Nd):∀l:List Nd,nE d (l++[x])=(nE d l&&qn d x)
 | []=>by simp[nE]
 | y::l=>by rw[cp,nE,nE,A0 d x l,B3]
theorem CH(x:Nd):∀l:List Nd,uO (l++[x])=uO l+CA x
 | []=>by simp[uO]
 | y::l=>by rw[cp,uO,uO,CH x l];omega
theorem CI(d:Nat)(x:Nd):∀l:List Nd,yE d (l++[x])=yE d l++ndL d x
 | []=>by simp[yE]
 | y::l=>by rw[cp,yE,yE,CI d x l,bR]
def yG(x:Nb)(ks:List Nd)(d:Nat):Bool:=(decide (x.ini=[])||eZ x.ini)&&(x.en.all mU&&(x.lv.all mU&&(x.mv.all AN&&nE d ks)))
theorem mc(l:aJ)(p:Ln):iJ l [p]=qo l p:=rfl
theorem RM(l:List Ac):FX l≠[]:=by unfold FX;simp
theorem vU{cN:St}{l l1 l2:aJ}{L M:List Ln}{Fv:St}{c:Bool}{n:Nat}(hU:Up Fv c n cN)(h1:Fv.1=false->l1=iJ l L)(h2:cN.1=false->l2=iJ l1 M):cN.1=false->l2=iJ l (L++M):=λe=>by
 rw[h2 e,h1 (hU.ok e).1,jS]
def RN(D:Nat):Prop:=∀(w0 w:ay) (b:Nat) (l:aJ) (st:St) (F:aL) (x:Nd) (cs:aK) (d:Nat),Qz w0 b w l st->pC false D w F x cs->(∀k,F k->k<w0.heap.size)->Lr x->pD x<=8388608->d<=12->Er w0->Tb w0->
 aB au 183 #[rp b,aj cs.toArray,O ae (d:Int)] w λe w'=>e=aq (ak #[])/\∃cN l',Up st (qn d x) (CA x) cN/\(cN.1=false->l'=iJ l (ndL d x))/\Qz w0 b w' l' cN/\Mw false b w w'
section
variable {w0 w:ay} {b:Nat} {l:aJ} {st:St}
theorem RO{D:Nat}(hN:RN D)(h:Qz w0 b w l st){F:aL}{x:Nb}{en lv mv kids:Sl}{ks:List Nd}(hb:Ed false w F x en lv mv)(hk:jR false (pC false D) 9 27 w F kids ks)(hF:∀k,F k->k<w0.heap.size)(hn:nbN x)(PC:AP ks)(hs:G6 x+iU ks<=8388608)(d:Nat)(hd:d<=12)(hE:Er w0)(hT:Tb w0):
  aB au 145 #[rp b,aj (oC x.k x.nm x.ini x.dft en lv mv kids x.a).toArray,O ae (d:Int)] w λe w'=>e=aq (ak #[])/\∃cN l',Up st (yG x ks d) (XU x+uO ks) cN/\(cN.1=false->l'=iJ l (nbL d x++yE d ks))/\Qz w0 b w' l' cN/\Mw false b w w':=by
 have Fx:=hs;unfold G6 at Fx;have Dc:=oq x.mv;have Px:=vT ks;obtain⟨Fg,HV,rW⟩:=hb;have Fg:=Fg.1;have HV:=HV.1;have rW:=rW.1;have hk:=hk.1;refine ret (ak9 _ _ _ _ _ _ _ _ _ _ _ _ _ ?_);intro k0 w1 hY fA cJ;have t1:=(h.z false).al cJ hY fA;rw[show ar #[]=T []from rfl,mE];refine⟨λw'=>∃Fv l1,Up st (decide (x.ini=[])||eZ x.ini) 0 Fv/\(Fv.1=false->l1=iJ l (VA d x))/\Zq false w0 w b w' l1 Fv [k0],?_,λhc=>?_,λhc=>?_⟩
 ·rintro w2 ⟨uU,l2,hU2,Ti,t2⟩;refine(Es t2.toQz (SliceF.keep (dV false) Fg aN λk hk _=>h.arg t2.toQz (hF k hk)) hF hn.en aG hE hT).mono ?_;rintro _ w3 ⟨tx3,SI,rfl,tl3,tt3,hU3,q3,m3⟩;have t3:=t2.nx q3 m3.up;refine⟨_,rfl,t2.sm m3 aaa,(AY t3.toQz d hd j6 tx3 aN aG).mono ?_⟩;rintro _ w4 ⟨rfl,q4,m4⟩;have t4:=t3.nx q4 m4;have hl4:SI.1=false->(if SI.1||decide (tx3=[])then l2 else qo l2 (d,fO [j6,tx3]))=iJ l2 (enL d x):=λe=>by
   rw[e,tt3 e];unfold enL;by_cases he:x.en=[]
   ·rw[aZ he,aZ he];rfl
   rw[aX he,aX he,bH (RM _),aX aN,mc,pj aN,fK (by rfl),eG,fJ,ma,bS]
  generalize (if SI.1||decide (tx3=[])then l2 else qo l2 (d,fO [j6,tx3]))=l4 at*
  refine⟨rfl,t3.sm m4 aaa,(Es t4.toQz (SliceF.keep (dV false) HV aN λk hk _=>h.arg t4.toQz (hF k hk)) hF hn.lv aG hE hT).mono ?_⟩;rintro _ w5 ⟨tx5,WX,rfl,tl5,tt5,hU5,q5,m5⟩;have t5:=t4.nx q5 m5.up;refine⟨_,rfl,t4.sm m5 aaa,(AY t5.toQz d hd j7 tx5 aN aG).mono ?_⟩;rintro _ w6 ⟨rfl,q6,m6⟩;have t6:=t5.nx q6 m6;have hl6:WX.1=false->(if WX.1||decide (tx5=[])then l4 else qo l4 (d,fO [j7,tx5]))=iJ l4 (lvL d x):=λe=>by
   rw[e,tt5 e];unfold lvL;by_cases he:x.lv=[]
   ·rw[aZ he,aZ he];rfl
   rw[aX he,aX he,bH (RM _),aX aN,mc,pj aN,fK (by rfl),eG,fJ,ma,bS]
  generalize (if WX.1||decide (tx5=[])then l4 else qo l4 (d,fO [j7,tx5]))=l6 at*
  have hL4:=vU hU3 Ti hl4;have OM:=vU hU5 hL4 hl6;refine⟨rfl,t5.sm m6 aaa,λnv i w'=>∃(j:Nat) (cN:St) (l':aJ),i=j/\j<=x.mv.length/\nv=x.mv.length-j/\Up WX ((x.mv.take j).all AN) ((x.mv.take j).map λm=>m.acts.length).sum cN/\(cN.1=false->l'=iJ l6 ((x.mv.take j).map λm=>(d,Ub m)))/\Zq false w0 w b w' l' cN [k0],
   x.mv.length,⟨0,WX,l6,rfl,bB _,rfl,t6.toQz.up0,λ_=>rfl,t6⟩,?_⟩
  rintro nv _ w7 ⟨j,YQ,l7,rfl,hj,rfl,M7,hl7,t7⟩;have asC:=rW.len;have aoO:aD (Ll false) 13 w7 F mv x.mv:=SliceF.keep (mT false) rW aN λk hk _=>h.arg t7.toQz (hF k hk);refine⟨λhc=>?_,λhc=>?_⟩
  ·have cd:(j:Int)<mv.n:=aP hc;obtain⟨ad,m,cs,g1,g2,g3,g4,g5,g6⟩:=aoO.get (bE j) cd;rw[aV]at g2;have hmm:=bD g2;have hms:=vS hmm;have nI:x.mv.take (j+1)=x.mv.take j++[m]:=by
    rw[bF,g2];rfl
   have g6':=g6;obtain⟨gc,uh,tg,rfl,r1,r2,r3⟩:=g6';obtain⟨gl,rfl⟩:=jc r1;refine⟨ad,g1,_,_,_,_,_,_,_,_,_,_,_,_,_,g5,λk3 w8 zo xN fV=>?_⟩;have t8:=t7.al fV zo xN;refine(aar t8.toQz ((mT false).keep g6 λk _ cd=>fV.block k cd aaa) hF (hn.mv m hmm) aG hE hT).mono ?_;rintro _ w9 ⟨tx9,st9,rfl,tl9,tt9,YR,q9,m9⟩;have t9:=t8.nx q9 m9.up;have iY:=iK [tx9];simp only[bG,fN,cD,iB]at iY;obtain⟨q10,dR,e10,eO,acw⟩:=yh t9.toQz [tx9] (n:=1) (parts:=#[.mk 0 (ah (T tx9))]) rfl rfl aN aN d hd aG;refine⟨_,rfl,t8.sm m9 aaa,q10,dR,e10,t9.sq eO aaa,acw.mono ?_⟩;rintro _ dS ⟨rfl,q11,m11⟩;have t11:=t9.nx q11 m11;refine⟨rfl,t9.sl eO m11 aaa,x.mv.length-(j+1),aG,j+1,st9,_,aaq,aG,rfl,(M7.tr YR).cg ?_ ?_,λe=>?_,⟨t11.toQz,t11.m,λk hk=>t11.k k adj⟩⟩
   ·rw[nI,zx];simp
   ·rw[nI,dc,List.sum_append];simp
   rw[e,aX aN,hl7 (YR.ok e).1,nI,dc,jS,tt9 e];show _=qo _ (d,Ub m);have:ne (Ub m)=true:=by
    have:Ub m≠[]:=by unfold Ub;simp
    unfold ne;rw[bH this];rfl
   rw[pj this,eG,ma,bS]
  have mQ:¬(j:Int)<mv.n:=aY hc;have qJ:j=x.mv.length:=aG
  subst qJ;rw[bq (ba _)]at M7 hl7;have Fh:=vU M7 OM hl7;refine⟨λnv i w'=>∃(j:Nat) (cN:St) (l':aJ),i=j/\j<=ks.length/\nv=ks.length-j/\Up YQ (nE d (ks.take j)) (uO (ks.take j)) cN/\(cN.1=false->l'=iJ l7 (yE d (ks.take j)))/\Zq false w0 w b w' l' cN [k0],
   ks.length,⟨0,YQ,l7,rfl,bB _,rfl,by rw[da,nE,uO];exact t7.toQz.up0,λ_=>by rw[da,yE];rfl,t7⟩,?_⟩
  rintro nv _ dS ⟨j,acx,pK,rfl,hj,rfl,W4,acy,t11⟩;have asD:=hk.len;have aoQ:aD (pC false D) 9 dS F kids ks:=SliceF.keep (cX false D) hk aN λk hk _=>h.arg t11.toQz (hF k hk);refine⟨λhc=>?_,λhc=>?_⟩
  ·have cd:(j:Int)<kids.n:=aP hc;obtain⟨ad,y,cs,g1,g2,g3,g4,g5,g6⟩:=aoQ.get (bE j) cd;rw[aV]at g2;have hym:=bD g2;have hys:=qu hym;have nI:ks.take (j+1)=ks.take j++[y]:=by
    rw[bF,g2];rfl
   have g6':=g6;cases D with
   | zero=>exact g6'.elim
   | succ D=>
   obtain⟨yP,yQ,tW,lK,rfl,_⟩:=g6';refine⟨ad,g1,_,_,_,_,yP,yQ,tW,lK,_,g5,λk7 fp hk7 ah9 fu=>?_⟩;have t12:=t11.al fu hk7 ah9;refine(hN _ _ _ _ _ _ _ _ d t12.toQz ((cX false _).keep g6 λk _ cd=>fu.block k cd aaa) hF (G7 PC hym) aG hd hE hT).mono ?_;rintro _ fD ⟨rfl,acz,xI,aia,aoR,q13,m13⟩;have t13:=t12.nx q13 m13;refine⟨rfl,t12.sm m13 aaa,ks.length-(j+1),aG,j+1,acz,xI,aaq,aG,rfl,(W4.tr aia).cg ?_ ?_,λe=>?_,⟨t13.toQz,t13.m,λk hk=>t13.k k adj⟩⟩
   ·rw[nI,A0]
   ·rw[nI,CH]
   rw[aoR e,acy (aia.ok e).1,nI,CI,jS]
  have mQ:¬(j:Int)<kids.n:=aY hc;have qJ:j=ks.length:=aG
  subst qJ;rw[bq (ba _)]at W4 acy;have yR:=vU W4 Fh acy;refine⟨rfl,acx,pK,(hU2.tr (hU3.tr (hU5.tr (M7.tr W4)))).cg rfl ?_,λe=>?_,t11.toQz,t11.m⟩
  ·unfold XU;omega
  rw[yR e];unfold nbL mvL;simp only[bR]
 ·have hc:x.ini≠[]:=aaw
  refine(mz t1.toQz x.ini aG).mono ?_;rintro _ w2 ⟨rfl,uU,hU2,q2,m2⟩;have t2:=t1.nx q2 m2.up;refine⟨_,rfl,t1.sm m2 aaa,abC,?_⟩;rw[show ar #[59]=T [59]from rfl,lG];refine(AY t2.toQz d hd im (x.ini++[59]) aN abo).mono ?_;rintro _ w3 ⟨rfl,q3,m3⟩;refine⟨rfl,t2.sm m3 aaa,uU,_,hU2.cg (by rw[bH hc,nf]) rfl,λe=>?_,t2.nx q3 m3⟩;have fX:x.ini++[59]≠[]:=aaa
  have JI:ne (x.ini++[59])=true:=by unfold ne;rw[bH fX];rfl
  rw[e,bH fX,aX aN,pj aN,fK JI,eG,fJ,ma,bS];unfold VA;rw[aX hc];rfl
 have hc:x.ini=[]:=aaw
 refine⟨st,l,h.up0.cg (by rw[bL hc];rfl) rfl,λ_=>by unfold VA;rw[aZ hc];rfl,t1⟩
end
theorem Up.more{st cN:St}{c:Bool}{n:Nat}(h:Up st c 0 cN)(hn:c=true->n=0):Up st c n cN:=by
 cases c with
 | true=>rw[hn rfl];exact h
 | false=>
  refine⟨?_,λe=>?_⟩
  ·rw[h.w];simp
  have:=h.w;rw[e]at this;simp at this
def X5:List (aJ):=[[],D6,tI,vL,K7]
theorem afW{k:Int}(h1:1<=k)(h2:k<=4):X5[k.toNat]? =some (kW k):=by
 have:k=1∨k=2∨k=3∨k=4:=aG
 rcases this with rfl | rfl | rfl | rfl<;>rfl
theorem X6(k:Int):ne (kW k)=true:=by
 unfold kW;split
 ·rfl
 split
 ·rfl
 split
 ·rfl
 rfl
theorem aas(k:Int):(kW k).length<=8:=by
 unfold kW;split
 ·decide
 split
 ·decide
 split
 ·decide
 decide
theorem LY{d:Nat}{b:Nb}{l:List Nd}(hk:b.k=1∨b.k=2)(hd:d<12):((decide (b.dft=[])&&eZ b.nm)&&yG b l (d+1))=qn d (.mk b l):=by
 have hh:fM b.k=false:=acW
 rw[qn,bL hd,db];unfold AO yG;rw[hh,aX aN];have:decide ((b.k=1∨b.k=2)/\b.dft=[])=decide (b.dft=[]):=by simp[hk]
 rw[this];generalize decide (b.dft=[])=A;generalize eZ b.nm=B;generalize (decide (b.ini=[])||eZ b.ini)=C;generalize b.en.all mU=D;generalize b.lv.all mU=E;generalize b.mv.all AN=G;generalize nE (d+1) l=H;cases A<;>cases B<;>cases C<;>cases D<;>cases E<;>cases G<;>cases H<;>rfl
theorem L0{d:Nat}{b:Nb}{l:List Nd}(hk:b.k=3∨b.k=4)(hd:d<12):(((decide (b.ini=[])&&decide (b.en=[]/\b.lv=[]/\b.mv=[]/\l=[]))&&eZ b.nm)&&eZ b.dft)=qn d (.mk b l):=by
 have hh:fM b.k=true:=by unfold fM;exact bL hk
 rw[qn,bL hd,db];unfold AO;rw[hh,aZ rfl];by_cases hl:l=[]
 ·subst hl;have:decide (b.ini=[]/\b.en=[]/\b.lv=[]/\b.mv.length=0/\([]:List Nd).length=0)=(decide (b.ini=[])&&decide (b.en=[]/\b.lv=[]/\b.mv=[]/\([]:List Nd)=[])):=by
   rw[bT];simp
  rw[this,nE];generalize decide (b.ini=[])=A;generalize decide (b.en=[]/\b.lv=[]/\b.mv=[]/\([]:List Nd)=[])=B;cases A<;>cases B<;>cases eZ b.nm<;>cases eZ b.dft<;>rfl
 have h1:decide (b.en=[]/\b.lv=[]/\b.mv=[]/\l=[])=false:=bH λh=>hl h.2.2.2;have h2:decide (b.ini=[]/\b.en=[]/\b.lv=[]/\b.mv.length=0/\l.length=0)=false:=bH λh=>hl (bQ h.2.2.2.2);rw[h1,h2];simp
theorem L1{d:Nat}{b:Nb}{l:List Nd}(h:¬(1<=b.k/\b.k<=4)∨12<=d):qn d (.mk b l)=false:=by
 rw[qn];rcases h with h | h
 ·have hh:fM b.k=false:=acW
  have:decide ((b.k=1∨b.k=2)/\b.dft=[])=false:=bH aG;unfold AO;rw[hh,aX aN,this];simp
 rw[bH aG];rfl
theorem L2:∀D,RN D
 | 0=>by
  intro w0 w b l st F x cs d h hx;exact hx.elim
 | D+1=>by
  intro w0 w b l st F x cs d h hx hF hn hs hd hE hT;obtain⟨bb,ks⟩:=x;have hx0:=hx;obtain⟨en,lv,mv,kids,rfl,xG,uC⟩:=hx;have xG:Ed false w F bb en lv mv:=xG;have uC:jR false (pC false D) 9 27 w F kids ks:=uC;show aB au 183 #[rp b,aj (oC bb.k bb.nm bb.ini bb.dft en lv mv kids bb.a).toArray,O ae (d:Int)] w _;rw[Lr]at hn;rw[pD]at hs;have Fx:=hs;unfold G6 at Fx;refine ret (afz _ _ _ _ _ _ _ _ _ _ _ _ _ ?_);intro k0 w1 hY fA cJ;have t1:=(h.z false).al cJ hY fA;obtain⟨q,sl,hB,_⟩:=t1.toQz.set;have bad:∀{w':ay} {cN:St} {lx:aJ},cN.1=true->Zq false w0 w b w' lx cN [k0]->(st.1=true∨qn d (.mk bb ks)=false)->∃cN l',Up st (qn d (.mk bb ks)) (CA (.mk bb ks)) cN/\(cN.1=false->l'=iJ l (ndL d (.mk bb ks)))/\Qz w0 b w' l' cN/\Mw false b w w':=by
   intro w' cN lx e t hc;refine⟨cN,lx,⟨?_,λe2=>absurd (e.symm.trans e2) aN⟩,λe2=>absurd (e.symm.trans e2) aN,t.toQz,t.m⟩;rw[e];rcases hc with hc | hc
   ·rw[hc];rfl
   rw[hc];simp
  refine⟨st.1,Blk.eE hB 2 rfl,λhc=>?_,λhc=>?_⟩
  ·refine(jT t1.toQz false).mono ?_;rintro _ w2 ⟨rfl,uU,u1,u2,u3⟩;refine⟨rfl,t1.sm u3 aaa,rfl,bad (by rw[u1.w];simp) (t1.nx u2 u3.up) ?_⟩;rw[bU]at hc;rcases hc with hc | hc
   ·exact .inl hc
   exact .inr (L1 (.inr abt))
  rw[fT]at hc;have acA:d<12:=by have:=aY hc.2;omega
  obtain⟨q2,w2,g,cs,e2,dw,Bs,OC,qG,Wu⟩:=RE w1 X5 (n:=5) (parts:=#[.mk 0 (ah (ar #[])),.mk 1 (ah (ar #[115,116,97,116,101])),.mk 2 (ah (ar #[112,97,114,97,108,108,101,108])),.mk 3 (ah (ar #[104,105,115,116,111,114,121])),.mk 4 (ah (ar #[100,101,101,112]))]) rfl rfl aN aN;have t2:=t1.al dw Bs OC;have hwd:1<=bb.k/\bb.k<=4->dI q2 bb.k 1 ⟨g,bb.k.toNat,none⟩/\∀w',aH w' g 9 cs->aE w' ⟨g,bb.k.toNat,none⟩ [ah (T (kW bb.k))]:=λhk=>by
   have:=Wu _ _ (afW hk.1 hk.2);rwa[jM aG]at this
  have Px:=aas bb.k;have z2:∀{w3:ay},aA [] w2 w3->aH w3 g 9 cs:=λhO=>hO.blk qG aaa;have z2m:∀{w3 w4:ay} {lx:aJ} {sx:St} {f:Bool},Zq false w0 w b w3 lx sx [g,k0]->Mw f b w3 w4->aH w3 g 9 cs->aH w4 g 9 cs:=λt m hB=>(t.sm (ks':=[g]) m aaa g aaa).trans hB;refine⟨q2,w2,e2,t1.sq dw aaa,λb1 w3=>w2=w3/\b1=decide (bb.k=1∨bb.k=2),?_,λtu=>⟨rfl,?_⟩,λtu=>⟨rfl,?_⟩⟩
  ·rintro b1 _ ⟨rfl,rfl⟩;refine⟨λTQ=>?_,λTQ=>?_⟩
   ·have hk:=aP TQ;have hkr:1<=bb.k/\bb.k<=4:=aG
    obtain⟨y1,y2⟩:=hwd hkr;rw[show ar #[]=T []from rfl,mE];refine(jT t2.toQz _).mono ?_;rintro _ w4 ⟨rfl,JW,u1,u2,u3⟩;have t4:=t2.nx u2 u3.up;refine⟨rfl,t2.sm u3 aaa,λw5 eK=>⟨λk=>k∈[k0,g],aaa,_,y1,aaa,_,y2 w5 (eK.blk (z2m t2 u3 qG) aaa),?_⟩⟩;have t5:=t4.q eK;refine(mz t5.toQz bb.nm aG).mono ?_;rintro _ w6 ⟨rfl,st6,v1,v2,v3⟩;have t6:=t5.nx v2 v3.up;have iY:=iK [kW bb.k,bb.nm,[123]];simp only[bG,fN,cD,iB,bp,di]at iY;obtain⟨q7,w7,e7,fL,hj7⟩:=yh t6.toQz [kW bb.k,bb.nm,[123]] (n:=3) (parts:=#[.mk 0 (ah (T (kW bb.k))),.mk 1 (ah (T bb.nm)),.mk 2 (ah (T [123]))]) rfl rfl aN aN d hd aG;refine⟨_,rfl,t5.sm v3 aaa,bP.of (t5.sm v3 aaa),q7,w7,e7,t6.sq fL aaa,bP.of (t6.sq fL aaa),hj7.mono ?_⟩;rintro _ w8 ⟨rfl,x1,x2⟩;have t8:=t6.nx x1 x2;have hl8:st6.1=false->(if st6.1 then l else qo l (d,fO [kW bb.k,bb.nm,[123]]))=iJ l [(d,kW bb.k++32::(bb.nm++[32,123]))]:=λe=>by
     rw[e,aX aN,mc,pj (X6 _),fK (ri (v1.ok e).2.1),fK (by rfl),eG,fJ,fJ,ma];rfl
    generalize (if st6.1 then l else qo l (d,fO [kW bb.k,bb.nm,[123]]))=l8 at*
    have ed:av ae ((d:Int)+1)=((d+1:Nat):Int):=aaq
    rw[ed];refine⟨rfl,t6.sl fL x2 aaa,bP.of (t6.sl fL x2 aaa),(RO (L2 D) t8.toQz (xG.keep λk hk _=>h.arg t8.toQz (hF k hk)) (uC.keep (cX false D) aN λk hk _=>h.arg t8.toQz (hF k hk)) hF hn.1 hn.2 hs (d+1) aG hE hT).mono ?_⟩;rintro _ w9 ⟨rfl,st9,l9,YR,hl9,y3,y4⟩;have t9:=t8.nx y3 y4;obtain⟨q10,dR,e10,eO,acw⟩:=yh t9.toQz [[125]] (n:=1) (parts:=#[.mk 0 (ah (T [125]))]) rfl rfl aN aN d hd aN;refine⟨rfl,t8.sm y4 aaa,q10,dR,e10,t9.sq eO aaa,acw.mono ?_⟩;rintro _ dS ⟨rfl,x3,x4⟩;have t11:=t9.nx x3 x4;refine⟨rfl,t9.sl eO x4 aaa,rfl,st9,_,((u1.tr v1).tr YR).cg (LY hk acA) (by rw[CA];omega),λe=>?_,t11.toQz,t11.m⟩;have hh:fM bb.k=false:=acW
    rw[ndL,hh,e];simp only[kq,jX];rw[hl9 e,hl8 (YR.ok e).1,<-jS];have e1:fO [[125]]=[125]:=aN
    rw[e1,<-mc,<-jS];simp only[bR,cp,cE]
   have PC:=aY TQ;refine⟨λb2 fp=>w2=fp/\b2=decide (bb.k=3∨bb.k=4),?_,λhc4=>⟨rfl,?_⟩,λhc4=>⟨rfl,?_⟩⟩
   ·rintro b2 _ ⟨rfl,rfl⟩;refine⟨λhc5=>?_,λhc5=>?_⟩
    ·have hk:=aP hc5;have hkr:1<=bb.k/\bb.k<=4:=aG
     obtain⟨y1,y2⟩:=hwd hkr;have n4:=xG.1.1.len;have n5:=xG.2.1.1.len;have n6:=xG.2.2.1.len;have n7:=uC.1.len;have a4:=oo bb.en;have a5:=oo bb.lv;have a6:=oq bb.mv;have a7:=vT ks;have aoV:(av ae ((av ae ((av ae ((en.n:Int)+(lv.n:Int)))+(mv.n:Int)))+(kids.n:Int))==0)=decide (bb.en=[]/\bb.lv=[]/\bb.mv=[]/\ks=[]):=by
      rw[gF (x:=(en.n:Int)+(lv.n:Int)) aG aG,gF (x:=(en.n:Int)+(lv.n:Int)+(mv.n:Int)) aG aG,gF aG aG,bT];simp only[de,bJ];refine⟨λe=>?_,λ⟨e1,e2,e3,e4⟩=>?_⟩
      ·exact⟨bQ aG,bQ aG,bQ aG,bQ aG⟩
      rw[n4,n5,n6,n7,e1,e2,e3,e4];rfl
     rw[show ar #[]=T []from rfl,mE,aoV];refine(jT t2.toQz _).mono ?_;rintro _ fD ⟨rfl,acz,u1,u2,u3⟩;have t13:=t2.nx u2 u3.up;refine⟨rfl,t2.sm u3 aaa,λfP eH=>⟨λk=>k∈[k0,g],aaa,_,y1,aaa,_,y2 fP (eH.blk (z2m t2 u3 qG) aaa),aaa,?_⟩⟩;have t14:=t13.q eH;refine(mz t14.toQz bb.nm aG).mono ?_;rintro _ iP ⟨rfl,av5,v1,v2,v3⟩;have t15:=t14.nx v2 v3.up;refine⟨_,rfl,t14.sm v3 aaa,bP.of (t14.sm v3 aaa),(mz t15.toQz bb.dft aG).mono ?_⟩;rintro _ jl ⟨rfl,aoW,x1,x2,x3⟩;have t16:=t15.nx x2 x3.up;have iY:=iK [kW bb.k,bb.nm,[45,62],bb.dft++[59]];simp only[bG,fN,cD,iB,bp,di,aW]at iY;obtain⟨q17,gN,e17,lp,aoX⟩:=yh t16.toQz [kW bb.k,bb.nm,[45,62],bb.dft++[59]] (n:=4) (parts:=#[.mk 0 (ah (T (kW bb.k))),.mk 1 (ah (T bb.nm)),.mk 2 (ah (T [45,62])),.mk 3 (ah (T (bb.dft++[59])))]) rfl rfl aN aN d hd aG;refine⟨T bb.dft,rfl,t15.sm x3 aaa,bP.of (t15.sm x3 aaa),abC,q17,gN,by rw[show ar #[59]=T [59]from rfl,lG];exact e17,t16.sq lp aaa,bP.of (t16.sq lp aaa),aoX.mono ?_⟩;rintro _ jL ⟨rfl,y3,y4⟩;have t18:=t16.nx y3 y4;have hU:=((u1.tr v1).tr x1).cg (L0 hk acA) rfl;refine⟨rfl,t16.sl lp y4 aaa,bP.of (t16.sl lp y4 aaa),rfl,aoW,_,hU.more λmP=>?_,λe=>?_,t18.toQz,t18.m⟩
     ·rw[<-L0 hk acA]at mP;simp only[aU,bJ]at mP;obtain⟨⟨⟨_,e1,e2,e3,e4⟩,_⟩,_⟩:=mP;rw[CA,e4,uO];unfold XU;rw[e1,e2,e3];rfl
     have hh:fM bb.k=true:=by unfold fM;exact bL hk
     have JI:ne (bb.dft++[59])=true:=by
      have:bb.dft++[59]≠[]:=aaa
      unfold ne;rw[bH this];rfl
     rw[ndL,hh,aZ rfl,e,aX aN,mc,pj (X6 _),fK (ri (v1.ok (x1.ok e).1).2.1),fK (by rfl),fK JI,eG,fJ,fJ,fJ,ma,bS];rfl
    have av7:=aY hc5;refine(jT t2.toQz false).mono ?_;rintro _ fD ⟨rfl,acz,u1,u2,u3⟩;have t13:=t2.nx u2 u3.up;exact⟨rfl,t2.sm u3 aaa,rfl,bad (by rw[u1.w];simp) ⟨t13.toQz,t13.m,λk hk=>t13.k k adj⟩ (.inr (L1 (.inl aG)))⟩
   ·have:bb.k=3:=by simpa using hc4
    rw[hc4,bL (.inl this)]
   have:bb.k≠3:=by simpa using hc4
   rw[bT];simp[this]
  ·have:bb.k=1:=by simpa using tu
   rw[tu,bL (.inl this)]
  have:bb.k≠1:=by simpa using tu
  rw[bT];simp[this]
mutual
theorem aat:∀x:Nd,jd x<=pD x
 | .mk b l=>by
  rw[jd,pD];have:=vV l;unfold G6;omega
theorem vV:∀l:List Nd,fe l<=iU l
 | []=>by rw[fe];exact bB _
 | x::l=>by
  rw[fe,iU];exact lw (aat x) (vV l)
end
mutual
theorem aau:∀x:Nd,BC x<=pD x
 | .mk b l=>by
  rw[BC,pD];have:=vW l;have:=oq b.mv;unfold G6;omega
theorem vW:∀l:List Nd,xf l<=iU l
 | []=>by rw[xf];exact bB _
 | x::l=>by
  rw[xf,iU];exact lw (aau x) (vW l)
end
theorem xi(x:Nd):∀l:List Nd,fe (l++[x])=fe l+jd x
 | []=>by simp[fe]
 | y::l=>by rw[cp,fe,fe,xi x l];omega
theorem xj(x:Nd):∀l:List Nd,xf (l++[x])=xf l+BC x
 | []=>by simp[xf]
 | y::l=>by rw[cp,xf,xf,xj x l];omega
theorem A1:∀l m:List Nd,iU (l++m)=iU l+iU m
 | [],m=>by rw[cE,iU];omega
 | y::l,m=>by rw[cp,iU,iU,A1 l m];omega
theorem L3:∀(D:Nat) (w:ay) (F:aL) (x:Nd) (cs:aK),pC false D w F x cs->pD x<=8388608->aB au 140 #[aj cs.toArray] w λe w'=>e=aq (ak #[O ae (jd x:Int),O ae (BC x:Int)])/\aA [] w w'
 | 0,w,F,x,cs,hx,_=>hx.elim
 | D+1,w,F,x,cs,hx,hs=>by
  obtain⟨bb,ks⟩:=x;obtain⟨en,lv,mv,kids,rfl,xG,uC⟩:=hx;have rW:=xG.2.2.1;have rW:aD (Ll false) 13 w F mv bb.mv:=rW;have hk:aD (pC false D) 9 w F kids ks:=uC.1;show aB au 140 #[aj (oC bb.k bb.nm bb.ini bb.dft en lv mv kids bb.a).toArray] w _;refine ret (afl _ _ _ _ _ _ _ _ _ _ _ ?_);have z1:=vV ks;have z2:=vW ks;have z3:=oq bb.mv;rw[pD]at hs;have Fx:=hs;unfold G6 at Fx;have n6:=rW.len;have n7:=hk.len;have z4:=vT ks;intro k0 w1 hY fA cJ w2 dw;refine⟨λnv a m i w'=>∃j:Nat,i=j/\j<=ks.length/\nv=ks.length-j/\a=(1+fe (ks.take j):Nat)/\m=(bb.mv.length+xf (ks.take j):Nat)/\k0<w'.heap.size/\aA [] w w',ks.length,⟨0,rfl,bB _,rfl,by rw[da,fe];rfl,by rw[da,xf,n6];rfl,cq fA dw.size,cJ.cy dw⟩,?_⟩;rintro nv _ _ _ w3 ⟨j,rfl,hj,rfl,rfl,rfl,zo,dE⟩;have av8:iU ks=iU (ks.take j)+iU (ks.drop j):=by rw[<-A1,du]
  have y1:=vV (ks.take j);have y2:=vW (ks.take j);refine⟨λhc=>?_,λhc=>?_⟩
  ·have cd:(j:Int)<kids.n:=aP hc;obtain⟨ad,y,cs,g1,g2,g3,g4,g5,g6⟩:=(SliceF.only (cX false D) aN hk dE aaa).get (bE j) cd;rw[aV]at g2;have hys:=qu (bD g2);have nI:ks.take (j+1)=ks.take j++[y]:=by
    rw[bF,g2];rfl
   have asG:iU ks=iU (ks.take (j+1))+iU (ks.drop (j+1)):=by rw[<-A1,du]
   have y3:fe (ks.take j)+jd y<=iU (ks.take (j+1)):=by rw[<-xi,<-nI];exact vV _
   have y4:xf (ks.take j)+BC y<=iU (ks.take (j+1)):=by rw[<-xj,<-nI];exact vW _
   have g6':=g6;cases D with
   | zero=>exact g6'.elim
   | succ D=>
   obtain⟨yP,yQ,tW,lK,rfl,_⟩:=g6';refine⟨ad,g1,_,_,_,_,yP,yQ,tW,lK,_,g5,λk3 w4 xN asH dL=>?_⟩;refine(L3 (D+1) w4 F y _ ((cX false _).keep g6 λk _ cd=>dL.block k cd aaa) aG).mono ?_;rintro _ w5 ⟨rfl,eK⟩;refine⟨_,_,rfl,eK.same (by have:=dL.size;simp;omega),ks.length-(j+1),aG,j+1,aaq,aG,rfl,?_,?_,?_,(dE.cy dL).cy eK⟩
   ·rw[nI,xi,gF aG aG];omega
   ·rw[nI,xj,gF aG aG];omega
   have:=dL.size;have:=eK.size;omega
  have mQ:¬(j:Int)<kids.n:=aY hc;have qJ:j=ks.length:=aG
  subst qJ;rw[bq (ba _)];refine⟨?_,dE⟩;rw[jd,BC,jp]
structure Pt4 (w:ay) (b:Nat) (sl:Sl) (l:aJ) (v2 v3:az):Prop where
 blk:∃q:Option Addr,aH w b 218 [ai q,sl.v,v2,v3]
 len:sl.n=l.length
 some:l≠[]->∃g,sl.a=.some ⟨g,0,none⟩/\b<g/\sl.c≠0/\(∃n,w.shape? g=.some (5,n)/\l.length<=n)/\aE w ⟨g,0,none⟩ (l.map gn)
 cap:sl.a=none∨sl.c≠0
 big:l.length<=9223372036854775807
section
variable {w:ay} {b:Nat} {sl:Sl} {l:aJ} {v2 v3:az}
theorem Pt4.only{w':ay}(h:Pt4 w b sl l v2 v3)(hO:aA [] w w'):Pt4 w' b sl l v2 v3:=by
 obtain⟨⟨q,h1⟩,h2,h3,h4,h5⟩:=h;refine⟨⟨q,hO.blk h1 aaa⟩,h2,λhl=>?_,h4,h5⟩;obtain⟨g,a1,a2,a3,⟨n,a4,a5⟩,a6⟩:=h3 hl;have hg:g<w.heap.size:=by
  refine cr λhn=>?_;unfold World.shape? at a4;rw[ff aG]at a4;cases a4
 have hk:=hO.block g hg aaa;exact⟨g,a1,a2,a3,⟨n,(AG hk).trans a4,a5⟩,a6.keep hk⟩
theorem Qz.pt{w0:ay}{st:St}(h:Qz w0 b w l st):∃sl,Pt4 w b sl l (ao st.1) (O ae st.2)/\∀k,sl.a=some ⟨k,0,none⟩->Bu w b k:=by
 obtain⟨q,sl,hq,hB,hb⟩:=h.ex;refine⟨sl,⟨⟨_,hB⟩,hb.len,λhl=>?_,?_,?_⟩,λk hk=>G1 hB hk⟩
 ·rcases hb with⟨_,e⟩ | ⟨g,tail,h1,h2,h3,h4,h5,h6,h7,h8⟩
  ·exact absurd e hl
  have h0:l.length≠0:=λe=>hl (bQ e);refine⟨g,h1,h2,aG,⟨_,by unfold World.shape?;unfold aH at h3;rw[h3],aaa⟩,h3.cells 0 (l.map gn) λj v hj=>acV⟩
 ·rcases hb with⟨e,_⟩ | ⟨g,tail,h1,h2,h3,h4,h5,h6,h7,h8⟩
  ·exact .inl (by rw[e])
  exact .inr aG
 rcases hb with⟨_,e⟩ | ⟨g,tail,h1,h2,h3,h4,h5,h6,h7⟩
 ·subst e;simp
 omega
theorem L4(h:Pt4 w b sl l v2 v3):aB au 147 #[ai (some ⟨b,0,none⟩)] w λe w'=>e=aq (ah (T l))/\Pt4 w' b sl l v2 v3/\aF (λk=>b<k/\sl.a=some ⟨k,0,none⟩) w w':=by
 refine ret (XI _ _ _ ?_);intro w0 cQ;have h0:=h.only cQ;obtain⟨⟨q,hB⟩,fl,HT,lC,qF⟩:=h0;refine⟨λk=>k=b,sl,Blk.eE hB 1 rfl,rfl,sl,Blk.eE hB 1 rfl,sl.a,w0,?_,λk _ _=>rfl,?_⟩
 ·obtain⟨sa,sn',sc⟩:=sl;cases sa with
  | none=>exact Lib.run_unsafeSliceData_nil _ _ _ _ _
  | some a=>
   rcases lC with e | e
   ·cases e
   exact Lib.run_unsafeSliceData_row _ _ _ _ _ _ e
 by_cases hl:l=[]
 ·subst hl;have hn:sl.n=0:=fl;refine⟨T [],w0,?_,λk _ _=>rfl,rfl,⟨⟨q,hB⟩,fl,HT,lC,qF⟩,cQ.p0⟩;rw[hn];exact Lib.run_unsafeString_none _ _ _ _ _
 obtain⟨g,ha,MY,hc,⟨m,Ic,hm⟩,uX⟩:=HT hl;have hF:=sL w0 ⟨g,0,none⟩ l.length;have C8:b<w0.heap.size:=hB.lt;refine⟨T l,w0.freeze ⟨g,0,none⟩ l.length,?_,λk hk cd=>hF.block k cd abh,rfl,⟨⟨q,hF.blk hB abh⟩,fl,λ_=>⟨g,ha,MY,hc,⟨m,(vK _ _ _ _).trans Ic,hm⟩,λj v hj=>by rw[sK];exact uX j v hj⟩,lC,qF⟩,cQ.oH (hF.mono λk _ hk=>by dsimp only at hk;exact⟨aG,by rw[hk];exact ha⟩)⟩;rw[ha,fl];exact Lib.run_unsafeString_row _ _ _ _ 5 (by kernel_rfl) (by kernel_rfl) g m Ic l hl hm qF λj x hj=>uX j (gn x) (by rw[bW,hj];rfl)
end
def gH(c:Ch):aJ×Int:=
 if GP c=true then(if 16384<(iJ [] (XV c)).length then([],2)else if(dK (iJ [] (XV c))).2.1≠0 then([],22)else(iJ [] (XV c),0))else([],22)
def rM:List Vr->Nat
 | []=>0
 | v::l=>(v.n.length+1)+rM l
theorem A2{v:Vr}:∀{l:List Vr},v∈l->v.n.length+1<=rM l
 | [],h=>abk
 | x::l,h=>by
  rw[rM];rcases aR.1 h with rfl | h
  ·omega
  have:=A2 h;omega
theorem A3:∀l:List Vr,l.length<=rM l
 | []=>bB _
 | v::l=>by
  have:=A3 l;rw[rM,bp];omega
def BP(v:Vr):Bool:=eZ v.n&&decide (v.v≠ -9223372036854775808)
theorem VL(c:Ch):((((((decide (c.root.b.k=1)&&decide (c.root.b.dft=[]))&&decide (c.vars.length<=16))&&decide (jd c.root<=64))&&decide (BC c.root<=200))&&eZ c.root.b.nm)&&(c.vars.all BP&&yG c.root.b c.root.kids 1)&&decide (CA c.root<=400))=GP c:=by
 obtain⟨vars,⟨b,l⟩⟩:=c;unfold GP;show((((((decide (b.k=1)&&decide (b.dft=[]))&&decide (vars.length<=16))&&decide (jd (.mk b l)<=64))&&decide (BC (.mk b l)<=200))&&eZ b.nm)&&(vars.all BP&&yG b l 1)&&decide (CA (.mk b l)<=400))=(vars.all BP&&qn 0 (.mk b l)&&decide (b.k=1/\vars.length<=16/\jd (.mk b l)<=64/\BC (.mk b l)<=200/\CA (.mk b l)<=400))
 by_cases hk:b.k=1
 ·rw[<-LY (d:=0) (.inl hk) aN];have:decide (b.k=1/\vars.length<=16/\jd (.mk b l)<=64/\BC (.mk b l)<=200/\CA (.mk b l)<=400)=(decide (vars.length<=16)&&decide (jd (.mk b l)<=64)&&decide (BC (.mk b l)<=200)&&decide (CA (.mk b l)<=400)):=by
   rw[bT];simp[hk,and_assoc]
  rw[this,bL hk];generalize decide (b.dft=[])=A;generalize decide (vars.length<=16)=B;generalize decide (jd (.mk b l)<=64)=C;generalize decide (BC (.mk b l)<=200)=D;generalize decide (CA (.mk b l)<=400)=E;generalize eZ b.nm=G;generalize vars.all BP=H;show _=(H&&((A&&G)&&yG b l (0+1))&&(B&&C&&D&&E))
  generalize yG b l (0+1)=I;cases A<;>cases B<;>cases C<;>cases D<;>cases E<;>cases G<;>cases H<;>cases I<;>rfl
 have:decide (b.k=1/\vars.length<=16/\jd (.mk b l)<=64/\BC (.mk b l)<=200/\CA (.mk b l)<=400)=false:=bH λh=>hk h.1;rw[this,bH hk];simp
theorem VM{w:ay}{F:aL}{D:Nat}{c:Ch}{vs:Sl}{cs:aK}(hx:ChR false D w F c vs cs)(hn:WT c)(hs:rM c.vars+pD c.root<=8388608)(hE:Er w)(hT:Tb w):
  aB au 100 #[aj (vs.v::cs).toArray] w λe w'=>e=aq (ak #[ah (T (gH c).1),O ae (gH c).2])/\aA [] w w':=by
 obtain⟨vars,⟨bb,ks⟩⟩:=c;cases D with
 | zero=>exact hx.root.elim
 | succ D=>
 have YU:pC false (D+1) w F (.mk bb ks) cs:=hx.root;have acB:=(cX false _).inHeap YU;have yu:aD T9 3 w F vs vars:=hx.vars.1;obtain⟨en,lv,mv,kids,rfl,xG,uC⟩:=acB;have xG:Ed false w (λk=>F k/\k<w.heap.size) bb en lv mv:=xG;have uC:jR false (pC false D) 9 27 w (λk=>F k/\k<w.heap.size) kids ks:=uC;have hr:=hn.r;have hr:Lr (.mk bb ks):=hr;have hvn:∀v,v∈vars->InI v.v:=hn.v;rw[Lr]at hr;have hs:rM vars+pD (.mk bb ks)<=8388608:=hs;have hsN:pD (.mk bb ks)=G6 bb+iU ks:=by rw[pD]
 have Fx:=hs;rw[hsN]at Fx;unfold G6 at Fx;have aib:=VL ⟨vars,.mk bb ks⟩;generalize hP:gH ⟨vars,.mk bb ks⟩=P;unfold gH at hP;rw[<-aib]at hP;clear aib;have hP:(if((((((decide (bb.k=1)&&decide (bb.dft=[]))&&decide (vars.length<=16))&&decide (jd (.mk bb ks)<=64))&&decide (BC (.mk bb ks)<=200))&&eZ bb.nm)&&(vars.all BP&&yG bb ks 1)&&decide (CA (.mk bb ks)<=400))=true then(if 16384<(iJ [] (XV ⟨vars,.mk bb ks⟩)).length then([],2)else if(dK (iJ [] (XV ⟨vars,.mk bb ks⟩))).2.1≠0 then([],22)else(iJ [] (XV ⟨vars,.mk bb ks⟩),0))else([],22))=P:=hP;show aB au 100 #[aj (vs.v::oC bb.k bb.nm bb.ini bb.dft en lv mv kids bb.a).toArray] w _;refine ret (ak6 _ _ _ _ _ _ _ _ _ _ _ _ ?_);intro k0 b w1 hY fA hb jC cJ;have hvl:=yu.len;have hvz:=A3 vars;refine(L3 (D+1) w1 F (.mk bb ks) _ ((cX false _).keep YU λk _ cd=>cJ.block k cd aaa) aG).mono ?_;rintro _ w2 ⟨rfl,dw⟩;have z2:=dw.size;refine⟨_,_,rfl,dw.same aab,λqG fX=>?_⟩;have q2:Qz w b w2 [] (false,0):=⟨cJ.cy dw,hb,⟨none,Sl.nil,.inl rfl,qG,.inl ⟨rfl,rfl⟩⟩,λ_=>⟨oa 0,aN⟩,bB _⟩
 have t2:Zq false w w2 b w2 [] (false,0) [k0]:=⟨q2,Mw.refl _ _ _,λk hk=>by
  simp only[aO]at hk;subst hk;exact⟨aG,fX,λh=>by have:=LN qG h;cases this⟩⟩
 have hF:∀k,(λk=>F k/\k<w.heap.size) k->k<w.heap.size:=λk hk=>hk.2;have hw:=q2.o;rw[show ar #[]=T []from rfl,mE,hvl];refine(jT t2.toQz _).mono ?_;rintro _ w3 ⟨rfl,SI,u1,u2,u3⟩;have t3:=t2.nx u2 u3.up;have TQ:((((bb.k==1)&&decide (bb.dft=[]))&&decide ((vars.length:Int)<=16))&&decide ((jd (.mk bb ks):Int)<=64)&&decide ((BC (.mk bb ks):Int)<=200))=((((decide (bb.k=1)&&decide (bb.dft=[]))&&decide (vars.length<=16))&&decide (jd (.mk bb ks)<=64))&&decide (BC (.mk bb ks)<=200)):=by
  rw[bT];simp only[aU,de,bJ];constructor
  ·rintro⟨⟨⟨⟨a1,a2⟩,a3⟩,a4⟩,a5⟩;exact⟨⟨⟨⟨a1,a2⟩,aG⟩,aG⟩,aG⟩
  rintro⟨⟨⟨⟨a1,a2⟩,a3⟩,a4⟩,a5⟩;exact⟨⟨⟨⟨a1,a2⟩,aG⟩,aG⟩,aG⟩
 rw[TQ]at u1;obtain⟨q3a,q3b,_,wz,_⟩:=t3.ex;refine⟨rfl,t2.sm u3 aaa,q3a,q3b,_,_,wz,(mz t3.toQz bb.nm aG).mono ?_⟩;rintro _ w4 ⟨rfl,JW,v1,v2,v3⟩;have t4:=t3.nx v2 v3.up;obtain⟨q4a,q4b,_,uA,_⟩:=t4.ex;have iY:=iK [gR,bb.nm,[123]];simp only[bG,fN,cD,iB,bp,di]at iY;have hwc:gR.length=5:=rfl;obtain⟨q5,w5,e5,eK,hj5⟩:=yh t4.toQz [gR,bb.nm,[123]] (n:=3) (parts:=#[.mk 0 (ah (T gR)),.mk 1 (ah (T bb.nm)),.mk 2 (ah (T [123]))]) rfl rfl aN aN 0 aN aG;refine⟨_,rfl,t3.sm v3 aaa,q4a,q4b,_,_,uA,q5,w5,e5,?_,hj5.mono ?_⟩
 ·refine eK.same λx hx=>⟨?_,aaa⟩
  simp only[aR,bn,cm]at hx;rcases hx with rfl | rfl
  ·exact(t4.k x aaa).1
  exact t4.toQz.lb
 rintro _ w6 ⟨rfl,x1,x2⟩;have t6:=t4.nx x1 x2;have hU6:=u1.tr v1;have hl6:JW.1=false->(if JW.1 then([]:aJ)else qo [] (0,fO [gR,bb.nm,[123]]))=iJ [] [(0,gR++32::(bb.nm++[32,123]))]:=λe=>by
  rw[e];simp only[kq,jX];rw[mc,pj aN,fK (ri (v1.ok e).2.1),fK (by rfl),eG,fJ,fJ,ma];rfl
 generalize (if JW.1 then([]:aJ)else qo [] (0,fO [gR,bb.nm,[123]]))=l6 at*
 obtain⟨q6a,q6b,_,M1,_⟩:=t6.ex;refine⟨rfl,t4.sl eK x2 aaa,q6a,q6b,_,_,M1,λnv i q l' wr ac w'=>∃(j:Nat) (cN:St) (l':aJ),i=j/\j<=vars.length/\nv=vars.length-j/\Up JW ((vars.take j).all BP) 0 cN/\(cN.1=false->l'=iJ l6 ((vars.take j).map λv=>(1,vrT v)))/\Zq false w w2 b w' l' cN [k0],
  vars.length,⟨0,JW,l6,rfl,bB _,rfl,t6.toQz.up0,λ_=>rfl,t6⟩,?_⟩
 rintro nv _ qa la wr ac w7 ⟨j,YQ,l7,rfl,hj,rfl,M7,hl7,t7⟩;refine⟨λhc=>?_,λhc=>?_⟩
 ·have cd:(j:Int)<vars.length:=aP hc;obtain⟨ad,v,cs,g1,g2,g3,g4,g5,g6⟩:=(SliceF.only gv aN yu t7.o aaa).get (bE j) aG;rw[aV]at g2;have hvm:=bD g2;have hvz:=A2 hvm;have nI:vars.take (j+1)=vars.take j++[v]:=by
   rw[bF,g2];rfl
  unfold T9 at g6;subst g6;refine⟨ad,g1,_,_,_,g5,λk4 w8 zq BZ fV _=>?_⟩;have t8:=t7.al fV zq BZ;refine(jT t8.toQz _).mono ?_;rintro _ w9 ⟨rfl,st9,y1,y2,y3⟩;have t9:=t8.nx y2 y3.up;obtain⟨q9a,q9b,_,hB9,_⟩:=t9.ex;refine⟨rfl,t8.sm y3 aaa,q9a,q9b,_,_,hB9,λdR eO _=>⟨λk=>k∈[k4],aaa,?_⟩⟩;have t10:=t9.q eO;refine(mz t10.toQz v.n aG).mono ?_;rintro _ dS ⟨rfl,acx,y4,y5,y6⟩;have t11:=t10.nx y5 y6.up;obtain⟨aoZ,ao0,_,HR,_⟩:=t11.ex;refine⟨_,rfl,t10.sm y6 aaa,aoZ,ao0,_,_,HR,bP.of (t10.sm y6 aaa),(za v.v (hvn v hvm) (hT.only t11.o)).mono ?_⟩;rintro _ fp ⟨rfl,fu⟩;have t12:=t11.q fu;obtain⟨ao1,ao2,_,acC,_⟩:=t12.ex;have Ib:=G5 (hvn v hvm);have iY:=iK [GF,v.n,[61],Lib.itoa v.v++[59]];simp only[bG,fN,cD,iB,bp,di,aW]at iY;have hwv:GF.length=3:=rfl;obtain⟨q13,fD,e13,eL,ao3⟩:=yh t12.toQz [GF,v.n,[61],Lib.itoa v.v++[59]] (n:=4) (parts:=#[.mk 0 (ah (T GF)),.mk 1 (ah (T v.n)),.mk 2 (ah (T [61])),.mk 3 (ah (T (Lib.itoa v.v++[59])))]) rfl rfl aN aN 1 aN aG;refine⟨T (Lib.itoa v.v),rfl,t11.sq fu aaa,ao1,ao2,_,_,acC,bP.of (t11.sq fu aaa),abC,q13,fD,by rw[show ar #[59]=T [59]from rfl,lG];exact e13,?_,bP.of (t12.sq eL aaa),ao3.mono ?_⟩
  ·refine eL.same λx hx=>⟨?_,aaa⟩
   simp only[aR,bn,cm]at hx;rcases hx with rfl | rfl | rfl
   ·exact(t12.k x aaa).1
   ·exact t12.toQz.lb
   exact(t12.k x aaa).1
  rintro _ fP ⟨rfl,y7,y8⟩;have t14:=t12.nx y7 y8;obtain⟨ao4,ao5,_,HQ,_⟩:=t14.ex;refine⟨rfl,t12.sl eL y8 aaa,ao4,ao5,_,_,HQ,bP.of (t12.sl eL y8 aaa),vars.length-(j+1),aG,j+1,acx,_,aaq,aG,rfl,((M7.tr y1).tr y4).cg ?_ rfl,λe=>?_,⟨t14.toQz,t14.m,λk hk=>t14.k k adj⟩⟩
  ·rw[nI,zx];have:(v.v != -9223372036854775808)=decide (v.v≠ -9223372036854775808):=by rw[bT];simp
   rw[this];unfold BP;simp only[List.all_cons,List.all_nil,ni];rw[B3,Bool.and_comm (decide _) (eZ _)]
  have JI:ne (Lib.itoa v.v++[59])=true:=by
   have:Lib.itoa v.v++[59]≠[]:=aaa
   unfold ne;rw[bH this];rfl
  rw[e];simp only[kq,jX];rw[hl7 (y1.ok (y4.ok e).1).1,nI,dc,jS,pj aN,fK (ri (y4.ok e).2.1),fK (by rfl),fK JI,eG,fJ,fJ,fJ,ma,bS];rfl
 have mQ:¬(j:Int)<vars.length:=aY hc;have qJ:j=vars.length:=aG
 subst qJ;rw[bq (ba _)]at M7 hl7;refine(RO (L2 D) t7.toQz (xG.keep λk hk _=>t7.o.block k hk.2 aaa) (uC.keep (cX false D) aN λk hk _=>t7.o.block k hk.2 aaa) hF hr.1 hr.2 aG 1 aN hE hT).mono ?_;rintro _ w8 ⟨rfl,st8,l8,hU8,hl8,y1,y2⟩;have t8:=t7.nx y1 y2;obtain⟨q8a,q8b,_,uB,_⟩:=t8.ex;obtain⟨q9,w9,e9,gy,hj9⟩:=yh t8.toQz [[125]] (n:=1) (parts:=#[.mk 0 (ah (T [125]))]) rfl rfl aN aN 0 aN aN;refine⟨rfl,t7.sm y2 aaa,q8a,q8b,_,_,uB,q9,w9,e9,?_,hj9.mono ?_⟩
 ·refine gy.same λx hx=>⟨?_,aaa⟩
  simp only[aR,bn,cm]at hx;rcases hx with rfl | rfl
  ·exact(t8.k x aaa).1
  exact t8.toQz.lb
 rintro _ dR ⟨rfl,x3,x4⟩;have t10:=t8.nx x3 x4;have hU:=hU6.tr (M7.tr hU8);have hlF:st8.1=false->(if st8.1 then l8 else qo l8 (0,fO [[125]]))=iJ [] (XV ⟨vars,.mk bb ks⟩):=λe=>by
  obtain⟨e7,_⟩:=hU8.ok e;obtain⟨e4,_⟩:=M7.ok e7;rw[e];simp only[kq,jX];rw[hl8 e,hl7 e7,hl6 e4];have e1:fO [[125]]=[125]:=aN
  rw[e1,<-mc,<-jS,<-jS,<-jS];unfold XV;rw[bR (nbL 1 bb)];exact rfl
 generalize (if st8.1 then l8 else qo l8 (0,fO [[125]]))=lF at*
 obtain⟨aie,aif,_,uf,_⟩:=t10.ex;have hcond:((((((decide (bb.k=1)&&decide (bb.dft=[]))&&decide (vars.length<=16))&&decide (jd (.mk bb ks)<=64))&&decide (BC (.mk bb ks)<=200))&&eZ bb.nm)&&(vars.all BP&&yG bb ks 1)&&decide (CA (.mk bb ks)<=400))=!st8.1:=by
  have h1:=hU.w;have ao6:decide (400<(0:Int)+((0+0+(0+(XU bb+uO ks)):Nat):Int))=!decide (CA (.mk bb ks)<=400):=by
   rw[CA];by_cases h4:XU bb+uO ks<=400
   ·rw[bL h4,bH aG];rfl
   rw[bH h4,bL aG];rfl
  have h1:st8.1=((false||!((((((decide (bb.k=1)&&decide (bb.dft=[]))&&decide (vars.length<=16))&&decide (jd (.mk bb ks)<=64))&&decide (BC (.mk bb ks)<=200))&&eZ bb.nm)&&(vars.all BP&&yG bb ks 1)))||decide (400<(0:Int)+((0+0+(0+(XU bb+uO ks)):Nat):Int))):=h1;rw[ao6]at h1;rw[h1];generalize ((((((decide (bb.k=1)&&decide (bb.dft=[]))&&decide (vars.length<=16))&&decide (jd (.mk bb ks)<=64))&&decide (BC (.mk bb ks)<=200))&&eZ bb.nm)&&(vars.all BP&&yG bb ks 1))=A;generalize decide (CA (.mk bb ks)<=400)=B;cases A<;>cases B<;>rfl
 rw[hcond]at hP;have fin:∀{w':ay},aA [] w2 w'->aA [] w w':=λh=>hw.cy h;have YV:aA [] w dR:=t10.o;refine⟨rfl,t8.sl gy x4 aaa,aie,aif,_,_,uf,λe=>?_,λe=>(LR t10.toQz).mono ?_⟩
 ·rw[aX (by rw[e];decide)]at hP;subst hP;exact⟨rfl,YV⟩
 rw[aZ (by rw[e];rfl),<-hlF e]at hP;rintro _ _ ⟨rfl,rfl⟩;obtain⟨slP,hPt,hPb⟩:=t10.toQz.pt;have hbu:=λk hk=>t10.toQz.bu (hPb k hk);refine⟨_,rfl,λ_ _=>rfl,aie,aif,_,_,uf,λe2=>?_,λe2=>(L4 hPt).mono ?_⟩
 ·rw[aZ (aP e2)]at hP;subst hP;exact⟨rfl,YV⟩
 rw[aX (aY e2)]at hP;rintro _ dS ⟨rfl,YW,ey⟩;have Fa:=ey.size;have hlb:=t10.toQz.lb;have k0h:=t10.k k0 aaa;have ko:∀k,(b<k/\slP.a=some ⟨k,0,none⟩)->w.heap.size<=k:=λk hk=>by have:=t10.lo;omega
 have o11:aA [] w dS:=(YV.oH ey).only ko;obtain⟨q11,HR⟩:=YW.blk;refine⟨_,rfl,ey.same λx hx=>?_,q11,slP,_,_,HR,(G0 _ (hE.only o11)).mono ?_⟩
 ·simp only[aO]at hx;subst hx;exact⟨k0h.1,λh=>k0h.2.2 (hPb _ h.2)⟩
 rintro _ fp ⟨vsx,csx,rfl,hC,fu⟩;obtain⟨xe,xl,xm,xk,rfl,_⟩:=hC.root;have YX:=YW.only fu;obtain⟨q12,acC⟩:=YX.blk;have o12:=o11.cy fu;have z12:=fu.size;refine⟨vsx,_,_,_,_,xe,xl,xm,xk,_,_,_,rfl,fu.same aab,q12,slP,_,_,acC,λe3 k6 k7 fD _ _ _ _ eL _=>?_,λe3 k8 k9 fP hk8 abF hk9 aig eH _=>?_⟩
 ·rw[aZ (by simpa using e3)]at hP;subst hP;exact⟨rfl,o12.cy eL⟩
 rw[aX (by simpa using e3)]at hP;subst hP;refine(L4 (YX.only eH)).mono ?_;rintro _ iP ⟨rfl,aih,iX⟩;obtain⟨q15,aci⟩:=aih.blk;have z14:=eH.size;refine⟨_,rfl,iX.same λx hx=>?_,q15,slP,_,_,aci,rfl,((o12.cy eH).oH iX).only ko⟩;simp only[aR,bn,cm]at hx;rcases hx with rfl | rfl | rfl
 ·exact⟨aG,λh=>k0h.2.2 (hPb _ h.2)⟩
 ·exact⟨abF,λh=>by have:=(hbu _ h.2).2;omega⟩
 exact⟨aig,λh=>by have:=(hbu _ h.2).2;omega⟩
def inB(n:Int):Bool:=decide (-9223372036854775808<=n/\n<=9223372036854775807)
theorem RP{n:Int}(h:inB n=true):InI n:=by
 have h:=aP h;exact⟨h.1,h.2⟩
mutual
def nXb:Ex->Bool
 | .mk _ n _ _ l _=>inB n&&VN l
def VN:List Ex->Bool
 | []=>true
 | x::l=>nXb x&&VN l
end
theorem L5{y:Ex}:∀{l:List Ex},VN l=true->y∈l->nXb y=true
 | [],_,h=>abk
 | x::l,h,hy=>by
  rw[VN,aU]at h;rcases aR.1 hy with rfl | hy
  ·exact h.1
  exact L5 h.2 hy
theorem aav:∀(d:Nat) {x:Ex},nXb x=true->rA d x
 | 0,_,_=>trivial
 | d+1,.mk k n s op l a,h=>by
  rw[nXb,aU]at h;exact⟨RP h.1,λy hy=>aav d (L5 h.2 hy)⟩
def nAb(a:Ac):Bool:=nXb a.x
def nMb(m:Mv):Bool:=nXb m.g&&m.acts.all nAb&&inB m.wt
def nNb(b:Nb):Bool:=b.en.all nAb&&b.lv.all nAb&&b.mv.all nMb
mutual
def nDb:Nd->Bool
 | .mk b l=>nNb b&&VO l
def VO:List Nd->Bool
 | []=>true
 | x::l=>nDb x&&VO l
end
theorem RQ{l:List Ac}(h:l.all nAb=true):∀a,a∈l->XW a:=λa ha d=>aav d ((dY.1 h) a ha)
theorem amx{m:Mv}(h:nMb m=true):mvN m:=by
 unfold nMb at h;simp only[aU]at h;exact⟨λd=>aav d h.1.1,RQ h.1.2,RP h.2⟩
theorem amy{b:Nb}(h:nNb b=true):nbN b:=by
 unfold nNb at h;simp only[aU]at h;exact⟨RQ h.1.1,RQ h.1.2,λm hm=>amx ((dY.1 h.2) m hm)⟩
mutual
theorem afX:∀(x:Nd),nDb x=true->Lr x
 | .mk b l,h=>by
  rw[nDb,aU]at h;rw[Lr];exact⟨amy h.1,X7 l h.2⟩
theorem X7:∀(l:List Nd),VO l=true->AP l
 | [],_=>by rw[AP];trivial
 | x::l,h=>by
  rw[VO,aU]at h;rw[AP];exact⟨afX x h.1,X7 l h.2⟩
end
def nCb(c:Ch):Bool:=(c.vars.all λv=>inB v.v)&&nDb c.root
theorem amA{c:Ch}(h:nCb c=true):WT c:=by
 unfold nCb at h;simp only[aU]at h;exact⟨λv hv=>RP ((dY.1 h.1) v hv),afX _ h.2⟩
def amB(c:Ch):Bool:=decide (rM c.vars+pD c.root<=8388608)
theorem ChR.off{d:Nat}{w:ay}{F:aL}{c:Ch}{vs:Sl}{cs:aK}(h:ChR true d w F c vs cs):ChR false d w F c vs cs:=⟨h.vars.off λ_ _ _ h=>h,Lm h.root⟩
end
def spv(x:cR):aK:=[O ae x.k,ah (T x.nm),O ae x.pa,O ae x.dp,O ae x.en]
def nP:Rp cR:=λ_ _ x cs=>cs=spv x
theorem dh:nP.Ok:=⟨λh _=>h,λh=>h,λh _=>h,λh=>by
 unfold nP spv at h;subst h;intro v hv;simp only[aR,bn,cm]at hv;rcases hv with rfl | rfl | rfl | rfl | rfl<;>rfl⟩
abbrev iL(B:Nat)(w:ay)(s:Sl)(xs:List cR):Prop:=Own nP 5 89 B w (λ_=>False) s xs
theorem iL.of{B:Nat}{w:ay}{F:aL}{s:Sl}{xs:List cR}(h:Own nP 5 89 B w F s xs):iL B w s xs:=by
 rcases h with⟨rfl,rfl⟩ | ⟨g,css,tail,h1,h2,h4,h5,h6,h7,h9,h8⟩
 ·exact .inl ⟨rfl,rfl⟩
 exact .inr ⟨g,css,tail,h1,h2,h4,h5,h6,h7,h9,gu.Wf (λx c _ hc=>hc) h8⟩
theorem iL.yq{B:Nat}{w w':ay}{G:aL}{s:Sl}{xs:List cR}(h:iL B w s xs)(hO:aF G w w')(hG:∀k,B<=k->s.a=some ⟨k,0,none⟩->¬G k):iL B w' s xs:=
 h.keep dh λk hk cd=>hO.block k cd (hk.elim (λh=>h.elim) λh=>hG k h.1 h.2)
theorem X8(t:Bool):∀(D:Nat) {w:ay} {F:aL} {x:Nd} {cs:aK} {b:Nat} {s:Sl} {xs:List cR} {pa dp:Int},pC t D w F x cs->(∀k,F k->k<b)->aH w b 125 [s.v]->iL (b+1) w s xs->
  xs.length+jd x<=1000000->0<=dp->dp+jd x<=1000000->
  aB au 61 #[ai (some ⟨b,0,none⟩),aj cs.toArray,O ae pa,O ae dp] w λe w'=>e=aq (ak #[])/\∃s',aH w' b 125 [s'.v]/\iL (b+1) w' s' (xs++Ei xs.length pa dp x)/\tZ b s w s' w'
 | 0,_,_,_,_,_,_,_,_,_,h,_,_,_,_,_,_=>h.elim
 | D+1,w,F,.mk bb ks,cs,b,s,xs,pa,dp,⟨en,lv,mv,kids,oI,_,hY⟩,hF,hB,hS,hn,h0,hd=>by
  have hk:=hY.1;clear hY;dsimp only[Nd.kids,Nd.b]at hk oI;subst oI;rw[jd]at hn hd;have Px:=hk.len;have hnn:=sS ks;refine ret (alj _ _ _ _ _ _ _ _ _ _ _ _ _ _ ?_);intro k0 w0 hY fA cQ;have z0:=cQ.size;have C8:=hB.lt;have cell:∀{u:ay} {q:Sl},aH u b 125 [q.v]->aE u ((⟨b,0,none⟩:Addr).add 0) [q.v]:=λh=>h.cells 0 [_] λj v hj=>adl
  have rQ:=cQ.blk hB aaa;refine⟨s,cell rQ,λw1 cJ=>⟨λk=>k=b,rfl,s,cell (cJ.blk rQ aaa),?_⟩⟩;have o1:=cQ.cy cJ;have z1:=cJ.size;have wJ:iL (b+1) w1 s xs:=hS.yq o1.p0 λ_ _ _ h=>h;have uw:=o1.blk hB aaa;obtain⟨y,w2,k1,k3,s3,w3,g1,g2,⟨gs,g3,g4⟩,g5⟩:=jr (P:=au) (t:=123) (ty:=123) (e:=89) (i:=Tryz.t89) (bytes:=48) (size:=5) (r:=nP) (G:=λ_=>False) (v:=aj #[O ae bb.k,ah (T bb.nm),O ae pa,O ae dp,O ae 0]) (x:=⟨bb.k,bb.nm,pa,dp,0⟩) (by kernel_rfl) (by kernel_rfl) rfl rfl rfl rfl aN aN aN dh wJ aG rfl rfl (λ_ h=>h.elim) aG;have z2:=k3.size;have z3:=g3.size;have gb:∀g,g∈gs->g≠b/\g<w1.heap.size/\s.a=some ⟨g,0,none⟩:=λg hg=>⟨by have:=(g4 g hg).2.1;omega,(g4 g hg).2.2,(g4 g hg).1⟩
  have TR:s.a≠some ⟨k0,0,none⟩:=λe=>acn
  have wz:aH w3 b 125 [s.v]:=g3.blk (k3.blk uw aaa) λh=>(gb b h).1 rfl;refine⟨y,w2,k1,k3.same aab,bP.only k3,s3,w3,g1,g3.same λx hx=>?_,λk hk cd=>?_,b,0,_,_,rfl,wz,ba 1,aG,λw4 dL uA=>?_⟩
  ·simp only[aO]at hx;subst hx;exact⟨aG,λh=>TR (gb _ h).2.2⟩
  ·subst hk;exact g3.block _ cd λh=>(gb _ h).1 rfl
  have z4:=dL.size;have Fi:iL (b+1) w3 s3 (xs++[⟨bb.k,bb.nm,pa,dp,0⟩]):=iL.of g2;have M8:iL (b+1) w4 s3 (xs++[⟨bb.k,bb.nm,pa,dp,0⟩]):=Fi.yq (G:=λk=>k=b) (dL.p aaa) λk h _=>aG
  have m4:tZ b s w s3 w4:=by
   refine⟨((o1.cy k3).oH (g3.p (F:=λk=>k=b∨s.a=some ⟨k,0,none⟩) λg hg=>.inl (.inr (gb g hg).2.2))).trans (dL.p (F:=λk=>k=b∨s.a=some ⟨k,0,none⟩) aaa) λk hk=>.inl hk,λk hk=>?_⟩;rcases g5 with e | ⟨g,e,h⟩
   ·exact .inl ab1
   rw[e]at hk;injection hk with hk;injection hk with hk;exact .inr aG
  have n4:∀k,s3.a=some ⟨k,0,none⟩->k≠k0:=λk hk e=>by
   subst e;rcases g5 with e | ⟨g,e,h⟩
   ·exact TR ab1
   rw[e]at hk;injection hk with hk;injection hk with hk;omega
  have iy:∀{u:ay} {q:Sl},tZ b s w q u->aD (pC t D) 9 u F kids ks:=λhm=>SliceF.nH (cX t D) aN hk hm.1 λk uD _=>by
   have:=hF k uD;exact λh=>h.elim aG λh=>by have:=(hS.blk h).1;dsimp only at this;omega
  refine⟨λkv i w'=>∃(j:Nat) (q:Sl),i=(j:Int)/\kv+j=ks.length/\j<=ks.length/\aH w' b 125 [q.v]/\iL (b+1) w' q (xs++⟨bb.k,bb.nm,pa,dp,0⟩::qp (xs.length+1) xs.length (dp+1) (ks.take j))/\tZ b s w q w'/\w4.heap.size<=w'.heap.size/\∀k,q.a=some ⟨k,0,none⟩->k≠k0,ks.length,⟨0,s3,rfl,aG,bB _,uA,by rw[da,qp];exact M8,m4,ba _,n4⟩,?_⟩;rintro kv _ w5 ⟨j,q,rfl,tX,iY,xL,M9,m5,z5,n5⟩;have PD:s.n=xs.length:=hS.len;constructor
  ·intro hc;have hj:j<ks.length:=abt
   obtain⟨y,hy⟩:∃y,ks[j]? =some y:=⟨_,aQ hj⟩
   obtain⟨ad,y',ds,a1,a2,a3,a4,a5,a6⟩:=(iy m5).get (bE j) aG;rw[aV,hy]at a2;injection a2 with a2;subst a2;have W5:=a6;obtain⟨D',rfl⟩:∃D',D=D'+1:=by
    cases D with
    | zero=>exact a6.elim
    | succ D'=>exact⟨D',rfl⟩
   obtain⟨yP,yQ,tW,lK,rfl,_⟩:=W5;have kB:=qs hy;have hx1:(xs++⟨bb.k,bb.nm,pa,dp,0⟩::qp (xs.length+1) xs.length (dp+1) (ks.take j)).length=xs.length+1+fe (ks.take j):=by
    rw[aW,bp,tJ];omega
   refine⟨ad,a1,_,_,_,_,yP,yQ,tW,lK,_,a5,λk6 w6 hk6 acE eI=>?_⟩;have z6:=eI.size;have m6:tZ b s w q w6:=m5.trans (tZ.only eI);rw[gF aG aG,PD];refine(X8 t (D'+1) (pa:=((xs.length:Nat):Int)) ((cX t (D'+1)).keep a6 λk _ cd=>eI.block k cd aaa) (s:=q) (xs:=xs++⟨bb.k,bb.nm,pa,dp,0⟩::qp (xs.length+1) xs.length (dp+1) (ks.take j)) (b:=b) (dp:=dp+1) hF (eI.blk xL aaa) (M9.yq eI.p0 λ_ _ _ h=>h) (by rw[hx1];omega) aG aG).mono ?_;rintro _ w7 ⟨rfl,q7,hB7,hS7,m7⟩;have z7:=m7.1.size;refine⟨rfl,m7.1.same λx hx=>?_,kv-1,aG,j+1,q7,aaq,aG,aG,hB7,?_,m6.trans m7,aG,λk hk e=>?_⟩
   ·simp only[aR,bn,cm]at hx;rcases hx with rfl | rfl
    ·exact⟨aG,λh=>h.elim aG λh=>n5 _ h rfl⟩
    refine⟨acE,λh=>h.elim aG λh=>?_⟩;have:=(M9.blk h).2;dsimp only at this;omega
   ·have e:ks.take (j+1)=ks.take j++[y]:=by rw[bF,hy];rfl
    rw[e,Ls,qp,qp,bS];rw[hx1,bR,cp]at hS7;exact hS7
   subst e;rcases m7.2 _ hk with h | h
   ·exact n5 _ h rfl
   omega
  intro hc w8 fV;have qJ:j=ks.length:=abN
  subst qJ;rw[bq (ba _)]at M9;have uB:=fV.blk xL aaa;have hS8:iL (b+1) w8 q _:=M9.yq fV.p0 λ_ _ _ h=>h;have z8:=fV.size;have Wu:(xs++⟨bb.k,bb.nm,pa,dp,0⟩::qp (xs.length+1) xs.length (dp+1) ks)[xs.length]? =some ⟨bb.k,bb.nm,pa,dp,0⟩:=by
   rw[bX (ba _),Kf];rfl
  obtain⟨g,cells,cs',p1,p2,p3,p4,p5,p6,p7⟩:=Own.amN dh hS8 Wu;have ao9:cs'=spv ⟨bb.k,bb.nm,pa,dp,0⟩:=p6;subst ao9;have hql:q.n=xs.length+1+fe ks:=by rw[M9.len,aW,bp,tJ];omega
  obtain⟨p8,p9⟩:=p7 4 (O ae (q.n:Int)) ⟨bb.k,bb.nm,pa,dp,(q.n:Int)⟩ (λ_=>False) aN rfl λ_ h=>h.elim;rw[<-PD]at p2;have hgb:=(M9.blk p1).1;dsimp only at hgb;refine⟨q,cell uB,q,cell uB,_,p2,g,xs.length*5+4,cells,_,by rw[fI,PD],p3,by rw[<-PD]at p8⊢;exact p8,λe=>n5 g p1 e.symm,λw9 gy hB9=>⟨rfl,q,gy.blk uB aab,?_,?_⟩⟩
  ·have:=p9 w9 gy hB9;rw[BA _ _ (ba _),Kf,List.set_cons_zero]at this;rw[Ei];have e:(q.n:Int)=((xs.length+1+fe ks:Nat):Int):=by rw[hql]
   rw[e]at this;exact this
  refine(m5.trans (tZ.only fV)).trans ⟨gy.p λk hk=>?_,λk hk=>.inl hk⟩;simp only[aO]at hk;subst hk;exact .inl (.inr p1)
theorem VP{w:ay}{F:aL}{D:Nat}{c:Ch}{vs:Sl}{cs:aK}(hx:ChR false (D+1) w F c vs cs)(hn:WT c)(hs:rM c.vars+pD c.root<=8388608)(hE:Er w)(hT:Tb w):
  aB au 60 #[aj (vs.v::cs).toArray] w λe w'=>e=aq (O ae (gH c).2)/\aA [] w w':=by
 obtain⟨en,lv,mv,kids,rfl,_⟩:=hx.root;refine ret (alh _ _ _ _ _ _ _ _ _ _ _ _ ?_);intro k0 w0 hY fA cQ;have hx0:ChR false (D+1) w0 F c vs (oC c.root.b.k c.root.b.nm c.root.b.ini c.root.b.dft en lv mv kids c.root.b.a):=⟨hx.vars.keep gv aN λk _ cd=>cQ.block k cd aaa,(cX false _).keep hx.root λk _ cd=>cQ.block k cd aaa⟩
 refine(VM hx0 hn hs (hE.only cQ) (hT.only cQ)).mono ?_;rintro _ w1 ⟨rfl,cJ⟩;exact⟨_,_,rfl,cJ.same aab,rfl,cQ.cy cJ⟩
theorem xn{c:Ch}(h:(gH c).2=0):jd c.root<=64:=by
 unfold gH at h;by_cases h1:GP c=true
 ·unfold GP at h1;simp only[aU]at h1;exact(aP h1.2).2.2.1
 rw[aX h1]at h;exact absurd h aN
theorem RR{w:ay}{F:aL}{D:Nat}{c:Ch}{vs:Sl}{cs:aK}(hx:ChR false (D+1) w F c vs cs)(hn:WT c)(hs:rM c.vars+pD c.root<=8388608)(hE:Er w)(hT:Tb w):
  aB au 21 #[aj (vs.v::cs).toArray] w λe w'=>(∃s,e=aq (ak #[Sl.v s,O ae (gH c).2])/\((gH c).2=0->iL w.heap.size w' s (cH c))/\((gH c).2≠0->s=Sl.nil))/\aA [] w w':=by
 obtain⟨en,lv,mv,kids,oI,_⟩:=hx.root;subst oI;refine(ali vs c.root.b.k (T c.root.b.nm) (T c.root.b.ini) (T c.root.b.dft) en lv mv kids c.root.b.a (λv w'=>(∃s,v=ak #[Sl.v s,O ae (gH c).2]/\((gH c).2=0->iL w.heap.size w' s (cH c))/\((gH c).2≠0->s=Sl.nil))/\aA [] w w') w ?_).mono ?_
 ·intro k0 w0 hY fA cQ;have z0:=cQ.size;have keep:∀{u:ay},aA [] w u->ChR false (D+1) u F c vs (oC c.root.b.k c.root.b.nm c.root.b.ini c.root.b.dft en lv mv kids c.root.b.a):=λhO=>⟨hx.vars.keep gv aN λk _ cd=>hO.block k cd aaa,(cX false _).keep hx.root λk _ cd=>hO.block k cd aaa⟩
  refine(VP (keep cQ) hn hs (hE.only cQ) (hT.only cQ)).mono ?_;rintro _ w1 ⟨rfl,cJ⟩;have z1:=cJ.size;have o1:=cQ.cy cJ;refine⟨_,rfl,cJ.same aab,λhc=>?_,λhc k1 w2 j9 jW dw qG=>?_⟩
  ·have hc:(gH c).2≠0:=aaw
   exact⟨⟨Sl.nil,rfl,λh=>absurd h hc,λ_=>rfl⟩,o1⟩
  have hc:(gH c).2=0:=aaw
  have hnd:=xn hc;have o2:=o1.cy dw;have z2:=dw.size;have JM:pC false (D+1) w2 (λk=>k<w.heap.size) c.root (oC c.root.b.k c.root.b.nm c.root.b.ini c.root.b.dft en lv mv kids c.root.b.a):=
   (cX false _).keep ((cX false _).mono ((cX false _).inHeap hx.root) λk hk=>hk.2) λk _ cd=>o2.block k cd aaa
  refine(X8 false (D+1) (s:=Sl.nil) (xs:=[]) (pa:= -1) (dp:=0) JM (λk hk=>aG) qG (Own.nil _ _ _ _ _ _) adF aN aG).mono ?_;rintro _ w3 ⟨rfl,s',wz,Fi,m3⟩;have z3:=m3.1.size;refine⟨rfl,m3.1.same λx hx=>?_,s',wz,⟨s',by rw[hc],λ_=>?_,λh=>absurd hc h⟩,?_⟩
  ·simp only[aO]at hx;subst hx;exact⟨aG,λh=>h.elim aG λh=>aaH⟩
  ·rw[cE]at Fi;exact Own.low Fi aG
  exact(o2.oH m3.1).only λk hk=>hk.elim aG λh=>aaH
 rintro _ w' ⟨v,rfl,⟨s,rfl,h1,h2⟩,h3⟩;exact⟨⟨s,rfl,h1,h2⟩,h3⟩
section
variable {w:ay} {F:aL} {l:Sl} {xs:List cR}
theorem j5(h:aD nP 5 w F l xs){i:Nat}{x:cR}(hx:xs[i]? =some x):∃ad,dI l (i:Int) 5 ad/\aE w ad (spv x)/\aE w (ad.add 2) [O ae x.pa]/\aE w (ad.add 3) [O ae x.dp]/\aE w (ad.add 4) [O ae x.en]:=by
 have cd:=(be.1 hx).1;have hl:=h.len;obtain⟨ad,y,cs,g1,g2,g3,g4,g5,g6⟩:=h.get (bE i) aG;rw[aV,hx]at g2;injection g2 with g2;subst g2;have g6:cs=spv x:=g6;subst g6;have one:∀(n:Nat) (v:az),(spv x)[n]? =some v->aE w (ad.add n) [v]:=λn v hv j u hu=>by
  cases j with
  | zero=>
   rw[cO,bc]at hu;subst hu;have:=g5 n v hv;rw[pQ,fE];exact this
  | succ j=>simp at hu
 exact⟨ad,g1,g5,one 2 _ rfl,one 3 _ rfl,one 4 _ rfl⟩
def BQ(xs:List cR)(n:Int):Bool:=decide (n>=0)&&decide (n<(xs.length:Int))
theorem ot{n:Int}:BQ xs n=true↔pf xs n:=by
 unfold BQ pf;rw[aU,ch,ch]
theorem L6(h:aD nP 5 w F l xs)(n:Int):aB au 74 #[l.v,O ae n] w λe w'=>e=aq (ao (BQ xs n))/\w'=w:=by
 refine ret (aln _ _ _ _ ?_);rw[h.len];exact⟨rfl,rfl⟩
noncomputable def NX(xs:List cR)(b a:Int):Bool:=open Classical in decide (∃i j:Nat,b=i/\a=j/\jv xs i j)
theorem qv{b a:Int}:NX xs b a=true↔∃i j:Nat,b=i/\a=j/\jv xs i j:=by
 unfold NX;exact @ch _ (Classical.propDecidable _)
theorem G8(h:aD nP 5 w F l xs)(hF:Fo xs)(b a:Int):aB au 78 #[l.v,O ae b,O ae a] w λe w'=>e=aq (ao (NX xs b a))/\w'=w:=by
 refine ret (alo _ _ _ _ _ ?_);refine⟨λr w'=>r=NX xs b a/\w'=w,λr w' ⟨h1,h2⟩=>⟨by rw[h1],h2⟩,(L6 h a).mono ?_⟩;rintro _ _ ⟨rfl,rfl⟩;refine⟨_,rfl,λha=>(L6 h b).mono ?_,λha=>⟨?_,rfl⟩⟩
 ·rintro _ _ ⟨rfl,rfl⟩;have ha:=ot.1 ha;by_cases hb:(BQ xs b&&decide (b<=a))=true
  ·rw[aU]at hb;have qC:=ot.1 hb.1;have ux:=aP hb.2;obtain⟨i,rfl⟩:∃i:Nat,b=i:=⟨b.toNat,by have:=qC.1;omega⟩
   obtain⟨j,rfl⟩:∃j:Nat,a=j:=⟨a.toNat,by have:=ha.1;omega⟩
   obtain⟨x,hx⟩:=fQ (xs:=xs) (i:=i) (by have:=qC.2;omega);obtain⟨ad,g1,g2,_,_,g5⟩:=j5 h hx;refine⟨_,rfl,ad,λ_=>g1,x.en,λ_=>g5,?_,rfl⟩;rw[hb.1,hb.2,db,db,bT,qv,ch];constructor
   ·exact λh=>⟨i,j,rfl,rfl,x,hx,aG,h⟩
   rintro⟨i',j',e1,e2,y,hy,h1,h2⟩;have e1:i=i':=aG
   subst e1;rw[hx,bc]at hy;subst hy;omega
  rw[qM]at hb;refine⟨_,rfl,⟨0,0,none⟩,λh=>(by rw[hb]at h;cases h),0,λh=>(by rw[hb]at h;cases h),?_,rfl⟩;rw[hb,fj,eq_comm,<-qM,qv];rintro⟨i,j,rfl,rfl,y,hy,h1,h2⟩;have:=eT hy;rw[show BQ xs (i:Int)=true from ot.2 ⟨aG,aG⟩,show decide ((i:Int)<=(j:Int))=true from bL aG]at hb;cases hb
 rw[eq_comm,<-qM,qv];rintro⟨i,j,rfl,rfl,hc⟩;have:=hF.pF hc;rw[show BQ xs (j:Int)=true from ot.2 ⟨aG,aG⟩]at ha;cases ha
noncomputable def I8(xs:List cR)(a b:Int):Bool:=open Classical in decide (∃i j:Nat,b=i/\a=j/\i<j/\jv xs i j)
theorem vX{a b:Int}:I8 xs a b=true↔∃i j:Nat,b=i/\a=j/\i<j/\jv xs i j:=by
 unfold I8;exact @ch _ (Classical.propDecidable _)
theorem xo(h:aD nP 5 w F l xs)(hF:Fo xs)(a b:Int):aB au 40 #[l.v,O ae a,O ae b] w λe w'=>e=aq (ao (I8 xs a b))/\w'=w:=by
 refine ret (alp _ _ _ _ _ ?_);refine⟨λr w'=>r=I8 xs a b/\w'=w,λr w' ⟨h1,h2⟩=>⟨by rw[h1],h2⟩,λhc=>(G8 h hF b a).mono ?_,λhc=>⟨?_,rfl⟩⟩
 ·rintro _ _ ⟨rfl,rfl⟩;have hc:a≠b:=aaw
  refine⟨_,rfl,?_,rfl⟩;rw[bT,qv,vX];refine⟨λ⟨i,j,e1,e2,rN⟩=>⟨i,j,e1,e2,?_,rN⟩,λ⟨i,j,e1,e2,_,rN⟩=>⟨i,j,e1,e2,rN⟩⟩;obtain⟨s,_,kB,_⟩:=rN;omega
 have hc:a=b:=aaw
 subst hc;rw[eq_comm,<-qM,vX];rintro⟨i,j,e1,e2,hl,_⟩;omega
abbrev dA(B:Nat)(w:ay)(s:Sl)(l:List Int):Prop:=Own rInt 1 3 B w (λ_=>False) s l
theorem dA.of{B:Nat}{w:ay}{F:aL}{s:Sl}{l:List Int}(h:Own rInt 1 3 B w F s l):dA B w s l:=by
 rcases h with⟨rfl,rfl⟩ | ⟨g,css,tail,h1,h2,h4,h5,h6,h7,h9,h8⟩
 ·exact .inl ⟨rfl,rfl⟩
 exact .inr ⟨g,css,tail,h1,h2,h4,h5,h6,h7,h9,gu.Wf (λx c _ hc=>hc) h8⟩
theorem amC(w0:ay){u:ay}{s:Sl}{is:List Int}(h:dA w0.heap.size u s is)(hO:aA [] w0 u)(n:Int)(hn:InI n)(hm:is.length<=20000000):
  ∃y w1,(aw 33 1 #[.mk 0 (O ae n)]).run au u=.ok (Sl.v y) w1/\aA [] u w1/\∃s' w2,(Builtin.append_ #[33,33] 33 #[Sl.v s,Sl.v y]).run au w1=.ok (Sl.v s') w2/\dA w0.heap.size w2 s' (is++[n])/\aA [] w0 w2/\aF (λk=>w0.heap.size<=k) u w2:=by
 obtain⟨y,w1,k1,k3,s',w2,g1,g2,⟨gs,g3,g4⟩,g5⟩:=jr (P:=au) (t:=33) (ty:=33) (e:=3) (i:=Tryz.t3) (bytes:=8) (size:=1) (r:=rInt) (G:=λ_=>False) (v:=O ae n) (x:=n) (by kernel_rfl) (by kernel_rfl) rfl rfl rfl rfl aN aN aN bN h hO.size rfl ⟨rfl,hn⟩ (λ_ h=>h.elim) aG;refine⟨y,w1,k1,k3,s',w2,g1,dA.of g2,?_,k3.oH (g3.p λg hg=>.inl (g4 g hg).2.1)⟩;exact((hO.cy k3).oH (g3.p (F:=λk=>w0.heap.size<=k) λg hg=>.inl (g4 g hg).2.1)).only λk hk=>hk
theorem I9(h:aD nP 5 w F l xs)(hF:Fo xs){n:Nat}{x:cR}(hx:xs[n]? =some x)(hm:xs.length<=1000):aB au 37 #[l.v,O ae (n:Int)] w λe w'=>(∃(s:Sl),e=aq (Sl.v s)/\dA w.heap.size w' s (eX xs n xs.length))/\aA [] w w':=by
 refine(al1 l n (λv w'=>(∃(s:Sl),v=Sl.v s/\dA w.heap.size w' s (eX xs n xs.length))/\aA [] w w') w ?_).mono ?_
 ·refine(L6 h n).mono ?_;rintro _ u ⟨rfl,hu⟩;obtain rfl:w=u:=hu.symm;have YY:=eT hx;have hb:BQ xs (n:Int)=true:=ot.2 ⟨aG,aG⟩;rw[hb];refine⟨_,rfl,λhc=>(by cases hc),λ_=>?_⟩;have hup:=hF.up n x hx;have Fg:∃e:Nat,x.en=e:=⟨x.en.toNat,aG⟩
  obtain⟨e,he⟩:=Fg;refine⟨λkv q i w'=>∃k:Nat,i=(k:Int)/\n<k/\k<=e/\kv+k=xs.length/\dA w.heap.size w' q (eX xs n k)/\(∀(j:Nat) u,n<j->j<k->xs[j]? =some u->u.en<=(k:Int))/\aA [] w w',xs.length-(n+1),⟨n+1,aaq,aG,aG,aG,by rw[hF.amP hx];exact Own.nil _ _ _ _ _ _,λj u h1 h2=>aG,Only.refl _ _⟩,?_⟩;rintro kv q _ w1 ⟨k,rfl,PC,hke,tX,hS,hbn,hO⟩;obtain⟨ad,a1,_,_,_,a5⟩:=j5 (SliceF.only dh aN h hO aaa) hx;refine⟨ad,a1,x.en,a5,λhc=>?_,λhc=>?_⟩
  ·have hc:=aP hc;obtain⟨y,hy⟩:=fQ (xs:=xs) (i:=k) aG;have fl:(eX xs n k).length<=k:=by
    unfold eX;rw[bA];exact bf (cY _ _) ac4
   obtain⟨y1,w2,k1,k3,s',w3,g1,g2,g3,g4⟩:=amC w hS hO k ⟨aG,aG⟩ aG;obtain⟨Ot,b1,_,_,_,b5⟩:=j5 (SliceF.only dh aN h g3 aaa) hy;have hyu:=hF.up k y hy;have hye:=hF.Yk k hx hy PC hc;obtain⟨m,yw⟩:∃m:Nat,y.en=m:=⟨y.en.toNat,aG⟩
   refine⟨y1,w2,k1,s',w3,g1,Ot,b1,y.en,b5,kv-(m-k),aG,m,yw,aG,aG,aG,?_,hF.S2 hy yw hbn,g3⟩;rw[hF.S4 hx hy PC hc yw hbn];exact g2
  have hc:=aY hc;have:k=e:=aG
  subst this;exact⟨⟨q,rfl,by rw[hF.Wi hx he];exact hS⟩,hO⟩
 rintro _ w' ⟨v,rfl,⟨s,rfl,h1⟩,h4⟩;exact⟨⟨s,rfl,h1⟩,h4⟩
end
section
variable {w:ay} {F G:aL} {l sN:Sl} {xs:List cR} {ns:List Int}
theorem VQ{k0:Nat}(h:aD nP 5 w F l xs)(hB:aH w k0 32 [l.v])(n:Int):aB au 150 #[O ae n,ai (some ⟨k0,0,none⟩)] w λe w'=>e=aq (ao (!BQ xs n))/\w'=w:=by
 refine ret (alm _ _ _ _ ?_);refine⟨l,hB.cells 0 [_] λj v hj=>adl,(L6 h n).mono ?_⟩;rintro _ _ ⟨rfl,rfl⟩;exact⟨_,rfl,rfl,rfl⟩
theorem RS{k0:Nat}(h:aD nP 5 w F l xs)(hB:aH w k0 32 [l.v])(hN:aD rInt 1 w G sN ns):aB au 72 #[sN.v,.func (.func 150) #[] #[ai (some ⟨k0,0,none⟩)]] w λe w'=>(∃i:Int,e=aq (O ae i)/\(i>=0↔∃n,n∈ns/\¬pf xs n))/\w'=w:=by
 refine(QP sN ⟨.func (.func 150) #[] #[ai (some ⟨k0,0,none⟩)],rfl⟩ (λv w'=>(∃i:Int,v=O ae i/\(i>=0↔∃n,n∈ns/\¬pf xs n))/\w'=w) w ?_).mono ?_
 ·have hl:=hN.len;have PB:=hN.cap;have yK:=hN.big;refine⟨λkv i w'=>∃j:Nat,i=(j:Int)/\kv+j=ns.length/\j<=ns.length/\(∀n,n∈ns.take j->pf xs n)/\w'=w,ns.length,⟨0,rfl,aG,bB _,λn hn=>by simp at hn,rfl⟩,?_⟩;rintro kv _ u ⟨j,rfl,tX,hj,hh,hu⟩;obtain rfl:w=u:=hu.symm;refine⟨λhc=>?_,λhc=>⟨⟨-1,rfl,λh=>absurd h aN,λ⟨n,hn,hb⟩=>absurd (hh n ?_) hb⟩,rfl⟩⟩
  ·have hc:=aP hc;obtain⟨ad,y,cs,g1,g2,g3,g4,g5,g6⟩:=hN.get (bE j) aG;rw[aV]at g2;obtain⟨rfl,hy⟩:=g6;refine⟨ad,g1,y,g5,150,[],[ai (some ⟨k0,0,none⟩)],rfl,fC (by kernel_rfl),(VQ h hB y).mono ?_⟩;rintro _ u ⟨rfl,hu⟩;obtain rfl:w=u:=hu.symm;refine⟨_,rfl,λhb=>⟨⟨j,rfl,λ_=>⟨y,bD g2,λhh'=>?_⟩,λ_=>aG⟩,rfl⟩,λhb=>⟨kv-1,aG,j+1,aaq,aG,aG,λn hn=>?_,rfl⟩⟩
   ·rw[ot.2 hh']at hb;cases hb
   rw[bF,g2,ci]at hn;rcases hn with hn | hn
   ·exact hh n hn
   simp only[Option.toList,aO]at hn;subst hn;exact ot.1 abj
  have hc:=aY hc;rwa[bq aG]
 rintro _ w' ⟨v,rfl,⟨i,rfl,h1⟩,h2⟩;exact⟨⟨i,rfl,h1⟩,h2⟩
def afY(xs:List cR)(ns:List Int):Prop:=ns=[]∨∃n,n∈ns/\¬pf xs n
theorem RT(h:aD nP 5 w F l xs)(hF:Fo xs)(hN:aD rInt 1 w G sN ns):aB au 102 #[l.v,sN.v] w λe w'=>(∃r:Int,e=aq (O ae r)/\Mt xs ns r)/\aA [] w w':=by
 refine(alk l sN (λv w'=>(∃r:Int,v=O ae r/\Mt xs ns r)/\aA [] w w') w ?_).mono ?_
 ·intro k0 w0 hY fA cQ;have hl:=hN.len;have PB:=hN.cap;have yK:=hN.big;have JB:=h.len;have kL:∀{u:ay},aA [] w u->aD nP 5 u F l xs:=λhO=>SliceF.only dh aN h hO aaa;have kN:∀{u:ay},aA [] w u->aD rInt 1 u G sN ns:=λhO=>SliceF.only bN aN hN hO aaa;refine⟨λb q u=>(b=true↔afY xs ns)/\l=q/\aA [] w u,?_,λhc=>?_,λhc hB=>?_⟩
  ·rintro b _ u ⟨hb,rfl,hO⟩;refine⟨λhbt=>⟨⟨-1,rfl,.inl ⟨hb.1 hbt,rfl⟩⟩,hO⟩,λhbf=>?_⟩;have hg:¬afY xs ns:=λhh=>by rw[hb.2 hh]at hbf;cases hbf
   have fX:ns≠[]:=λe=>hg (.inl e);have hh:∀n,n∈ns->pf xs n:=λn hn=>gA λhx=>hg (.inr ⟨n,hn,hx⟩);have hlp:0<ns.length:=gq.2 fX;obtain⟨ad,n0,cs,g1,g2,g3,g4,g5,g6⟩:=(kN hO).get (i:=0) aG aG;obtain⟨rfl,_⟩:=g6;have g2:ns[0]? =some n0:=g2;have Uw:=hh n0 (bD g2);obtain⟨m0,rfl⟩:∃m:Nat,n0=m:=⟨n0.toNat,by have:=Uw.1;omega⟩
   have ht1:ns.take 1=[(m0:Int)]:=by
    cases ns with
    | nil=>exact absurd rfl fX
    | cons a ns=>
     rw[cO,bc]at g2;subst g2;rfl
   refine⟨ad,g1,_,g5,⟨aG,PB⟩,λkv i1 i2 q u=>∃m j:Nat,i1=(m:Int)/\i2=(j:Int)/\kv+j=ns.length-1/\j<=ns.length-1/\l=q/\aA [] w u/\Top xs (ns.take (j+1)) m,ns.length-1,⟨m0,0,rfl,rfl,aG,aG,rfl,hO,?_⟩,?_⟩
   ·rw[ht1];refine⟨m0,rfl,λn hn=>?_,λj hj=>?_⟩
    ·simp only[aO]at hn;subst hn;exact⟨m0,rfl,hF.kj (by have:=Uw.2;omega)⟩
    obtain⟨k,e,s,_,kB,_⟩:=hj m0 aaa;omega
   rintro kv _ _ _ u1 ⟨m,j,rfl,rfl,tX,hj,rfl,cJ,TS⟩;have JC:=SliceF.cut (kN cJ) (lo:=1) (hi:=sN.n) (m:=sN.c) aG PB (ba _) (ba _);have pJ:(sN.cut 1 sN.n sN.c 1).n=ns.length-1:=by
    rw[JC.len,cK,cM];omega
   refine⟨λhc=>?_,λhc=>?_⟩
   ·have hc:=aP hc;obtain⟨YE,n3,cs,p1,p2,p3,p4,p5,p6⟩:=JC.get (bE j) aG;obtain⟨rfl,_⟩:=p6;rw[aV,wD aG,iQ]at p2;have p2:ns[j+1]? =some n3:=by rw[<-p2];congr 1;omega
    have hn3:=hh n3 (bD p2);obtain⟨t,rfl⟩:∃m:Nat,n3=m:=⟨n3.toNat,by have:=hn3.1;omega⟩
    have nI:ns.take (j+1+1)=ns.take (j+1)++[(t:Int)]:=by rw[bF,p2];rfl
    obtain⟨m',em,t1,t2⟩:=TS;have em:m=m':=aG
    subst em;refine⟨YE,p1,_,p5,λkv' i4 q u=>∃m:Nat,i4=(m:Int)/\m=kv'/\l=q/\aA [] w u/\(∀n,n∈ns.take (j+1)->∃k:Nat,n=k/\jv xs m k)/\∀j':Nat,(∀n,n∈ns.take (j+1+1)->∃k:Nat,n=k/\jv xs j' k)->j'<=m,m,⟨m,rfl,rfl,rfl,cJ,t1,λj' Pe=>t2 j' λn hn=>Pe n ?_⟩,?_⟩
    ·rw[nI];exact B5 _ hn
    rintro kv' _ _ u2 ⟨m2,rfl,rfl,rfl,dw,q1,q2⟩;refine(G8 (kL dw) hF m2 t).mono ?_;rintro _ u3 ⟨rfl,hu⟩;obtain rfl:u2=u3:=hu.symm;refine⟨_,rfl,cj.refl _ _,λW6=>?_,λW6=>?_⟩
    ·have W6:¬∃i j:Nat,(m2:Int)=i/\(t:Int)=j/\jv xs i j:=λe=>by rw[qv.2 e]at W6;cases W6
     have tT:t<xs.length:=by have:=hn3.2;omega
     have Po:0<m2:=Nat.pos_of_ne_zero λe=>W6 ⟨0,t,aG,rfl,hF.tq tT⟩;have TT:(m0:Int)∈ns.take (j+1):=by
      rw[List.mem_iff_getElem?];exact⟨0,by rw[wD aG];exact g2⟩
     have apa:m2<xs.length:=by
      obtain⟨k,_,s,e,_⟩:=q1 _ TT;exact eT e
     obtain⟨y,hy⟩:=fQ apa;obtain⟨p,s,r1,r2,r3,r4,r5,r6⟩:=hF.par hy Po;obtain⟨tV,b1,_,b3,_,_⟩:=j5 (kL dw) hy;have cpm:jv xs p m2:=⟨s,r3,aG,r5⟩
     refine⟨tV,b1,y.pa,b3,p,r1,p,r2,rfl,rfl,dw,λn hn=>?_,λj' Pe=>?_⟩
     ·obtain⟨k,e,hk⟩:=q1 n hn;exact⟨k,e,hF.kH cpm hk⟩
     have kB:=q2 j' Pe;have W7:j'≠m2:=λe=>by
      subst e;obtain⟨k,e,hk⟩:=Pe t (by rw[nI];simp);exact W6 ⟨j',k,rfl,e,hk⟩
     obtain⟨k,e,hk⟩:=Pe m0 (by rw[nI];exact B5 _ TT);obtain⟨k',e',iy⟩:=q1 m0 TT;have:k=k':=aG
     subst this;obtain⟨s',v1,v2,v3⟩:=hF.jJ hk iy kB;exact r6 j' s' v1 aG v3
    have W6:NX xs m2 t=true:=by simpa using W6
    obtain⟨i',t',e1,e2,hct⟩:=qv.1 W6;have e1:m2=i':=aG
    have e2:t=t':=aG
    subst e1 e2;refine⟨kv-1,aG,m2,j+1,rfl,aaq,aG,aG,rfl,dw,m2,rfl,λn hn=>?_,q2⟩;rw[nI,ci]at hn;rcases hn with hn | hn
    ·exact q1 n hn
    simp only[aO]at hn;subst hn;exact⟨t,rfl,hct⟩
   have hc:=aY hc;rw[bq aG]at TS;exact⟨⟨m,rfl,.inr ⟨⟨fX,hh⟩,TS⟩⟩,cJ⟩
  ·have hc:(sN.n:Int)=0:=aaw
   exact⟨⟨λ_=>.inl (bQ aG),λ_=>rfl⟩,rfl,cQ⟩
  have hc:¬(sN.n:Int)=0:=aaw
  refine(QO sN ⟨.func (.func 150) #[] #[ai (some ⟨k0,0,none⟩)],rfl⟩ (λv w'=>(∃b:Bool,v=ao b/\(b=true↔∃n,n∈ns/\¬pf xs n))/\w'=w0) w0 ?_).mono ?_
  ·refine(RS (kL cQ) hB (kN cQ)).mono ?_;rintro _ u ⟨⟨i,rfl,hi⟩,hu⟩;obtain rfl:w0=u:=hu.symm;exact⟨i,rfl,⟨_,rfl,by rw[ch];exact hi⟩,rfl⟩
  rintro _ u ⟨v,rfl,⟨b,rfl,hb⟩,hu⟩;obtain rfl:w0=u:=hu.symm;refine⟨b,rfl,l,hB,⟨λh=>.inr (hb.1 h),λh=>?_⟩,rfl,cQ⟩;rcases h with h | h
  ·subst h;exact absurd (by rw[hl];rfl) hc
  exact hb.2 h
 rintro _ w' ⟨v,rfl,⟨r,rfl,h1⟩,h2⟩;exact⟨⟨r,rfl,h1⟩,h2⟩
end
end Go.Proofs.YtpbgcbdclnfpnaaGreatDoor.Con
namespace Go.Kt
open Go Go.RowKit Go.MapKept
structure B1 {κ:Type} (d:TypeDesc) (kv:κ->az) (g:κ->Prop):Prop where
 is:∀k,IsKey d (kv k)
 inj:∀{k l},kv k=kv l->k=l
structure MapV {κ:Type} (kv:κ->az) (g:κ->Prop) (w:ay) (r:Nat) (m:κ->Option az) (n:Nat):Prop where
 mem:∃es clock,w.heap[r]? =some (.map es clock)/\Stamped es clock/\es.size<=n/\(∀x,x∈es.toList->∃k,x.key=kv k/\g k)/\
  ∀k v,m k=some v↔∃x,x∈es.toList/\x.key=kv k/\x.val=v
section
variable {κ:Type} {d:TypeDesc} {kv:κ->az} {g:κ->Prop} {P:Program} {w w':ay} {r n:Nat} {m:κ->Option az} {mty kt et:TypeId}
theorem MapV.keep(h:MapV kv g w r m n)(hk:w'.heap[r]? =w.heap[r]?):MapV kv g w' r m n:=by
 obtain⟨es,c,h1,h2⟩:=h.mem;exact⟨es,c,hk.trans h1,h2⟩
theorem MapV.le(h:MapV kv g w r m n){n'}(hn:n<=n'):MapV kv g w r m n':=by
 obtain⟨es,c,h1,h2,h3,h4⟩:=h.mem;exact⟨es,c,h1,h2,bf h3 hn,h4⟩
theorem MapV.lt(h:MapV kv g w r m n):r<w.heap.size:=by
 obtain⟨es,c,h1,h2⟩:=h.mem;exact(ga.1 h1).1
theorem MapV.only(h:MapV kv g w r m n){bs}(hO:Only bs w w')(hn:r∉bs):MapV kv g w' r m n:=h.keep (hO.block r h.lt hn)
theorem MapV.ext(h:MapV kv g w r m n){m'}(he:∀k,m' k=m k):MapV kv g w r m' n:=by
 obtain⟨es,c,h1,h2,h3,h4,h5⟩:=h.mem;exact⟨es,c,h1,h2,h3,h4,λk v=>by rw[he,h5]⟩
theorem MapV.ok(h:MapV kv g w r m n)(K:B1 d kv g){k}(hk:m k≠none):g k:=by
 obtain⟨es,c,h1,h2,h3,h4,h5⟩:=h.mem;cases hm:m k with
 | none=>exact absurd hm hk
 | some v=>
  obtain⟨x,hx,e1,_⟩:=(h5 k v).1 hm;obtain⟨l,e2,hl⟩:=h4 x hx;rwa[K.inj (e1.symm.trans e2)]
theorem MapV.make w:(Instr.makeMap mty none).run P w=.ok (.map (some w.heap.size)) (w.alloc (.map #[] 0))/\MapV kv g (w.alloc (.map #[] 0)) w.heap.size (λ_=>none) 0/\Only [] w (w.alloc (.map #[] 0)):=
 ⟨rfl,⟨#[],0,heap_alloc_new w _,stamped_empty 0,aaa,aaa,aaa⟩,Only.alloc _ _⟩
theorem L7(K:B1 d kv g){es:Array MapEntry}(h:∀x,x∈es.toList->∃k,x.key=kv k/\g k):∀x∈es.toList,IsKey d x.key:=λx hx=>by
 obtain⟨k,e,_⟩:=h x hx;rw[e];exact K.is k
theorem MapV.lookup(K:B1 d kv g)(hm:P.underlying mty=some (.map kt et))(hd:P.underlying kt=some d){z}(hz:∀w,(zeroValue et).run P w=.ok z w)(h:MapV kv g w r m n) k:
  (Instr.lookup mty (.map (some r)) (kv k) false).run P w=.ok ((m k).getD z) w:=by
 obtain⟨es,c,h1,h0,hn,h2,h4⟩:=h.mem;rcases findNow_spec (K.is k) es.toList 0 (L7 K h2)with⟨g1,g2⟩ | ⟨j,e,g1,g2,g3⟩
 ·have hn:m k=none:=by
   cases JY:m k with
   | none=>rfl
   | some v=>
    obtain⟨x,hx,hk,_⟩:=(h4 k v).1 JY;exact absurd hk (g2 x hx)
  simp[Instr.lookup,run_underlying hm,MapKept.run_getObj_map h1,MapKept.run_checkKey hd (K.is k),MapKept.run_findKey hd g1,Result.andThen,hz,hn]
 have he:=bD g2;simp[Instr.lookup,run_underlying hm,MapKept.run_getObj_map h1,MapKept.run_checkKey hd (K.is k),MapKept.run_findKey hd g1,Result.andThen,(h4 k e.val).2 ⟨e,he,g3,rfl⟩]
variable [DecidableEq κ]
theorem MapV.update(K:B1 d kv g)(hm:P.underlying mty=some (.map kt et))(hd:P.underlying kt=some d)(h:MapV kv g w r m n){k}(hg:g k) v:
  ∃w',(Instr.mapUpdate mty (.map (some r)) (kv k) v).run P w=.ok () w'/\MapV kv g w' r (λx=>if x=k then some v else m x) (if m k=none then n+1 else n)/\Only [r] w w':=by
 obtain⟨es,c,h1,h0,hn,h2,h4⟩:=h.mem;have fin:∀{es':Array MapEntry} {c' n':Nat},Stamped es' c'->es'.size<=n'->(∀x,x∈es'.toList->∃k,x.key=kv k/\g k)->
   (∀k' v',(∃x,x∈es'.toList/\x.key=kv k'/\x.val=v')↔(k'=k/\v'=v)∨(k'≠k/\m k'=some v'))->∀w',w'.heap[r]? =some (.map es' c')->MapV kv g w' r (λx=>if x=k then some v else m x) n':=by
  intro es' c' n' e0 en e1 e3 w' hw;refine⟨es',c',hw,e0,en,e1,λk' v'=>?_⟩;rw[e3];by_cases M5:k'=k
  ·simp[M5,yS,bc,true_and,ne_eq,not_true_eq_false,false_and,cm];exact⟨λh=>h.symm,λh=>h.symm⟩
  simp[aX M5,M5,false_and,false_or,ne_eq,not_false_eq_true,true_and,jX]
 rcases findNow_spec (K.is k) es.toList 0 (L7 K h2)with⟨g1,g2⟩ | ⟨j,e,g1,g2,g3⟩
 ·have JY:m k=none:=by
   cases hq:m k with
   | none=>rfl
   | some v=>
    obtain⟨x,hx,hk,_⟩:=(h4 k v).1 hq;exact absurd hk (g2 x hx)
  rw[aZ JY];refine⟨{w with heap:=w.heap.setIfInBounds r (.map (es.push {key:=kv k,val:=v,born:=c}) _)},?_,fin (stamped_push h0 g2) aab ?_ ?_ _ (heap_set h1).1,vi h1⟩
  ·simp[Instr.mapUpdate,run_underlying hm,MapKept.run_getObj_map h1,MapKept.run_checkKey hd (K.is k),MapKept.run_findKey hd g1,MapKept.run_setObj_map _ h1,Result.andThen]
  ·intro x hx;simp only[Array.toList_push,ci,aO]at hx;rcases hx with hx | rfl
   ·exact h2 x hx
   exact⟨k,rfl,hg⟩
  intro k' v';simp only[Array.toList_push,ci,aO];constructor
  ·rintro⟨x,hx | rfl,e1,e2⟩
   ·exact .inr ⟨λh=>g2 x hx (by rw[e1,h]),(h4 k' v').2 ⟨x,hx,e1,e2⟩⟩
   exact .inl ⟨(K.inj e1).symm,e2.symm⟩
  rintro(⟨rfl,rfl⟩ | ⟨hn,h⟩)
  ·exact⟨_,.inr rfl,rfl,rfl⟩
  obtain⟨x,hx,e1,e2⟩:=(h4 k' v').1 h;exact⟨x,.inl hx,e1,e2⟩
 have hj:=by simpa using g2
 have iY:=(be.1 g2).1;have JY:m k≠none:=by rw[(h4 k e.val).2 ⟨e,bD g2,g3,rfl⟩];simp
 rw[aX JY];refine⟨{w with heap:=w.heap.setIfInBounds r _},?_,
  fin (stamped_modify h0 j (λe=>{e with key:=kv k,val:=v}) (λ_ _=>rfl) (λe' _ he=>by rw[hj]at he;injection he with he;rw[<-he];exact g3.symm)) acq ?_ ?_ _ (heap_set h1).1,vi h1⟩
 ·simp[Instr.mapUpdate,run_underlying hm,MapKept.run_getObj_map h1,MapKept.run_checkKey hd (K.is k),MapKept.run_findKey hd g1,hj,g3,MapKept.run_keyThatStays (K.is k),MapKept.run_setObj_map _ h1,Result.andThen]
 all_goals rw[Array.toList_modify,Iv g2]
 ·intro x hx;rcases List.mem_or_eq_of_mem_set hx with hx | rfl
  ·exact h2 x hx
  exact⟨k,rfl,hg⟩
 intro k' v';constructor
 ·rintro⟨x,hx,e1,e2⟩;obtain⟨i,hi⟩:=eY hx;rw[Ka]at hi;split at hi
  ·injection hi with hi;rw[<-hi]at e1 e2;exact .inl ⟨(K.inj e1).symm,e2.symm⟩
  rename_i rO;by_cases M5:k'=k
  ·have Ib:=(be.1 hi).1;have fX:=dN.1 ((stamped_iff _ _).1 h0).2.2;have ex:=(be.1 hi).2;have ee:=(be.1 g2).2;exfalso;rcases HZ rO with cd | YZ
   ·exact fX j i iY Ib cd (by rw[ee,ex,g3,e1,M5])
   exact fX i j Ib iY YZ (by rw[ee,ex,g3,e1,M5])
  exact .inr ⟨M5,(h4 k' v').2 ⟨x,bD hi,e1,e2⟩⟩
 rintro(⟨rfl,rfl⟩ | ⟨hn,h⟩)
 ·exact⟨_,List.mem_set iY _,rfl,rfl⟩
 obtain⟨x,hx,e1,e2⟩:=(h4 k' v').1 h;obtain⟨i,hi⟩:=eY hx;refine⟨x,bD (i:=i) ?_,e1,e2⟩;rw[B4]
 ·exact hi
 rintro rfl;rw[g2]at hi;injection hi with hi;rw[<-hi,g3]at e1;exact hn (K.inj e1).symm
theorem MapV.delete(K:B1 d kv g)(hm:P.underlying mty=some (.map kt et))(hd:P.underlying kt=some d)(h:MapV kv g w r m n) k ty:
  ∃w',(Builtin.delete_ #[mty,kt] ty #[.map (some r),kv k]).run P w=.ok (.tuple #[]) w'/\MapV kv g w' r (λx=>if x=k then none else m x) (if m k=none then n else n-1)/\Only [r] w w':=by
 obtain⟨es,c,h1,h0,hn,h2,h4⟩:=h.mem;rcases findNow_spec (K.is k) es.toList 0 (L7 K h2)with⟨g1,g2⟩ | ⟨j,e,g1,g2,g3⟩
 ·have JY:m k=none:=by
   cases hq:m k with
   | none=>rfl
   | some v=>
    obtain⟨x,hx,hk,_⟩:=(h4 k v).1 hq;exact absurd hk (g2 x hx)
  rw[aZ JY];refine⟨{w with heap:=w.heap.setIfInBounds r (.map es c)},?_,⟨_,_,(heap_set h1).1,h0,hn,h2,?_⟩,vi h1⟩
  ·simp[Builtin.delete_,run_underlying hm,MapKept.run_getObj_map h1,MapKept.run_checkKey hd (K.is k),MapKept.run_findKey hd g1,MapKept.run_setObj_map _ h1,Result.andThen]
  intro k' v';by_cases hk:k'=k
  ·subst hk;simp only[yS];constructor
   ·intro h;cases h
   rintro⟨x,hx,e1,_⟩;exact absurd e1 (g2 x hx)
  rw[aX hk,h4]
 have iY:=(be.1 g2).1;have qJ:=(be.1 g2).2;have hes:(es.eraseIdxIfInBounds j).toList=es.toList.eraseIdx j:=by
  unfold Array.eraseIdxIfInBounds;rw[dif_pos (by simpa using iY),Array.toList_eraseIdx]
 have JY:m k≠none:=by rw[(h4 k e.val).2 ⟨e,bD g2,g3,rfl⟩];simp
 rw[aX JY];have hsz:(es.eraseIdxIfInBounds j).size<=n-1:=by
  rw[<-fk,hes,List.length_eraseIdx_of_lt iY];have:es.toList.length=es.size:=fk;omega
 refine⟨{w with heap:=w.heap.setIfInBounds r _},?_,⟨_,_,(heap_set h1).1,stamped_erase h0 j,hsz,?_,?_⟩,vi h1⟩
 ·simp[Builtin.delete_,run_underlying hm,MapKept.run_getObj_map h1,MapKept.run_checkKey hd (K.is k),MapKept.run_findKey hd g1,MapKept.run_setObj_map _ h1,Result.andThen]
 ·rw[hes];exact λx hx=>h2 x ((List.eraseIdx_sublist _ _).subset hx)
 intro k' v';rw[hes];have fX:=dN.1 ((stamped_iff _ _).1 h0).2.2;by_cases hk:k'=k
 ·subst hk;simp only[yS];constructor
  ·intro h;cases h
  rintro⟨x,hx,e1,_⟩;rw[PK]at hx;obtain⟨i,hi,rO,Ow⟩:=hx;rcases HZ rO with cd | YZ
  ·exact absurd (by rw[qJ,Ow,e1,g3]) (fX i j hi iY cd)
  exact absurd (by rw[qJ,Ow,e1,g3]) (fX j i iY hi YZ)
 rw[aX hk,h4];constructor
 ·rintro⟨x,hx,e1,e2⟩;refine⟨x,?_,e1,e2⟩;rw[PK];obtain⟨i,hi,Ow⟩:=jN hx;refine⟨i,hi,?_,Ow⟩;rintro rfl;rw[qJ]at Ow;rw[<-Ow,g3]at e1;exact hk (K.inj e1).symm
 rintro⟨x,hx,e1,e2⟩;exact⟨x,(List.eraseIdx_sublist _ _).subset hx,e1,e2⟩
end
abbrev kS(s:List UInt8):az:=.string ⟨s.toArray⟩
abbrev gS(s:List UInt8):Prop:=s.length<=maxLen
theorem afZ:B1 .string kS gS:=⟨λ_=>trivial,λh=>abi⟩
abbrev kN(k:Int):az:=.int .i64 k
section
variable {κ:Type} {d:TypeDesc} {kv:κ->az} {g:κ->Prop} {P:Program} {w w':ay} {r n:Nat} {m:κ->Option az} {mty kt et:TypeId}
theorem MapV.MJ(K:B1 d kv g)(hm:P.underlying mty=some (.map kt et))(hd:P.underlying kt=some d){z:az}(hz:∀w,(zeroValue et).run P w=.ok z w)(h:MapV kv g w r m n)(k:κ):
  (Instr.lookup mty (.map (some r)) (kv k) true).run P w=.ok (.tuple #[(m k).getD z,.bool (m k).isSome]) w:=by
 obtain⟨es,c,h1,h0,hn,h2,h4⟩:=h.mem;rcases findNow_spec (K.is k) es.toList 0 (L7 K h2)with⟨g1,g2⟩ | ⟨j,e,g1,g2,g3⟩
 ·have hn:m k=none:=by
   cases JY:m k with
   | none=>rfl
   | some v=>
    obtain⟨x,hx,hk,_⟩:=(h4 k v).1 JY;exact absurd hk (g2 x hx)
  simp[Instr.lookup,run_underlying hm,MapKept.run_getObj_map h1,MapKept.run_checkKey hd (K.is k),MapKept.run_findKey hd g1,Result.andThen,hz,hn]
 have he:=bD g2;have JY:m k=some e.val:=(h4 k e.val).2 ⟨e,he,g3,rfl⟩;simp[Instr.lookup,run_underlying hm,MapKept.run_getObj_map h1,MapKept.run_checkKey hd (K.is k),MapKept.run_findKey hd g1,Result.andThen,JY]
end
end Go.Kt
namespace Go.Proofs.YtpbgcbdclnfpnaaGreatDoor.Con
open Go Go.RowKit Go.Kt Go.Kt.V Go.Proofs.YtpbgcbdclnfpnaaGreatDoor.Vc
def mI(l:List (aJ)):aJ->Option az:=λk=>if uo k l<l.length then some (.int ae (uo k l:Nat))else none
theorem L8(l:List (aJ))(x k:aJ):mI (l++[x]) k=if x∈l then mI l k else if k=x then some (.int ae (l.length:Nat))else mI l k:=by
 unfold mI;rw[aW,bO];by_cases hk:k∈l
 ·have h1:=nN.2 hk;rw[LC [x] hk,aZ aG,aZ h1];by_cases hx:x∈l
  ·rw[aZ hx]
  rw[aX hx,aX λe=>hx ab1]
 have h1:¬uo k l<l.length:=λh=>hk (nN.1 h);rw[aX h1];by_cases e:k=x
 ·subst e;rw[aX hk,aZ rfl,Eo [] hk,aZ aG]
 have:¬uo k (l++[x])<(l++[x]).length:=λh=>by
  have:=nN.1 h;rw[ci,aO]at this;exact this.elim hk e
 rw[aW,bO]at this;rw[aX this,aX e];split<;>rfl
theorem VR(l:List (aJ))(k:aJ):(mI l k).isSome=decide (k∈l):=by
 unfold mI;by_cases hk:k∈l
 ·rw[aZ (nN.2 hk),bL hk];rfl
 rw[aX λh=>hk (nN.1 h),bH hk];rfl
abbrev Uf(w:ay)(r:Nat)(l:List (aJ)):Prop:=MapV kS gS w r (mI l) l.length
theorem Uf.at{w:ay}{r:Nat}{l:List (aJ)}(h:Uf w r l)(k:aJ):(Instr.lookup 115 (.map (some r)) (ah (T k)) true).run au w=.ok (ak #[O ae (if uo k l<l.length then(uo k l:Nat)else 0:Int),ao (decide (k∈l))]) w:=by
 have:=h.MJ (P:=au) (mty:=115) (kt:=9) (et:=3) (z:=O ae 0) afZ (by kernel_rfl) (by kernel_rfl) (λw=>Tryz.zeroValue3 w) k;rw[VR]at this;rw[this];unfold mI;split<;>rfl
theorem Uf.add{w:ay}{r:Nat}{l:List (aJ)}(h:Uf w r l){x:aJ}(hx:gS x)(hn:x∉l):
  ∃w',(Instr.mapUpdate 115 (.map (some r)) (ah (T x)) (O ae (l.length:Nat))).run au w=.ok () w'/\Uf w' r (l++[x])/\aA [r] w w':=by
 obtain⟨w',h1,h2,h3⟩:=h.update (P:=au) (mty:=115) (kt:=9) (et:=3) afZ (by kernel_rfl) (by kernel_rfl) hx (O ae (l.length:Nat));refine⟨w',h1,(h2.ext λk=>?_).le ?_,h3⟩
 ·rw[L8,aX hn]
 rw[aW,bO];split<;>omega
theorem Uf.has{w:ay}{r:Nat}{l:List (aJ)}(h:Uf w r l){x:aJ}(hx:x∈l):Uf w r (l++[x]):=by
 refine(h.ext λk=>?_).le abJ;rw[L8,aZ hx]
structure Lo (w:ay) (b m0 m1:Nat) (s:Sl) (nn vn:List (aJ)) (f:Ft):Prop where
 blk:aH w b 117 [.map (some m0),s.v,.map (some m1),O ae f.1,O ae f.2]
 nm:Uf w m0 nn
 vr:Uf w m1 vn
 n0:m0<m1
 n1:m1<b
section
variable {w w':ay} {b m0 m1:Nat} {s:Sl} {nn vn:List (aJ)} {f:Ft}
theorem Lo.only(h:Lo w b m0 m1 s nn vn f){bs:List Nat}(hO:aA bs w w')(h0:b∉bs)(h1:m0∉bs)(h2:m1∉bs):Lo w' b m0 m1 s nn vn f:=⟨hO.blk h.blk h0,h.nm.only hO h1,h.vr.only hO h2,h.n0,h.n1⟩
theorem Lo.o0(h:Lo w b m0 m1 s nn vn f)(hO:aA [] w w'):Lo w' b m0 m1 s nn vn f:=h.only hO aaa aaa aaa
theorem Lo.nR(h:Lo w b m0 m1 s nn vn f)(hO:aA [b] w w'){s':Sl}{f':Ft}(hB:aH w' b 117 [.map (some m0),s'.v,.map (some m1),O ae f'.1,O ae f'.2]):Lo w' b m0 m1 s' nn vn f':=
 ⟨hB,h.nm.only hO (by have:=h.n0;have:=h.n1;simp;omega),h.vr.only hO (by have:=h.n1;simp;omega),h.n0,h.n1⟩
theorem Lo.lt(h:Lo w b m0 m1 s nn vn f):b<w.heap.size:=h.blk.lt
theorem zh(w:ay)(k:Int):aB au 134 #[O ae k] w λe w'=>e=aq (ao (fM k))/\w'=w:=by
 refine ret (alw _ _ _ ?_);refine⟨?_,rfl⟩;unfold fM;rw[show((k==3)||(k==4))=decide (k=3∨k=4) by rw[bT];simp]
theorem Eu(h:Lo w b m0 m1 s nn vn f)(ok:Bool)(e a:Int):aB au 95 #[ai (some ⟨b,0,none⟩),ao ok,O ae e,O ae a] w λr w'=>r=aq (ak #[])/\Lo w' b m0 m1 s nn vn (pI f (bad ok e a))/\aA [b] w w':=by
 refine ret (alt _ _ _ _ _ _ ?_);rw[VB];refine⟨f.1,λ_=>Blk.eE h.blk 3 rfl,λhc=>⟨b,3,_,_,rfl,h.blk,aaa,λw0 hO hB=>⟨rfl,?_,hO⟩⟩,λhc=>⟨rfl,?_,Only.refl _ _⟩⟩
 ·rw[aZ hc];exact h.nR hO hB
 rw[aX (by rw[hc];decide)];exact h
theorem RU(h:Lo w b m0 m1 s nn vn f){x:aJ}(hx:gS x)(a:Int):aB au 58 #[ai (some ⟨b,0,none⟩),.map (some m0),ah (T x),O ae (nn.length:Nat),O ae a] w λr w'=>r=aq (ak #[])/\Lo w' b m0 m1 s (nn++[x]) vn (pI f (bad (!decide (x∈nn)) 24 a))/\aA [b,m0] w w':=by
 refine ret (afA _ _ _ _ _ _ _ ?_);refine⟨_,_,w,h.nm.at x,(Eu h _ 24 a).mono ?_⟩;rintro _ w1 ⟨rfl,h1,cJ⟩;refine⟨rfl,λhc=>?_,λhc=>?_⟩
 ·obtain⟨w2,u1,u2,u3⟩:=h1.nm.add hx aaw;refine⟨w2,u1,rfl,⟨u3.blk h1.blk (by have:=h.n0;have:=h.n1;simp;omega),u2,h1.vr.only u3 (by have:=h.n0;simp;omega),h.n0,h.n1⟩,(cJ.weaken (bs':=[b,m0]) (λx hx=>.inl abr)).trans u3 λx hx=>.inl abr⟩
 exact⟨rfl,⟨h1.blk,h1.nm.has aaw,h1.vr,h.n0,h.n1⟩,cJ.weaken λx hx=>.inl abr⟩
theorem RV(h:Lo w b m0 m1 s nn vn f){x:aJ}(hx:gS x)(a:Int):aB au 58 #[ai (some ⟨b,0,none⟩),.map (some m1),ah (T x),O ae (vn.length:Nat),O ae a] w λr w'=>r=aq (ak #[])/\Lo w' b m0 m1 s nn (vn++[x]) (pI f (bad (!decide (x∈vn)) 24 a))/\aA [b,m1] w w':=by
 refine ret (afA _ _ _ _ _ _ _ ?_);refine⟨_,_,w,h.vr.at x,(Eu h _ 24 a).mono ?_⟩;rintro _ w1 ⟨rfl,h1,cJ⟩;refine⟨rfl,λhc=>?_,λhc=>?_⟩
 ·obtain⟨w2,u1,u2,u3⟩:=h1.vr.add hx aaw;refine⟨w2,u1,rfl,⟨u3.blk h1.blk (by have:=h.n1;simp;omega),h1.nm.only u3 (by have:=h.n0;simp;omega),u2,h.n0,h.n1⟩,(cJ.weaken (bs':=[b,m1]) (λx hx=>.inl abr)).trans u3 λx hx=>.inl abr⟩
 exact⟨rfl,⟨h1.blk,h1.nm,h1.vr.has aaw,h.n0,h.n1⟩,cJ.weaken λx hx=>.inl abr⟩
end
def Ja(P:aL)(s:Sl)(w:ay)(s':Sl)(w':ay):Prop:=aF (λk=>P k∨s.a=some ⟨k,0,none⟩) w w'/\∀k,s'.a=some ⟨k,0,none⟩->s.a=some ⟨k,0,none⟩∨w.heap.size<=k
theorem Ja.trans{P:aL}{s t u:Sl}{w w' tt:ay}(h:Ja P s w t w')(g:Ja P t w' u tt):Ja P s w u tt:=by
 refine⟨h.1.trans g.1 λk hk=>?_,λk hk=>?_⟩
 ·rcases hk with hk | hk
  ·exact .inl (.inl hk)
  exact(h.2 k hk).elim (λh=>.inl (.inr h)) .inr
 rcases g.2 k hk with hk | hk
 ·exact h.2 k hk
 exact .inr (bf h.1.size hk)
theorem Ja.of{P:aL}{s:Sl}{w w':ay}{bs:List Nat}(hO:aA bs w w')(hb:∀k,k∈bs->P k):Ja P s w s w':=⟨hO.p λk hk=>.inl (.inl (hb k hk)),λk hk=>.inl hk⟩
def X9:cR:=⟨0,[],0,0,0⟩
theorem RW:∀(D:Nat) {w:ay} {F:aL} {x:Nd} {cs:aK} {b m0 m1:Nat} {s:Sl} {nn vn:List (aJ)} {f:Ft},pC false D w F x cs->(∀k,F k->k<m0)->Lo w b m0 m1 s nn vn f->iL (b+1) w s (List.replicate nn.length X9)->
  pD x<=8388608->nn.length+jd x<=1000000->
  aB au 57 #[ai (some ⟨b,0,none⟩),aj cs.toArray] w λe w'=>e=aq (ak #[])/\∃s',Lo w' b m0 m1 s' (nn++(NQ x).map λp=>p.1) vn (pI f (yg nn (NQ x)))/\iL (b+1) w' s' (List.replicate (nn.length+jd x) X9)/\Ja (λk=>k=b∨k=m0) s w s' w'
 | 0,_,_,_,_,_,_,_,_,_,_,_,h,_,_,_,_,_=>h.elim
 | D+1,w,F,.mk bb ks,cs,b,m0,m1,s,nn,vn,f,⟨en,lv,mv,kids,oI,_,hY⟩,hF,hL,hS,hz,hn=>by
  have hk:=hY.1;clear hY;dsimp only[Nd.kids,Nd.b]at hk oI;subst oI;rw[jd]at hn;rw[pD]at hz;have Px:=hk.len;have hnn:=sS ks;have n0:=hL.n0;have n1:=hL.n1;have hgx:gS bb.nm:=by
   show bb.nm.length<=maxLen;have:maxLen=9223372036854775807:=rfl;unfold G6 at hz;omega
  refine ret (als _ _ _ _ _ _ _ _ _ _ _ _ ?_);intro k0 w0 hY fA cQ;have z0:=cQ.size;have C8:=hL.lt;have Um:=hL.o0 cQ;have hS0:iL (b+1) w0 s _:=hS.yq cQ.p0 λ_ _ _ h=>h;have Uh:s.n=nn.length:=by rw[hS.len,gK]
  have TR:s.a≠some ⟨k0,0,none⟩:=λe=>acn
  refine⟨_,Blk.eE Um.blk 0 rfl,s,Blk.eE Um.blk 1 rfl,?_⟩;dsimp only;rw[Uh];refine(RU Um hgx bb.a).mono ?_;rintro _ w1 ⟨rfl,hL1,cJ⟩;have z1:=cJ.size;have wJ:iL (b+1) w1 s (List.replicate nn.length X9):=hS0.yq (G:=λk=>k=b∨k=m0) (cJ.p λk hk=>.inl aa2) λk h _=>aG
  have m1':Ja (λk=>k=b∨k=m0) s w s w1:=(Ja.of cQ aaa).trans (Ja.of cJ aaa);obtain⟨y,w2,k1,k3,s3,w3,g1,g2,⟨gs,g3,g4⟩,g5⟩:=jr (P:=au) (t:=32) (ty:=32) (e:=89) (i:=Tryz.t89) (bytes:=48) (size:=5) (r:=nP) (G:=λ_=>False) (v:=aj #[O ae 0,ah (ar #[]),O ae 0,O ae 0,O ae 0]) (x:=X9) (by kernel_rfl) (by kernel_rfl) rfl rfl rfl rfl aN aN aN dh wJ aG rfl rfl (λ_ h=>h.elim) (by rw[gK];omega);have z2:=k3.size;have z3:=g3.size;have gb:∀g,g∈gs->b<g/\g<w1.heap.size/\s.a=some ⟨g,0,none⟩:=λg hg=>⟨by have:=(g4 g hg).2.1;omega,(g4 g hg).2.2,(g4 g hg).1⟩
  have hL3:Lo w3 b m0 m1 s (nn++[bb.nm]) vn _:=(hL1.o0 k3).only g3 (λh=>by have:=gb _ h;omega) (λh=>by have:=gb _ h;omega) (λh=>by have:=gb _ h;omega);refine⟨rfl,cJ.same aab,s,Blk.eE hL1.blk 1 rfl,y,w2,k1,k3.same aab,s3,w3,g1,g3.same λx hx=>?_,b,1,_,_,rfl,hL3.blk,aaa,aG,λw4 dL uA=>?_⟩
  ·simp only[aO]at hx;subst hx;exact⟨aG,λh=>TR (gb _ h).2.2⟩
  have z4:=dL.size;have hL4:Lo w4 b m0 m1 s3 (nn++[bb.nm]) vn (pI f (bad (!decide (bb.nm∈nn)) 24 bb.a)):=hL3.nR dL uA;have Fi:iL (b+1) w3 s3 (List.replicate (nn.length+1) X9):=by
   have:=iL.of g2;rwa[<-List.replicate_succ']at this
  have M8:iL (b+1) w4 s3 (List.replicate (nn.length+1) X9):=Fi.yq (G:=λk=>k=b) (dL.p aaa) λk h _=>aG
  have m4:Ja (λk=>k=b∨k=m0) s w s3 w4:=by
   refine m1'.trans ⟨((k3.oH (g3.p (F:=λk=>(k=b∨k=m0)∨s.a=some ⟨k,0,none⟩) λg hg=>.inl (.inr (gb g hg).2.2))).trans (dL.p (F:=λk=>k=b) aaa) λk hk=>.inl (.inl (.inl hk))),λk hk=>?_⟩;rcases g5 with e | ⟨g,e,h⟩
   ·exact .inl ab1
   rw[e]at hk;injection hk with hk;injection hk with hk;exact .inr aG
  have n4:∀k,s3.a=some ⟨k,0,none⟩->k≠k0:=λk hk e=>by
   subst e;rcases g5 with e | ⟨g,e,h⟩
   ·exact TR ab1
   rw[e]at hk;injection hk with hk;injection hk with hk;omega
  have iy:∀{u:ay} {q:Sl},Ja (λk=>k=b∨k=m0) s w q u->aD (pC false D) 9 u F kids ks:=λhm=>SliceF.nH (cX false D) aN hk hm.1 λk uD _=>by
   have:=hF k uD;exact λh=>h.elim aG λh=>by have:=(hS.blk h).1;dsimp only at this;omega
  refine⟨λkv i w'=>∃(j:Nat) (q:Sl),i=(j:Int)/\kv+j=ks.length/\j<=ks.length/\Lo w' b m0 m1 q (nn++bb.nm::(yF (ks.take j)).map λp=>p.1) vn (pI f (yg nn ((bb.nm,bb.a)::yF (ks.take j))))/\iL (b+1) w' q (List.replicate (nn.length+1+fe (ks.take j)) X9)/\Ja (λk=>k=b∨k=m0) s w q w'/\w4.heap.size<=w'.heap.size/\∀k,q.a=some ⟨k,0,none⟩->k≠k0,ks.length,⟨0,s3,rfl,aG,bB _,by
   rw[da,yF,yg,yg,bS];exact hL4,by rw[da,fe,fE];exact M8,m4,ba _,n4⟩,?_⟩
  rintro kv _ w5 ⟨j,q,rfl,tX,iY,Y1,M9,m5,z5,n5⟩;constructor
  ·intro hc;have hj:j<ks.length:=abt
   obtain⟨y,hy⟩:∃y,ks[j]? =some y:=⟨_,aQ hj⟩
   obtain⟨ad,y',ds,a1,a2,a3,a4,a5,a6⟩:=(iy m5).get (bE j) aG;rw[aV,hy]at a2;injection a2 with a2;subst a2;have W5:=a6;obtain⟨D',rfl⟩:∃D',D=D'+1:=by
    cases D with
    | zero=>exact a6.elim
    | succ D'=>exact⟨D',rfl⟩
   obtain⟨yP,yQ,tW,lK,rfl,_⟩:=W5;have kB:=qs hy;have hzy:=qu (bD hy);have PD:(nn++bb.nm::(yF (ks.take j)).map λp=>p.1).length=nn.length+1+fe (ks.take j):=by
    rw[aW,bp,bA,VC];omega
   refine⟨ad,a1,_,_,_,_,yP,yQ,tW,lK,_,a5,λk6 w6 hk6 acE eI=>?_⟩;have z6:=eI.size;have OM:=Y1.o0 eI;have H8:=Y1.lt;refine(RW (D'+1) ((cX false (D'+1)).keep a6 λk _ cd=>eI.block k cd aaa) hF OM (by rw[PD];exact M9.yq eI.p0 λ_ _ _ h=>h) aG (by rw[PD];omega)).mono ?_;rintro _ w7 ⟨rfl,q7,Fh,hS7,m7⟩;have z7:=m7.1.size;have e:ks.take (j+1)=ks.take j++[y]:=by rw[bF,hy];rfl
   have en1:yF (ks.take (j+1))=yF (ks.take j)++NQ y:=by rw[e,Lv,yF,yF,bS]
   refine⟨rfl,m7.1.same λx hx=>?_,kv-1,aG,j+1,q7,aaq,aG,aG,?_,?_,(m5.trans (Ja.of eI aaa)).trans m7,aG,λk hk e=>?_⟩
   ·simp only[aR,bn,cm]at hx;rcases hx with rfl | rfl
    ·exact⟨aG,λh=>h.elim aG λh=>n5 _ h rfl⟩
    refine⟨acE,λh=>h.elim aG λh=>?_⟩;have:=(M9.blk h).2;dsimp only at this;omega
   ·have e1:nn++bb.nm::(yF (ks.take (j+1))).map (λp=>p.1)=(nn++bb.nm::(yF (ks.take j)).map λp=>p.1)++(NQ y).map λp=>p.1:=by
     rw[en1,dc,bR,cp]
    have e2:yg nn ((bb.nm,bb.a)::yF (ks.take (j+1)))=yg nn ((bb.nm,bb.a)::yF (ks.take j))++yg (nn++bb.nm::(yF (ks.take j)).map λp=>p.1) (NQ y):=by
     rw[en1,<-cp,Em];rfl
    rw[e1,e2,jw];exact Fh
   ·rw[PD]at hS7;rw[e,AQ,fe,fe,fE,<-eU];exact hS7
   subst e;rcases m7.2 _ hk with h | h
   ·exact n5 _ h rfl
   omega
  intro hc;have qJ:j=ks.length:=abN
  subst qJ;rw[bq (ba _)]at M9 Y1;refine⟨rfl,q,?_,?_,m5⟩
  ·rw[NQ];exact Y1
  rw[jd,show nn.length+(fe ks+1)=nn.length+1+fe ks by omega];exact M9
end Go.Proofs.YtpbgcbdclnfpnaaGreatDoor.Con
namespace Go.Kt
open Go Go.RowKit
section
variable {P:Program} {w:ay}
set_option maxRecDepth 20000 in
theorem vY {t it ty e:TypeId} {i:TypeInfo} {z:Value} (ht:P.underlying t=some (.slice e)) (hit:P.underlying it=some (.int .i64)) (hi:P.info? e=some i) (hz:i.zero=some z)
  {n:Nat} (Uw:0<n) (Fx:0<i.size) (Td:n<=9223372036854775807) (Wv:n*i.bytes<=281474976710656) (E4:Builtin.nextslicecap n 0*i.bytes<=281474976710656):
  (Builtin.append_ #[t,it] ty #[.slice none 0 0,.int .i64 n]).run P w=
   .ok (.slice (some ⟨w.heap.size,0,none⟩) n (grownCap w n 0 e))
    (w.drew.alloc (.cells (Builtin.zeroCells z.cells n++Builtin.zeroCells z.cells (grownCap w n 0 e-n)) e)):=by
 have hn:¬(n<=0):=aG
 have apc:¬(9223372036854775807<(n:Int)):=aG
 have apd:¬(281474976710656<Builtin.nextslicecap n 0*i.bytes):=aG
 have hwr:IntKind.i64.wrap (n:Int)=n:=gF aG aG;have jC:¬(281474976710656<(n:Int)*(i.bytes:Int)):=by
  have:((n*i.bytes:Nat):Int)<=281474976710656:=Int.ofNat_le.2 Wv;rw[Int.natCast_mul]at this;omega
 have ape:¬((n:Int)<0):=aG
 have fX:n≠0:=aG
 have hnz:n*i.size≠0:=by have:=Nat.mul_pos Uw Fx;omega
 simp[Builtin.append_,run_underlying ht,run_underlying hit,sizeOf,typeInfo,zeroValue,hi,hz,asInt,asIntOf,hwr,ape,jC,fX,hnz,apc,apd,Question.forced,run_firstCells_none,newRow,grownCap]
theorem RY{α:Type}{r:Rp α}{F:Nat->Prop}{size bytes:Nat}{t it ty e:TypeId}{i:TypeInfo}{z:az}(ht:P.underlying t=some (.slice e))(hit:P.underlying it=some (.int .i64))(hi:P.info? e=some i)(hz:i.zero=some z)(qA:i.size=size)(Wv:i.bytes=bytes)(Ou:z.cells.size=size)
  {n:Nat} (Uw:0<n) (h0:0<size) (hm:n*bytes<=140737488355328) (yK:0<bytes):
  ∃s w',(Builtin.append_ #[t,it] ty #[.slice none 0 0,.int .i64 n]).run P w=.ok (Sl.v s) w'/\Own r size e w.heap.size w' F (s.cut 0 0 s.c size) []/\Only [] w w'/\s.a=some ⟨w.heap.size,0,none⟩:=by
 subst qA;subst Wv;have Td:n<=140737488355328:=bf (by have:=Fk n yK;omega) hm;have hf:=(growslice_fits Uw hm:Builtin.nextslicecap n 0*i.bytes<=281474976710656)
 refine⟨⟨some ⟨w.heap.size,0,none⟩,n,grownCap w n 0 e⟩,_,vY ht hit hi hz Uw h0 aG aG hf,?_,(Only.drew w).cy (Only.alloc _ _),rfl⟩;have mQ:=grownCap_ge w n 0 e;have kB:=grownCap_le_maxLen w n 0 e (by simp only[maxLen];omega);refine .inr ⟨w.heap.size,([]:List (List az)),(Builtin.zeroCells z.cells n++Builtin.zeroCells z.cells (grownCap w n 0 e-n)).toList,?_,ba _,?_,?_,rfl,?_,?_,trivial⟩
 ·simp[Sl.cut,Addr.add]
 ·have:=Blk.alloc w.drew e (Builtin.zeroCells z.cells n++Builtin.zeroCells z.cells (grownCap w n 0 e-n)).toList;rw[Array.toArray_toList]at this;exact this
 ·rw[Array.toList_append,aW,vf w _ Ou,vf w _ Ou,<-eM];simp only[Sl.cut];congr 1;omega
 ·simp[Sl.cut]
 simp only[Sl.cut];simp only[maxLen]at kB;omega
end
end Go.Kt
namespace Go.Proofs.YtpbgcbdclnfpnaaGreatDoor.Con
open Go Go.RowKit Go.Kt Go.Kt.V Go.Proofs.YtpbgcbdclnfpnaaGreatDoor.Vc
structure Lx (w:ay) (b m0 m1:Nat) (F:aL) (s:Sl) (xs:List cR) (vn:List (aJ)) (f:Ft):Prop where
 lo:Lo w b m0 m1 s (xs.map λx:cR=>x.nm) vn f
 sp:aD nP 5 w F s xs
 fo:Fo xs
 ln:xs.length<=64
 nF:∀k,F k->k≠b
section
variable {w w':ay} {b m0 m1:Nat} {F G:aL} {s:Sl} {xs:List cR} {vn:List (aJ)} {f g:Ft}
theorem Lx.o0(h:Lx w b m0 m1 F s xs vn f)(hO:aA [] w w'):Lx w' b m0 m1 F s xs vn f:=⟨h.lo.o0 hO,SliceF.only dh aN h.sp hO aaa,h.fo,h.ln,h.nF⟩
theorem Lx.to(h:Lx w b m0 m1 F s xs vn f)(hO:aA [b] w w')(hl:Lo w' b m0 m1 s (xs.map λx:cR=>x.nm) vn g):Lx w' b m0 m1 F s xs vn g:=
 ⟨hl,SliceF.only dh aN h.sp hO λk hk _ hm=>h.nF k hk abu,h.fo,h.ln,h.nF⟩
theorem lk(h:Lx w b m0 m1 F s xs vn f)(ok:Bool)(e a:Int):aB au 95 #[ai (some ⟨b,0,none⟩),ao ok,O ae e,O ae a] w λr w'=>r=aq (ak #[])/\Lx w' b m0 m1 F s xs vn (pI f (bad ok e a))/\aA [b] w w':=by
 refine(Eu h.lo ok e a).mono ?_;rintro _ w' ⟨rfl,h1,hO⟩;exact⟨rfl,h.to hO h1,hO⟩
theorem A4(xs:List cR)(n:aJ):gw xs n= -1∨∃j:Nat,gw xs n=j/\j<xs.length:=by
 rcases mN xs n with⟨h,_⟩ | ⟨j,x,h,hx,_⟩
 ·exact .inl h
 exact .inr ⟨j,h,eT hx⟩
theorem Ev(h:Lx w b m0 m1 F s xs vn f)(n:aJ):aB au 135 #[.map (some m0),ah (T n)] w λr w'=>r=aq (O ae (gw xs n))/\w'=w:=by
 refine ret (alx _ _ _ _ ?_);refine⟨_,_,w,h.lo.nm.at n,λhb=>⟨?_,rfl⟩,λhb=>⟨?_,rfl⟩⟩
 ·have hl:=nN.2 (aP hb);unfold gw;rw[aZ hl,aZ (by rwa[bA]at hl)]
 have hl:¬_:=λh=>aY hb (nN.1 h);unfold gw;rw[aX (by rwa[bA]at hl)]
theorem G9(h:Lx w b m0 m1 F s xs vn f){n:Int}(hn:n<xs.length):aB au 136 #[ai (some ⟨b,0,none⟩),O ae n] w λr w'=>r=aq (ao (decide (0<=n)&&!fM (li xs n)))/\w'=w:=by
 refine ret (aly _ _ _ _ ?_);refine⟨λr w'=>r=(decide (0<=n)&&!fM (li xs n))/\w'=w,λr w' ⟨h1,h2⟩=>⟨by rw[h1],h2⟩,λhc=>?_,λhc=>⟨?_,rfl⟩⟩
 ·have hc:0<=n:=aP hc;obtain⟨j,rfl⟩:∃j:Nat,n=j:=⟨n.toNat,aG⟩
  obtain⟨x,hx⟩:=fQ (xs:=xs) (i:=j) aG;obtain⟨ad,a1,a2,_⟩:=j5 h.sp hx;refine⟨s,Blk.eE h.lo.blk 1 rfl,ad,a1,x.k,a2.eE 0 _ rfl,(zh w x.k).mono ?_⟩;rintro _ w1 ⟨rfl,hu⟩;refine⟨_,rfl,?_,hu⟩;rw[fR hx,bL hc];rfl
 rw[show decide (0<=n)=false from hc];rfl
theorem Ew{b k0:Nat}(hO:aA [b] w w')(h:k0≠b):bP (λk=>k=k0) w w':=λk hk cd=>hO.block k cd (by subst hk;simp[h])
theorem sX{b:Nat}{u v:ay}(h:aA [b] w u)(g:aA [b] u v):aA [b] w v:=h.trans g λx hx=>.inl hx
theorem yH{b:Nat}(h:aA [] w w'):aA [b] w w':=h.weaken λx hx=>(by simp at hx)
theorem Ey:∀(d:Nat) {w:ay} {x:Ex} {cs:aK} {f:Ft},Lk false d w G x cs->(∀k,G k->k≠b)->Lx w b m0 m1 F s xs vn f->
  aB au 98 #[ai (some ⟨b,0,none⟩),aj cs.toArray] w λr w'=>r=aq (ak #[])/\Lx w' b m0 m1 F s xs vn (pI f (Ud xs vn x))/\aA [b] w w'
 | 0,_,_,_,_,h,_,_=>h.elim
 | d+1,w,x,cs,f,⟨sl,oI,rV⟩,hG,h=>by
  subst oI;have rV:=rV.1;refine ret (alA _ _ _ _ _ _ _ _ _ ?_);intro k0 w0 hY fA cQ;have z0:=cQ.size;have C8:=h.lo.lt;have h0:=h.o0 cQ;have PD:=rV.len;have hcp:=rV.cap;have MY:=rV.big;have TU:k0≠b:=aG
  refine⟨λu=>Lx u b m0 m1 F s xs vn (pI f (bad (Uc xs vn x.k x.s) 23 x.a))/\aA [b] w u/\w0.heap.size<=u.heap.size,?_,λhk=>?_,λhk=>⟨λzo=>?_,λzo=>?_⟩⟩
  ·rintro w1 ⟨h1,o1,z1⟩;refine⟨λkv i u=>∃j:Nat,i=(j:Int)/\kv+j=x.fZ.length/\j<=x.fZ.length/\Lx u b m0 m1 F s xs vn (pI f (bad (Uc xs vn x.k x.s) 23 x.a++ub xs vn (x.fZ.take j)))/\aA [b] w u/\w0.heap.size<=u.heap.size,x.fZ.length,⟨0,rfl,rfl,bB _,by rw[da,ub,bS];exact h1,o1,z1⟩,?_⟩;rintro kv _ w2 ⟨j,rfl,tX,hj,h2,o2,z2⟩;refine⟨λhc=>?_,λhc=>?_⟩
   ·have hc:=aP hc;have hs2:aD (Lk false d) 6 w2 G sl x.fZ:=SliceF.only (kG false d) aN rV o2 λk hk _ hm=>hG k hk abu;obtain⟨ad,y,ds,a1,a2,a3,a4,a5,a6⟩:=hs2.get (bE j) aG;rw[aV]at a2;have W5:=a6;obtain⟨d',rfl⟩:∃e,d=e+1:=by
     cases d with
     | zero=>exact a6.elim
     | succ e=>exact⟨e,rfl⟩
    obtain⟨pM,rfl,_⟩:=W5;refine⟨ad,a1,_,_,_,_,_,_,a5,λk3 w3 zo xN dE=>?_⟩;have z3:=dE.size;refine(Ey (d'+1) ((kG false (d'+1)).keep a6 λk hk cd=>dE.block k cd aaa) hG (h2.o0 dE)).mono ?_;rintro _ w4 ⟨rfl,h4,dL⟩;have z4:=dL.size;have nI:x.fZ.take (j+1)=x.fZ.take j++[y]:=adR
    have ux:=h2.lo.lt;refine⟨rfl,dL.same aab,kv-1,aG,j+1,aaq,aG,aG,?_,(o2.cy dE).trans dL λx hx=>.inl hx,aG⟩;rw[nI,GS,ub,ub,bS,<-bR,jw];exact h4
   have hc:=aY hc;have qJ:j=x.fZ.length:=aG
   subst qJ;rw[bq (ba _),<-aac]at h2;exact⟨rfl,h2,o2⟩
  ·have hk:x.k=2:=aa2
   intro w5 eK;have z5:=eK.size;have h5:=h0.o0 eK;refine⟨_,Blk.eE h5.lo.blk 2 rfl,_,_,w5,h5.lo.vr.at x.s,cj.refl _ _,(lk h5 _ 23 x.a).mono ?_⟩;rintro _ w7 ⟨rfl,h7,fL⟩;have z7:=fL.size;refine⟨rfl,fL.same aab,?_,sX (yH (cQ.cy eK)) fL,aG⟩;have:Uc xs vn x.k x.s=decide (x.s∈vn):=by unfold Uc;rw[hk];simp
   rw[this];exact h7
  ·have zo:x.k=3:=by simpa using zo
   intro w8 fV;have z8:=fV.size;have h8:=h0.o0 fV;refine⟨λk=>k=k0,_,Blk.eE h8.lo.blk 0 rfl,rfl,(Ev h8 x.s).mono ?_⟩;rintro _ w9 ⟨rfl,hu⟩;obtain rfl:w8=w9:=hu.symm;refine⟨_,rfl,cj.refl _ _,bP.refl _ _,(G9 h8 (by rcases A4 xs x.s with h | ⟨j,h,hl⟩<;>omega)).mono ?_⟩;rintro _ dR ⟨rfl,hu⟩;obtain rfl:w8=dR:=hu.symm;refine⟨_,rfl,cj.refl _ _,bP.refl _ _,(lk h8 _ 23 x.a).mono ?_⟩;rintro _ dS ⟨rfl,Ie,ey⟩;have Fa:=ey.size;refine⟨rfl,ey.same aab,Ew ey TU,?_,sX (yH (cQ.cy fV)) ey,aG⟩;have:Uc xs vn x.k x.s=stM xs x.s:=by unfold Uc;rw[zo];simp
   rw[this];exact Ie
  have uY:x.k≠2:=aa2
  have zo:x.k≠3:=by simpa using zo
  have:Uc xs vn x.k x.s=true:=by unfold Uc;simp[uY,zo]
  rw[this];exact⟨h0,yH cQ,ba _⟩
end
def Ha:Rp Sl:=λ_ _ x cs=>cs=[x.v]
theorem rj:Ha.Ok:=⟨λh _=>h,λh=>h,λh _=>h,λh=>by
 unfold Ha at h;subst h;intro v hv;simp only[aO]at hv;subst hv;rfl⟩
abbrev CJ(B:Nat)(w:ay)(G:aL)(s:Sl)(l:List Ac):Prop:=Own (uq false) 9 211 B w G s l
theorem VS(w:ay)(G:aL){n:Nat}(hn:n<=20000000):aB au 174 #[Sl.nil.v,O ae (n:Int)] w λe w'=>(∃s:Sl,e=aq s.v/\CJ w.heap.size w' G s [])/\aA [] w w':=by
 refine(afC Sl.nil n (λv w'=>(∃s:Sl,v=s.v/\CJ w.heap.size w' G s [])/\aA [] w w') w ?_).mono abe;have e0:av ae ((n:Int)-(av ae ((Sl.nil.c:Int)-(Sl.nil.n:Int))))=n:=by
  show av ae ((n:Int)-(av ae (((0:Nat):Int)-((0:Nat):Int))))=n;rw[gF (x:=((0:Nat):Int)-((0:Nat):Int)) aG aG,gF aG aG];omega
 refine⟨λu=>w=u,?_,λhc=>?_,λ_=>rfl⟩
 ·rintro _ rfl;rw[e0];refine⟨λl u=>CJ w.heap.size u G l []/\aA [] w u,λl u h=>⟨⟨l,rfl,h.1⟩,h.2⟩,λhc=>?_,λhc=>⟨Own.nil _ _ _ _ _ _,Only.refl _ _⟩⟩;have hc:=aP hc;obtain⟨s,w2,g1,g2,g3,_⟩:=RY (P:=au) (w:=w) (r:=uq false) (F:=G) (size:=9) (bytes:=104) (t:=23) (it:=3) (ty:=23) (e:=211) (i:=Tryz.t211) (n:=n) (by kernel_rfl) (by kernel_rfl) (by kernel_rfl) rfl rfl rfl rfl aG aN aG aN;exact⟨0,⟨rfl,ba _⟩,s,w2,g1,0,⟨rfl,bB _⟩,g2,g3⟩
 have:=aP hc;omega
def me(l:List (Sl×List Ac)):List Ac:=l.flatMap λp=>p.2
theorem tL{l:List (Sl×List Ac)}{j:Nat}{p:Sl×List Ac}(h:l[j]? =some p):me (l.take (j+1))=me (l.take j)++p.2:=by
 rw[bF,h];unfold me;rw[gr];simp
theorem L9{l:List (Sl×List Ac)}(j:Nat):(me (l.take j)).length<=(me l).length:=by
 have:me l=me (l.take j)++me (l.drop j):=by
  unfold me;rw[<-gr,du]
 rw[this,aW];omega
theorem NY{w:ay}{rows:Sl}{F G:aL}{l:List (Sl×List Ac)}(hR:aD Ha 1 w F rows (l.map λp=>p.1))(hA:∀p,p∈l->aD (uq false) 9 w G p.1 p.2)(hm:(me l).length<=20000000):
  aB au 137 #[rows.v] w λe w'=>(∃s:Sl,e=aq s.v/\CJ w.heap.size w' (λk=>G k/\k<w.heap.size) s (me l))/\aA [] w w':=by
 refine(afB rows (λv w'=>(∃s:Sl,v=s.v/\CJ w.heap.size w' (λk=>G k/\k<w.heap.size) s (me l))/\aA [] w w') w ?_).mono abe;have PE:=hR.len;have hcp:=hR.cap;have MY:=hR.big;rw[bA]at PE;have row:∀{u:ay} {j:Nat},aA [] w u->j<l.length->∃ad p,dI rows (j:Int) 1 ad/\l[j]? =some p/\aE u ad [p.1.v]/\aD (uq false) 9 u (λk=>G k/\k<w.heap.size) p.1 p.2:=fun{u j} hO hj=>by
  obtain⟨ad,y,ds,a1,a2,a3,a4,a5,a6⟩:=(SliceF.only rj aN hR hO aaa).get (bE j) aG;rw[aV,bW,gj]at a2;obtain⟨p,hp,rfl⟩:=a2;have a6:ds=[p.1.v]:=a6;subst a6;exact⟨ad,p,a1,hp,a5,((hA p (bD hp)).inHeap (dV false) aN).keep (dV false) aN λk _ cd=>hO.block k cd aaa⟩
 refine⟨λkv n i u=>∃j:Nat,i=(j:Int)/\n=((me (l.take j)).length:Nat)/\kv+j=l.length/\j<=l.length/\w=u,l.length,⟨0,rfl,rfl,rfl,bB _,rfl⟩,?_⟩;rintro kv _ _ _ ⟨j,rfl,rfl,tX,hj,rfl⟩;refine⟨λhc=>?_,λhc=>?_⟩
 ·have hc:=aP hc;obtain⟨ad,p,a1,a2,a3,a4⟩:=row (Only.refl _ _) (j:=j) aG;have M4:=a4.len;have kB:=L9 (l:=l) (j+1);rw[tL a2,aW]at kB;have hw:av ae (((me (l.take j)).length:Nat)+(p.1.n:Int))=((me (l.take (j+1))).length:Nat):=by
   rw[gF aG aG,tL a2,aW];omega
  refine⟨λn u=>n=((me (l.take (j+1))).length:Nat)/\w=u,?_,ad,a1,p.1,a3,λhb=>?_,λ_=>⟨hw,rfl⟩⟩
  ·rintro _ _ ⟨rfl,rfl⟩;exact⟨kv-1,aG,j+1,aaq,rfl,aG,aG,rfl⟩
  have:=aP hb;rw[hw]at this;omega
 have hc:=aY hc;have qJ:j=l.length:=aG
 subst qJ;rw[bq (ba _)];refine(VS w (λk=>G k/\k<w.heap.size) hm).mono ?_;rintro _ w2 ⟨⟨s,rfl,hS⟩,dw⟩;refine⟨s,rfl,λkv t i u=>∃j:Nat,i=(j:Int)/\kv+j=l.length/\j<=l.length/\CJ w.heap.size u (λk=>G k/\k<w.heap.size) t (me (l.take j))/\aA [] w u,l.length,⟨0,rfl,rfl,bB _,by rw[da];exact hS,dw⟩,?_⟩;rintro kv t _ w3 ⟨j,rfl,tX,hj,hT,dE⟩;refine⟨λhc=>?_,λhc=>?_⟩
 ·have hc:=aP hc;obtain⟨ad,p,a1,a2,a3,a4⟩:=row dE (j:=j) aG;have kB:=L9 (l:=l) (j+1);rw[tL a2,aW]at kB;obtain⟨t',w4,g1,g2,gs,g3,g4,_⟩:=vg (P:=au) (t:=23) (ty:=23) (e:=211) (i:=Tryz.t211) (bytes:=104) (size:=9) (r:=uq false) (by kernel_rfl) (by kernel_rfl) rfl rfl rfl rfl (dV false) hT (a4.mono (dV false) λk hk=>⟨hk,λe=>by have:=(hT.blk e).1;dsimp only at this;omega⟩) dE.size aG aN;refine⟨ad,a1,p.1,a3,t',w4,g1,kv-1,aG,j+1,aaq,aG,aG,by rw[tL a2];exact g2,dE.trans g3 λg hg=>.inr (g4 g hg).2.1⟩
 have hc:=aY hc;have qJ:j=l.length:=aG
 subst qJ;rw[bq (ba _)]at hT;exact⟨⟨t,rfl,hT⟩,dE⟩
section
variable {w w':ay} {b m0 m1:Nat} {F G H:aL} {s:Sl} {xs:List cR} {vn:List (aJ)} {f g:Ft}
theorem Ma{rows:Sl}{l:List (Sl×List Ac)}(hR:aD Ha 1 w H rows (l.map λp=>p.1))(hA:∀p,p∈l->aD (uq false) 9 w G p.1 p.2)(hm:(me l).length<=20000000)(hG:∀k,G k->k≠b)(h:Lx w b m0 m1 F s xs vn f):
  aB au 97 #[ai (some ⟨b,0,none⟩),rows.v] w λr w'=>r=aq (ak #[])/\Lx w' b m0 m1 F s xs vn (pI f (uc xs vn (me l)))/\aA [b] w w':=by
 refine ret (alz _ _ _ _ ?_);refine(NY hR hA hm).mono ?_;rintro _ w0 ⟨⟨t,rfl,hT⟩,cQ⟩;have C8:=h.lo.lt;have z0:=cQ.size;generalize me l=al at*
 have htn:=hT.len;refine⟨t,rfl,λkv i u=>∃j:Nat,i=(j:Int)/\kv+j=al.length/\j<=al.length/\Lx u b m0 m1 F s xs vn (pI f (uc xs vn (al.take j)))/\aA [b] w0 u,al.length,⟨0,rfl,rfl,bB _,by rw[da];exact h.o0 cQ,Only.refl _ _⟩,?_⟩;rintro kv _ w1 ⟨j,rfl,tX,hj,h1,cJ⟩;have z1:=cJ.size;refine⟨λhc=>?_,λhc=>?_⟩
 ·have hc:=aP hc;have hT1:aD (uq false) 9 w1 _ t al:=SliceF.only (dV false) aN (hT.slice (dV false)) cJ λk hk _ hm=>by
   simp only[aO]at hm;rcases hk with hk | hk
   ·exact hG k hk.1 hm
   omega
  obtain⟨ad,y,ds,a1,a2,a3,a4,a5,a6⟩:=hT1.get (bE j) aG;rw[aV]at a2;obtain⟨xc,rfl,hx⟩:=a6;obtain⟨sl,rfl⟩:=jc hx;have qC:=h1.lo.lt;refine⟨ad,a1,_,_,_,_,_,_,sl,_,_,a5,λk2 w2 uY xM dw=>?_⟩;have z2:=dw.size;have h2:=h1.o0 dw;have e1:uc xs vn (al.take (j+1))=uc xs vn (al.take j)++(bad (decide (y.k≠1)||decide (y.n∈vn)) 23 y.a++Ud xs vn y.x):=by
   rw[bF,a2];unfold uc;rw[gr];simp[acF]
  refine⟨λu=>Lx u b m0 m1 F s xs vn (pI f (uc xs vn (al.take j)++bad (decide (y.k≠1)||decide (y.n∈vn)) 23 y.a))/\aA [b] w2 u,?_,λhk w5 eK=>?_,λhk=>?_⟩
  ·rintro w3 ⟨h3,dE⟩;have z3:=dE.size;obtain⟨d,hxd⟩:=hx;have hfp:∀k,((G k/\k<w.heap.size)∨(w.heap.size<=k/\t.a=some ⟨k,0,none⟩))->k≠b:=λk hk=>hk.elim (λh=>hG k h.1) λh=>aG
   refine(Ey d ((kG false d).keep ((kG false d).keep hxd λk _ cd=>dw.block k cd aaa) λk hk cd=>dE.block k cd (by simp;exact hfp k hk)) hfp h3).mono ?_;rintro _ w4 ⟨rfl,h4,dL⟩;have z4:=dL.size;refine⟨rfl,dL.same aab,kv-1,aG,j+1,aaq,aG,aG,?_,sX (sX (cJ.cy dw) dE) dL⟩;rw[e1,<-bR,jw];exact h4
  ·have hk:y.k=1:=aa2
   have z5:=eK.size;have h5:=h2.o0 eK;refine⟨_,Blk.eE h5.lo.blk 2 rfl,_,_,w5,h5.lo.vr.at y.n,cj.refl _ _,(lk h5 _ 23 y.a).mono ?_⟩;rintro _ w7 ⟨rfl,h7,fL⟩;have z7:=fL.size;refine⟨rfl,fL.same aab,?_,sX (yH eK) fL⟩;rw[jw,hk];exact h7
  have hk:y.k≠1:=aa2
  refine⟨?_,Only.refl _ _⟩;rw[jw,bL hk];exact h2
 have hc:=aY hc;have qJ:j=al.length:=aG
 subst qJ;rw[bq (ba _)]at h1;exact⟨rfl,h1,sX (yH cQ) cJ⟩
end
theorem amD(u:ay){a b:Int}(ha:InI a)(hb:InI b):∃y w1,(aw 33 2 #[.mk 0 (O ae a),.mk 1 (O ae b)]).run au u=.ok (Sl.v y) w1/\aA [] u w1/\aD rInt 1 w1 (λ_=>True) y [a,b]:=by
 obtain⟨y,w1,k1,k2,k3,_⟩:=kP (P:=au) (t:=33) (e:=3) (i:=Tryz.t3) (z:=O ae 0) (w:=u) (F:=λ_=>False) (vs:=[O ae a,O ae b]) (parts:=#[.mk 0 (O ae a),.mk 1 (O ae b)]) (len:=2) (xs:=[a,b]) (r:=rInt) (size:=1) (by kernel_rfl) (by kernel_rfl) rfl rfl aN rfl rfl aN aN bN ⟨⟨rfl,rfl,ha⟩,⟨rfl,rfl,hb⟩,trivial⟩;exact⟨y,w1,k1,k3,(k2.slice bN).mono bN λ_ _=>trivial⟩
theorem iL.sl{B:Nat}{w:ay}{s:Sl}{xs:List cR}(h:iL B w s xs):aD nP 5 w (λk=>B<=k) s xs:=(h.slice dh).mono dh λk hk=>hk.elim (λh=>h.elim) λh=>h.1
def tup(x:cR):Int×aJ×Int×Int×Int:=(x.k,x.nm,x.pa,x.dp,x.en)
section
variable {w w':ay} {b m0 m1:Nat} {F G:aL} {s:Sl} {xs:List cR} {vn:List (aJ)} {f g:Ft}
theorem Jb{n:Int}(h:pf xs n)(hl:xs.length<=64):InI n:=⟨by have:=h.1;omega,by have:=h.2;omega⟩
theorem RZ(h:Lx w b m0 m1 F s xs vn f){n o:Int}(hn:pf xs n)(ho:pf xs o):aB au 139 #[ai (some ⟨b,0,none⟩),O ae n,O ae o] w λr w'=>r=aq (ao (El xs n o))/\aA [] w w':=by
 refine ret (alD _ _ _ _ _ ?_);obtain⟨y,w1,k1,k2,k3⟩:=amD w (Jb hn h.ln) (Jb ho h.ln);have h1:=h.o0 k2;refine⟨s,Blk.eE h.lo.blk 1 rfl,y,w1,k1,(RT h1.sp h.fo k3).mono ?_⟩;rintro _ w2 ⟨⟨r,rfl,hr⟩,dw⟩;have h2:=h1.o0 dw;have er:=h.fo.Wj hr hn ho;have TS:=hr.agl aaa λi hi=>by
  simp only[aR,bn,cm]at hi;rcases hi with rfl | rfl
  ·exact hn
  exact ho
 obtain⟨m,e,t1,_⟩:=TS;obtain⟨k,_,x,hx,_⟩:=t1 n aaa;obtain⟨ad,a1,a2,_⟩:=j5 h2.sp hx;subst e;refine⟨_,rfl,s,λ_=>Blk.eE h2.lo.blk 1 rfl,ad,λ_=>a1,x.k,λ_=>a2.eE 0 _ rfl,?_,k2.cy dw⟩;unfold El;rw[<-er,fR hx];congr 1;rw[bT];simp
theorem aax{k0 k4:Nat}(h:Lx w b m0 m1 F s xs vn f){n o:Int}(hn:pf xs n)(ho:pf xs o)(h0:aH w k0 113 [ai (some ⟨b,0,none⟩)])(h4:aH w k4 3 [O ae n]):
  aB au 138 #[O ae o,ai (some ⟨k0,0,none⟩),ai (some ⟨k4,0,none⟩)] w λr w'=>r=aq (ao (!El xs n o))/\aA [] w w':=by
 refine ret (alC _ _ _ _ _ ?_);refine⟨_,h0.cells 0 [_] λj v hj=>adl,_,h4.cells 0 [_] λj v hj=>adl,(RZ h hn ho).mono ?_⟩;rintro _ w1 ⟨rfl,hO⟩;exact⟨_,rfl,rfl,hO⟩
theorem aay{k0 k4:Nat}(h:Lx w b m0 m1 F s xs vn f){n:Int}(hn:pf xs n){sN:Sl}{ns:List Int}(hN:aD rInt 1 w G sN ns)(YN:∀o,o∈ns->pf xs o)(h0:aH w k0 113 [ai (some ⟨b,0,none⟩)])(h4:aH w k4 3 [O ae n]):
  aB au 51 #[sN.v,.func (.func 138) #[] #[ai (some ⟨k0,0,none⟩),ai (some ⟨k4,0,none⟩)]] w λr w'=>r=aq (ao (ns.any λo=>!El xs n o))/\aA [] w w':=by
 refine ret (QO sN ⟨.func (.func 138) #[] #[ai (some ⟨k0,0,none⟩),ai (some ⟨k4,0,none⟩)],rfl⟩ (λv w'=>v=ao (ns.any λo=>!El xs n o)/\aA [] w w') w ?_);refine(QP sN ⟨.func (.func 138) #[] #[ai (some ⟨k0,0,none⟩),ai (some ⟨k4,0,none⟩)],rfl⟩ (λv w'=>(∃i:Int,v=O ae i/\decide (i>=0)=ns.any λo=>!El xs n o)/\aA [] w w') w ?_).mono (by
  rintro _ w' ⟨v,rfl,⟨i,rfl,hi⟩,hO⟩;exact⟨i,rfl,by rw[hi],hO⟩)
 have hl:=hN.len;have PB:=hN.cap;have yK:=hN.big;refine⟨λkv i u=>∃j:Nat,i=(j:Int)/\kv+j=ns.length/\j<=ns.length/\((ns.take j).any λo=>!El xs n o)=false/\aA [] w u,ns.length,⟨0,rfl,aG,bB _,rfl,Only.refl _ _⟩,?_⟩;rintro kv _ u ⟨j,rfl,tX,hj,hh,hO⟩;refine⟨λhc=>?_,λhc=>?_⟩
 ·have hc:=aP hc;obtain⟨ad,y,cs,g1,g2,g3,g4,g5,g6⟩:=(SliceF.only bN aN hN hO aaa).get (bE j) aG;rw[aV]at g2;obtain⟨rfl,hy⟩:=g6;have hym:=bD g2;refine⟨ad,g1,y,g5,138,[],[ai (some ⟨k0,0,none⟩),ai (some ⟨k4,0,none⟩)],rfl,fC (by kernel_rfl),(aax (h.o0 hO) hn (YN y hym) (hO.blk h0 aaa) (hO.blk h4 aaa)).mono ?_⟩;rintro _ u1 ⟨rfl,cJ⟩;refine⟨_,rfl,λhb=>⟨⟨j,rfl,?_⟩,hO.cy cJ⟩,λhb=>⟨kv-1,aG,j+1,aaq,aG,aG,?_,hO.cy cJ⟩⟩
  ·rw[bL (by omega:(j:Int)>=0)];exact(fF.2 ⟨y,hym,hb⟩).symm
  rw[bF,g2,T5,hh];simpa using hb
 have hc:=aY hc;rw[bq aG]at hh;exact⟨⟨-1,rfl,by rw[hh];rfl⟩,hO⟩
theorem VT(hF:Fo xs){n:aJ}(h:¬gw xs n<1):pf xs (BD xs n):=by
 rcases mN xs n with⟨e,_⟩ | ⟨j,x,e,hx,_⟩
 ·omega
 have hl:=eT hx;unfold BD;rw[e,fR hx,lj hx];split
 ·obtain⟨p,_,h1,h2,_⟩:=hF.par hx aG;exact⟨aG,aG⟩
 exact⟨aG,aG⟩
theorem dA.kp{B:Nat}{w w':ay}{s:Sl}{l:List Int}(h:dA B w s l)(hO:aA [] w w'):dA B w' s l:=Own.keep bN h λk _ cd=>hO.block k cd aaa
theorem af0(w0:ay){u:ay}{s:Sl}{is:List Int}(h:dA w0.heap.size u s is)(hO:aA [] w0 u)(n:Int)(hn:InI n)(hm:is.length<=20000000):
  ∃y w1,(aw 33 1 #[.mk 0 (O ae n)]).run au u=.ok (Sl.v y) w1/\aA [] u w1/\∃s' w2,(Builtin.append_ #[33,33] 33 #[Sl.v s,Sl.v y]).run au w1=.ok (Sl.v s') w2/\dA w0.heap.size w2 s' (is++[n])/\aA [] w0 w2/\w1.heap.size<=w2.heap.size/\
   (∀k,k<u.heap.size->s.a≠some ⟨k,0,none⟩->w2.heap[k]? =w1.heap[k]?)/\∀k,k<u.heap.size->s.a≠some ⟨k,0,none⟩->s'.a≠some ⟨k,0,none⟩:=by
 obtain⟨y,w1,k1,k3,s',w2,g1,g2,⟨gs,g3,g4⟩,g5⟩:=jr (P:=au) (t:=33) (ty:=33) (e:=3) (i:=Tryz.t3) (bytes:=8) (size:=1) (r:=rInt) (G:=λ_=>False) (v:=O ae n) (x:=n) (by kernel_rfl) (by kernel_rfl) rfl rfl rfl rfl aN aN aN bN h hO.size rfl ⟨rfl,hn⟩ (λ_ h=>h.elim) aG;have z3:=k3.size;refine⟨y,w1,k1,k3,s',w2,g1,dA.of g2,((hO.cy k3).oH (g3.p (F:=λk=>w0.heap.size<=k) λg hg=>.inl (g4 g hg).2.1)).only λk hk=>hk,g3.size,λk hk hs=>g3.block k aG λhg=>hs (g4 k hg).1,λk hk hs e=>?_⟩;rcases g5 with e' | ⟨g,e',h⟩
 ·exact hs (by rw[<-e',e])
 rw[e']at e;injection e with e;injection e with e;omega
theorem Hb(l:List Int)(n:aJ)(r:List (aJ)):O6 xs l (n::r)=if gw xs n<1 then false else if(l.any λo=>!El xs (BD xs n) o)=true then false else O6 xs (l++[BD xs n]) r:=rfl
theorem Jc(h:Lx w b m0 m1 F s xs vn f){sT:Sl}{tg:List (aJ)}(hT:aD lz 1 w G sT tg)(hm:tg.length<=20000000):aB au 99 #[ai (some ⟨b,0,none⟩),sT.v] w λr w'=>r=aq (ao (O6 xs [] tg))/\aA [] w w':=by
 refine ret (alB _ _ _ _ ?_);intro k0 w0 hY fA cQ;have z0:=cQ.size;have C8:=h.lo.lt;have htn:=hT.len;refine⟨λkv l i q u=>∃(j:Nat) (al:List Int),i=(j:Int)/\kv+j=tg.length/\j<=tg.length/\q=some ⟨b,0,none⟩/\dA w.heap.size u l al/\(∀o,o∈al->pf xs o)/\al.length<=j/\O6 xs [] tg=O6 xs al (tg.drop j)/\aA [] w u/\w0.heap.size<=u.heap.size/\l.a≠some ⟨k0,0,none⟩,tg.length,
  ⟨0,[],rfl,rfl,bB _,rfl,Own.nil _ _ _ _ _ _,aaa,ba _,rfl,cQ,ba _,by intro e;cases e⟩,?_⟩
 rintro kv l _ _ w1 ⟨j,al,rfl,tX,hj,rfl,hS,TV,iW,rS,cJ,z1,Yv⟩;refine⟨λhc=>?_,λhc=>?_⟩
 ·have hc:=aP hc;obtain⟨ad,y,cs,g1,g2,g3,g4,g5,g6⟩:=(SliceF.only dH aN hT cJ aaa).get (bE j) aG;rw[aV]at g2;have g6:cs=[ah (T y)]:=g6;subst g6;have h1:=h.o0 cJ;have hdr:tg.drop j=y::tg.drop (j+1):=by
   obtain⟨cd,e⟩:=be.1 g2;rw[<-e,List.getElem_cons_drop]
  rw[hdr,Hb]at rS;refine⟨ad,g1,_,g5,_,rfl,_,Blk.eE h1.lo.blk 0 rfl,(Ev h1 y).mono ?_⟩;rintro _ w2 ⟨rfl,hu⟩;obtain rfl:w1=w2:=hu.symm;refine⟨_,rfl,cj.refl _ _,λhb k3 w3 _ _ dE=>⟨?_,cJ.cy dE⟩,λhb k4 w4 zq BZ dL=>?_⟩
  ·have hb:=aP hb;rw[rS,aZ hb]
  have hb:=aY hb;rw[aX hb]at rS;have wC:=VT h.fo hb;have z4:=dL.size;have o4:=cJ.cy dL;have M8:dA w.heap.size w4 l al:=hS.kp dL;have hl4:l.a≠some ⟨k4,0,none⟩:=λe=>acn
  refine⟨λq i u=>q=some ⟨b,0,none⟩/\i=BD xs y/\aA [] w u/\dA w.heap.size u l al/\w4.heap.size<=u.heap.size,?_,_,rfl,λw9 gy=>?_⟩
  ·rintro _ _ w5 ⟨rfl,rfl,o5,M9,z5⟩ rQ uA;have h5:=h.o0 o5;refine(aay h5 wC (M9.slice bN) TV rQ uA).mono ?_;rintro _ w6 ⟨rfl,eI⟩;have z6:=eI.size;have o6:=o5.cy eI;refine⟨_,rfl,_,eI.blk rQ aaa,_,eI.blk uA aaa,λha=>⟨?_,o6⟩,λha=>?_⟩
   ·rw[rS,aZ ha]
   rw[aX (by rw[ha];decide)]at rS;have hS6:dA w.heap.size w6 l al:=M9.kp eI;obtain⟨y1,w7,p1,p3,s',w8,q1,q2,q3,z8,q4,q5⟩:=af0 w hS6 o6 (BD xs y) (Jb wC h.ln) aG;have z7:=p3.size;refine⟨y1,w7,p1,p3.same aab,s',w8,q1,λk hk=>?_,kv-1,aG,j+1,al++[BD xs y],aaq,aG,aG,rfl,q2,λo ho=>?_,abo,rS,q3,aG,q5 k0 aG Yv⟩
   ·simp only[aR,bn,cm]at hk;rcases hk with rfl | rfl
    ·exact q4 _ aG Yv
    exact q4 _ aG hl4
   rcases ci.1 ho with ho | ho
   ·exact TV o ho
   simp only[aO]at ho;subst ho;exact wC
  have z9:=gy.size;have o9:=o4.cy gy;have h9:=h.o0 o9;obtain⟨e,_⟩ | ⟨jx,x,e,hx,_⟩:=mN xs y
  ·omega
  obtain⟨tV,b1,b2,b3,_⟩:=j5 h9.sp hx;rw[e]at hb⊢;refine⟨_,Blk.eE h9.lo.blk 1 rfl,tV,b1,x.k,b2.eE 0 _ rfl,(zh w9 x.k).mono ?_⟩;rintro _ dR ⟨rfl,hu⟩;obtain rfl:w9=dR:=hu.symm;refine⟨_,rfl,cj.refl _ _,λhh=>⟨_,rfl,λdS ey=>?_⟩,λhh=>⟨rfl,?_,o9,M8.kp gy,aG⟩⟩
  ·have Fa:=ey.size;have o11:=o9.cy ey;have Ie:=h.o0 o11;obtain⟨ad3,c1,_,c3,_⟩:=j5 Ie.sp hx;refine⟨_,Blk.eE Ie.lo.blk 1 rfl,ad3,c1,x.pa,c3,λfp fu=>⟨rfl,?_,o11.trans fu λk hk=>.inr acr,?_,by have:=fu.size;omega⟩⟩
   ·unfold BD;rw[e,fR hx,lj hx,aZ hh]
   refine Own.keep bN ((M8.kp gy).kp ey) λk hk cd=>fu.block k cd ?_;simp only[aO];rintro rfl;exact hk.elim (λh=>h) λh=>hl4 h.2
  unfold BD;rw[e,fR hx,aX adx]
 have hc:=aY hc;have qJ:j=tg.length:=aG
 subst qJ;rw[oO (ba _)]at rS;exact⟨by rw[rS];rfl,cJ⟩
end
section
variable {w w':ay} {b m0 m1:Nat} {F G:aL} {s:Sl} {xs:List cR} {vn:List (aJ)} {f g:Ft}
theorem Hc{l:List Nd}{j}{y}(h:l[j]? =some y):Lw (l.take (j+1))=Lw (l.take j)+if fM y.b.k=true then 0 else 1:=by
 unfold Lw;rw[bF,h,eu,aW];simp[Option.toList,ml,eG];cases fM y.b.k<;>simp
theorem aaz l:Lw l<=l.length:=cY _ _
theorem R0{D:Nat}{bb}{ks}{cs}(hx:pC false (D+1) w G (.mk bb ks) cs)(hG:∀k,G k->k≠b)(h:Lx w b m0 m1 F s xs vn f){n:Nat}(hn:n<xs.length):
  aB au 96 #[ai (some ⟨b,0,none⟩),aj cs.toArray,O ae (n:Int)] w λr w'=>r=aq (ak #[])/\Lx w' b m0 m1 F s xs vn (pI f (zf xs bb ks n))/\aA [b] w w':=by
 obtain⟨en,lv,mv,kids,oI,_,hY⟩:=hx;have hk:=hY.1;dsimp[Nd.kids,Nd.b]at hk oI;subst oI;refine ret (alv _ _ _ _ _ _ _ _ _ _ _ _ _ ?_);intro k0 w0 hY fA cQ;have z0:=cQ.size;have C8:=h.lo.lt;have Px:=hk.len;have awD:=hk.cap;have awE:=hk.big;have TU:k0≠b:=aG
 refine⟨λkv c bg i u=>∃j:Nat,i=(j:Int)/\kv+j=ks.length/\j<=ks.length/\c=(Lw (ks.take j):Nat)/\bg=GV bb.ini (ks.take j)/\aA [] w u/\w0.heap.size<=u.heap.size,ks.length,⟨0,rfl,aG,bB _,rfl,rfl,cQ,ba _⟩,?_⟩;rintro kv _ _ _ w1 ⟨j,rfl,tX,hj,rfl,rfl,cJ,z1⟩;refine⟨λhc=>?_,λhc=>?_⟩
 ·have hc:=aP hc;obtain⟨ad,y,ds,a1,a2,a3,a4,a5,a6⟩:=(SliceF.only (cX false D) aN hk cJ aaa).get (bE j) aG;rw[aV]at a2;obtain⟨D',rfl⟩:∃D',D=D'+1:=by
   cases D with
   | zero=>exact a6.elim
   | succ D'=>exact⟨D',rfl⟩
  obtain⟨yP,yQ,tW,lK,rfl,_⟩:=a6;have nS:=aaz (ks.take j);have rV:(ks.take j).length<=j:=adp
  refine⟨ad,a1,_,_,_,_,yP,yQ,tW,lK,_,a5,λk3 w2 zo xN dw=>?_⟩;have z2:=dw.size;refine⟨λc u=>c=(Lw (ks.take (j+1)):Nat)/\aA [] w2 u,?_,(zh w2 y.b.k).mono ?_⟩
  ·rintro _ w3 ⟨rfl,dE⟩;have z3:=dE.size;refine⟨kv-1,aG,j+1,aaq,aG,aG,rfl,?_,(cJ.cy dw).cy dE,aG⟩;unfold GV;rw[bF,a2,T5,mE];simp
  rintro _ w4 ⟨rfl,hu⟩;obtain rfl:w2=w4:=hu.symm;refine⟨_,rfl,cj.refl _ _,λhh=>⟨?_,Only.refl _ _⟩,λhh=>⟨?_,Only.refl _ _⟩⟩
  ·rw[gF aG aG,Hc a2,aX (by intro e;rw[e]at hh;cases hh)];rfl
  rw[Hc a2,aZ ac8];rfl
 have hc:=aY hc;have qJ:j=ks.length:=aG
 subst qJ;rw[bq (ba _)];have h1:=h.o0 cJ;have q0:∀u,((T u).toList==(ar #[]).toList)=decide (u=[]):=λu=>mE u [];refine(zh w1 bb.k).mono ?_;rintro _ w5 ⟨rfl,hu⟩;obtain rfl:w1=w5:=hu.symm;refine⟨_,rfl,cj.refl _ _,λhh w6 eI=>?_,λhh=>⟨λhp=>?_,λhp=>⟨λhs=>?_,λhs=>?_⟩⟩⟩
 ·have z6:=eI.size;have o6:=cJ.cy eI;have h6:=h.o0 o6;have Y2:zf xs bb ks n=bad (stM xs bb.dft&&jA xs (gw xs bb.dft) (GQ xs n)) 26 bb.a:=by unfold zf;rw[aZ hh]
  refine⟨_,Blk.eE h6.lo.blk 0 rfl,(Ev h6 bb.dft).mono ?_⟩;rintro _ w7 ⟨rfl,hu⟩;obtain rfl:w6=w7:=hu.symm;refine⟨_,rfl,cj.refl _ _,λu=>Lx u b m0 m1 F s xs vn (pI f _)/\aA [b] w u,λu h=>⟨rfl,h.1,h.2⟩,λw9 gy=>?_⟩;have z9:=gy.size;have o9:=o6.cy gy;have h9:=h.o0 o9;refine⟨λk=>k=k0,rfl,(G9 h9 (by rcases A4 xs bb.dft with h | _<;>omega)).mono ?_⟩;rintro _ dR ⟨rfl,hu⟩;obtain rfl:w9=dR:=hu.symm;obtain⟨x,hx⟩:=fQ hn;obtain⟨ad,a1,a2,a3,_⟩:=j5 h9.sp hx;refine⟨_,rfl,cj.refl _ _,bP.refl _ _,λhb=>⟨s,Blk.eE h9.lo.blk 1 rfl,s,Blk.eE h9.lo.blk 1 rfl,ad,a1,x.pa,a3,(xo h9.sp h9.fo _ x.pa).mono ?_⟩,λhb=>(lk h9 false 26 bb.a).mono ?_⟩
  ·rintro _ dS ⟨rfl,hu⟩;obtain rfl:w9=dS:=hu.symm;refine⟨_,rfl,cj.refl _ _,bP.refl _ _,(lk h9 _ 26 bb.a).mono ?_⟩;rintro _ fp ⟨rfl,Ff,fu⟩;refine⟨rfl,fu.same aab,Ew fu TU,?_,sX (yH o9) fu⟩;have e1:I8 xs (gw xs bb.dft) x.pa=jA xs (gw xs bb.dft) x.pa:=by rw[bT,vX,om]
   rw[Y2,lj hx,<-e1,show stM xs bb.dft=true from hb,db];exact Ff
  rintro _ fD ⟨rfl,wB,eL⟩;refine⟨rfl,eL.same aab,Ew eL TU,?_,sX (yH o9) eL⟩;rw[Y2,show stM xs bb.dft=false from hb,fj];exact wB
 ·have hp:=adN
  have Y2:zf xs bb ks n=bad (decide (bb.ini=[])&&decide (1<Lw ks)) 25 bb.a:=by unfold zf;rw[aX adx,aZ hp]
  rw[q0,show decide ((Lw ks:Int)>1)=decide (1<Lw ks)from fS.2 aG];refine(lk h1 _ 25 bb.a).mono ?_;rintro _ fP ⟨rfl,h14,eH⟩;exact⟨rfl,eH.same aab,rfl,by rw[Y2];exact h14,sX (yH cJ) eH⟩
 ·have hp:=adN
  have hs:=aP hs;have Y2:zf xs bb ks n=bad (GV bb.ini ks) 25 bb.a:=by unfold zf;rw[aX adx,aX hp,aZ aG]
  refine(lk h1 _ 25 bb.a).mono ?_;rintro _ fP ⟨rfl,h14,eH⟩;exact⟨rfl,eH.same aab,rfl,by rw[Y2];exact h14,sX (yH cJ) eH⟩
 have hp:=adN
 have hs:=aY hs;have Y2:zf xs bb ks n=bad (decide (bb.ini=[])) 25 bb.a++bad (decide (ks.length=0)) 26 bb.a:=by unfold zf;rw[aX adx,aX hp,aX aG]
 rw[q0];refine(lk h1 _ 25 bb.a).mono ?_;rintro _ jl ⟨rfl,h16,je⟩;have z16:=je.size;have e0:((kids.n:Int)==0)=decide (ks.length=0):=by rw[Px,bT];simp
 rw[e0];refine⟨rfl,je.same aab,(lk h16 _ 26 bb.a).mono ?_⟩;rintro _ gN ⟨rfl,Py,lp⟩;exact⟨rfl,lp.same aab,rfl,by rw[Y2,jw];exact Py,sX (sX (yH cJ) je) lp⟩
theorem af1 u l:∃y w1,(aw 208 1 #[.mk 0 l.v]).run au u=.ok (Sl.v y) w1/\aA [] u w1/\aD Ha 1 w1 (λ_=>True) y [l]:=by
 obtain⟨y,w1,k1,k2,k3,_⟩:=kP (P:=au) (t:=208) (e:=23) (i:=Tryz.t23) (z:=Sl.nil.v) (w:=u) (F:=λ_=>False) (vs:=[l.v]) (parts:=#[.mk 0 l.v]) (len:=1) (xs:=[l]) (r:=Ha) (size:=1) (by kernel_rfl) (by kernel_rfl) rfl rfl aN rfl rfl aN aN rj ⟨⟨rfl,rfl⟩,trivial⟩;exact⟨y,w1,k1,k3,(k2.slice rj).mono rj λ_ _=>trivial⟩
theorem af2 u l m:∃y w1,(aw 208 2 #[.mk 0 l.v,.mk 1 m.v]).run au u=.ok (Sl.v y) w1/\aA [] u w1/\aD Ha 1 w1 (λ_=>True) y [l,m]:=by
 obtain⟨y,w1,k1,k2,k3,_⟩:=kP (P:=au) (t:=208) (e:=23) (i:=Tryz.t23) (z:=Sl.nil.v) (w:=u) (F:=λ_=>False) (vs:=[l.v,m.v]) (parts:=#[.mk 0 l.v,.mk 1 m.v]) (len:=2) (xs:=[l,m]) (r:=Ha) (size:=1) (by kernel_rfl) (by kernel_rfl) rfl rfl aN rfl rfl aN aN rj ⟨⟨rfl,rfl⟩,⟨rfl,rfl⟩,trivial⟩;exact⟨y,w1,k1,k3,(k2.slice rj).mono rj λ_ _=>trivial⟩
theorem R1:∀D {w:ay} {x:Nd} {cs:aK} {f:Ft} {n:Nat},pC false D w G x cs->(∀k,G k->k≠b)->Lx w b m0 m1 F s xs vn f->n+jd x<=xs.length->pD x<=8388608->
  aB au 59 #[ai (some ⟨b,0,none⟩),aj cs.toArray,O ae n] w λr w'=>r=aq (O ae ((n+jd x:Nat):Int))/\Lx w' b m0 m1 F s xs vn (pI f (Rv xs vn n x))/\aA [b] w w'
 | 0,_,_,_,_,_,h,_,_,_,_=>h.elim
 | D+1,w,.mk bb ks,cs,f,n,hx,hG,h,hn,hz=>by
  have hx0:=hx;obtain⟨en,lv,mv,kids,oI,⟨Fg,HV,rW⟩,hY⟩:=hx;have hk:=hY.1;have Fg:=Fg.1;have HV:=HV.1;have rW:=rW.1;clear hY;dsimp only[Nd.kids,Nd.b]at hk oI Fg HV rW;subst oI;rw[jd]at hn;rw[pD]at hz;have Ww:=hz;unfold G6 at Ww;have hl1:=oo bb.en;have Ti:=oo bb.lv;have Px:=hk.len;have Dc:=rW.len;have PD:=h.ln;have awF:=rW.cap;have awG:=rW.big;have awH:=sS ks;refine ret (alu _ _ _ _ _ _ _ _ _ _ _ _ _ ?_);intro k0 w0 hY fA cQ;have z0:=cQ.size;have C8:=h.lo.lt;have TU:k0≠b:=aG
  have tr:∀{u v:ay},aA [b] w u->aA [b] u v->aA [b] w v:=λh g=>sX h g;refine(R0 ((cX false (D+1)).keep hx0 λk hk cd=>cQ.block k cd aaa) hG (h.o0 cQ) (n:=n) aG).mono ?_;rintro _ w1 ⟨rfl,h1,cJ⟩;have z1:=cJ.size;have o1:=tr (yH cQ) cJ;obtain⟨y,w2,p1,p2,p3⟩:=af2 w1 en lv;have z2:=p2.size;have o2:=o1.cy p2;have row:∀{u:ay} {sl:Sl} {l:List Ac},aD (uq false) 9 w G sl l->aA [b] w u->aD (uq false) 9 u G sl l:=λhs hO=>SliceF.only (dV false) aN hs hO λk hk _ hm=>hG k hk abu;refine⟨rfl,cJ.same aab,y,w2,p1,p2.same aab,(Ma (l:=[(en,bb.en),(lv,bb.lv)]) p3 (λp hp=>?_) ?_ hG (h1.o0 p2)).mono ?_⟩
  ·simp only[aR,bn,cm]at hp;rcases hp with rfl | rfl
   ·exact row Fg o2
   exact row HV o2
  ·unfold me;simp;omega
  rintro _ w3 ⟨rfl,h3,dE⟩;have z3:=dE.size;have o3:=tr o2 dE;have acI:me [(en,bb.en),(lv,bb.lv)]=bb.en++bb.lv:=by unfold me;simp
  rw[acI]at h3;refine⟨rfl,dE.same aab,λkv i u=>∃j:Nat,i=(j:Int)/\kv+j=bb.mv.length/\j<=bb.mv.length/\Lx u b m0 m1 F s xs vn (pI f (zf xs bb ks n++(uc xs vn (bb.en++bb.lv)++(bb.mv.take j).flatMap (GU xs vn))))/\aA [b] w u/\w0.heap.size<=u.heap.size,bb.mv.length,
   ⟨0,rfl,aG,bB _,by rw[da,List.flatMap_nil,bS,jw];exact h3,o3,aG⟩,?_⟩
  rintro kv _ w4 ⟨j,rfl,tX,hj,h4,o4,z4⟩;refine⟨λhc=>?_,λhc=>?_⟩
  ·have hc:=aP hc;obtain⟨ad,m,ds,a1,a2,a3,a4,a5,a6⟩:=(SliceF.only (mT false) aN rW o4 λk hk _ hm=>hG k hk abu).get (bE j) aG;rw[aV]at a2;obtain⟨gc,uh,tg,rfl,hgx,M6,rS⟩:=a6;obtain⟨gs,rfl⟩:=jc hgx;have M6:=M6.1;have rS:=rS.1;have hmz:=vS (bD a2);unfold NW at hmz;have TV:=oo m.acts;have tT:=Et m.tg;have Tt:=h4.lo.lt;refine⟨ad,a1,_,_,_,_,_,_,_,_,gs,_,uh,tg,_,a5,λk3 w5 zo xN eK=>?_⟩;have z5:=eK.size;have h5:=h4.o0 eK;have api:k3≠b:=aG
   refine(lk h5 (afO m) 28 m.a).mono ?_;rintro _ w6 ⟨rfl,h6,eI⟩;have z6:=eI.size;obtain⟨d,hxd⟩:=hgx;refine⟨rfl,eI.same aab,(Ey d ((kG false d).keep hxd λk hk cd=>?_) hG h6).mono ?_⟩
   ·exact(eI.block k aG (by simpa using hG k hk)).trans (eK.block k cd aaa)
   rintro _ w7 ⟨rfl,h7,fL⟩;have z7:=fL.size;obtain⟨y8,w8,q1,q2,q3⟩:=af1 w7 uh;have z8:=q2.size;have s7:aA [b] w5 w7:=sX eI fL;have s8:aA [b] w4 w8:=(sX (yH eK) s7).cy q2;refine⟨rfl,fL.same aab,y8,w8,q1,q2.same aab,(Ma (l:=[(uh,m.acts)]) q3 (λp hp=>?_) ?_ hG (h7.o0 q2)).mono ?_⟩
   ·simp only[aO]at hp;subst hp;exact SliceF.only (dV false) aN M6 s8 λk hk _ hm=>hG k hk abu
   ·unfold me;simp only[Ke,List.flatMap_nil,bS];omega
   rintro _ w9 ⟨rfl,h9,gy⟩;have z9:=gy.size;have acI:me [(uh,m.acts)]=m.acts:=by unfold me;simp
   rw[acI]at h9;refine⟨rfl,gy.same aab,λdR eO=>⟨λk=>k=k3,rfl,?_⟩⟩;have Pu:=eO.size;have Oy:aA [b] w4 dR:=(sX s8 gy).cy eO;refine(Jc (h9.o0 eO) (SliceF.only dH aN rS Oy λk hk _ hm=>hG k hk abu) aG).mono ?_;rintro _ dS ⟨rfl,ey⟩;have Fa:=ey.size;refine⟨_,rfl,ey.same aab,bP.only ey,(lk ((h9.o0 eO).o0 ey) _ 27 m.a).mono ?_⟩;rintro _ fp ⟨rfl,Ff,fu⟩;have z12:=fu.size;refine⟨rfl,fu.same aab,Ew fu api,kv-1,aG,j+1,aaq,aG,aG,?_,tr o4 (sX (Oy.cy ey) fu),aG⟩;have e1:(bb.mv.take (j+1)).flatMap (GU xs vn)=(bb.mv.take j).flatMap (GU xs vn)++GU xs vn m:=by
    rw[bF,a2,gr];simp
   have e2:zf xs bb ks n++(uc xs vn (bb.en++bb.lv)++((bb.mv.take j).flatMap (GU xs vn)++GU xs vn m))=(zf xs bb ks n++(uc xs vn (bb.en++bb.lv)++(bb.mv.take j).flatMap (GU xs vn)))++GU xs vn m:=by simp only[bR]
   rw[e1,e2,jw,GU,jw,jw,jw];exact Ff
  have hc:=aY hc;have qJ:j=bb.mv.length:=aG
  subst qJ;rw[bq (ba _)]at h4;refine⟨λkv a i u=>∃j:Nat,i=(j:Int)/\kv+j=ks.length/\j<=ks.length/\a=((n+1+fe (ks.take j):Nat):Int)/\Lx u b m0 m1 F s xs vn (pI f (zf xs bb ks n++(uc xs vn (bb.en++bb.lv)++(bb.mv.flatMap (GU xs vn)++rh xs vn (n+1) (ks.take j)))))/\aA [b] w u/\w0.heap.size<=u.heap.size,ks.length,
   ⟨0,rfl,aG,bB _,aaq,by rw[da,rh,bS];exact h4,o4,z4⟩,?_⟩
  rintro kv _ _ fD ⟨j,rfl,tX,hj,rfl,wB,o13,WO⟩;refine⟨λhc=>?_,λhc=>?_⟩
  ·have hc:=aP hc;obtain⟨ad,y,ds,a1,a2,a3,a4,a5,a6⟩:=(SliceF.only (cX false D) aN hk o13 λk hk _ hm=>hG k hk abu).get (bE j) aG;rw[aV]at a2;have W5:=a6;obtain⟨D',rfl⟩:∃D',D=D'+1:=by
    cases D with
    | zero=>exact a6.elim
    | succ D'=>exact⟨D',rfl⟩
   obtain⟨yP,yQ,tW,lK,rfl,_⟩:=W5;have kB:=qs a2;have hzy:=qu (bD a2);refine⟨ad,a1,_,_,_,_,yP,yQ,tW,lK,_,a5,λk7 fP hk7 ah9 eH=>?_⟩;have z14:=eH.size;have WK:=wB.lo.lt;refine(R1 (D'+1) ((cX false (D'+1)).keep a6 λk _ cd=>eH.block k cd aaa) hG (wB.o0 eH) (n:=n+1+fe (ks.take j)) aG aG).mono ?_;rintro _ iP ⟨rfl,PA,iX⟩;have z15:=iX.size;have e:ks.take (j+1)=ks.take j++[y]:=adR
   refine⟨_,rfl,iX.same aab,kv-1,aG,j+1,aaq,aG,aG,?_,?_,tr (o13.cy eH) iX,aG⟩
   ·have:fe (ks.take (j+1))=fe (ks.take j)+jd y:=by rw[e,AQ,fe,fe];omega
    omega
   have e2:zf xs bb ks n++(uc xs vn (bb.en++bb.lv)++(bb.mv.flatMap (GU xs vn)++(rh xs vn (n+1) (ks.take j)++Rv xs vn (n+1+fe (ks.take j)) y)))=(zf xs bb ks n++(uc xs vn (bb.en++bb.lv)++(bb.mv.flatMap (GU xs vn)++rh xs vn (n+1) (ks.take j))))++Rv xs vn (n+1+fe (ks.take j)) y:=by simp only[bR]
   rw[e,GW,rh,rh,bS,e2,jw];exact PA
  have hc:=aY hc;have qJ:j=ks.length:=aG
  subst qJ;rw[bq (ba _)]at wB⊢;refine⟨?_,by rw[Rv];exact wB,o13⟩;rw[jd];congr 2;omega
end
def jy(c:Ch):Ft:=if(gH c).2≠0 then((gH c).2, -1)else pI (0,0) (GX c)
theorem Hd{w}{F}{D}{c}{vs}{cs}(hx:ChR false (D+1) w F c vs cs)(hn:WT c)(hs:rM c.vars+pD c.root<=8388608)(hE:Er w)(hT:Tb w):
  aB au 20 #[aj (vs.v::cs).toArray] w λe w'=>e=aq (aj #[O ae (jy c).1,O ae (jy c).2])/\aA [] w w':=by
 have hxr:=hx.root;obtain⟨en,lv,mv,kids,oI,_⟩:=hx.root;subst oI;refine ret (alr _ _ _ _ _ _ _ _ _ _ _ _ ?_);intro k0 k1 w0 hY fA j9 jW cQ;have z0:=cQ.size;have keep:∀{u:ay},aA [] w u->ChR false (D+1) u F c vs (oC c.root.b.k c.root.b.nm c.root.b.ini c.root.b.dft en lv mv kids c.root.b.a):=λhO=>⟨hx.vars.keep gv aN λk _ cd=>hO.block k cd aaa,(cX false _).keep hx.root λk _ cd=>hO.block k cd aaa⟩
 refine(RR (keep cQ) hn hs (hE.only cQ) (hT.only cQ)).mono ?_;rintro _ w1 ⟨⟨t,rfl,ht,_⟩,cJ⟩;have z1:=cJ.size;have o1:=cQ.cy cJ;refine⟨_,_,rfl,cJ.same aab,λhc w2 dw=>?_,λhc=>?_⟩
 ·have hc:(gH c).2≠0:=aaw
  unfold jy;rw[aZ hc];exact⟨rfl,o1.trans dw λk hk=>.inr acr⟩
 have hc:(gH c).2=0:=aaw
 have elm:jy c=pI (0,0) (GX c):=by unfold jy;rw[aX (λh=>h hc)]
 rw[elm];have ht:=ht hc;have hnd:=xn hc;obtain⟨r3,hM3,dE⟩:=MapV.make (P:=au) (mty:=115) (kv:=kS) (g:=gS) w1;have hl3:=hM3.lt;refine⟨_,_,r3,dE.same aab,?_⟩;generalize w1.alloc (.map #[] 0)=w3 at*
 obtain⟨r4,hM4,dL⟩:=MapV.make (P:=au) (mty:=115) (kv:=kS) (g:=gS) w3;have hl4:=hM4.lt;have z3:=dE.size;refine⟨_,_,r4,dL.same aab,?_⟩;intro b w5 hb jC eK xL;have z5:=eK.size;have o5:=((o1.cy dE).cy dL).cy eK;have Y1:Lo w5 b w1.heap.size w3.heap.size Sl.nil [] [] (0,0):=⟨xL,(((hM3.only dL aaa).only eK aaa).ext λk=>rfl).le (ba _),((hM4.only eK aaa).ext λk=>rfl).le (ba _),aG,aG⟩
 have hxh:pC false (D+1) w (λk=>k<w.heap.size) c.root (oC c.root.b.k c.root.b.nm c.root.b.ini c.root.b.dft en lv mv kids c.root.b.a):=(cX false _).mono ((cX false _).inHeap hxr) λk hk=>hk.2;have hvh:aD T9 3 w (λk=>k<w.heap.size) vs c.vars:=(hx.vars.1.inHeap gv aN).mono gv λk hk=>hk.2;refine(RW (D+1) ((cX false _).keep hxh λk hk cd=>o5.block k cd aaa) (λk hk=>aG) Y1 (Own.nil _ _ _ _ _ _) aG adF).mono ?_;rintro _ w6 ⟨rfl,s6,OM,hS6,m6⟩;have z6:=m6.1.size;rw[cE]at OM;have enm:=(Ru 0 (-1) 0 c.root).symm;rw[enm]at OM;have p6:aF (λk=>w1.heap.size<=k) w w6:=(o5.p0).trans m6.1 λk hk=>.inl (hk.elim (λh=>aG) λh=>aaH);have s56:cj [k0,k1] w5 w6:=m6.1.same λx hx=>by
  simp at hx;rcases hx with rfl | rfl
  ·exact⟨aG,λh=>h.elim aG λh=>aaH⟩
  exact⟨aG,λh=>h.elim aG λh=>aaH⟩
 have hvl:=hvh.len;have hvz:=A3 c.vars;refine⟨rfl,s56,_,s6,_,_,_,OM.blk,λkv i p l q x y u=>∃(j:Nat) (f:Ft),i=(j:Int)/\kv+j=c.vars.length/\j<=c.vars.length/\p=some w1.heap.size/\q=some w3.heap.size/\f=(x,y)/\Lo u b w1.heap.size w3.heap.size l ((cH c).map λx:cR=>x.nm) ((En c).take j) f/\f=pI (0,0) (yg [] (NQ c.root)++yg [] ((c.vars.take j).map λv=>(v.n,v.a)))/\aF (λk=>w1.heap.size<=k) w u/\aF (λk=>k=b∨k=w3.heap.size) w6 u,c.vars.length,
  ⟨0,_,rfl,aG,bB _,rfl,rfl,rfl,OM,by rw[da,fN,yg,bS],p6,OnlyP.refl _ _⟩,?_⟩
 rintro kv _ _ l2 _ _ _ w7 ⟨j,f,rfl,tX,hj,rfl,rfl,hf,Fh,hfe,p7,p67⟩;have z7:=p67.size;refine⟨λcd=>?_,λmQ=>?_⟩
 ·have cd:=aP cd;obtain⟨ad,v,ds,a1,a2,a3,a4,a5,a6⟩:=(SliceF.nH gv aN hvh p7 λk hk _=>aG).get (bE j) aG;rw[aV]at a2;have a6:ds=[ah (T v.n),O ae v.v,O ae v.a]:=a6;subst a6;have yu:=A2 (bD a2);have hgv:gS v.n:=by
   show v.n.length<=maxLen;have:maxLen=9223372036854775807:=rfl;omega
  have iY:((En c).take j).length=j:=by rw[cK];unfold En;rw[bA];omega
  refine⟨ad,a1,_,_,_,a5,λk5 w8 Da HU fV uB=>?_⟩;have z8:=fV.size;have Tu:=Fh.lt;have c9:=RV (Fh.o0 fV) hgv v.a;rw[iY]at c9;refine c9.mono ?_;rintro _ w9 ⟨rfl,hL9,gy⟩;have z9:=gy.size;have ev:(En c).take (j+1)=(En c).take j++[v.n]:=by
   rw[bF];unfold En;rw[bW,a2];rfl
  refine⟨rfl,gy.same aab,_,_,_,_,_,hL9.blk,kv-1,aG,j+1,_,aaq,aG,aG,rfl,rfl,rfl,by rw[ev];exact hL9,?_,(p7.cy fV).trans (gy.p (F:=λk=>w1.heap.size<=k) λk hk=>.inl (by simp at hk;omega)) λk hk=>.inl hk,(p67.cy fV).trans (gy.p (F:=λk=>k=b∨k=w3.heap.size) λk hk=>.inl aa2) λk hk=>.inl hk⟩;rw[hfe,<-jw];have ed:yg [] ((c.vars.take (j+1)).map λv=>(v.n,v.a))=yg [] ((c.vars.take j).map λv=>(v.n,v.a))++bad (!decide (v.n∈(En c).take j)) 24 v.a:=by
   rw[bF,a2,dc,Em,cE];simp only[Option.toList,bG,fN,yg,bS,iA];unfold En;rw[<-nj];rfl
  rw[ed,bR]
 have mQ:=aY mQ;have qJ:j=c.vars.length:=aG
 subst qJ;intro dR eO uf n0 n1;have Pu:=eO.size;have Y3:(En c).take c.vars.length=En c:=bq (by unfold En;rw[bA];exact ba _);rw[Y3]at Fh;rw[bq (ba _)]at hfe;have acK:Lo dR b w1.heap.size w3.heap.size t ((cH c).map λx:cR=>x.nm) (En c) f:=Fh.nR eO (by subst hf;exact uf);have WN:=p7.trans (eO.p (F:=λk=>w1.heap.size<=k) λk hk=>.inl acr) λk hk=>.inl hk;have wI:aD nP 5 dR (λk=>k<w1.heap.size) t (cH c):=by
  have q5:aA [] w1 w5:=(dE.cy dL).cy eK;have h1:=SliceF.only dh aN ((ht.sl.inHeap dh aN).mono dh (G:=λk=>k<w1.heap.size) λk hk=>hk.2) q5 aaa;have h3:=SliceF.nH dh aN (SliceF.nH dh aN h1 m6.1 λk hk _ h=>h.elim aG λh=>aaH) p67 λk hk _ h=>aG
  exact SliceF.only dh aN h3 eO λk hk _ hm=>by simp at hm;omega
 have hX:Lx dR b w1.heap.size w3.heap.size (λk=>k<w1.heap.size) t _ _ f:=⟨acK,wI,Ek c,by unfold cH;rw[mw];exact hnd,λk hk=>aG⟩
 refine(R1 (n:=0) _ ((cX false _).keep hxh λk hk cd=>WN.block k cd aG) (λk hk=>aG) hX (by unfold cH;rw[mw];omega) aG).mono ?_;rintro _ dS ⟨rfl,Ie,ey⟩;have Fa:=ey.size;have hg:pI f (Rv (cH c) (En c) 0 c.root)=pI (0,0) (GX c):=by
  rw[hfe,<-jw,bR];rfl
 rw[hg]at Ie;refine⟨_,rfl,ey.same aab,_,_,_,_,_,Ie.lo.blk,λfp fu _=>⟨rfl,?_⟩⟩;have p11:=(WN.mono λk _ hk=>aG).trans (ey.p (F:=λk=>w.heap.size<=k) λk hk=>.inl (by simp at hk;omega)) λk hk=>.inl hk;exact(p11.only λk hk=>hk).trans fu λk hk=>.inr (by simp at hk;omega)
def mV(l:aJ):Ft:=if(dK l).2.1=0 then jy (dK l).1 else(dK l).2
def xp(l:aJ):Ch:=if(mV l).1=0 then(dK l).1 else ch0
theorem VU{w:ay}(l:aJ)(hn:WT (dK l).1)(hs:rM (dK l).1.vars+pD (dK l).1.root<=8388608)(hE:Er w)(hT:Tb w):aB au 19 #[ah (T l)] w λe w'=>
  ∃(vs:Sl) (cs:aK),e=aq (ak #[aj (vs.v::cs).toArray,aj #[O ae (mV l).1,O ae (mV l).2]])/\ChR true 15 w' (Fr w.heap.size) (xp l) vs cs/\aA [] w w':=by
 refine(alq (T l) (λv w'=>∃(vs:Sl) (cs:aK),v=(ak #[aj (vs.v::cs).toArray,aj #[O ae (mV l).1,O ae (mV l).2]])/\ChR true 15 w' (Fr w.heap.size) (xp l) vs cs/\aA [] w w') w ?_).mono (by
  rintro e w' ⟨v,rfl,vs,cs,rfl,h⟩;exact⟨vs,cs,rfl,h⟩)
 intro k0 k1 w0 hY fA j9 jW cQ;have z0:=cQ.size;refine(G0 l (hE.only cQ)).mono ?_;rintro _ w1 ⟨vs,cs,rfl,hC,cJ⟩;have z1:=cJ.size;have o1:=cQ.cy cJ;obtain⟨xe,xl,xm,xk,rfl,_⟩:=hC.root;refine⟨vs,_,_,_,_,xe,xl,xm,xk,_,_,_,rfl,cJ.same aab,λk2 k3 w2 uY xM zo xN dw=>?_⟩;have z2:=dw.size;have o2:=o1.cy dw;have kC:∀{u:ay},aA [] w1 u->ChR true 15 u (Fr w0.heap.size) (dK l).1 vs (oC (dK l).1.root.b.k (dK l).1.root.b.nm (dK l).1.root.b.ini (dK l).1.root.b.dft xe xl xm xk (dK l).1.root.b.a):=fun{u} hO=>
  ⟨hC.vars.keep gv aN λk _ cd=>hO.block k cd aaa,(cX true 15).keep hC.root λk _ cd=>hO.block k cd aaa⟩
 have fin:∀{u v:ay},aA [] w u->aA [k1,k0] u v->aA [] w v:=λh1 h2=>h1.trans h2 λx hx=>.inr aaJ;refine⟨λa b u=>(a,b)=mV l/\aA [] w1 u/\w2.heap.size<=u.heap.size,?_,λhc=>?_,λhc=>⟨?_,dw,ba _⟩⟩
 ·rintro a b w3 ⟨he,dE,z3⟩;have e1:(mV l).1=a:=by rw[<-he]
  have e2:(mV l).2=b:=by rw[<-he]
  refine⟨λhc w4 dL n1 n2 n3 n4 n5 n6=>⟨λk=>k=k3,rfl,?_,?_,λw5 eK=>⟨Sl.nil,_,by rw[e1,e2],?_,fin ((o1.cy dE).cy dL) eK⟩⟩,λhc w6 eI n1 n2 n3 n4 n5 n6=>⟨λk=>k=k3,rfl,?_,?_,λw7 fL=>⟨vs,_,by rw[e1,e2],?_,fin ((o1.cy dE).cy eI) fL⟩⟩⟩
  ·exact λh=>n3 h
  ·exact λh=>n5 h
  ·have hc:a≠0:=aaw
   unfold xp;rw[e1,aX hc];exact⟨jR.nil _ _ _ _ _ _,RC aN w5 _⟩
  ·exact λh=>n3 h
  ·exact λh=>n5 h
  have hc:a=0:=aaw
  unfold xp;rw[e1,aZ hc];have hC6:=kC (dE.cy eI);have ap:∀k,Fr w0.heap.size k->k∉[k1,k0]:=λk (hk:w0.heap.size<=k)=>aab
  have lo:∀k,Fr w0.heap.size k->Fr w.heap.size k:=λk (hk:w0.heap.size<=k)=>(by omega:w.heap.size<=k)
  exact⟨(hC6.vars.keep gv aN λk hk cd=>fL.block k cd (ap k hk)).mono gv lo,(cX true 15).mono ((cX true 15).keep hC6.root λk hk cd=>fL.block k cd (ap k hk)) lo⟩
 ·have hc:(dK l).2.1=0:=aaw
  refine(Hd (D:=14) (kC dw).off hn hs (hE.only o2) (hT.only o2)).mono ?_;rintro _ w8 ⟨rfl,fV⟩;have z8:=fV.size;refine⟨_,_,rfl,fV.same aab,λw9 gy=>⟨?_,?_,by have:=gy.size;omega⟩⟩
  ·unfold mV;rw[aZ hc]
  exact(dw.cy fV).trans gy λx hx=>.inr aaD
 have hc:(dK l).2.1≠0:=aaw
 unfold mV;rw[aX hc]
def aaA(l:aJ):Bool:=nCb (dK l).1&&amB (dK l).1
theorem aaB{l:aJ}(h:aaA l=true):WT (dK l).1/\rM (dK l).1.vars+pD (dK l).1.root<=8388608:=by
 unfold aaA at h;rw[aU]at h;exact⟨amA h.1,aP h.2⟩
end Go.Proofs.YtpbgcbdclnfpnaaGreatDoor.Con
namespace Go.Kt
open Go Go.RowKit Go.ChangeShapes Go.WideShapes
def rPair{α β:Type}(r:Rp α)(q:Rp β):Rp (α×β):=λw F x cs=>∃c d,cs=c++d/\r w F x.1 c/\q w F x.2 d
def rUnit:Rp Unit:=λ_ _ _ cs=>cs=[]
def Ya:Rp Bool:=λ_ _ b cs=>cs=[.bool b]
section
variable {H:Type} {enc:TypeId×az->H} {P:Program}
theorem ur(hl:laidOutB P=true){W W'}{sp}(hb:Below W.heap.size W W'):∀{ts:List TypeId} {vs:List az} {ds:List _} {ps:List MemPlace},
  (∀t,t∈ts->P.readableRec t=true/\t<P.types.size)->DataW.TrodAll enc P W 0 (λ_=>true) true ts vs ds ps->(∀x,x∈ps->x.block<W.heap.size)->(∀x,x∈ps->sp x.block=true)->DataW.TrodAll enc P W' 0 sp true ts vs ds ps
 | [],vs,ds,ps,_,h,_,_=>by
  obtain⟨rfl,rfl,rfl⟩:=trodAll_nil h;exact trodAll_mk0
 | t::ts,vs,ds,ps,hr,h,cd,wI=>by
  obtain⟨v,vs',d,ds',p,q,rfl,rfl,rfl,h1,h2⟩:=trodAll_cons h;obtain⟨r1,r2⟩:=hr t aaa;exact trodAll_cons_mk (WideElems.Trod_stays hl r1 r2 h1 (λx hx=>hb.same (cd x ady)) λx hx=>wI x ady)
   (ur hl hb (λu hu=>hr u (by simp[hu])) h2 (λx hx=>cd x ady) λx hx=>wI x ady)
theorem law_post{f}{s:ChangeSpec}{fresh handsOn again}{W W'}{args}{ds gs}{before}{tb}
  (hW:DataW.Whole enc P f.params.toList s.vars false W args.toList ds gs before) (hv:s.vars=[])
  (ach:(s.fn H (ds++gs)).results=[.lit (.bool true)]) (hargs:(s.fn H (ds++gs)).args=ds) (yu:(s.fn H (ds++gs)).vars=[])
  (ht:f.resultTypes=#[tb]) (hu:P.underlying tb=some .bool) (hl:laidOutB P=true) (acL:(f.params.toList.all λt=>P.readableRec t&&decide (t<P.types.size))=true) (hO:Only [] W W'):
  s.post enc P f false fresh handsOn again W args (.bool true) W':=by
 have hb:=hO.below (ba _) aaa;have cd:=λp hp=>hW.lt p hp;obtain⟨p,q,hA,hV,rfl,hz,hn⟩:=id hW;rw[hv]at hV;obtain⟨rfl,rfl⟩:=trodVars_none hV;rw[bS]at*
 have hA':∀sp,_->DataW.TrodAll enc P W' 0 sp true f.params.toList args.toList (s.fn H ds).args p:=λsp wI=>by
  rw[hargs];exact ur hl hb (λt ht=>by simpa using dY.1 acL t ht) hA (λx hx=>by simpa using cd x hx) wI
 have hV':∀sp,DataW.TrodVars enc P W' sp s.vars (s.fn H ds).vars []:=λsp=>by
  rw[hv,yu];simp[DataW.TrodVars]
 have Y4:∀b sp hd,DataW.TrodAll enc P W' b sp hd f.resultTypes.toList ((Value.bool true).resultList f.resultTypes.size) (s.fn H ds).results []:=λb sp hd=>by
  rw[ach,ht];exact trodAll_cons_mk (shut_bool hu true) trodAll_mk0
 have hold:∀x∈p,(λb=>decide _) x.block=true:=λx hx=>by simpa using cd x hx
 refine⟨ds,[],p,[],p,[],hW,by simpa using Y4 _ _ _,by simpa using hA' _ hold,by simpa using hV' _,World.keptBut_mono (λx hx=>⟨hx,abq⟩) (hb.frame _),λ_=>?_⟩;refine⟨ok_one ht rfl (okWide_bool_mk hu true),_,_,_++[],⟨[]++p,[],trodAll_append (hA' _ (λ_ _=>rfl)) (Y4 _ _ _),hV' _,rfl,?_,?_⟩,?_⟩
 ·intro b off hp;have hp:=adN
  rw[hb.frozen (p:=_) (cd _ hp)];exact hz b off hp
 ·intro ha;cases ha
 intro x hp _;simpa using hp
variable {W:ay} {base:Nat} {spare:Nat->Bool} {held:Bool} {α:Type}
def CK(enc:TypeId×az->H)(P:Program)(W:ay)(base:Nat)(spare:Nat->Bool)(held:Bool)(t:TypeId)(r:Rp α):Prop:=
 ∀fy cs x,DataW.trod enc P W base spare held fy t cs=some x->(∀n,n∈x.1.weights P t->n<=reachBytes)->∃a,r W (λ_=>True) a cs
theorem opens_int{t}(ht:P.underlying t=some (.int .i64)):CK enc P W base spare held t rInt:=λfy cs x h _=>by
 obtain⟨n,rfl,rfl,hw⟩:=DataW.trod_int ht h;refine⟨n,rfl,?_⟩;simpa[Lit.wf,IntKind.min,IntKind.max,IntKind.signed,IntKind.bits,InI]using hw
def rSl(r:Rp α)(size bytes:Nat):Rp (List α):=λw F xs cs=>∃s,cs=[s.v]/\SliceF r size w F s xs/\xs.length*bytes<=140737488351232
theorem sY{e}:∀{l:List _} {d:DataW H},d∈l->∀n,n∈d.weights P e->n∈DataW.weightsAll P e l
 | d0::l,d,hd,n,hn=>by
  simp[DataW.weightsAll,ci];rcases aR.1 hd with rfl | hd
  ·exact .inl hn
  exact .inr (sY hd n hn)
 | [],d,hd,_,_=>by simp at hd
theorem yi{β:Type}{p:Nat->β->Prop}:∀n,(∀i,i<n->∃b,p i b)->∃l:List β,l.length=n/\∀i b,l[i]? =some b->p i b
 | 0,_=>⟨[],rfl,λi b h=>abk⟩
 | n+1,h=>by
  obtain⟨l,h1,h2⟩:=yi n λi hi=>h i aG;obtain⟨b,hb⟩:=h n aG;refine⟨l++[b],adT,λi c hc=>?_⟩;by_cases hi:i<l.length
  ·rw[bK hi]at hc;exact h2 i c hc
  have:i=n:=by
   have:=(be.1 hc).1;simp at this;omega
  subst this;simp[h1]at hc;rw[<-hc];exact hb
theorem CK.map{β}{t}{r}{q}(h:CK enc P W base spare held t r)(f:α->β)(hf:∀a cs,r W (λ_=>True) a cs->q W (λ_=>True) (f a) cs):CK enc P W base spare held t q:=λfy cs x hx hw=>by
 obtain⟨a,ha⟩:=h fy cs x hx hw;exact⟨f a,hf a cs ha⟩
theorem Jd{t}(ht:P.underlying t=some .bool):CK enc P W base spare held t Ya:=λfy cs x h _=>by
 obtain⟨b,rfl,rfl⟩:=DataW.trod_bool ht h;exact⟨b,rfl⟩
theorem weights_of{ts}{ds}(h:(DataW.weightsEach P ts ds).all (· <=reachBytes)=true)(j:Nat){t}{d:DataW H}(ht:ts[j]? =some t)(hd:ds[j]? =some d):∀n,n∈d.weights P t->n<=reachBytes:=
 λn hn=>by simpa using dY.1 h n (DataW.weights_mem_each ht hd n hn)
end
structure IsBulk {H:Type} (B:DataW H->Nat):Prop where
 one:∀d,1<=B d
 sl:∀e s,(e.map B).sum+1<=B (.slice e s)
 str:∀b,b.length+1<=B (.lit (.string b))
 agg:∀p,(p.map B).sum+1<=B (.agg p)
 ptr:∀d,B d+1<=B (.ptr d)
 iface:∀t d,B d+1<=B (.iface t d)
section
variable {H:Type} {enc:TypeId×az->H} {P:Program} {W:ay} {base:Nat} {spare:Nat->Bool} {held:Bool} {α β:Type} {B:DataW H->Nat}
def R2:Rp ByteArray:=λ_ _ s cs=>cs=[.string s]/\s.size<=140737488351232
def iM(B:DataW H->Nat)(enc:TypeId×az->H)(P:Program)(W:ay)(base:Nat)(spare:Nat->Bool)(held:Bool)(t:TypeId)(r:Rp α)(m:α->Nat):Prop:=
 ∀fy cs x,DataW.trod enc P W base spare held fy t cs=some x->(∀n,n∈x.1.weights P t->n<=reachBytes)->∃a,r W (λ_=>True) a cs/\m a<=B x.1
theorem opensB_of(hB:IsBulk B){t}{r:Rp α}(h:CK enc P W base spare held t r):iM B enc P W base spare held t r λ_=>1:=λfy cs x hx hw=>by
 obtain⟨a,ha⟩:=h fy cs x hx hw;exact⟨a,ha,hB.one _⟩
theorem jI(hB:IsBulk B){t}(ht:P.underlying t=some .string):iM B enc P W base spare held t R2 λs=>s.size+1:=λfy cs x h hw=>by
 obtain⟨s,rfl,rfl,hs⟩:=DataW.trod_string ht h;have h1:=hw _ (by simp;exact eh);have e:s.data.toList.length=s.size:=rfl;simp[e,reachBytes]at h1;refine⟨s,⟨rfl,?_⟩,?_⟩
 ·omega
 have:=hB.str s.data.toList;exact this
theorem R3{p}{g:Nat->Nat}:∀{l:List α} {o:Nat},(∀i b,l[i]? =some b->p b<=g (o+i))->(l.map p).sum<=((List.range l.length).map λi=>g (o+i)).sum
 | [],_,_=>aaa
 | a::l,o,h=>by
  rw[bp,List.range_succ_eq_map,bG,bG,cD,cD,iA];have ih:=R3 (p:=p) (g:=g) (l:=l) (o:=o+1) λi b hb=>by
   have:=h (i+1) b hb;rw[show o+1+i=o+(i+1) by omega];exact this
  refine lw (h 0 a rfl) (bf ih (oQ ?_));congr 1;refine rU λi _=>?_;congr 1;omega
theorem opensB_slice(hB:IsBulk B){t e}{r:Rp α}{m}{size}(ht:P.underlying t=some (.slice e))(hs:P.cellsOf e=size){bytes}(hb:P.bytesOf e=bytes)(he:iM B enc P W base spare held e r m):
  iM B enc P W base spare held t (rSl r size bytes) λxs=>(xs.map m).sum+1:=λfy cs x h hw=>by
 subst hs;rcases Deep.open_slice ht h with⟨rfl,rfl⟩ | ⟨a,len,cap,mm,n,D,Pl,rfl,_,hl,hm,hmm,rfl,hel⟩
 ·exact⟨[],⟨Sl.nil,rfl,SliceF.nil _ _ _ _,aaa⟩,hB.one _⟩
 have hlm:len<=mm:=by rw[hmm];split<;>omega
 have hex:∀i,i<len->∃b,(∃cs',cs'.length=P.cellsOf e/\Cells W _ cs'/\r W _ b cs')/\m b<=B _:=λi hi=>by
  obtain⟨cs',g1,g2⟩:=hel i aG;obtain⟨_,g3,g4⟩:=World.cells?_some g1;obtain⟨b,g5,g6⟩:=he n cs' _ g2 λk hk=>hw k (by
   simp[DataW.weights,ht,aR,ci];exact .inr (.inl (sY (cP.2 ⟨i,lr.2 hi,rfl⟩) k hk)))
  refine⟨b,⟨cs',g3,λj v hj=>?_,g5⟩,g6⟩;rw[g4 j (by have:=(be.1 hj).1;omega)];exact hj
 obtain⟨l,h1,h2⟩:=yi len hex;refine⟨l,⟨⟨some a,len,cap⟩,rfl,⟨h1.symm,hl,λh=>aaH,hm,λj x hj=>?_⟩,?_⟩,?_⟩
 ·obtain⟨⟨cs',g1,g2,g3⟩,_⟩:=h2 j x hj;exact⟨a,cs',rfl,trivial,g1,g2,g3⟩
 ·have:=hw _ (by simp only[DataW.weights,ht];exact eh);rw[hb]at this;simp[bA,fH,reachBytes]at this;rw[h1];have h3:len*bytes<=(len+(mm-len))*bytes:=jo _ aG;omega
 refine bf (OY ?_) (hB.sl _ ((List.range _).map λj=>D _));have h4:=R3 (p:=m) (g:=λi=>B _) (l:=l) (o:=0) λi b hb=>by
  rw[bM];exact(h2 i b hb).2
 rw[h1]at h4;simpa[Function.comp_def]using h4
def Ez(B:DataW H->Nat)(enc:TypeId×az->H)(P:Program)(W:ay)(base:Nat)(spare:Nat->Bool)(held:Bool)(T off:Nat)(fs:List Field)(r:Rp α)(m:α->Nat):Prop:=
 ∀n (cs:List az) (xs:List _),cs.length=T->xs.length=fs.length->
  (∀(i:Nat) f,fs[i]? =some f->DataW.trod enc P W base spare held n f.type ((cs.drop f.offset).take (P.cellsOf f.type))=xs[i]?)->
  (∀(i:Nat) f x,fs[i]? =some f->xs[i]? =some x->∀k,k∈x.1.weights P f.type->k<=reachBytes)->∃a,r W (λ_=>True) a (cs.drop off)/\m a<=(xs.map λx=>B x.1).sum
theorem foB_nil{T off}(h:T=off):Ez B enc P W base spare held T off [] rUnit λ_=>0:=λn cs xs hl _ _ _=>⟨(),by
 exact oJ aG,bB _⟩
theorem foB_cons{T off s}{f}{fs}{r:Rp α}{q:Rp β}{m}{m'}(ho:f.offset=off)(hs:P.cellsOf f.type=s)(hr:iM B enc P W base spare held f.type r m)(hq:Ez B enc P W base spare held T (off+s) fs q m'):
  Ez B enc P W base spare held T off (f::fs) (rPair r q) λx=>m x.1+m' x.2:=λn cs xs hl hx hf hw=>by
 cases xs with
 | nil=>simp at hx
 | cons x xs=>
  have h0:=hf 0 f rfl;rw[ho,hs]at h0;obtain⟨a,ha,HN⟩:=hr n _ x h0 (hw 0 f x rfl rfl);obtain⟨b,hb,jC⟩:=hq n cs xs hl abq (λi g hg=>hf (i+1) g hg) (λi g y hg hy=>hw (i+1) g y hg hy);exact⟨(a,b),⟨_,_,by rw[<-oM,du],ha,hb⟩,lw HN jC⟩
theorem opensB_struct(hB:IsBulk B){t}{fs}{T}{r:Rp α}{m}(ht:P.underlying t=some (.struct fs))(hT:P.cellsOf t=T)(hF:Ez B enc P W base spare held T 0 fs.toList r m):iM B enc P W base spare held t r λx=>m x+1:=λfy cs x h hw=>by
 obtain⟨xs,n,rfl,rfl,hl,JB,hf⟩:=DataW.trod_struct ht h;obtain⟨a,ha,HN⟩:=hF n cs xs aG (by simpa using JB) (λi f hi=>hf i f acO) (λi f x hi hx k hk=>hw k (by
  simp[DataW.weights,ht];refine DataW.weights_mem_each (j:=i) ?_ adO k hk;simp only[Array.toList_map,bW,hi];rfl))
 refine⟨a,by simpa using ha,bf (OY HN) ?_⟩;have:=hB.agg (xs.map (·.1));rwa[iA]at this
theorem iM.map{t}{r}{q}{m}{m'}(h:iM B enc P W base spare held t r m)(f:α->β)(hf:∀a cs,r W (λ_=>True) a cs->q W (λ_=>True) (f a) cs/\m' (f a)<=m a):iM B enc P W base spare held t q m':=λfy cs x hx hw=>by
 obtain⟨a,ha,HN⟩:=h fy cs x hx hw;obtain⟨h1,h2⟩:=hf a cs ha;exact⟨f a,h1,bf h2 HN⟩
theorem argB_slice{t e}{r}{m}{size bytes}{b0}{v}{d}{p}(ht:P.underlying t=some (.slice e))(mP:Value.okWide P W .any b0 t v)(h:DataW.Trod enc P W base spare held t v d p)
  (E9:iM B enc P W base spare held t (rSl r size bytes) m) (hw:∀n,n∈d.weights P t->n<=reachBytes):∃(s:Sl) (xs:List α),v=s.v/\SliceF r size W (λ_=>True) s xs/\m xs<=B d:=by
 obtain⟨a0,apl,apm,rfl⟩:=okWide_slice ht mP;obtain⟨fy,hf⟩:=h;obtain⟨xs,⟨s,h1,h2,h3⟩,h4⟩:=E9 fy _ _ hf hw;have h1:[Value.slice a0 apl apm]=[s.v]:=h1;simp only[rT,and_true]at h1;exact⟨s,xs,h1,h2,h4⟩
theorem argB_struct{t}{fs}{r}{m}{b0}{v}{d}{p}(ht:P.underlying t=some (.struct fs))(mP:Value.okWide P W .any b0 t v)(h:DataW.Trod enc P W base spare held t v d p)
  (E9:iM B enc P W base spare held t r m) (hw:∀n,n∈d.weights P t->n<=reachBytes):∃(a:α) (cs:List az),v=.agg cs.toArray/\r W (λ_=>True) a cs/\m a<=B d:=by
 obtain⟨cs,rfl,_⟩:=okWide_struct ht mP;obtain⟨fy,hf⟩:=h;obtain⟨a,ha,HN⟩:=E9 fy _ _ hf hw;exact⟨a,cs.toList,aaa,ha,HN⟩
theorem sum_one:∀l:List α,(l.map λ_=>1).sum=l.length
 | []=>rfl
 | _::l=>by rw[bG,cD,sum_one l,bp];omega
end
end Go.Kt
