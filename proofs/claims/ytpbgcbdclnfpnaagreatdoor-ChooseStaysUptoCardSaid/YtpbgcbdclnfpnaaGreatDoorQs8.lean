import Derived.Test.YtpbgcbdclnfpnaaGreatDoorQs7
set_option linter.unusedSectionVars false
set_option linter.unusedSimpArgs false
set_option linter.unusedVariables false
set_option maxHeartbeats 4000000
set_option maxRecDepth 100000
open Go.Value renaming int->O,string->ah,pointer->ai,agg->aj,tuple->ak,bool->ao
open Go.IntKind renaming i64->ae,wrap->av
open Go.Ending renaming returned->aq
open _root_.ByteArray renaming mk->ar
open _root_.Go.Proofs.Tryz renaming prog->au
open Go.Instr renaming buildSlice->aw
open Go renaming World->ay,Value->az,Calls->aB
open Go.Kt renaming Only->aA,SliceF->aD,Cells->aE,OnlyP->aF,Blk->aH
open Go renaming World->ay,Value->az
namespace Go.Proofs.YtpbgcbdclnfpnaaGreatDoor.Con
open Go Go.RowKit Go.Kt Go.Kt.V Go.Proofs.YtpbgcbdclnfpnaaGreatDoor.Vc
section
def Bw:List Mv->Nat
 | []=>0
 | m::l=>OW m+Bw l
def HU(b:Nb):Nat:=((b.nm.length+b.ini.length)+(b.dft.length+1))+((ky b.en+ky b.lv)+Bw b.mv)
mutual
def pz:Nd->Nat
 | .mk b l=>HU b+jf l
def jf:List Nd->Nat
 | []=>0
 | x::l=>pz x+jf l
end
theorem wC{m:Mv}:∀{l:List Mv},m∈l->OW m<=Bw l
 | [],h=>aaB
 | x::l,h=>by
  rw[Bw];rcases aV.1 h with rfl | h
  ·omega
  have:=wC h;omega
theorem oC:∀(l:List Mv),l.length<=Bw l
 | []=>bh _
 | m::l=>by
  have:=oC l;rw[Bw,bn];unfold OW;omega
theorem qD{x:Nd}:∀{l:List Nd},x∈l->pz x<=jf l
 | [],h=>aaB
 | y::l,h=>by
  rw[jf];rcases aV.1 h with rfl | h
  ·omega
  have:=qD h;omega
theorem W3(x:Nd):1<=pz x:=by
 obtain⟨b,l⟩:=x;rw[pz];unfold HU;omega
theorem wD:∀(l:List Nd),l.length<=jf l
 | []=>bh _
 | x::l=>by
  have:=wD l;have:=W3 x;rw[jf,bn];omega
theorem HV{x:Nd}:∀{l:List Nd},Bl l->x∈l->Mq x
 | [],_,h=>aaB
 | y::l,hn,h=>by
  rw[Bl]at hn;rcases aV.1 h with rfl | h
  ·exact hn.1
  exact HV hn.2 h
theorem Bx(d:Nat)(x:Nd):∀l:List Nd,nM d (l++[x])=(nM d l&&qy d x)
 | []=>by simp[nM]
 | y::l=>by rw[cp,nM,nM,Bx d x l,CS]
theorem Dt(x:Nd):∀l:List Nd,vC (l++[x])=vC l+Dk x
 | []=>by simp[vC]
 | y::l=>by rw[cp,vC,vC,Dt x l];omega
theorem Du(d:Nat)(x:Nd):∀l:List Nd,ze d (l++[x])=ze d l++ndL d x
 | []=>by simp[ze]
 | y::l=>by rw[cp,ze,ze,Du d x l,bP]
def zg(x:Nb)(ks:List Nd)(d:Nat):Bool:=(decide (x.ini=[])||fi x.ini)&&(x.en.all nj&&(x.lv.all nj&&(x.mv.all Bj&&nM d ks)))
theorem ml(l:aJ)(p:Ln):iT l [p]=qz l p:=rfl
theorem SX(l:List Ac):GW l≠[]:=by unfold GW;simp
theorem wE{cK:St}{l l1 l2:aJ}{L M:List Ln}{Gp:St}{c:Bool}{n:Nat}(hU:Up Gp c n cK)(h1:Gp.1=false->l1=iT l L)(h2:cK.1=false->l2=iT l1 M):cK.1=false->l2=iT l (L++M):=λe=>by
 rw[h2 e,h1 (hU.ok e).1,j6]
def SY(D:Nat):Prop:=∀(w0 w:ay) (b:Nat) (l:aJ) (st:St) (F:aL) (x:Nd) (cs:aK) (d:Nat),Qz w0 b w l st->pM false D w F x cs->(∀k,F k->k<w0.heap.size)->Mq x->pz x<=8388608->d<=12->Er w0->Tb w0->
 aB au 183 #[rp b,aj cs.toArray,O ae (d:Int)] w λe w'=>e=aq (ak #[])/\∃cK l',Up st (qy d x) (Dk x) cK/\(cK.1=false->l'=iT l (ndL d x))/\Qz w0 b w' l' cK/\Mw false b w w'
section
variable {w0 w:ay} {b:Nat} {l:aJ} {st:St}
theorem SZ{D:Nat}(hN:SY D)(h:Qz w0 b w l st){F:aL}{x:Nb}{en lv mv kids:Sl}{ks:List Nd}(hb:E4 false w F x en lv mv)(hk:j5 false (pM false D) 9 27 w F kids ks)(hF:∀k,F k->k<w0.heap.size)(hn:nbN x)(QE:Bl ks)(hs:HU x+jf ks<=8388608)(d:Nat)(hd:d<=12)(hE:Er w0)(hT:Tb w0):
  aB au 145 #[rp b,aj (oL x.k x.nm x.ini x.dft en lv mv kids x.a).toArray,O ae (d:Int)] w λe w'=>e=aq (ak #[])/\∃cK l',Up st (zg x ks d) (Zj x+vC ks) cK/\(cK.1=false->l'=iT l (nbL d x++ze d ks))/\Qz w0 b w' l' cK/\Mw false b w w':=by
 have Cq:=hs;unfold HU at Cq;have Cs:=oC x.mv;have KN:=wD ks;obtain⟨F8,IV,sR⟩:=hb;have F8:=F8.1;have IV:=IV.1;have sR:=sR.1;have hk:=hk.1;refine ret (agY _ _ _ _ _ _ _ _ _ _ _ _ _ ?_);intro k0 w1 gU fD cG;have t1:=(h.z false).al cG gU fD;rw[show ar #[]=T []from rfl,mM];refine⟨λw'=>∃Gp l1,Up st (decide (x.ini=[])||fi x.ini) 0 Gp/\(Gp.1=false->l1=iT l (WR d x))/\Zq false w0 w b w' l1 Gp [k0],?_,λhc=>?_,λhc=>?_⟩
 ·rintro w2 ⟨vF,l2,hU2,KK,t2⟩;refine(Fi t2.toQz (SliceF.keep (dT false) F8 aN λk hk _=>h.arg t2.toQz (hF k hk)) hF hn.en aG hE hT).mono ?_;rintro _ w3 ⟨tx3,TV,rfl,tl3,tt3,hU3,q3,m3⟩;have t3:=t2.nx q3 m3.up;refine⟨_,rfl,t2.sm m3 aac,(Bt t3.toQz d hd ke tx3 aN aG).mono ?_⟩;rintro _ w4 ⟨rfl,q4,m4⟩;have t4:=t3.nx q4 m4;have hl4:TV.1=false->(if TV.1||decide (tx3=[])then l2 else qz l2 (d,fW [ke,tx3]))=iT l2 (enL d x):=λe=>by
   rw[e,tt3 e];unfold enL;by_cases he:x.en=[]
   ·rw[bc he,bc he];rfl
   rw[aY he,aY he,bI (SX _),aY aN,ml,pw aN,fR (by rfl),eI,fQ,mj,bQ]
  generalize (if TV.1||decide (tx3=[])then l2 else qz l2 (d,fW [ke,tx3]))=l4 at*
  refine⟨rfl,t3.sm m4 aac,(Fi t4.toQz (SliceF.keep (dT false) IV aN λk hk _=>h.arg t4.toQz (hF k hk)) hF hn.lv aG hE hT).mono ?_⟩;rintro _ w5 ⟨tx5,Yt,rfl,tl5,tt5,hU5,q5,m5⟩;have t5:=t4.nx q5 m5.up;refine⟨_,rfl,t4.sm m5 aac,(Bt t5.toQz d hd kf tx5 aN aG).mono ?_⟩;rintro _ w6 ⟨rfl,q6,m6⟩;have t6:=t5.nx q6 m6;have hl6:Yt.1=false->(if Yt.1||decide (tx5=[])then l4 else qz l4 (d,fW [kf,tx5]))=iT l4 (lvL d x):=λe=>by
   rw[e,tt5 e];unfold lvL;by_cases he:x.lv=[]
   ·rw[bc he,bc he];rfl
   rw[aY he,aY he,bI (SX _),aY aN,ml,pw aN,fR (by rfl),eI,fQ,mj,bQ]
  generalize (if Yt.1||decide (tx5=[])then l4 else qz l4 (d,fW [kf,tx5]))=l6 at*
  have hL4:=wE hU3 KK hl4;have P1:=wE hU5 hL4 hl6;refine⟨rfl,t5.sm m6 aac,λnv i w'=>∃(j:Nat) (cK:St) (l':aJ),i=j/\j<=x.mv.length/\nv=x.mv.length-j/\Up Yt ((x.mv.take j).all Bj) ((x.mv.take j).map λm=>m.acts.length).sum cK/\(cK.1=false->l'=iT l6 ((x.mv.take j).map λm=>(d,Vn m)))/\Zq false w0 w b w' l' cK [k0],
   x.mv.length,⟨0,Yt,l6,rfl,bh _,rfl,t6.toQz.up0,λ_=>rfl,t6⟩,?_⟩
  rintro nv _ w7 ⟨j,st7,l7,rfl,hj,rfl,N1,hl7,t7⟩;have aup:=sR.len;have aqg:aD (Mm false) 13 w7 F mv x.mv:=SliceF.keep (ni false) sR aN λk hk _=>h.arg t7.toQz (hF k hk);refine⟨λhc=>?_,λhc=>?_⟩
  ·have bT:(j:Int)<mv.n:=aP hc;obtain⟨ad,m,cs,g1,g2,g3,g4,g5,g6⟩:=aqg.get (bD j) bT;rw[aU]at g2;have hmm:=bB g2;have hms:=wC hmm;have mJ:x.mv.take (j+1)=x.mv.take j++[m]:=by
    rw[bE,g2];rfl
   have g6':=g6;obtain⟨gc,uK,tg,rfl,r1,r2,r3⟩:=g6';obtain⟨gl,rfl⟩:=jo r1;refine⟨ad,g1,_,_,_,_,_,_,_,_,_,_,_,_,_,g5,λk3 w8 zr xi fX=>?_⟩;have t8:=t7.al fX zr xi;refine(abR t8.toQz ((ni false).keep g6 λk _ bT=>fX.block k bT aac) hF (hn.mv m hmm) aG hE hT).mono ?_;rintro _ w9 ⟨tx9,st9,rfl,tl9,tt9,hU9,q9,m9⟩;have t9:=t8.nx q9 m9.up;have iA:=iU [tx9];simp only[bH,fV,cE,iL]at iA;obtain⟨q10,dL,e10,dW,adZ⟩:=yN t9.toQz [tx9] (n:=1) (parts:=#[.mk 0 (ah (T tx9))]) rfl rfl aN aN d hd aG;refine⟨_,rfl,t8.sm m9 aac,q10,dL,e10,t9.sq dW aac,adZ.mono ?_⟩;rintro _ dN ⟨rfl,q11,m11⟩;have t11:=t9.nx q11 m11;refine⟨rfl,t9.sl dW m11 aac,x.mv.length-(j+1),aG,j+1,st9,_,aad,aG,rfl,(N1.tr hU9).cg ?_ ?_,λe=>?_,⟨t11.toQz,t11.m,λk hk=>t11.k k adS⟩⟩
   ·rw[mJ,Ae];simp
   ·rw[mJ,dh,List.sum_append];simp
   rw[e,aY aN,hl7 (hU9.ok e).1,mJ,dh,j6,tt9 e];show _=qz _ (d,Vn m);have:ne (Vn m)=true:=by
    have:Vn m≠[]:=by unfold Vn;simp
    unfold ne;rw[bI this];rfl
   rw[pw this,eI,mj,bQ]
  have lz:¬(j:Int)<mv.n:=aX hc;have qT:j=x.mv.length:=aG
  subst qT;rw[bq (ba _)]at N1 hl7;have F9:=wE N1 P1 hl7;refine⟨λnv i w'=>∃(j:Nat) (cK:St) (l':aJ),i=j/\j<=ks.length/\nv=ks.length-j/\Up st7 (nM d (ks.take j)) (vC (ks.take j)) cK/\(cK.1=false->l'=iT l7 (ze d (ks.take j)))/\Zq false w0 w b w' l' cK [k0],
   ks.length,⟨0,st7,l7,rfl,bh _,rfl,by rw[de,nM,vC];exact t7.toQz.up0,λ_=>by rw[de,ze];rfl,t7⟩,?_⟩
  rintro nv _ dN ⟨j,ad0,oa,rfl,hj,rfl,Yw,ad4,t11⟩;have auq:=hk.len;have aqi:aD (pM false D) 9 dN F kids ks:=SliceF.keep (cX false D) hk aN λk hk _=>h.arg t11.toQz (hF k hk);refine⟨λhc=>?_,λhc=>?_⟩
  ·have bT:(j:Int)<kids.n:=aP hc;obtain⟨ad,y,cs,g1,g2,g3,g4,g5,g6⟩:=aqi.get (bD j) bT;rw[aU]at g2;have hym:=bB g2;have hys:=qD hym;have mJ:ks.take (j+1)=ks.take j++[y]:=by
    rw[bE,g2];rfl
   have g6':=g6;cases D with
   | zero=>exact g6'.elim
   | succ D=>
   obtain⟨zx,zy,uA,lR,rfl,_⟩:=g6';refine⟨ad,g1,_,_,_,_,zx,zy,uA,lR,_,g5,λk7 eT hk7 ad5 fk=>?_⟩;have t12:=t11.al fk hk7 ad5;refine(hN _ _ _ _ _ _ _ _ d t12.toQz ((cX false _).keep g6 λk _ bT=>fk.block k bT aac) hF (HV QE hym) aG hd hE hT).mono ?_;rintro _ fI ⟨rfl,ad6,uy,ajG,aqk,Yg,m13⟩;have t13:=t12.nx Yg m13;refine⟨rfl,t12.sm m13 aac,ks.length-(j+1),aG,j+1,ad6,uy,aad,aG,rfl,(Yw.tr ajG).cg ?_ ?_,λe=>?_,⟨t13.toQz,t13.m,λk hk=>t13.k k adS⟩⟩
   ·rw[mJ,Bx]
   ·rw[mJ,Dt]
   rw[aqk e,ad4 (ajG.ok e).1,mJ,Du,j6]
  have lz:¬(j:Int)<kids.n:=aX hc;have qT:j=ks.length:=aG
  subst qT;rw[bq (ba _)]at Yw ad4;have zz:=wE Yw F9 ad4;refine⟨rfl,ad0,oa,(hU2.tr (hU3.tr (hU5.tr (N1.tr Yw)))).cg rfl ?_,λe=>?_,t11.toQz,t11.m⟩
  ·unfold Zj;omega
  rw[zz e];unfold nbL mvL;simp only[bP]
 ·have hc:x.ini≠[]:=aai
  refine(mG t1.toQz x.ini aG).mono ?_;rintro _ w2 ⟨rfl,vF,hU2,q2,m2⟩;have t2:=t1.nx q2 m2.up;refine⟨_,rfl,t1.sm m2 aac,abQ,?_⟩;rw[show ar #[59]=T [59]from rfl,lM];refine(Bt t2.toQz d hd iy (x.ini++[59]) aN aaE).mono ?_;rintro _ w3 ⟨rfl,q3,m3⟩;refine⟨rfl,t2.sm m3 aac,vF,_,hU2.cg (by rw[bI hc,nA]) rfl,λe=>?_,t2.nx q3 m3⟩;have gq:x.ini++[59]≠[]:=aac
  have KM:ne (x.ini++[59])=true:=by unfold ne;rw[bI gq];rfl
  rw[e,bI gq,aY aN,pw aN,fR KM,eI,fQ,mj,bQ];unfold WR;rw[aY hc];rfl
 have hc:x.ini=[]:=aai
 refine⟨st,l,h.up0.cg (by rw[bJ hc];rfl) rfl,λ_=>by unfold WR;rw[bc hc];rfl,t1⟩
end
theorem Up.more{st cK:St}{c:Bool}{n:Nat}(h:Up st c 0 cK)(hn:c=true->n=0):Up st c n cK:=by
 cases c with
 | true=>rw[hn rfl];exact h
 | false=>
  refine⟨?_,λe=>?_⟩
  ·rw[h.w];simp
  have:=h.w;rw[e]at this;simp at this
def Zv:List (aJ):=[[],EW,uk,wu,Mc]
theorem ahx{k:Int}(h1:1<=k)(h2:k<=4):Zv[k.toNat]? =some (kW k):=by
 have:k=1∨k=2∨k=3∨k=4:=aG
 rcases this with rfl | rfl | rfl | rfl<;>rfl
theorem Zw(k:Int):ne (kW k)=true:=by
 unfold kW;split
 ·rfl
 split
 ·rfl
 split
 ·rfl
 rfl
theorem abT(k:Int):(kW k).length<=8:=by
 unfold kW;split
 ·decide
 split
 ·decide
 split
 ·decide
 decide
theorem MW{d:Nat}{b:Nb}{l:List Nd}(hk:b.k=1∨b.k=2)(hd:d<12):((decide (b.dft=[])&&fi b.nm)&&zg b l (d+1))=qy d (.mk b l):=by
 have hh:fU b.k=false:=acW
 rw[qy,bJ hd,cT];unfold Bk zg;rw[hh,aY aN];have:decide ((b.k=1∨b.k=2)/\b.dft=[])=decide (b.dft=[]):=by simp[hk]
 rw[this];generalize decide (b.dft=[])=A;generalize fi b.nm=B;generalize (decide (b.ini=[])||fi b.ini)=C;generalize b.en.all nj=D;generalize b.lv.all nj=E;generalize b.mv.all Bj=G;generalize nM (d+1) l=H;cases A<;>cases B<;>cases C<;>cases D<;>cases E<;>cases G<;>cases H<;>rfl
theorem MX{d:Nat}{b:Nb}{l:List Nd}(hk:b.k=3∨b.k=4)(hd:d<12):(((decide (b.ini=[])&&decide (b.en=[]/\b.lv=[]/\b.mv=[]/\l=[]))&&fi b.nm)&&fi b.dft)=qy d (.mk b l):=by
 have hh:fU b.k=true:=by unfold fU;exact bJ hk
 rw[qy,bJ hd,cT];unfold Bk;rw[hh,bc rfl];by_cases hl:l=[]
 ·subst hl;have:decide (b.ini=[]/\b.en=[]/\b.lv=[]/\b.mv.length=0/\([]:List Nd).length=0)=(decide (b.ini=[])&&decide (b.en=[]/\b.lv=[]/\b.mv=[]/\([]:List Nd)=[])):=by
   rw[bW];simp
  rw[this,nM];generalize decide (b.ini=[])=A;generalize decide (b.en=[]/\b.lv=[]/\b.mv=[]/\([]:List Nd)=[])=B;cases A<;>cases B<;>cases fi b.nm<;>cases fi b.dft<;>rfl
 have h1:decide (b.en=[]/\b.lv=[]/\b.mv=[]/\l=[])=false:=bI λh=>hl h.2.2.2;have h2:decide (b.ini=[]/\b.en=[]/\b.lv=[]/\b.mv.length=0/\l.length=0)=false:=bI λh=>hl (bR h.2.2.2.2);rw[h1,h2];simp
theorem MY{d:Nat}{b:Nb}{l:List Nd}(h:¬(1<=b.k/\b.k<=4)∨12<=d):qy d (.mk b l)=false:=by
 rw[qy];rcases h with h | h
 ·have hh:fU b.k=false:=acW
  have:decide ((b.k=1∨b.k=2)/\b.dft=[])=false:=bI aG;unfold Bk;rw[hh,aY aN,this];simp
 rw[bI aG];rfl
theorem MZ:∀D,SY D
 | 0=>by
  intro w0 w b l st F x cs d h hx;exact hx.elim
 | D+1=>by
  intro w0 w b l st F x cs d h hx hF hn hs hd hE hT;obtain⟨bb,ks⟩:=x;have hx0:=hx;obtain⟨en,lv,mv,kids,rfl,yr,vg⟩:=hx;have yr:E4 false w F bb en lv mv:=yr;have vg:j5 false (pM false D) 9 27 w F kids ks:=vg;show aB au 183 #[rp b,aj (oL bb.k bb.nm bb.ini bb.dft en lv mv kids bb.a).toArray,O ae (d:Int)] w _;rw[Mq]at hn;rw[pz]at hs;have Cq:=hs;unfold HU at Cq;refine ret (ag8 _ _ _ _ _ _ _ _ _ _ _ _ _ ?_);intro k0 w1 gU fD cG;have t1:=(h.z false).al cG gU fD;obtain⟨q,sl,hB,_⟩:=t1.toQz.set;have bad:∀{w':ay} {cK:St} {lx:aJ},cK.1=true->Zq false w0 w b w' lx cK [k0]->(st.1=true∨qy d (.mk bb ks)=false)->∃cK l',Up st (qy d (.mk bb ks)) (Dk (.mk bb ks)) cK/\(cK.1=false->l'=iT l (ndL d (.mk bb ks)))/\Qz w0 b w' l' cK/\Mw false b w w':=by
   intro w' cK lx e t hc;refine⟨cK,lx,⟨?_,λe2=>absurd (e.symm.trans e2) aN⟩,λe2=>absurd (e.symm.trans e2) aN,t.toQz,t.m⟩;rw[e];rcases hc with hc | hc
   ·rw[hc];rfl
   rw[hc];simp
  refine⟨st.1,Blk.eh hB 2 rfl,λhc=>?_,λhc=>?_⟩
  ·refine(j7 t1.toQz false).mono ?_;rintro _ w2 ⟨rfl,vF,u1,u2,u3⟩;refine⟨rfl,t1.sm u3 aac,rfl,bad (by rw[u1.w];simp) (t1.nx u2 u3.up) ?_⟩;rw[bU]at hc;rcases hc with hc | hc
   ·exact .inl hc
   exact .inr (MY (.inr abp))
  rw[ii]at hc;have ad7:d<12:=by have:=aX hc.2;omega
  obtain⟨q2,w2,g,cs,e2,dk,B9,PR,pF,XZ⟩:=SM w1 Zv (n:=5) (parts:=#[.mk 0 (ah (ar #[])),.mk 1 (ah (ar #[115,116,97,116,101])),.mk 2 (ah (ar #[112,97,114,97,108,108,101,108])),.mk 3 (ah (ar #[104,105,115,116,111,114,121])),.mk 4 (ah (ar #[100,101,101,112]))]) rfl rfl aN aN;have t2:=t1.al dk B9 PR;have hwd:1<=bb.k/\bb.k<=4->dE q2 bb.k 1 ⟨g,bb.k.toNat,none⟩/\∀w',aH w' g 9 cs->aE w' ⟨g,bb.k.toNat,none⟩ [ah (T (kW bb.k))]:=λhk=>by
   have:=XZ _ _ (ahx hk.1 hk.2);rwa[jV aG]at this
  have KN:=abT bb.k;have z2:∀{w3:ay},aA [] w2 w3->aH w3 g 9 cs:=λhO=>hO.blk pF aac;have z2m:∀{w3 w4:ay} {lx:aJ} {sx:St} {f:Bool},Zq false w0 w b w3 lx sx [g,k0]->Mw f b w3 w4->aH w3 g 9 cs->aH w4 g 9 cs:=λt m hB=>(t.sm (ks':=[g]) m aac g aac).trans hB;refine⟨q2,w2,e2,t1.sq dk aac,λb1 w3=>w2=w3/\b1=decide (bb.k=1∨bb.k=2),?_,λtW=>⟨rfl,?_⟩,λtW=>⟨rfl,?_⟩⟩
  ·rintro b1 _ ⟨rfl,rfl⟩;refine⟨λIW=>?_,λIW=>?_⟩
   ·have hk:=aP IW;have hkr:1<=bb.k/\bb.k<=4:=aG
    obtain⟨y1,y2⟩:=hwd hkr;rw[show ar #[]=T []from rfl,mM];refine(j7 t2.toQz _).mono ?_;rintro _ w4 ⟨rfl,K0,u1,u2,u3⟩;have t4:=t2.nx u2 u3.up;refine⟨rfl,t2.sm u3 aac,λw5 eJ=>⟨λk=>k∈[k0,g],aac,_,y1,aac,_,y2 w5 (eJ.blk (z2m t2 u3 pF) aac),?_⟩⟩;have t5:=t4.q eJ;refine(mG t5.toQz bb.nm aG).mono ?_;rintro _ w6 ⟨rfl,st6,v1,v2,v3⟩;have t6:=t5.nx v2 v3.up;have iA:=iU [kW bb.k,bb.nm,[123]];simp only[bH,fV,cE,iL,bn,cZ]at iA;obtain⟨q7,w7,e7,fN,hj7⟩:=yN t6.toQz [kW bb.k,bb.nm,[123]] (n:=3) (parts:=#[.mk 0 (ah (T (kW bb.k))),.mk 1 (ah (T bb.nm)),.mk 2 (ah (T [123]))]) rfl rfl aN aN d hd aG;refine⟨_,rfl,t5.sm v3 aac,bS.of (t5.sm v3 aac),q7,w7,e7,t6.sq fN aac,bS.of (t6.sq fN aac),hj7.mono ?_⟩;rintro _ w8 ⟨rfl,x1,x2⟩;have t8:=t6.nx x1 x2;have hl8:st6.1=false->(if st6.1 then l else qz l (d,fW [kW bb.k,bb.nm,[123]]))=iT l [(d,kW bb.k++32::(bb.nm++[32,123]))]:=λe=>by
     rw[e,aY aN,ml,pw (Zw _),fR (rG (v1.ok e).2.1),fR (by rfl),eI,fQ,fQ,mj];rfl
    generalize (if st6.1 then l else qz l (d,fW [kW bb.k,bb.nm,[123]]))=l8 at*
    have ed:av ae ((d:Int)+1)=((d+1:Nat):Int):=aad
    rw[ed];refine⟨rfl,t6.sl fN x2 aac,bS.of (t6.sl fN x2 aac),(SZ (MZ D) t8.toQz (yr.keep λk hk _=>h.arg t8.toQz (hF k hk)) (vg.keep (cX false D) aN λk hk _=>h.arg t8.toQz (hF k hk)) hF hn.1 hn.2 hs (d+1) aG hE hT).mono ?_⟩;rintro _ w9 ⟨rfl,st9,l9,hU9,hl9,y3,y4⟩;have t9:=t8.nx y3 y4;obtain⟨q10,dL,e10,dW,adZ⟩:=yN t9.toQz [[125]] (n:=1) (parts:=#[.mk 0 (ah (T [125]))]) rfl rfl aN aN d hd aN;refine⟨rfl,t8.sm y4 aac,q10,dL,e10,t9.sq dW aac,adZ.mono ?_⟩;rintro _ dN ⟨rfl,x3,x4⟩;have t11:=t9.nx x3 x4;refine⟨rfl,t9.sl dW x4 aac,rfl,st9,_,((u1.tr v1).tr hU9).cg (MW hk ad7) (by rw[Dk];omega),λe=>?_,t11.toQz,t11.m⟩;have hh:fU bb.k=false:=acW
    rw[ndL,hh,e];simp only[kB,ka];rw[hl9 e,hl8 (hU9.ok e).1,<-j6];have e1:fW [[125]]=[125]:=aN
    rw[e1,<-ml,<-j6];simp only[bP,cp,cF]
   have QE:=aX IW;refine⟨λb2 eT=>w2=eT/\b2=decide (bb.k=3∨bb.k=4),?_,λhc4=>⟨rfl,?_⟩,λhc4=>⟨rfl,?_⟩⟩
   ·rintro b2 _ ⟨rfl,rfl⟩;refine⟨λhc5=>?_,λhc5=>?_⟩
    ·have hk:=aP hc5;have hkr:1<=bb.k/\bb.k<=4:=aG
     obtain⟨y1,y2⟩:=hwd hkr;have n4:=yr.1.1.len;have n5:=yr.2.1.1.len;have n6:=yr.2.2.1.len;have n7:=vg.1.len;have a4:=oB bb.en;have a5:=oB bb.lv;have a6:=oC bb.mv;have a7:=wD ks;have aqo:(av ae ((av ae ((av ae ((en.n:Int)+(lv.n:Int)))+(mv.n:Int)))+(kids.n:Int))==0)=decide (bb.en=[]/\bb.lv=[]/\bb.mv=[]/\ks=[]):=by
      rw[gx (x:=(en.n:Int)+(lv.n:Int)) aG aG,gx (x:=(en.n:Int)+(lv.n:Int)+(mv.n:Int)) aG aG,gx aG aG,bW];simp only[dq,bL];refine⟨λe=>?_,λ⟨e1,e2,e3,e4⟩=>?_⟩
      ·exact⟨bR aG,bR aG,bR aG,bR aG⟩
      rw[n4,n5,n6,n7,e1,e2,e3,e4];rfl
     rw[show ar #[]=T []from rfl,mM,aqo];refine(j7 t2.toQz _).mono ?_;rintro _ fI ⟨rfl,ad6,u1,u2,u3⟩;have t13:=t2.nx u2 u3.up;refine⟨rfl,t2.sm u3 aac,λfS ey=>⟨λk=>k∈[k0,g],aac,_,y1,aac,_,y2 fS (ey.blk (z2m t2 u3 pF) aac),aac,?_⟩⟩;have t14:=t13.q ey;refine(mG t14.toQz bb.nm aG).mono ?_;rintro _ ia ⟨rfl,ayf,v1,v2,v3⟩;have t15:=t14.nx v2 v3.up;refine⟨_,rfl,t14.sm v3 aac,bS.of (t14.sm v3 aac),(mG t15.toQz bb.dft aG).mono ?_⟩;rintro _ io ⟨rfl,aqp,x1,x2,x3⟩;have t16:=t15.nx x2 x3.up;have iA:=iU [kW bb.k,bb.nm,[45,62],bb.dft++[59]];simp only[bH,fV,cE,iL,bn,cZ,aW]at iA;obtain⟨q17,gn,e17,iZ,aqq⟩:=yN t16.toQz [kW bb.k,bb.nm,[45,62],bb.dft++[59]] (n:=4) (parts:=#[.mk 0 (ah (T (kW bb.k))),.mk 1 (ah (T bb.nm)),.mk 2 (ah (T [45,62])),.mk 3 (ah (T (bb.dft++[59])))]) rfl rfl aN aN d hd aG;refine⟨T bb.dft,rfl,t15.sm x3 aac,bS.of (t15.sm x3 aac),abQ,q17,gn,by rw[show ar #[59]=T [59]from rfl,lM];exact e17,t16.sq iZ aac,bS.of (t16.sq iZ aac),aqq.mono ?_⟩;rintro _ jC ⟨rfl,y3,y4⟩;have t18:=t16.nx y3 y4;have hU:=((u1.tr v1).tr x1).cg (MX hk ad7) rfl;refine⟨rfl,t16.sl iZ y4 aac,bS.of (t16.sl iZ y4 aac),rfl,aqp,_,hU.more λmr=>?_,λe=>?_,t18.toQz,t18.m⟩
     ·rw[<-MX hk ad7]at mr;simp only[aR,bL]at mr;obtain⟨⟨⟨_,e1,e2,e3,e4⟩,_⟩,_⟩:=mr;rw[Dk,e4,vC];unfold Zj;rw[e1,e2,e3];rfl
     have hh:fU bb.k=true:=by unfold fU;exact bJ hk
     have KM:ne (bb.dft++[59])=true:=by
      have:bb.dft++[59]≠[]:=aac
      unfold ne;rw[bI this];rfl
     rw[ndL,hh,bc rfl,e,aY aN,ml,pw (Zw _),fR (rG (v1.ok (x1.ok e).1).2.1),fR (by rfl),fR KM,eI,fQ,fQ,fQ,mj,bQ];rfl
    have ayh:=aX hc5;refine(j7 t2.toQz false).mono ?_;rintro _ fI ⟨rfl,ad6,u1,u2,u3⟩;have t13:=t2.nx u2 u3.up;exact⟨rfl,t2.sm u3 aac,rfl,bad (by rw[u1.w];simp) ⟨t13.toQz,t13.m,λk hk=>t13.k k adS⟩ (.inr (MY (.inl aG)))⟩
   ·have:bb.k=3:=by simpa using hc4
    rw[hc4,bJ (.inl this)]
   have:bb.k≠3:=by simpa using hc4
   rw[bW];simp[this]
  ·have:bb.k=1:=by simpa using tW
   rw[tW,bJ (.inl this)]
  have:bb.k≠1:=by simpa using tW
  rw[bW];simp[this]
mutual
theorem abU:∀x:Nd,jk x<=pz x
 | .mk b l=>by
  rw[jk,pz];have:=wF l;unfold HU;omega
theorem wF:∀l:List Nd,ff l<=jf l
 | []=>by rw[ff];exact bh _
 | x::l=>by
  rw[ff,jf];exact lC (abU x) (wF l)
end
mutual
theorem abV:∀x:Nd,Co x<=pz x
 | .mk b l=>by
  rw[Co,pz];have:=wG l;have:=oC b.mv;unfold HU;omega
theorem wG:∀l:List Nd,xS l<=jf l
 | []=>by rw[xS];exact bh _
 | x::l=>by
  rw[xS,jf];exact lC (abV x) (wG l)
end
theorem xU(x:Nd):∀l:List Nd,ff (l++[x])=ff l+jk x
 | []=>by simp[ff]
 | y::l=>by rw[cp,ff,ff,xU x l];omega
theorem xV(x:Nd):∀l:List Nd,xS (l++[x])=xS l+Co x
 | []=>by simp[xS]
 | y::l=>by rw[cp,xS,xS,xV x l];omega
theorem Bz:∀l m:List Nd,jf (l++m)=jf l+jf m
 | [],m=>by rw[cF,jf];omega
 | y::l,m=>by rw[cp,jf,jf,Bz l m];omega
theorem M0:∀(D:Nat) (w:ay) (F:aL) (x:Nd) (cs:aK),pM false D w F x cs->pz x<=8388608->aB au 140 #[aj cs.toArray] w λe w'=>e=aq (ak #[O ae (jk x:Int),O ae (Co x:Int)])/\aA [] w w'
 | 0,w,F,x,cs,hx,_=>hx.elim
 | D+1,w,F,x,cs,hx,hs=>by
  obtain⟨bb,ks⟩:=x;obtain⟨en,lv,mv,kids,rfl,yr,vg⟩:=hx;have sR:=yr.2.2.1;have sR:aD (Mm false) 13 w F mv bb.mv:=sR;have hk:aD (pM false D) 9 w F kids ks:=vg.1;show aB au 140 #[aj (oL bb.k bb.nm bb.ini bb.dft en lv mv kids bb.a).toArray] w _;refine ret (agN _ _ _ _ _ _ _ _ _ _ _ ?_);have z1:=wF ks;have z2:=wG ks;have z3:=oC bb.mv;rw[pz]at hs;have Cq:=hs;unfold HU at Cq;have n6:=sR.len;have n7:=hk.len;have z4:=wD ks;intro k0 w1 gU fD cG w2 dk;refine⟨λnv a m i w'=>∃j:Nat,i=j/\j<=ks.length/\nv=ks.length-j/\a=(1+ff (ks.take j):Nat)/\m=(bb.mv.length+xS (ks.take j):Nat)/\k0<w'.heap.size/\aA [] w w',ks.length,⟨0,rfl,bh _,rfl,by rw[de,ff];rfl,by rw[de,xS,n6];rfl,cq fD dk.size,cG.cr dk⟩,?_⟩;rintro nv _ _ _ w3 ⟨j,rfl,hj,rfl,rfl,rfl,zr,dz⟩;have ayi:jf ks=jf (ks.take j)+jf (ks.drop j):=by rw[<-Bz,dl]
  have y1:=wF (ks.take j);have y2:=wG (ks.take j);refine⟨λhc=>?_,λhc=>?_⟩
  ·have bT:(j:Int)<kids.n:=aP hc;obtain⟨ad,y,cs,g1,g2,g3,g4,g5,g6⟩:=(SliceF.only (cX false D) aN hk dz aac).get (bD j) bT;rw[aU]at g2;have hys:=qD (bB g2);have mJ:ks.take (j+1)=ks.take j++[y]:=by
    rw[bE,g2];rfl
   have aus:jf ks=jf (ks.take (j+1))+jf (ks.drop (j+1)):=by rw[<-Bz,dl]
   have y3:ff (ks.take j)+jk y<=jf (ks.take (j+1)):=by rw[<-xU,<-mJ];exact wF _
   have y4:xS (ks.take j)+Co y<=jf (ks.take (j+1)):=by rw[<-xV,<-mJ];exact wG _
   have g6':=g6;cases D with
   | zero=>exact g6'.elim
   | succ D=>
   obtain⟨zx,zy,uA,lR,rfl,_⟩:=g6';refine⟨ad,g1,_,_,_,_,zx,zy,uA,lR,_,g5,λk3 w4 xi aut dK=>?_⟩;refine(M0 (D+1) w4 F y _ ((cX false _).keep g6 λk _ bT=>dK.block k bT aac) aG).mono ?_;rintro _ w5 ⟨rfl,eJ⟩;refine⟨_,_,rfl,eJ.same (by have:=dK.size;simp;omega),ks.length-(j+1),aG,j+1,aad,aG,rfl,?_,?_,?_,(dz.cr dK).cr eJ⟩
   ·rw[mJ,xU,gx aG aG];omega
   ·rw[mJ,xV,gx aG aG];omega
   have:=dK.size;have:=eJ.size;omega
  have lz:¬(j:Int)<kids.n:=aX hc;have qT:j=ks.length:=aG
  subst qT;rw[bq (ba _)];refine⟨?_,dz⟩;rw[jk,Co,jE]
structure Pt4 (w:ay) (b:Nat) (sl:Sl) (l:aJ) (v2 v3:az):Prop where
 blk:∃q:Option Addr,aH w b 218 [ai q,sl.v,v2,v3]
 len:sl.n=l.length
 some:l≠[]->∃g,sl.a=.some ⟨g,0,none⟩/\b<g/\sl.c≠0/\(∃n,w.shape? g=.some (5,n)/\l.length<=n)/\aE w ⟨g,0,none⟩ (l.map gw)
 cap:sl.a=none∨sl.c≠0
 big:l.length<=9223372036854775807
section
variable {w:ay} {b:Nat} {sl:Sl} {l:aJ} {v2 v3:az}
theorem Pt4.only{w':ay}(h:Pt4 w b sl l v2 v3)(hO:aA [] w w'):Pt4 w' b sl l v2 v3:=by
 obtain⟨⟨q,h1⟩,h2,h3,h4,h5⟩:=h;refine⟨⟨q,hO.blk h1 aac⟩,h2,λhl=>?_,h4,h5⟩;obtain⟨g,a1,a2,a3,⟨n,a4,a5⟩,a6⟩:=h3 hl;have hg:g<w.heap.size:=by
  refine cy λhn=>?_;unfold World.shape? at a4;rw[fm aG]at a4;cases a4
 have hk:=hO.block g hg aac;exact⟨g,a1,a2,a3,⟨n,(Bc hk).trans a4,a5⟩,a6.keep hk⟩
theorem Qz.pt{w0:ay}{st:St}(h:Qz w0 b w l st):∃sl,Pt4 w b sl l (ao st.1) (O ae st.2)/\∀k,sl.a=some ⟨k,0,none⟩->Bu w b k:=by
 obtain⟨q,sl,hq,hB,hb⟩:=h.ex;refine⟨sl,⟨⟨_,hB⟩,hb.len,λhl=>?_,?_,?_⟩,λk hk=>HP hB hk⟩
 ·rcases hb with⟨_,e⟩ | ⟨g,tail,h1,h2,h3,h4,h5,h6,h7,h8⟩
  ·exact absurd e hl
  have h0:l.length≠0:=λe=>hl (bR e);refine⟨g,h1,h2,aG,⟨_,by unfold World.shape?;unfold aH at h3;rw[h3],aac⟩,h3.cells 0 (l.map gw) λj v hj=>acV⟩
 ·rcases hb with⟨e,_⟩ | ⟨g,tail,h1,h2,h3,h4,h5,h6,h7,h8⟩
  ·exact .inl (by rw[e])
  exact .inr aG
 rcases hb with⟨_,e⟩ | ⟨g,tail,h1,h2,h3,h4,h5,h6,h7⟩
 ·subst e;simp
 omega
theorem M1(h:Pt4 w b sl l v2 v3):aB au 147 #[ai (some ⟨b,0,none⟩)] w λe w'=>e=aq (ah (T l))/\Pt4 w' b sl l v2 v3/\aF (λk=>b<k/\sl.a=some ⟨k,0,none⟩) w w':=by
 refine ret (Y8 _ _ _ ?_);intro w0 cO;have h0:=h.only cO;obtain⟨⟨q,hB⟩,fy,IU,lI,qR⟩:=h0;refine⟨λk=>k=b,sl,Blk.eh hB 1 rfl,rfl,sl,Blk.eh hB 1 rfl,sl.a,w0,?_,λk _ _=>rfl,?_⟩
 ·obtain⟨sa,sn',sc⟩:=sl;cases sa with
  | none=>exact Lib.run_unsafeSliceData_nil _ _ _ _ _
  | some a=>
   rcases lI with e | e
   ·cases e
   exact Lib.run_unsafeSliceData_row _ _ _ _ _ _ e
 by_cases hl:l=[]
 ·subst hl;have hn:sl.n=0:=fy;refine⟨T [],w0,?_,λk _ _=>rfl,rfl,⟨⟨q,hB⟩,fy,IU,lI,qR⟩,cO.p0⟩;rw[hn];exact Lib.run_unsafeString_none _ _ _ _ _
 obtain⟨g,ha,Jd,hc,⟨m,Jc,hm⟩,vH⟩:=IU hl;have hF:=tA w0 ⟨g,0,none⟩ l.length;have DY:b<w0.heap.size:=hB.lt;refine⟨T l,w0.freeze ⟨g,0,none⟩ l.length,?_,λk hk bT=>hF.block k bT aaw,rfl,⟨⟨q,hF.blk hB aaw⟩,fy,λ_=>⟨g,ha,Jd,hc,⟨m,(wq _ _ _ _).trans Jc,hm⟩,λj v hj=>by rw[tz];exact vH j v hj⟩,lI,qR⟩,cO.mZ (hF.mono λk _ hk=>by dsimp only at hk;exact⟨aG,by rw[hk];exact ha⟩)⟩;rw[ha,fy];exact Lib.run_unsafeString_row _ _ _ _ 5 (by kernel_rfl) (by kernel_rfl) g m Jc l hl hm qR λj x hj=>vH j (gw x) (by rw[ch,hj];rfl)
end
def gN(c:Ch):aJ×Int:=
 if HF c=true then(if 16384<(iT [] (Zk c)).length then([],2)else if(eO (iT [] (Zk c))).2.1≠0 then([],22)else(iT [] (Zk c),0))else([],22)
def sB:List Vr->Nat
 | []=>0
 | v::l=>(v.n.length+1)+sB l
theorem BA{v:Vr}:∀{l:List Vr},v∈l->v.n.length+1<=sB l
 | [],h=>aaB
 | x::l,h=>by
  rw[sB];rcases aV.1 h with rfl | h
  ·omega
  have:=BA h;omega
theorem BB:∀l:List Vr,l.length<=sB l
 | []=>bh _
 | v::l=>by
  have:=BB l;rw[sB,bn];omega
def CF(v:Vr):Bool:=fi v.n&&decide (v.v≠ -9223372036854775808)
theorem W4(c:Ch):((((((decide (c.root.b.k=1)&&decide (c.root.b.dft=[]))&&decide (c.vars.length<=16))&&decide (jk c.root<=64))&&decide (Co c.root<=200))&&fi c.root.b.nm)&&(c.vars.all CF&&zg c.root.b c.root.kids 1)&&decide (Dk c.root<=400))=HF c:=by
 obtain⟨vars,⟨b,l⟩⟩:=c;unfold HF;show((((((decide (b.k=1)&&decide (b.dft=[]))&&decide (vars.length<=16))&&decide (jk (.mk b l)<=64))&&decide (Co (.mk b l)<=200))&&fi b.nm)&&(vars.all CF&&zg b l 1)&&decide (Dk (.mk b l)<=400))=(vars.all CF&&qy 0 (.mk b l)&&decide (b.k=1/\vars.length<=16/\jk (.mk b l)<=64/\Co (.mk b l)<=200/\Dk (.mk b l)<=400))
 by_cases hk:b.k=1
 ·rw[<-MW (d:=0) (.inl hk) aN];have:decide (b.k=1/\vars.length<=16/\jk (.mk b l)<=64/\Co (.mk b l)<=200/\Dk (.mk b l)<=400)=(decide (vars.length<=16)&&decide (jk (.mk b l)<=64)&&decide (Co (.mk b l)<=200)&&decide (Dk (.mk b l)<=400)):=by
   rw[bW];simp[hk,and_assoc]
  rw[this,bJ hk];generalize decide (b.dft=[])=A;generalize decide (vars.length<=16)=B;generalize decide (jk (.mk b l)<=64)=C;generalize decide (Co (.mk b l)<=200)=D;generalize decide (Dk (.mk b l)<=400)=E;generalize fi b.nm=G;generalize vars.all CF=H;show _=(H&&((A&&G)&&zg b l (0+1))&&(B&&C&&D&&E))
  generalize zg b l (0+1)=I;cases A<;>cases B<;>cases C<;>cases D<;>cases E<;>cases G<;>cases H<;>cases I<;>rfl
 have:decide (b.k=1/\vars.length<=16/\jk (.mk b l)<=64/\Co (.mk b l)<=200/\Dk (.mk b l)<=400)=false:=bI λh=>hk h.1;rw[this,bI hk];simp
theorem W5{w:ay}{F:aL}{D:Nat}{c:Ch}{vs:Sl}{cs:aK}(hx:ChR false D w F c vs cs)(hn:Yq c)(hs:sB c.vars+pz c.root<=8388608)(hE:Er w)(hT:Tb w):
  aB au 100 #[aj (vs.v::cs).toArray] w λe w'=>e=aq (ak #[ah (T (gN c).1),O ae (gN c).2])/\aA [] w w':=by
 obtain⟨vars,⟨bb,ks⟩⟩:=c;cases D with
 | zero=>exact hx.root.elim
 | succ D=>
 have aap:pM false (D+1) w F (.mk bb ks) cs:=hx.root;have ad8:=(cX false _).inHeap aap;have yV:aD Vl 3 w F vs vars:=hx.vars.1;obtain⟨en,lv,mv,kids,rfl,yr,vg⟩:=ad8;have yr:E4 false w (λk=>F k/\k<w.heap.size) bb en lv mv:=yr;have vg:j5 false (pM false D) 9 27 w (λk=>F k/\k<w.heap.size) kids ks:=vg;have hr:=hn.r;have hr:Mq (.mk bb ks):=hr;have hvn:∀v,v∈vars->rf v.v:=hn.v;rw[Mq]at hr;have hs:sB vars+pz (.mk bb ks)<=8388608:=hs;have hsN:pz (.mk bb ks)=HU bb+jf ks:=by rw[pz]
 have Cq:=hs;rw[hsN]at Cq;unfold HU at Cq;have ajH:=W4 ⟨vars,.mk bb ks⟩;generalize hP:gN ⟨vars,.mk bb ks⟩=P;unfold gN at hP;rw[<-ajH]at hP;clear ajH;have hP:(if((((((decide (bb.k=1)&&decide (bb.dft=[]))&&decide (vars.length<=16))&&decide (jk (.mk bb ks)<=64))&&decide (Co (.mk bb ks)<=200))&&fi bb.nm)&&(vars.all CF&&zg bb ks 1)&&decide (Dk (.mk bb ks)<=400))=true then(if 16384<(iT [] (Zk ⟨vars,.mk bb ks⟩)).length then([],2)else if(eO (iT [] (Zk ⟨vars,.mk bb ks⟩))).2.1≠0 then([],22)else(iT [] (Zk ⟨vars,.mk bb ks⟩),0))else([],22))=P:=hP;show aB au 100 #[aj (vs.v::oL bb.k bb.nm bb.ini bb.dft en lv mv kids bb.a).toArray] w _;refine ret (agM _ _ _ _ _ _ _ _ _ _ _ _ ?_);intro k0 b w1 gU fD hb jL cG;have hvl:=yV.len;have hvz:=BB vars;refine(M0 (D+1) w1 F (.mk bb ks) _ ((cX false _).keep aap λk _ bT=>cG.block k bT aac) aG).mono ?_;rintro _ w2 ⟨rfl,dk⟩;have z2:=dk.size;refine⟨_,_,rfl,dk.same aae,λpF gq=>?_⟩;have q2:Qz w b w2 [] (false,0):=⟨cG.cr dk,hb,⟨none,Sl.nil,.inl rfl,pF,.inl ⟨rfl,rfl⟩⟩,λ_=>⟨kq 0,aN⟩,bh _⟩
 have t2:Zq false w w2 b w2 [] (false,0) [k0]:=⟨q2,Mw.refl _ _ _,λk hk=>by
  simp only[aO]at hk;subst hk;exact⟨aG,gq,λh=>by have:=MM pF h;cases this⟩⟩
 have hF:∀k,(λk=>F k/\k<w.heap.size) k->k<w.heap.size:=λk hk=>hk.2;have hw:=q2.o;rw[show ar #[]=T []from rfl,mM,hvl];refine(j7 t2.toQz _).mono ?_;rintro _ w3 ⟨rfl,TV,u1,u2,u3⟩;have t3:=t2.nx u2 u3.up;have IW:((((bb.k==1)&&decide (bb.dft=[]))&&decide ((vars.length:Int)<=16))&&decide ((jk (.mk bb ks):Int)<=64)&&decide ((Co (.mk bb ks):Int)<=200))=((((decide (bb.k=1)&&decide (bb.dft=[]))&&decide (vars.length<=16))&&decide (jk (.mk bb ks)<=64))&&decide (Co (.mk bb ks)<=200)):=by
  rw[bW];simp only[aR,dq,bL];constructor
  ·rintro⟨⟨⟨⟨a1,a2⟩,a3⟩,a4⟩,a5⟩;exact⟨⟨⟨⟨a1,a2⟩,aG⟩,aG⟩,aG⟩
  rintro⟨⟨⟨⟨a1,a2⟩,a3⟩,a4⟩,a5⟩;exact⟨⟨⟨⟨a1,a2⟩,aG⟩,aG⟩,aG⟩
 rw[IW]at u1;obtain⟨q3a,q3b,_,xf,_⟩:=t3.ex;refine⟨rfl,t2.sm u3 aac,q3a,q3b,_,_,xf,(mG t3.toQz bb.nm aG).mono ?_⟩;rintro _ w4 ⟨rfl,K0,v1,v2,v3⟩;have t4:=t3.nx v2 v3.up;obtain⟨q4a,q4b,_,sS,_⟩:=t4.ex;have iA:=iU [gZ,bb.nm,[123]];simp only[bH,fV,cE,iL,bn,cZ]at iA;have hwc:gZ.length=5:=rfl;obtain⟨q5,w5,e5,eJ,hj5⟩:=yN t4.toQz [gZ,bb.nm,[123]] (n:=3) (parts:=#[.mk 0 (ah (T gZ)),.mk 1 (ah (T bb.nm)),.mk 2 (ah (T [123]))]) rfl rfl aN aN 0 aN aG;refine⟨_,rfl,t3.sm v3 aac,q4a,q4b,_,_,sS,q5,w5,e5,?_,hj5.mono ?_⟩
 ·refine eJ.same λx hx=>⟨?_,aac⟩
  simp only[aV,bp,cm]at hx;rcases hx with rfl | rfl
  ·exact(t4.k x aac).1
  exact t4.toQz.lb
 rintro _ w6 ⟨rfl,x1,x2⟩;have t6:=t4.nx x1 x2;have hU6:=u1.tr v1;have hl6:K0.1=false->(if K0.1 then([]:aJ)else qz [] (0,fW [gZ,bb.nm,[123]]))=iT [] [(0,gZ++32::(bb.nm++[32,123]))]:=λe=>by
  rw[e];simp only[kB,ka];rw[ml,pw aN,fR (rG (v1.ok e).2.1),fR (by rfl),eI,fQ,fQ,mj];rfl
 generalize (if K0.1 then([]:aJ)else qz [] (0,fW [gZ,bb.nm,[123]]))=l6 at*
 obtain⟨q6a,q6b,_,KQ,_⟩:=t6.ex;refine⟨rfl,t4.sl eJ x2 aac,q6a,q6b,_,_,KQ,λnv i q l' wr ac w'=>∃(j:Nat) (cK:St) (l':aJ),i=j/\j<=vars.length/\nv=vars.length-j/\Up K0 ((vars.take j).all CF) 0 cK/\(cK.1=false->l'=iT l6 ((vars.take j).map λv=>(1,vrT v)))/\Zq false w w2 b w' l' cK [k0],
  vars.length,⟨0,K0,l6,rfl,bh _,rfl,t6.toQz.up0,λ_=>rfl,t6⟩,?_⟩
 rintro nv _ qa la wr ac w7 ⟨j,st7,l7,rfl,hj,rfl,N1,hl7,t7⟩;refine⟨λhc=>?_,λhc=>?_⟩
 ·have bT:(j:Int)<vars.length:=aP hc;obtain⟨ad,v,cs,g1,g2,g3,g4,g5,g6⟩:=(SliceF.only gC aN yV t7.o aac).get (bD j) aG;rw[aU]at g2;have hvm:=bB g2;have hvz:=BA hvm;have mJ:vars.take (j+1)=vars.take j++[v]:=by
   rw[bE,g2];rfl
  unfold Vl at g6;subst g6;refine⟨ad,g1,_,_,_,g5,λk4 w8 zY CM fX _=>?_⟩;have t8:=t7.al fX zY CM;refine(j7 t8.toQz _).mono ?_;rintro _ w9 ⟨rfl,st9,y1,y2,y3⟩;have t9:=t8.nx y2 y3.up;obtain⟨q9a,q9b,_,hB9,_⟩:=t9.ex;refine⟨rfl,t8.sm y3 aac,q9a,q9b,_,_,hB9,λdL dW _=>⟨λk=>k∈[k4],aac,?_⟩⟩;have t10:=t9.q dW;refine(mG t10.toQz v.n aG).mono ?_;rintro _ dN ⟨rfl,ad0,y4,y5,y6⟩;have t11:=t10.nx y5 y6.up;obtain⟨aqs,aqt,_,IR,_⟩:=t11.ex;refine⟨_,rfl,t10.sm y6 aac,aqs,aqt,_,_,IR,bS.of (t10.sm y6 aac),(zN v.v (hvn v hvm) (hT.only t11.o)).mono ?_⟩;rintro _ eT ⟨rfl,fk⟩;have t12:=t11.q fk;obtain⟨aqu,aqv,_,ad9,_⟩:=t12.ex;have IP:=HT (hvn v hvm);have iA:=iU [Hx,v.n,[61],Lib.itoa v.v++[59]];simp only[bH,fV,cE,iL,bn,cZ,aW]at iA;have hwv:Hx.length=3:=rfl;obtain⟨Yg,fI,e13,ez,aqw⟩:=yN t12.toQz [Hx,v.n,[61],Lib.itoa v.v++[59]] (n:=4) (parts:=#[.mk 0 (ah (T Hx)),.mk 1 (ah (T v.n)),.mk 2 (ah (T [61])),.mk 3 (ah (T (Lib.itoa v.v++[59])))]) rfl rfl aN aN 1 aN aG;refine⟨T (Lib.itoa v.v),rfl,t11.sq fk aac,aqu,aqv,_,_,ad9,bS.of (t11.sq fk aac),abQ,Yg,fI,by rw[show ar #[59]=T [59]from rfl,lM];exact e13,?_,bS.of (t12.sq ez aac),aqw.mono ?_⟩
  ·refine ez.same λx hx=>⟨?_,aac⟩
   simp only[aV,bp,cm]at hx;rcases hx with rfl | rfl | rfl
   ·exact(t12.k x aac).1
   ·exact t12.toQz.lb
   exact(t12.k x aac).1
  rintro _ fS ⟨rfl,y7,y8⟩;have t14:=t12.nx y7 y8;obtain⟨aqx,aqy,_,IQ,_⟩:=t14.ex;refine⟨rfl,t12.sl ez y8 aac,aqx,aqy,_,_,IQ,bS.of (t12.sl ez y8 aac),vars.length-(j+1),aG,j+1,ad0,_,aad,aG,rfl,((N1.tr y1).tr y4).cg ?_ rfl,λe=>?_,⟨t14.toQz,t14.m,λk hk=>t14.k k adS⟩⟩
  ·rw[mJ,Ae];have:(v.v != -9223372036854775808)=decide (v.v≠ -9223372036854775808):=by rw[bW];simp
   rw[this];unfold CF;simp only[List.all_cons,List.all_nil,nB];rw[CS,Bool.and_comm (decide _) (fi _)]
  have KM:ne (Lib.itoa v.v++[59])=true:=by
   have:Lib.itoa v.v++[59]≠[]:=aac
   unfold ne;rw[bI this];rfl
  rw[e];simp only[kB,ka];rw[hl7 (y1.ok (y4.ok e).1).1,mJ,dh,j6,pw aN,fR (rG (y4.ok e).2.1),fR (by rfl),fR KM,eI,fQ,fQ,fQ,mj,bQ];rfl
 have lz:¬(j:Int)<vars.length:=aX hc;have qT:j=vars.length:=aG
 subst qT;rw[bq (ba _)]at N1 hl7;refine(SZ (MZ D) t7.toQz (yr.keep λk hk _=>t7.o.block k hk.2 aac) (vg.keep (cX false D) aN λk hk _=>t7.o.block k hk.2 aac) hF hr.1 hr.2 aG 1 aN hE hT).mono ?_;rintro _ w8 ⟨rfl,st8,l8,hU8,hl8,y1,y2⟩;have t8:=t7.nx y1 y2;obtain⟨q8a,q8b,_,ve,_⟩:=t8.ex;obtain⟨q9,w9,e9,gH,hj9⟩:=yN t8.toQz [[125]] (n:=1) (parts:=#[.mk 0 (ah (T [125]))]) rfl rfl aN aN 0 aN aN;refine⟨rfl,t7.sm y2 aac,q8a,q8b,_,_,ve,q9,w9,e9,?_,hj9.mono ?_⟩
 ·refine gH.same λx hx=>⟨?_,aac⟩
  simp only[aV,bp,cm]at hx;rcases hx with rfl | rfl
  ·exact(t8.k x aac).1
  exact t8.toQz.lb
 rintro _ dL ⟨rfl,x3,x4⟩;have t10:=t8.nx x3 x4;have hU:=hU6.tr (N1.tr hU8);have hlF:st8.1=false->(if st8.1 then l8 else qz l8 (0,fW [[125]]))=iT [] (Zk ⟨vars,.mk bb ks⟩):=λe=>by
  obtain⟨e7,_⟩:=hU8.ok e;obtain⟨e4,_⟩:=N1.ok e7;rw[e];simp only[kB,ka];rw[hl8 e,hl7 e7,hl6 e4];have e1:fW [[125]]=[125]:=aN
  rw[e1,<-ml,<-j6,<-j6,<-j6];unfold Zk;rw[bP (nbL 1 bb)];exact rfl
 generalize (if st8.1 then l8 else qz l8 (0,fW [[125]]))=lF at*
 obtain⟨ajK,ajL,_,uJ,_⟩:=t10.ex;have hcond:((((((decide (bb.k=1)&&decide (bb.dft=[]))&&decide (vars.length<=16))&&decide (jk (.mk bb ks)<=64))&&decide (Co (.mk bb ks)<=200))&&fi bb.nm)&&(vars.all CF&&zg bb ks 1)&&decide (Dk (.mk bb ks)<=400))=!st8.1:=by
  have h1:=hU.w;have aqz:decide (400<(0:Int)+((0+0+(0+(Zj bb+vC ks)):Nat):Int))=!decide (Dk (.mk bb ks)<=400):=by
   rw[Dk];by_cases h4:Zj bb+vC ks<=400
   ·rw[bJ h4,bI aG];rfl
   rw[bI h4,bJ aG];rfl
  have h1:st8.1=((false||!((((((decide (bb.k=1)&&decide (bb.dft=[]))&&decide (vars.length<=16))&&decide (jk (.mk bb ks)<=64))&&decide (Co (.mk bb ks)<=200))&&fi bb.nm)&&(vars.all CF&&zg bb ks 1)))||decide (400<(0:Int)+((0+0+(0+(Zj bb+vC ks)):Nat):Int))):=h1;rw[aqz]at h1;rw[h1];generalize ((((((decide (bb.k=1)&&decide (bb.dft=[]))&&decide (vars.length<=16))&&decide (jk (.mk bb ks)<=64))&&decide (Co (.mk bb ks)<=200))&&fi bb.nm)&&(vars.all CF&&zg bb ks 1))=A;generalize decide (Dk (.mk bb ks)<=400)=B;cases A<;>cases B<;>rfl
 rw[hcond]at hP;have fin:∀{w':ay},aA [] w2 w'->aA [] w w':=λh=>hw.cr h;have o10:aA [] w dL:=t10.o;refine⟨rfl,t8.sl gH x4 aac,ajK,ajL,_,_,uJ,λe=>?_,λe=>(MQ t10.toQz).mono ?_⟩
 ·rw[aY (by rw[e];decide)]at hP;subst hP;exact⟨rfl,o10⟩
 rw[bc (by rw[e];rfl),<-hlF e]at hP;rintro _ _ ⟨rfl,rfl⟩;obtain⟨slP,hPt,hPb⟩:=t10.toQz.pt;have hbu:=λk hk=>t10.toQz.bu (hPb k hk);refine⟨_,rfl,λ_ _=>rfl,ajK,ajL,_,_,uJ,λe2=>?_,λe2=>(M1 hPt).mono ?_⟩
 ·rw[bc (aP e2)]at hP;subst hP;exact⟨rfl,o10⟩
 rw[aY (aX e2)]at hP;rintro _ dN ⟨rfl,aaq,dX⟩;have D1:=dX.size;have hlb:=t10.toQz.lb;have k0h:=t10.k k0 aac;have ko:∀k,(b<k/\slP.a=some ⟨k,0,none⟩)->w.heap.size<=k:=λk hk=>by have:=t10.lo;omega
 have VM:aA [] w dN:=(o10.mZ dX).only ko;obtain⟨q11,IR⟩:=aaq.blk;refine⟨_,rfl,dX.same λx hx=>?_,q11,slP,_,_,IR,(HO _ (hE.only VM)).mono ?_⟩
 ·simp only[aO]at hx;subst hx;exact⟨k0h.1,λh=>k0h.2.2 (hPb _ h.2)⟩
 rintro _ eT ⟨vsx,csx,rfl,hC,fk⟩;obtain⟨xe,xl,xm,xk,rfl,_⟩:=hC.root;have aar:=aaq.only fk;obtain⟨q12,ad9⟩:=aar.blk;have o12:=VM.cr fk;have z12:=fk.size;refine⟨vsx,_,_,_,_,xe,xl,xm,xk,_,_,_,rfl,fk.same aae,q12,slP,_,_,ad9,λe3 k6 k7 fI _ _ _ _ ez _=>?_,λe3 k8 k9 fS hk8 Yl hk9 ajM ey _=>?_⟩
 ·rw[bc (by simpa using e3)]at hP;subst hP;exact⟨rfl,o12.cr ez⟩
 rw[aY (by simpa using e3)]at hP;subst hP;refine(M1 (aar.only ey)).mono ?_;rintro _ ia ⟨rfl,ajN,iY⟩;obtain⟨q15,adM⟩:=ajN.blk;have z14:=ey.size;refine⟨_,rfl,iY.same λx hx=>?_,q15,slP,_,_,adM,rfl,((o12.cr ey).mZ iY).only ko⟩;simp only[aV,bp,cm]at hx;rcases hx with rfl | rfl | rfl
 ·exact⟨aG,λh=>k0h.2.2 (hPb _ h.2)⟩
 ·exact⟨Yl,λh=>by have:=(hbu _ h.2).2;omega⟩
 exact⟨ajM,λh=>by have:=(hbu _ h.2).2;omega⟩
def inB(n:Int):Bool:=decide (-9223372036854775808<=n/\n<=9223372036854775807)
theorem S1{n:Int}(h:inB n=true):rf n:=by
 have h:=aP h;exact⟨h.1,h.2⟩
mutual
def nXb:Ex->Bool
 | .mk _ n _ _ l _=>inB n&&W6 l
def W6:List Ex->Bool
 | []=>true
 | x::l=>nXb x&&W6 l
end
theorem M2{y:Ex}:∀{l:List Ex},W6 l=true->y∈l->nXb y=true
 | [],_,h=>aaB
 | x::l,h,hy=>by
  rw[W6,aR]at h;rcases aV.1 hy with rfl | hy
  ·exact h.1
  exact M2 h.2 hy
theorem abW:∀(d:Nat) {x:Ex},nXb x=true->rT d x
 | 0,_,_=>trivial
 | d+1,.mk k n s op l a,h=>by
  rw[nXb,aR]at h;exact⟨S1 h.1,λy hy=>abW d (M2 h.2 hy)⟩
def nAb(a:Ac):Bool:=nXb a.x
def nMb(m:Mv):Bool:=nXb m.g&&m.acts.all nAb&&inB m.wt
def nNb(b:Nb):Bool:=b.en.all nAb&&b.lv.all nAb&&b.mv.all nMb
mutual
def nDb:Nd->Bool
 | .mk b l=>nNb b&&W7 l
def W7:List Nd->Bool
 | []=>true
 | x::l=>nDb x&&W7 l
end
theorem S2{l:List Ac}(h:l.all nAb=true):∀a,a∈l->Zl a:=λa ha d=>abW d ((dF.1 h) a ha)
theorem an4{m:Mv}(h:nMb m=true):mvN m:=by
 unfold nMb at h;simp only[aR]at h;exact⟨λd=>abW d h.1.1,S2 h.1.2,S1 h.2⟩
theorem an5{b:Nb}(h:nNb b=true):nbN b:=by
 unfold nNb at h;simp only[aR]at h;exact⟨S2 h.1.1,S2 h.1.2,λm hm=>an4 ((dF.1 h.2) m hm)⟩
mutual
theorem ahy:∀(x:Nd),nDb x=true->Mq x
 | .mk b l,h=>by
  rw[nDb,aR]at h;rw[Mq];exact⟨an5 h.1,Zx l h.2⟩
theorem Zx:∀(l:List Nd),W7 l=true->Bl l
 | [],_=>by rw[Bl];trivial
 | x::l,h=>by
  rw[W7,aR]at h;rw[Bl];exact⟨ahy x h.1,Zx l h.2⟩
end
def nCb(c:Ch):Bool:=(c.vars.all λv=>inB v.v)&&nDb c.root
theorem an7{c:Ch}(h:nCb c=true):Yq c:=by
 unfold nCb at h;simp only[aR]at h;exact⟨λv hv=>S1 ((dF.1 h.1) v hv),ahy _ h.2⟩
def an8(c:Ch):Bool:=decide (sB c.vars+pz c.root<=8388608)
theorem ChR.off{d:Nat}{w:ay}{F:aL}{c:Ch}{vs:Sl}{cs:aK}(h:ChR true d w F c vs cs):ChR false d w F c vs cs:=⟨h.vars.off λ_ _ _ h=>h,Mn h.root⟩
end
def spv(x:cM):aK:=[O ae x.k,ah (T x.nm),O ae x.pa,O ae x.dp,O ae x.en]
def nN:Rp cM:=λ_ _ x cs=>cs=spv x
theorem db:nN.Ok:=⟨λh _=>h,λh=>h,λh _=>h,λh=>by
 unfold nN spv at h;subst h;intro v hv;simp only[aV,bp,cm]at hv;rcases hv with rfl | rfl | rfl | rfl | rfl<;>rfl⟩
abbrev iV(B:Nat)(w:ay)(s:Sl)(xs:List cM):Prop:=Own nN 5 89 B w (λ_=>False) s xs
theorem iV.of{B:Nat}{w:ay}{F:aL}{s:Sl}{xs:List cM}(h:Own nN 5 89 B w F s xs):iV B w s xs:=by
 rcases h with⟨rfl,rfl⟩ | ⟨g,css,tail,h1,h2,h4,h5,h6,h7,h9,h8⟩
 ·exact .inl ⟨rfl,rfl⟩
 exact .inr ⟨g,css,tail,h1,h2,h4,h5,h6,h7,h9,gA.XJ (λx c _ hc=>hc) h8⟩
theorem iV.yS{B:Nat}{w w':ay}{G:aL}{s:Sl}{xs:List cM}(h:iV B w s xs)(hO:aF G w w')(hG:∀k,B<=k->s.a=some ⟨k,0,none⟩->¬G k):iV B w' s xs:=
 h.keep db λk hk bT=>hO.block k bT (hk.elim (λh=>h.elim) λh=>hG k h.1 h.2)
theorem Zy(t:Bool):∀(D:Nat) {w:ay} {F:aL} {x:Nd} {cs:aK} {b:Nat} {s:Sl} {xs:List cM} {pa dp:Int},pM t D w F x cs->(∀k,F k->k<b)->aH w b 125 [s.v]->iV (b+1) w s xs->
  xs.length+jk x<=1000000->0<=dp->dp+jk x<=1000000->
  aB au 61 #[ai (some ⟨b,0,none⟩),aj cs.toArray,O ae pa,O ae dp] w λe w'=>e=aq (ak #[])/\∃s',aH w' b 125 [s'.v]/\iV (b+1) w' s' (xs++E9 xs.length pa dp x)/\uD b s w s' w'
 | 0,_,_,_,_,_,_,_,_,_,h,_,_,_,_,_,_=>h.elim
 | D+1,w,F,.mk bb ks,cs,b,s,xs,pa,dp,⟨en,lv,mv,kids,oP,_,gU⟩,hF,hB,hS,hn,h0,hd=>by
  have hk:=gU.1;clear gU;dsimp only[Nd.kids,Nd.b]at hk oP;subst oP;rw[jk]at hn hd;have KN:=hk.len;have hnn:=tG ks;refine ret (amN _ _ _ _ _ _ _ _ _ _ _ _ _ _ ?_);intro k0 w0 gU fD cO;have z0:=cO.size;have DY:=hB.lt;have cell:∀{u:ay} {q:Sl},aH u b 125 [q.v]->aE u ((⟨b,0,none⟩:Addr).add 0) [q.v]:=λh=>h.cells 0 [_] λj v hj=>adV
  have sF:=cO.blk hB aac;refine⟨s,cell sF,λw1 cG=>⟨λk=>k=b,rfl,s,cell (cG.blk sF aac),?_⟩⟩;have o1:=cO.cr cG;have z1:=cG.size;have xo:iV (b+1) w1 s xs:=hS.yS o1.p0 λ_ _ _ h=>h;have u7:=o1.blk hB aac;obtain⟨y,w2,k1,k3,s3,w3,g1,g2,⟨gs,g3,g4⟩,g5⟩:=jG (P:=au) (t:=123) (ty:=123) (e:=89) (i:=Tryz.t89) (bytes:=48) (size:=5) (r:=nN) (G:=λ_=>False) (v:=aj #[O ae bb.k,ah (T bb.nm),O ae pa,O ae dp,O ae 0]) (x:=⟨bb.k,bb.nm,pa,dp,0⟩) (by kernel_rfl) (by kernel_rfl) rfl rfl rfl rfl aN aN aN db xo aG rfl rfl (λ_ h=>h.elim) aG;have z2:=k3.size;have z3:=g3.size;have gb:∀g,g∈gs->g≠b/\g<w1.heap.size/\s.a=some ⟨g,0,none⟩:=λg hg=>⟨by have:=(g4 g hg).2.1;omega,(g4 g hg).2.2,(g4 g hg).1⟩
  have UZ:s.a≠some ⟨k0,0,none⟩:=λe=>acD
  have xf:aH w3 b 125 [s.v]:=g3.blk (k3.blk u7 aac) λh=>(gb b h).1 rfl;refine⟨y,w2,k1,k3.same aae,bS.only k3,s3,w3,g1,g3.same λx hx=>?_,λk hk bT=>?_,b,0,_,_,rfl,xf,ba 1,aG,λw4 dK sS=>?_⟩
  ·simp only[aO]at hx;subst hx;exact⟨aG,λh=>UZ (gb _ h).2.2⟩
  ·subst hk;exact g3.block _ bT λh=>(gb _ h).1 rfl
  have z4:=dK.size;have Ct:iV (b+1) w3 s3 (xs++[⟨bb.k,bb.nm,pa,dp,0⟩]):=iV.of g2;have N2:iV (b+1) w4 s3 (xs++[⟨bb.k,bb.nm,pa,dp,0⟩]):=Ct.yS (G:=λk=>k=b) (dK.p aac) λk h _=>aG
  have m4:uD b s w s3 w4:=by
   refine⟨((o1.cr k3).mZ (g3.p (F:=λk=>k=b∨s.a=some ⟨k,0,none⟩) λg hg=>.inl (.inr (gb g hg).2.2))).trans (dK.p (F:=λk=>k=b∨s.a=some ⟨k,0,none⟩) aac) λk hk=>.inl hk,λk hk=>?_⟩;rcases g5 with e | ⟨g,e,h⟩
   ·exact .inl acf
   rw[e]at hk;injection hk with hk;injection hk with hk;exact .inr aG
  have n4:∀k,s3.a=some ⟨k,0,none⟩->k≠k0:=λk hk e=>by
   subst e;rcases g5 with e | ⟨g,e,h⟩
   ·exact UZ acf
   rw[e]at hk;injection hk with hk;injection hk with hk;omega
  have iJ:∀{u:ay} {q:Sl},uD b s w q u->aD (pM t D) 9 u F kids ks:=λhm=>SliceF.nP (cX t D) aN hk hm.1 λk vh _=>by
   have:=hF k vh;exact λh=>h.elim aG λh=>by have:=(hS.blk h).1;dsimp only at this;omega
  refine⟨λkv i w'=>∃(j:Nat) (q:Sl),i=(j:Int)/\kv+j=ks.length/\j<=ks.length/\aH w' b 125 [q.v]/\iV (b+1) w' q (xs++⟨bb.k,bb.nm,pa,dp,0⟩::qA (xs.length+1) xs.length (dp+1) (ks.take j))/\uD b s w q w'/\w4.heap.size<=w'.heap.size/\∀k,q.a=some ⟨k,0,none⟩->k≠k0,ks.length,⟨0,s3,rfl,aG,bh _,sS,by rw[de,qA];exact N2,m4,ba _,n4⟩,?_⟩;rintro kv _ w5 ⟨j,q,rfl,sJ,iA,xb,N3,m5,z5,n5⟩;have N4:s.n=xs.length:=hS.len;constructor
  ·intro hc;have hj:j<ks.length:=abp
   obtain⟨y,hy⟩:∃y,ks[j]? =some y:=⟨_,aQ hj⟩
   obtain⟨ad,y',ds,a1,a2,a3,a4,a5,a6⟩:=(iJ m5).get (bD j) aG;rw[aU,hy]at a2;injection a2 with a2;subst a2;have Yx:=a6;obtain⟨D',rfl⟩:∃D',D=D'+1:=by
    cases D with
    | zero=>exact a6.elim
    | succ D'=>exact⟨D',rfl⟩
   obtain⟨zx,zy,uA,lR,rfl,_⟩:=Yx;have kA:=qB hy;have hx1:(xs++⟨bb.k,bb.nm,pa,dp,0⟩::qA (xs.length+1) xs.length (dp+1) (ks.take j)).length=xs.length+1+ff (ks.take j):=by
    rw[aW,bn,ul];omega
   refine⟨ad,a1,_,_,_,_,zx,zy,uA,lR,_,a5,λk6 w6 hk6 aeb eH=>?_⟩;have z6:=eH.size;have m6:uD b s w q w6:=m5.trans (uD.only eH);rw[gx aG aG,N4];refine(Zy t (D'+1) (pa:=((xs.length:Nat):Int)) ((cX t (D'+1)).keep a6 λk _ bT=>eH.block k bT aac) (s:=q) (xs:=xs++⟨bb.k,bb.nm,pa,dp,0⟩::qA (xs.length+1) xs.length (dp+1) (ks.take j)) (b:=b) (dp:=dp+1) hF (eH.blk xb aac) (N3.yS eH.p0 λ_ _ _ h=>h) (by rw[hx1];omega) aG aG).mono ?_;rintro _ w7 ⟨rfl,q7,hB7,hS7,m7⟩;have z7:=m7.1.size;refine⟨rfl,m7.1.same λx hx=>?_,kv-1,aG,j+1,q7,aad,aG,aG,hB7,?_,m6.trans m7,aG,λk hk e=>?_⟩
   ·simp only[aV,bp,cm]at hx;rcases hx with rfl | rfl
    ·exact⟨aG,λh=>h.elim aG λh=>n5 _ h rfl⟩
    refine⟨aeb,λh=>h.elim aG λh=>?_⟩;have:=(N3.blk h).2;dsimp only at this;omega
   ·have e:ks.take (j+1)=ks.take j++[y]:=by rw[bE,hy];rfl
    rw[e,Mr,qA,qA,bQ];rw[hx1,bP,cp]at hS7;exact hS7
   subst e;rcases m7.2 _ hk with h | h
   ·exact n5 _ h rfl
   omega
  intro hc w8 fX;have qT:j=ks.length:=aby
  subst qT;rw[bq (ba _)]at N3;have ve:=fX.blk xb aac;have hS8:iV (b+1) w8 q _:=N3.yS fX.p0 λ_ _ _ h=>h;have z8:=fX.size;have XZ:(xs++⟨bb.k,bb.nm,pa,dp,0⟩::qA (xs.length+1) xs.length (dp+1) ks)[xs.length]? =some ⟨bb.k,bb.nm,pa,dp,0⟩:=by
   rw[bZ (ba _),K7];rfl
  obtain⟨g,cells,cs',p1,p2,p3,p4,p5,p6,p7⟩:=Own.aoj db hS8 XZ;have aqC:cs'=spv ⟨bb.k,bb.nm,pa,dp,0⟩:=p6;subst aqC;have hql:q.n=xs.length+1+ff ks:=by rw[N3.len,aW,bn,ul];omega
  obtain⟨p8,p9⟩:=p7 4 (O ae (q.n:Int)) ⟨bb.k,bb.nm,pa,dp,(q.n:Int)⟩ (λ_=>False) aN rfl λ_ h=>h.elim;rw[<-N4]at p2;have hgb:=(N3.blk p1).1;dsimp only at hgb;refine⟨q,cell ve,q,cell ve,_,p2,g,xs.length*5+4,cells,_,by rw[fP,N4],p3,by rw[<-N4]at p8⊢;exact p8,λe=>n5 g p1 e.symm,λw9 gH hB9=>⟨rfl,q,gH.blk ve aae,?_,?_⟩⟩
  ·have:=p9 w9 gH hB9;rw[Ck _ _ (ba _),K7,List.set_cons_zero]at this;rw[E9];have e:(q.n:Int)=((xs.length+1+ff ks:Nat):Int):=by rw[hql]
   rw[e]at this;exact this
  refine(m5.trans (uD.only fX)).trans ⟨gH.p λk hk=>?_,λk hk=>.inl hk⟩;simp only[aO]at hk;subst hk;exact .inl (.inr p1)
theorem W8{w:ay}{F:aL}{D:Nat}{c:Ch}{vs:Sl}{cs:aK}(hx:ChR false (D+1) w F c vs cs)(hn:Yq c)(hs:sB c.vars+pz c.root<=8388608)(hE:Er w)(hT:Tb w):
  aB au 60 #[aj (vs.v::cs).toArray] w λe w'=>e=aq (O ae (gN c).2)/\aA [] w w':=by
 obtain⟨en,lv,mv,kids,rfl,_⟩:=hx.root;refine ret (ag9 _ _ _ _ _ _ _ _ _ _ _ _ ?_);intro k0 w0 gU fD cO;have hx0:ChR false (D+1) w0 F c vs (oL c.root.b.k c.root.b.nm c.root.b.ini c.root.b.dft en lv mv kids c.root.b.a):=⟨hx.vars.keep gC aN λk _ bT=>cO.block k bT aac,(cX false _).keep hx.root λk _ bT=>cO.block k bT aac⟩
 refine(W5 hx0 hn hs (hE.only cO) (hT.only cO)).mono ?_;rintro _ w1 ⟨rfl,cG⟩;exact⟨_,_,rfl,cG.same aae,rfl,cO.cr cG⟩
theorem xW{c:Ch}(h:(gN c).2=0):jk c.root<=64:=by
 unfold gN at h;by_cases h1:HF c=true
 ·unfold HF at h1;simp only[aR]at h1;exact(aP h1.2).2.2.1
 rw[aY h1]at h;exact absurd h aN
theorem S4{w:ay}{F:aL}{D:Nat}{c:Ch}{vs:Sl}{cs:aK}(hx:ChR false (D+1) w F c vs cs)(hn:Yq c)(hs:sB c.vars+pz c.root<=8388608)(hE:Er w)(hT:Tb w):
  aB au 21 #[aj (vs.v::cs).toArray] w λe w'=>(∃s,e=aq (ak #[Sl.v s,O ae (gN c).2])/\((gN c).2=0->iV w.heap.size w' s (cx c))/\((gN c).2≠0->s=Sl.nil))/\aA [] w w':=by
 obtain⟨en,lv,mv,kids,oP,_⟩:=hx.root;subst oP;refine(amM vs c.root.b.k (T c.root.b.nm) (T c.root.b.ini) (T c.root.b.dft) en lv mv kids c.root.b.a (λv w'=>(∃s,v=ak #[Sl.v s,O ae (gN c).2]/\((gN c).2=0->iV w.heap.size w' s (cx c))/\((gN c).2≠0->s=Sl.nil))/\aA [] w w') w ?_).mono ?_
 ·intro k0 w0 gU fD cO;have z0:=cO.size;have keep:∀{u:ay},aA [] w u->ChR false (D+1) u F c vs (oL c.root.b.k c.root.b.nm c.root.b.ini c.root.b.dft en lv mv kids c.root.b.a):=λhO=>⟨hx.vars.keep gC aN λk _ bT=>hO.block k bT aac,(cX false _).keep hx.root λk _ bT=>hO.block k bT aac⟩
  refine(W8 (keep cO) hn hs (hE.only cO) (hT.only cO)).mono ?_;rintro _ w1 ⟨rfl,cG⟩;have z1:=cG.size;have o1:=cO.cr cG;refine⟨_,rfl,cG.same aae,λhc=>?_,λhc k1 w2 kc jO dk pF=>?_⟩
  ·have hc:(gN c).2≠0:=aai
   exact⟨⟨Sl.nil,rfl,λh=>absurd h hc,λ_=>rfl⟩,o1⟩
  have hc:(gN c).2=0:=aai
  have hnd:=xW hc;have o2:=o1.cr dk;have z2:=dk.size;have KR:pM false (D+1) w2 (λk=>k<w.heap.size) c.root (oL c.root.b.k c.root.b.nm c.root.b.ini c.root.b.dft en lv mv kids c.root.b.a):=
   (cX false _).keep ((cX false _).mono ((cX false _).inHeap hx.root) λk hk=>hk.2) λk _ bT=>o2.block k bT aac
  refine(Zy false (D+1) (s:=Sl.nil) (xs:=[]) (pa:= -1) (dp:=0) KR (λk hk=>aG) pF (Own.nil _ _ _ _ _ _) ad1 aN aG).mono ?_;rintro _ w3 ⟨rfl,s',xf,Ct,m3⟩;have z3:=m3.1.size;refine⟨rfl,m3.1.same λx hx=>?_,s',xf,⟨s',by rw[hc],λ_=>?_,λh=>absurd hc h⟩,?_⟩
  ·simp only[aO]at hx;subst hx;exact⟨aG,λh=>h.elim aG λh=>aal⟩
  ·rw[cF]at Ct;exact Own.low Ct aG
  exact(o2.mZ m3.1).only λk hk=>hk.elim aG λh=>aal
 rintro _ w' ⟨v,rfl,⟨s,rfl,h1,h2⟩,h3⟩;exact⟨⟨s,rfl,h1,h2⟩,h3⟩
section
variable {w:ay} {F:aL} {l:Sl} {xs:List cM}
theorem jJ(h:aD nN 5 w F l xs){i:Nat}{x:cM}(hx:xs[i]? =some x):∃ad,dE l (i:Int) 5 ad/\aE w ad (spv x)/\aE w (ad.add 2) [O ae x.pa]/\aE w (ad.add 3) [O ae x.dp]/\aE w (ad.add 4) [O ae x.en]:=by
 have bT:=(aZ.1 hx).1;have hl:=h.len;obtain⟨ad,y,cs,g1,g2,g3,g4,g5,g6⟩:=h.get (bD i) aG;rw[aU,hx]at g2;injection g2 with g2;subst g2;have g6:cs=spv x:=g6;subst g6;have one:∀(n:Nat) (v:az),(spv x)[n]? =some v->aE w (ad.add n) [v]:=λn v hv j u hu=>by
  cases j with
  | zero=>
   rw[cR,be]at hu;subst hu;have:=g5 n v hv;rw[pZ,fJ];exact this
  | succ j=>simp at hu
 exact⟨ad,g1,g5,one 2 _ rfl,one 3 _ rfl,one 4 _ rfl⟩
def BC(xs:List cM)(n:Int):Bool:=decide (n>=0)&&decide (n<(xs.length:Int))
theorem lu{n:Int}:BC xs n=true↔pu xs n:=by
 unfold BC pu;rw[aR,bX,bX]
theorem HW(h:aD nN 5 w F l xs)(n:Int):aB au 74 #[l.v,O ae n] w λe w'=>e=aq (ao (BC xs n))/\w'=w:=by
 refine ret (amQ _ _ _ _ ?_);rw[h.len];exact⟨rfl,rfl⟩
noncomputable def OX(xs:List cM)(b a:Int):Bool:=open Classical in decide (∃i j:Nat,b=i/\a=j/\jp xs i j)
theorem qE{b a:Int}:OX xs b a=true↔∃i j:Nat,b=i/\a=j/\jp xs i j:=by
 unfold OX;exact @bX _ (Classical.propDecidable _)
theorem HX(h:aD nN 5 w F l xs)(hF:Fo xs)(b a:Int):aB au 78 #[l.v,O ae b,O ae a] w λe w'=>e=aq (ao (OX xs b a))/\w'=w:=by
 refine ret (amR _ _ _ _ _ ?_);refine⟨λr w'=>r=OX xs b a/\w'=w,λr w' ⟨h1,h2⟩=>⟨by rw[h1],h2⟩,(HW h a).mono ?_⟩;rintro _ _ ⟨rfl,rfl⟩;refine⟨_,rfl,λha=>(HW h b).mono ?_,λha=>⟨?_,rfl⟩⟩
 ·rintro _ _ ⟨rfl,rfl⟩;have ha:=lu.1 ha;by_cases hb:(BC xs b&&decide (b<=a))=true
  ·rw[aR]at hb;have pD:=lu.1 hb.1;have tV:=aP hb.2;obtain⟨i,rfl⟩:∃i:Nat,b=i:=⟨b.toNat,by have:=pD.1;omega⟩
   obtain⟨j,rfl⟩:∃j:Nat,a=j:=⟨a.toNat,by have:=ha.1;omega⟩
   obtain⟨x,hx⟩:=fL (xs:=xs) (i:=i) (by have:=pD.2;omega);obtain⟨ad,g1,g2,_,_,g5⟩:=jJ h hx;refine⟨_,rfl,ad,λ_=>g1,x.en,λ_=>g5,?_,rfl⟩;rw[hb.1,hb.2,cT,cT,bW,qE,bX];constructor
   ·exact λh=>⟨i,j,rfl,rfl,x,hx,aG,h⟩
   rintro⟨i',j',e1,e2,y,hy,h1,h2⟩;have e1:i=i':=aG
   subst e1;rw[hx,be]at hy;subst hy;omega
  rw[qW]at hb;refine⟨_,rfl,⟨0,0,none⟩,λh=>(by rw[hb]at h;cases h),0,λh=>(by rw[hb]at h;cases h),?_,rfl⟩;rw[hb,eN,eq_comm,<-qW,qE];rintro⟨i,j,rfl,rfl,y,hy,h1,h2⟩;have:=eS hy;rw[show BC xs (i:Int)=true from lu.2 ⟨aG,aG⟩,show decide ((i:Int)<=(j:Int))=true from bJ aG]at hb;cases hb
 rw[eq_comm,<-qW,qE];rintro⟨i,j,rfl,rfl,hc⟩;have:=hF.pQ hc;rw[show BC xs (j:Int)=true from lu.2 ⟨aG,aG⟩]at ha;cases ha
noncomputable def Ka(xs:List cM)(a b:Int):Bool:=open Classical in decide (∃i j:Nat,b=i/\a=j/\i<j/\jp xs i j)
theorem wH{a b:Int}:Ka xs a b=true↔∃i j:Nat,b=i/\a=j/\i<j/\jp xs i j:=by
 unfold Ka;exact @bX _ (Classical.propDecidable _)
theorem uo(h:aD nN 5 w F l xs)(hF:Fo xs)(a b:Int):aB au 40 #[l.v,O ae a,O ae b] w λe w'=>e=aq (ao (Ka xs a b))/\w'=w:=by
 refine ret (amS _ _ _ _ _ ?_);refine⟨λr w'=>r=Ka xs a b/\w'=w,λr w' ⟨h1,h2⟩=>⟨by rw[h1],h2⟩,λhc=>(HX h hF b a).mono ?_,λhc=>⟨?_,rfl⟩⟩
 ·rintro _ _ ⟨rfl,rfl⟩;have hc:a≠b:=aai
  refine⟨_,rfl,?_,rfl⟩;rw[bW,qE,wH];refine⟨λ⟨i,j,e1,e2,sC⟩=>⟨i,j,e1,e2,?_,sC⟩,λ⟨i,j,e1,e2,_,sC⟩=>⟨i,j,e1,e2,sC⟩⟩;obtain⟨s,_,kA,_⟩:=sC;omega
 have hc:a=b:=aai
 subst hc;rw[eq_comm,<-qW,wH];rintro⟨i,j,e1,e2,hl,_⟩;omega
abbrev dd(B:Nat)(w:ay)(s:Sl)(l:List Int):Prop:=Own rInt 1 3 B w (λ_=>False) s l
theorem dd.of{B:Nat}{w:ay}{F:aL}{s:Sl}{l:List Int}(h:Own rInt 1 3 B w F s l):dd B w s l:=by
 rcases h with⟨rfl,rfl⟩ | ⟨g,css,tail,h1,h2,h4,h5,h6,h7,h9,h8⟩
 ·exact .inl ⟨rfl,rfl⟩
 exact .inr ⟨g,css,tail,h1,h2,h4,h5,h6,h7,h9,gA.XJ (λx c _ hc=>hc) h8⟩
theorem ahz(w0:ay){u:ay}{s:Sl}{is:List Int}(h:dd w0.heap.size u s is)(hO:aA [] w0 u)(n:Int)(hn:rf n)(hm:is.length<=20000000):
  ∃y w1,(aw 33 1 #[.mk 0 (O ae n)]).run au u=.ok (Sl.v y) w1/\aA [] u w1/\∃s' w2,(Builtin.append_ #[33,33] 33 #[Sl.v s,Sl.v y]).run au w1=.ok (Sl.v s') w2/\dd w0.heap.size w2 s' (is++[n])/\aA [] w0 w2/\aF (λk=>w0.heap.size<=k) u w2:=by
 obtain⟨y,w1,k1,k3,s',w2,g1,g2,⟨gs,g3,g4⟩,g5⟩:=jG (P:=au) (t:=33) (ty:=33) (e:=3) (i:=Tryz.t3) (bytes:=8) (size:=1) (r:=rInt) (G:=λ_=>False) (v:=O ae n) (x:=n) (by kernel_rfl) (by kernel_rfl) rfl rfl rfl rfl aN aN aN bF h hO.size rfl ⟨rfl,hn⟩ (λ_ h=>h.elim) aG;refine⟨y,w1,k1,k3,s',w2,g1,dd.of g2,?_,k3.mZ (g3.p λg hg=>.inl (g4 g hg).2.1)⟩;exact((hO.cr k3).mZ (g3.p (F:=λk=>w0.heap.size<=k) λg hg=>.inl (g4 g hg).2.1)).only λk hk=>hk
theorem an9(h:aD nN 5 w F l xs)(hF:Fo xs)(n:Int)(hm:xs.length<=1000):aB au 82 #[l.v,O ae n] w λe w'=>(∃(s:Sl) (is:List Int),e=aq (Sl.v s)/\dd w.heap.size w' s is/\(¬pu xs n->is=[])/\∀(k:Nat) (x:cM),n=k->xs[k]? =some x->Ups xs x.pa is)/\aA [] w w':=by
 refine(anL l n (λv w'=>(∃(s:Sl) (is:List Int),v=Sl.v s/\dd w.heap.size w' s is/\(¬pu xs n->is=[])/\∀(k:Nat) (x:cM),n=k->xs[k]? =some x->Ups xs x.pa is)/\aA [] w w') w ?_).mono ?_
 ·refine(HW h n).mono ?_;rintro _ u ⟨rfl,hu⟩;obtain rfl:w=u:=hu.symm;refine⟨_,rfl,λhc=>⟨⟨Sl.nil,[],rfl,Own.nil _ _ _ _ _ _,λ_=>rfl,λk x e hx=>?_⟩,Only.refl _ _⟩,λhc=>?_⟩
  ·subst e;have:=eS hx;rw[show BC xs (k:Int)=true from lu.2 ⟨aG,aG⟩]at hc;cases hc
  have hh:pu xs n:=lu.1 aai;obtain⟨k,rfl⟩:∃k:Nat,n=k:=⟨n.toNat,by have:=hh.1;omega⟩
  obtain⟨x,hx⟩:=fL (xs:=xs) (i:=k) (by have:=hh.2;omega);obtain⟨ad,a1,_,a3,_,_⟩:=jJ h hx;have hp:=hF.uX hx;have KN:=eS hx;refine⟨ad,a1,x.pa,a3,λkv i q w'=>∃is:List Int,(i<(kv:Int))/\is.length+kv<=xs.length+1/\dd w.heap.size w' q is/\(∀us,Ups xs i us->Ups xs x.pa (is++us))/\(i<0∨∃(j:Nat) (y:cM),i=(j:Int)/\xs[j]? =some y)/\aA [] w w',k+1,⟨[],aG,ad1,Own.nil _ _ _ _ _ _,λus hu=>hu,?_,Only.refl _ _⟩,?_⟩
  ·by_cases h0:0<k
   ·obtain⟨p,y,_,e,hy,_⟩:=hF.par hx h0;exact .inr ⟨p,y,e,hy⟩
   have:k=0:=aG
   subst this;exact .inl (by rw[(hF.rt x hx).1];decide)
  rintro kv i q w1 ⟨is,hik,IP,hS,hus,hj,hO⟩;refine⟨λhc=>?_,λhc=>?_⟩
  ·have hi0:0<=i:=aP hc;rcases hj with hj | ⟨j,y,rfl,hy⟩
   ·omega
   obtain⟨y1,w2,k1,k3,s',w3,g1,g2,g3,g4⟩:=ahz w hS hO j ⟨aG,aG⟩ aG;obtain⟨FV,b1,_,b3,_,_⟩:=jJ (SliceF.only db aN h g3 aac) hy;have hpj:=hF.uX hy;refine⟨y1,w2,k1,s',w3,g1,FV,b1,y.pa,b3,kv-1,aG,is++[(j:Int)],aG,aaE,g2,λus hu=>?_,?_,g3⟩
   ·rw[bP];exact hus _ (.go hy hu)
   by_cases h0:0<j
   ·obtain⟨p,y',_,e,hy',_⟩:=hF.par hy h0;exact .inr ⟨p,y',e,hy'⟩
   have:j=0:=aG
   subst this;exact .inl (by rw[(hF.rt y hy).1];decide)
  have hi:i<0:=aby
  refine⟨⟨q,is,rfl,hS,λhn=>absurd hh hn,λk' x' e yX=>?_⟩,hO⟩;have e:k=k':=aG
  subst e;rw[hx,be]at yX;subst yX;have:=hus [] (.stop hi);rwa[bQ]at this
 rintro _ w' ⟨v,rfl,⟨s,is,rfl,h1,h2,h3⟩,h4⟩;exact⟨⟨s,is,rfl,h1,h2,h3⟩,h4⟩
theorem Kb(h:aD nN 5 w F l xs)(hF:Fo xs){n:Nat}{x:cM}(hx:xs[n]? =some x)(hm:xs.length<=1000):aB au 37 #[l.v,O ae (n:Int)] w λe w'=>(∃(s:Sl),e=aq (Sl.v s)/\dd w.heap.size w' s (fg xs n xs.length))/\aA [] w w':=by
 refine(anu l n (λv w'=>(∃(s:Sl),v=Sl.v s/\dd w.heap.size w' s (fg xs n xs.length))/\aA [] w w') w ?_).mono ?_
 ·refine(HW h n).mono ?_;rintro _ u ⟨rfl,hu⟩;obtain rfl:w=u:=hu.symm;have VN:=eS hx;have hb:BC xs (n:Int)=true:=lu.2 ⟨aG,aG⟩;rw[hb];refine⟨_,rfl,λhc=>(by cases hc),λ_=>?_⟩;have hup:=hF.up n x hx;have F8:∃e:Nat,x.en=e:=⟨x.en.toNat,aG⟩
  obtain⟨e,he⟩:=F8;refine⟨λkv q i w'=>∃k:Nat,i=(k:Int)/\n<k/\k<=e/\kv+k=xs.length/\dd w.heap.size w' q (fg xs n k)/\(∀(j:Nat) u,n<j->j<k->xs[j]? =some u->u.en<=(k:Int))/\aA [] w w',xs.length-(n+1),⟨n+1,aad,aG,aG,aG,by rw[hF.aol hx];exact Own.nil _ _ _ _ _ _,λj u h1 h2=>aG,Only.refl _ _⟩,?_⟩;rintro kv q _ w1 ⟨k,rfl,QE,hke,sJ,hS,hbn,hO⟩;obtain⟨ad,a1,_,_,_,a5⟩:=jJ (SliceF.only db aN h hO aac) hx;refine⟨ad,a1,x.en,a5,λhc=>?_,λhc=>?_⟩
  ·have hc:=aP hc;obtain⟨y,hy⟩:=fL (xs:=xs) (i:=k) aG;have fy:(fg xs n k).length<=k:=by
    unfold fg;rw[bA];exact bf (cu _ _) acY
   obtain⟨y1,w2,k1,k3,s',w3,g1,g2,g3,g4⟩:=ahz w hS hO k ⟨aG,aG⟩ aG;obtain⟨FV,b1,_,_,_,b5⟩:=jJ (SliceF.only db aN h g3 aac) hy;have hyu:=hF.up k y hy;have hye:=hF.ZM k hx hy QE hc;obtain⟨m,yW⟩:∃m:Nat,y.en=m:=⟨y.en.toNat,aG⟩
   refine⟨y1,w2,k1,s',w3,g1,FV,b1,y.en,b5,kv-(m-k),aG,m,yW,aG,aG,aG,?_,hF.Uc hy yW hbn,g3⟩;rw[hF.Ud hx hy QE hc yW hbn];exact g2
  have hc:=aX hc;have:k=e:=aG
  subst this;exact⟨⟨q,rfl,by rw[hF.XN hx he];exact hS⟩,hO⟩
 rintro _ w' ⟨v,rfl,⟨s,rfl,h1⟩,h4⟩;exact⟨⟨s,rfl,h1⟩,h4⟩
end
section
variable {w:ay} {F G:aL} {l sN:Sl} {xs:List cM} {ns:List Int}
theorem W9{k0:Nat}(h:aD nN 5 w F l xs)(hB:aH w k0 32 [l.v])(n:Int):aB au 150 #[O ae n,ai (some ⟨k0,0,none⟩)] w λe w'=>e=aq (ao (!BC xs n))/\w'=w:=by
 refine ret (amP _ _ _ _ ?_);refine⟨l,hB.cells 0 [_] λj v hj=>adV,(HW h n).mono ?_⟩;rintro _ _ ⟨rfl,rfl⟩;exact⟨_,rfl,rfl,rfl⟩
theorem S5{k0:Nat}(h:aD nN 5 w F l xs)(hB:aH w k0 32 [l.v])(hN:aD rInt 1 w G sN ns):aB au 72 #[sN.v,.func (.func 150) #[] #[ai (some ⟨k0,0,none⟩)]] w λe w'=>(∃i:Int,e=aq (O ae i)/\(i>=0↔∃n,n∈ns/\¬pu xs n))/\w'=w:=by
 refine(RU sN ⟨.func (.func 150) #[] #[ai (some ⟨k0,0,none⟩)],rfl⟩ (λv w'=>(∃i:Int,v=O ae i/\(i>=0↔∃n,n∈ns/\¬pu xs n))/\w'=w) w ?_).mono ?_
 ·have hl:=hN.len;have QD:=hN.cap;have xt:=hN.big;refine⟨λkv i w'=>∃j:Nat,i=(j:Int)/\kv+j=ns.length/\j<=ns.length/\(∀n,n∈ns.take j->pu xs n)/\w'=w,ns.length,⟨0,rfl,aG,bh _,λn hn=>by simp at hn,rfl⟩,?_⟩;rintro kv _ u ⟨j,rfl,sJ,hj,hh,hu⟩;obtain rfl:w=u:=hu.symm;refine⟨λhc=>?_,λhc=>⟨⟨-1,rfl,λh=>absurd h aN,λ⟨n,hn,hb⟩=>absurd (hh n ?_) hb⟩,rfl⟩⟩
  ·have hc:=aP hc;obtain⟨ad,y,cs,g1,g2,g3,g4,g5,g6⟩:=hN.get (bD j) aG;rw[aU]at g2;obtain⟨rfl,hy⟩:=g6;refine⟨ad,g1,y,g5,150,[],[ai (some ⟨k0,0,none⟩)],rfl,eU (by kernel_rfl),(W9 h hB y).mono ?_⟩;rintro _ u ⟨rfl,hu⟩;obtain rfl:w=u:=hu.symm;refine⟨_,rfl,λhb=>⟨⟨j,rfl,λ_=>⟨y,bB g2,λhh'=>?_⟩,λ_=>aG⟩,rfl⟩,λhb=>⟨kv-1,aG,j+1,aad,aG,aG,λn hn=>?_,rfl⟩⟩
   ·rw[lu.2 hh']at hb;cases hb
   rw[bE,g2,bN]at hn;rcases hn with hn | hn
   ·exact hh n hn
   simp only[Option.toList,aO]at hn;subst hn;exact lu.1 aaz
  have hc:=aX hc;rwa[bq aG]
 rintro _ w' ⟨v,rfl,⟨i,rfl,h1⟩,h2⟩;exact⟨⟨i,rfl,h1⟩,h2⟩
def ahA(xs:List cM)(ns:List Int):Prop:=ns=[]∨∃n,n∈ns/\¬pu xs n
theorem S6(h:aD nN 5 w F l xs)(hF:Fo xs)(hN:aD rInt 1 w G sN ns):aB au 102 #[l.v,sN.v] w λe w'=>(∃r:Int,e=aq (O ae r)/\Mt xs ns r)/\aA [] w w':=by
 refine(amO l sN (λv w'=>(∃r:Int,v=O ae r/\Mt xs ns r)/\aA [] w w') w ?_).mono ?_
 ·intro k0 w0 gU fD cO;have hl:=hN.len;have QD:=hN.cap;have xt:=hN.big;have Gs:=h.len;have kL:∀{u:ay},aA [] w u->aD nN 5 u F l xs:=λhO=>SliceF.only db aN h hO aac;have kN:∀{u:ay},aA [] w u->aD rInt 1 u G sN ns:=λhO=>SliceF.only bF aN hN hO aac;refine⟨λb q u=>(b=true↔ahA xs ns)/\l=q/\aA [] w u,?_,λhc=>?_,λhc hB=>?_⟩
  ·rintro b _ u ⟨hb,rfl,hO⟩;refine⟨λhbt=>⟨⟨-1,rfl,.inl ⟨hb.1 hbt,rfl⟩⟩,hO⟩,λhbf=>?_⟩;have hg:¬ahA xs ns:=λhh=>by rw[hb.2 hh]at hbf;cases hbf
   have gq:ns≠[]:=λe=>hg (.inl e);have hh:∀n,n∈ns->pu xs n:=λn hn=>gL λhx=>hg (.inr ⟨n,hn,hx⟩);have hlp:0<ns.length:=gz.2 gq;obtain⟨ad,n0,cs,g1,g2,g3,g4,g5,g6⟩:=(kN hO).get (i:=0) aG aG;obtain⟨rfl,_⟩:=g6;have g2:ns[0]? =some n0:=g2;have hn0:=hh n0 (bB g2);obtain⟨m0,rfl⟩:∃m:Nat,n0=m:=⟨n0.toNat,by have:=hn0.1;omega⟩
   have ht1:ns.take 1=[(m0:Int)]:=by
    cases ns with
    | nil=>exact absurd rfl gq
    | cons a ns=>
     rw[cR,be]at g2;subst g2;rfl
   refine⟨ad,g1,_,g5,⟨aG,QD⟩,λkv i1 i2 q u=>∃m j:Nat,i1=(m:Int)/\i2=(j:Int)/\kv+j=ns.length-1/\j<=ns.length-1/\l=q/\aA [] w u/\Top xs (ns.take (j+1)) m,ns.length-1,⟨m0,0,rfl,rfl,aG,aG,rfl,hO,?_⟩,?_⟩
   ·rw[ht1];refine⟨m0,rfl,λn hn=>?_,λj hj=>?_⟩
    ·simp only[aO]at hn;subst hn;exact⟨m0,rfl,hF.jT (by have:=hn0.2;omega)⟩
    obtain⟨k,e,s,_,kA,_⟩:=hj m0 aac;omega
   rintro kv _ _ _ u1 ⟨m,j,rfl,rfl,sJ,hj,rfl,cG,U0⟩;have KF:=SliceF.cut (kN cG) (lo:=1) (hi:=sN.n) (m:=sN.c) aG QD (ba _) (ba _);have pC:(sN.cut 1 sN.n sN.c 1).n=ns.length-1:=by
    rw[KF.len,cJ,cP];omega
   refine⟨λhc=>?_,λhc=>?_⟩
   ·have hc:=aP hc;obtain⟨Z9,n3,cs,p1,p2,p3,p4,p5,p6⟩:=KF.get (bD j) aG;obtain⟨rfl,_⟩:=p6;rw[aU,xp aG,jc]at p2;have p2:ns[j+1]? =some n3:=by rw[<-p2];congr 1;omega
    have hn3:=hh n3 (bB p2);obtain⟨t,rfl⟩:∃m:Nat,n3=m:=⟨n3.toNat,by have:=hn3.1;omega⟩
    have mJ:ns.take (j+1+1)=ns.take (j+1)++[(t:Int)]:=by rw[bE,p2];rfl
    obtain⟨m',em,t1,t2⟩:=U0;have em:m=m':=aG
    subst em;refine⟨Z9,p1,_,p5,λkv' i4 q u=>∃m:Nat,i4=(m:Int)/\m=kv'/\l=q/\aA [] w u/\(∀n,n∈ns.take (j+1)->∃k:Nat,n=k/\jp xs m k)/\∀j':Nat,(∀n,n∈ns.take (j+1+1)->∃k:Nat,n=k/\jp xs j' k)->j'<=m,m,⟨m,rfl,rfl,rfl,cG,t1,λj' Qn=>t2 j' λn hn=>Qn n ?_⟩,?_⟩
    ·rw[mJ];exact CU _ hn
    rintro kv' _ _ u2 ⟨m2,rfl,rfl,rfl,dk,q1,q2⟩;refine(HX (kL dk) hF m2 t).mono ?_;rintro _ u3 ⟨rfl,hu⟩;obtain rfl:u2=u3:=hu.symm;refine⟨_,rfl,ci.refl _ _,λYy=>?_,λYy=>?_⟩
    ·have Yy:¬∃i j:Nat,(m2:Int)=i/\(t:Int)=j/\jp xs i j:=λe=>by rw[qE.2 e]at Yy;cases Yy
     have ux:t<xs.length:=by have:=hn3.2;omega
     have PF:0<m2:=Nat.pos_of_ne_zero λe=>Yy ⟨0,t,aG,rfl,hF.tS ux⟩;have U1:(m0:Int)∈ns.take (j+1):=by
      rw[List.mem_iff_getElem?];exact⟨0,by rw[xp aG];exact g2⟩
     have aqD:m2<xs.length:=by
      obtain⟨k,_,s,e,_⟩:=q1 _ U1;exact eS e
     obtain⟨y,hy⟩:=fL aqD;obtain⟨p,s,r1,r2,r3,r4,r5,r6⟩:=hF.par hy PF;obtain⟨uz,b1,_,b3,_,_⟩:=jJ (kL dk) hy;have cpm:jp xs p m2:=⟨s,r3,aG,r5⟩
     refine⟨uz,b1,y.pa,b3,p,r1,p,r2,rfl,rfl,dk,λn hn=>?_,λj' Qn=>?_⟩
     ·obtain⟨k,e,hk⟩:=q1 n hn;exact⟨k,e,hF.kg cpm hk⟩
     have kA:=q2 j' Qn;have Yz:j'≠m2:=λe=>by
      subst e;obtain⟨k,e,hk⟩:=Qn t (by rw[mJ];simp);exact Yy ⟨j',k,rfl,e,hk⟩
     obtain⟨k,e,hk⟩:=Qn m0 (by rw[mJ];exact CU _ U1);obtain⟨k',e',iJ⟩:=q1 m0 U1;have:k=k':=aG
     subst this;obtain⟨s',v1,v2,v3⟩:=hF.jB hk iJ kA;exact r6 j' s' v1 aG v3
    have Yy:OX xs m2 t=true:=by simpa using Yy
    obtain⟨i',t',e1,e2,hct⟩:=qE.1 Yy;have e1:m2=i':=aG
    have e2:t=t':=aG
    subst e1 e2;refine⟨kv-1,aG,m2,j+1,rfl,aad,aG,aG,rfl,dk,m2,rfl,λn hn=>?_,q2⟩;rw[mJ,bN]at hn;rcases hn with hn | hn
    ·exact q1 n hn
    simp only[aO]at hn;subst hn;exact⟨t,rfl,hct⟩
   have hc:=aX hc;rw[bq aG]at U0;exact⟨⟨m,rfl,.inr ⟨⟨gq,hh⟩,U0⟩⟩,cG⟩
  ·have hc:(sN.n:Int)=0:=aai
   exact⟨⟨λ_=>.inl (bR aG),λ_=>rfl⟩,rfl,cO⟩
  have hc:¬(sN.n:Int)=0:=aai
  refine(RT sN ⟨.func (.func 150) #[] #[ai (some ⟨k0,0,none⟩)],rfl⟩ (λv w'=>(∃b:Bool,v=ao b/\(b=true↔∃n,n∈ns/\¬pu xs n))/\w'=w0) w0 ?_).mono ?_
  ·refine(S5 (kL cO) hB (kN cO)).mono ?_;rintro _ u ⟨⟨i,rfl,hi⟩,hu⟩;obtain rfl:w0=u:=hu.symm;exact⟨i,rfl,⟨_,rfl,by rw[bX];exact hi⟩,rfl⟩
  rintro _ u ⟨v,rfl,⟨b,rfl,hb⟩,hu⟩;obtain rfl:w0=u:=hu.symm;refine⟨b,rfl,l,hB,⟨λh=>.inr (hb.1 h),λh=>?_⟩,rfl,cO⟩;rcases h with h | h
  ·subst h;exact absurd (by rw[hl];rfl) hc
  exact hb.2 h
 rintro _ w' ⟨v,rfl,⟨r,rfl,h1⟩,h2⟩;exact⟨⟨r,rfl,h1⟩,h2⟩
end
end Go.Proofs.YtpbgcbdclnfpnaaGreatDoor.Con
namespace Go.Kt
open Go Go.RowKit Go.MapKept
structure CP {κ:Type} (d:TypeDesc) (kv:κ->az) (g:κ->Prop):Prop where
 is:∀k,IsKey d (kv k)
 inj:∀{k l},kv k=kv l->k=l
structure MapV {κ:Type} (kv:κ->az) (g:κ->Prop) (w:ay) (r:Nat) (m:κ->Option az) (n:Nat):Prop where
 mem:∃es clock,w.heap[r]? =some (.map es clock)/\Stamped es clock/\es.size<=n/\(∀x,x∈es.toList->∃k,x.key=kv k/\g k)/\
  ∀k v,m k=some v↔∃x,x∈es.toList/\x.key=kv k/\x.val=v
section
variable {κ:Type} {d:TypeDesc} {kv:κ->az} {g:κ->Prop} {P:Program} {w w':ay} {r n:Nat} {m:κ->Option az} {mty kt et:TypeId}
theorem MapV.keep(h:MapV kv g w r m n)(hk:w'.heap[r]? =w.heap[r]?):MapV kv g w' r m n:=by
 obtain⟨es,c,h1,h2⟩:=h.mem;exact⟨es,c,hk.trans h1,h2⟩
theorem MapV.le(h:MapV kv g w r m n){n'}(hn:n<=n'):MapV kv g w r m n':=by
 obtain⟨es,c,h1,h2,h3,h4⟩:=h.mem;exact⟨es,c,h1,h2,bf h3 hn,h4⟩
theorem MapV.lt(h:MapV kv g w r m n):r<w.heap.size:=by
 obtain⟨es,c,h1,h2⟩:=h.mem;exact(gr.1 h1).1
theorem MapV.only(h:MapV kv g w r m n){bs}(hO:Only bs w w')(hn:r∉bs):MapV kv g w' r m n:=h.keep (hO.block r h.lt hn)
theorem MapV.ext(h:MapV kv g w r m n){m'}(he:∀k,m' k=m k):MapV kv g w r m' n:=by
 obtain⟨es,c,h1,h2,h3,h4,h5⟩:=h.mem;exact⟨es,c,h1,h2,h3,h4,λk v=>by rw[he,h5]⟩
theorem MapV.ok(h:MapV kv g w r m n)(K:CP d kv g){k}(hk:m k≠none):g k:=by
 obtain⟨es,c,h1,h2,h3,h4,h5⟩:=h.mem;cases hm:m k with
 | none=>exact absurd hm hk
 | some v=>
  obtain⟨x,hx,e1,_⟩:=(h5 k v).1 hm;obtain⟨l,e2,hl⟩:=h4 x hx;rwa[K.inj (e1.symm.trans e2)]
theorem MapV.make w:(Instr.makeMap mty none).run P w=.ok (.map (some w.heap.size)) (w.alloc (.map #[] 0))/\MapV kv g (w.alloc (.map #[] 0)) w.heap.size (λ_=>none) 0/\Only [] w (w.alloc (.map #[] 0)):=
 ⟨rfl,⟨#[],0,heap_alloc_new w _,stamped_empty 0,aac,aac,aac⟩,Only.alloc _ _⟩
theorem M3(K:CP d kv g){es:Array MapEntry}(h:∀x,x∈es.toList->∃k,x.key=kv k/\g k):∀x∈es.toList,IsKey d x.key:=λx hx=>by
 obtain⟨k,e,_⟩:=h x hx;rw[e];exact K.is k
theorem MapV.lookup(K:CP d kv g)(hm:P.underlying mty=some (.map kt et))(hd:P.underlying kt=some d){z}(hz:∀w,(zeroValue et).run P w=.ok z w)(h:MapV kv g w r m n) k:
  (Instr.lookup mty (.map (some r)) (kv k) false).run P w=.ok ((m k).getD z) w:=by
 obtain⟨es,c,h1,h0,hn,h2,h4⟩:=h.mem;rcases findNow_spec (K.is k) es.toList 0 (M3 K h2)with⟨g1,g2⟩ | ⟨j,e,g1,g2,g3⟩
 ·have hn:m k=none:=by
   cases K2:m k with
   | none=>rfl
   | some v=>
    obtain⟨x,hx,hk,_⟩:=(h4 k v).1 K2;exact absurd hk (g2 x hx)
  simp[Instr.lookup,run_underlying hm,MapKept.run_getObj_map h1,MapKept.run_checkKey hd (K.is k),MapKept.run_findKey hd g1,Result.andThen,hz,hn]
 have he:=bB g2;simp[Instr.lookup,run_underlying hm,MapKept.run_getObj_map h1,MapKept.run_checkKey hd (K.is k),MapKept.run_findKey hd g1,Result.andThen,(h4 k e.val).2 ⟨e,he,g3,rfl⟩]
variable [DecidableEq κ]
theorem MapV.update(K:CP d kv g)(hm:P.underlying mty=some (.map kt et))(hd:P.underlying kt=some d)(h:MapV kv g w r m n){k}(hg:g k) v:
  ∃w',(Instr.mapUpdate mty (.map (some r)) (kv k) v).run P w=.ok () w'/\MapV kv g w' r (λx=>if x=k then some v else m x) (if m k=none then n+1 else n)/\Only [r] w w':=by
 obtain⟨es,c,h1,h0,hn,h2,h4⟩:=h.mem;have fin:∀{es':Array MapEntry} {c' n':Nat},Stamped es' c'->es'.size<=n'->(∀x,x∈es'.toList->∃k,x.key=kv k/\g k)->
   (∀k' v',(∃x,x∈es'.toList/\x.key=kv k'/\x.val=v')↔(k'=k/\v'=v)∨(k'≠k/\m k'=some v'))->∀w',w'.heap[r]? =some (.map es' c')->MapV kv g w' r (λx=>if x=k then some v else m x) n':=by
  intro es' c' n' e0 en e1 e3 w' hw;refine⟨es',c',hw,e0,en,e1,λk' v'=>?_⟩;rw[e3];by_cases F6:k'=k
  ·simp[F6,zC,be,true_and,ne_eq,not_true_eq_false,false_and,cm];exact⟨λh=>h.symm,λh=>h.symm⟩
  simp[aY F6,F6,false_and,false_or,ne_eq,not_false_eq_true,true_and,ka]
 rcases findNow_spec (K.is k) es.toList 0 (M3 K h2)with⟨g1,g2⟩ | ⟨j,e,g1,g2,g3⟩
 ·have K2:m k=none:=by
   cases hq:m k with
   | none=>rfl
   | some v=>
    obtain⟨x,hx,hk,_⟩:=(h4 k v).1 hq;exact absurd hk (g2 x hx)
  rw[bc K2];refine⟨{w with heap:=w.heap.setIfInBounds r (.map (es.push {key:=kv k,val:=v,born:=c}) _)},?_,fin (stamped_push h0 g2) aae ?_ ?_ _ (heap_set h1).1,vV h1⟩
  ·simp[Instr.mapUpdate,run_underlying hm,MapKept.run_getObj_map h1,MapKept.run_checkKey hd (K.is k),MapKept.run_findKey hd g1,MapKept.run_setObj_map _ h1,Result.andThen]
  ·intro x hx;simp only[Array.toList_push,bN,aO]at hx;rcases hx with hx | rfl
   ·exact h2 x hx
   exact⟨k,rfl,hg⟩
  intro k' v';simp only[Array.toList_push,bN,aO];constructor
  ·rintro⟨x,hx | rfl,e1,e2⟩
   ·exact .inr ⟨λh=>g2 x hx (by rw[e1,h]),(h4 k' v').2 ⟨x,hx,e1,e2⟩⟩
   exact .inl ⟨(K.inj e1).symm,e2.symm⟩
  rintro(⟨rfl,rfl⟩ | ⟨hn,h⟩)
  ·exact⟨_,.inr rfl,rfl,rfl⟩
  obtain⟨x,hx,e1,e2⟩:=(h4 k' v').1 h;exact⟨x,.inl hx,e1,e2⟩
 have hj:=by simpa using g2
 have iA:=(aZ.1 g2).1;have K2:m k≠none:=by rw[(h4 k e.val).2 ⟨e,bB g2,g3,rfl⟩];simp
 rw[aY K2];refine⟨{w with heap:=w.heap.setIfInBounds r _},?_,
  fin (stamped_modify h0 j (λe=>{e with key:=kv k,val:=v}) (λ_ _=>rfl) (λe' _ he=>by rw[hj]at he;injection he with he;rw[<-he];exact g3.symm)) acH ?_ ?_ _ (heap_set h1).1,vV h1⟩
 ·simp[Instr.mapUpdate,run_underlying hm,MapKept.run_getObj_map h1,MapKept.run_checkKey hd (K.is k),MapKept.run_findKey hd g1,hj,g3,MapKept.run_keyThatStays (K.is k),MapKept.run_setObj_map _ h1,Result.andThen]
 all_goals rw[Array.toList_modify,Ju g2]
 ·intro x hx;rcases List.mem_or_eq_of_mem_set hx with hx | rfl
  ·exact h2 x hx
  exact⟨k,rfl,hg⟩
 intro k' v';constructor
 ·rintro⟨x,hx,e1,e2⟩;obtain⟨i,hi⟩:=fh hx;rw[K5]at hi;split at hi
  ·injection hi with hi;rw[<-hi]at e1 e2;exact .inl ⟨(K.inj e1).symm,e2.symm⟩
  rename_i sD;by_cases F6:k'=k
  ·have IP:=(aZ.1 hi).1;have gq:=dB.1 ((stamped_iff _ _).1 h0).2.2;have ex:=(aZ.1 hi).2;have ee:=(aZ.1 g2).2;exfalso;rcases I1 sD with bT | hgt
   ·exact gq j i iA IP bT (by rw[ee,ex,g3,e1,F6])
   exact gq i j IP iA hgt (by rw[ee,ex,g3,e1,F6])
  exact .inr ⟨F6,(h4 k' v').2 ⟨x,bB hi,e1,e2⟩⟩
 rintro(⟨rfl,rfl⟩ | ⟨hn,h⟩)
 ·exact⟨_,List.mem_set iA _,rfl,rfl⟩
 obtain⟨x,hx,e1,e2⟩:=(h4 k' v').1 h;obtain⟨i,hi⟩:=fh hx;refine⟨x,bB (i:=i) ?_,e1,e2⟩;rw[CT]
 ·exact hi
 rintro rfl;rw[g2]at hi;injection hi with hi;rw[<-hi,g3]at e1;exact hn (K.inj e1).symm
theorem MapV.delete(K:CP d kv g)(hm:P.underlying mty=some (.map kt et))(hd:P.underlying kt=some d)(h:MapV kv g w r m n) k ty:
  ∃w',(Builtin.delete_ #[mty,kt] ty #[.map (some r),kv k]).run P w=.ok (.tuple #[]) w'/\MapV kv g w' r (λx=>if x=k then none else m x) (if m k=none then n else n-1)/\Only [r] w w':=by
 obtain⟨es,c,h1,h0,hn,h2,h4⟩:=h.mem;rcases findNow_spec (K.is k) es.toList 0 (M3 K h2)with⟨g1,g2⟩ | ⟨j,e,g1,g2,g3⟩
 ·have K2:m k=none:=by
   cases hq:m k with
   | none=>rfl
   | some v=>
    obtain⟨x,hx,hk,_⟩:=(h4 k v).1 hq;exact absurd hk (g2 x hx)
  rw[bc K2];refine⟨{w with heap:=w.heap.setIfInBounds r (.map es c)},?_,⟨_,_,(heap_set h1).1,h0,hn,h2,?_⟩,vV h1⟩
  ·simp[Builtin.delete_,run_underlying hm,MapKept.run_getObj_map h1,MapKept.run_checkKey hd (K.is k),MapKept.run_findKey hd g1,MapKept.run_setObj_map _ h1,Result.andThen]
  intro k' v';by_cases hk:k'=k
  ·subst hk;simp only[zC];constructor
   ·intro h;cases h
   rintro⟨x,hx,e1,_⟩;exact absurd e1 (g2 x hx)
  rw[aY hk,h4]
 have iA:=(aZ.1 g2).1;have qT:=(aZ.1 g2).2;have hes:(es.eraseIdxIfInBounds j).toList=es.toList.eraseIdx j:=by
  unfold Array.eraseIdxIfInBounds;rw[dif_pos (by simpa using iA),Array.toList_eraseIdx]
 have K2:m k≠none:=by rw[(h4 k e.val).2 ⟨e,bB g2,g3,rfl⟩];simp
 rw[aY K2];have hsz:(es.eraseIdxIfInBounds j).size<=n-1:=by
  rw[<-fA,hes,List.length_eraseIdx_of_lt iA];have:es.toList.length=es.size:=fA;omega
 refine⟨{w with heap:=w.heap.setIfInBounds r _},?_,⟨_,_,(heap_set h1).1,stamped_erase h0 j,hsz,?_,?_⟩,vV h1⟩
 ·simp[Builtin.delete_,run_underlying hm,MapKept.run_getObj_map h1,MapKept.run_checkKey hd (K.is k),MapKept.run_findKey hd g1,MapKept.run_setObj_map _ h1,Result.andThen]
 ·rw[hes];exact λx hx=>h2 x ((List.eraseIdx_sublist _ _).subset hx)
 intro k' v';rw[hes];have gq:=dB.1 ((stamped_iff _ _).1 h0).2.2;by_cases hk:k'=k
 ·subst hk;simp only[zC];constructor
  ·intro h;cases h
  rintro⟨x,hx,e1,_⟩;rw[QN]at hx;obtain⟨i,hi,sD,PE⟩:=hx;rcases I1 sD with bT | hgt
  ·exact absurd (by rw[qT,PE,e1,g3]) (gq i j hi iA bT)
  exact absurd (by rw[qT,PE,e1,g3]) (gq j i iA hi hgt)
 rw[aY hk,h4];constructor
 ·rintro⟨x,hx,e1,e2⟩;refine⟨x,?_,e1,e2⟩;rw[QN];obtain⟨i,hi,PE⟩:=jW hx;refine⟨i,hi,?_,PE⟩;rintro rfl;rw[qT]at PE;rw[<-PE,g3]at e1;exact hk (K.inj e1).symm
 rintro⟨x,hx,e1,e2⟩;exact⟨x,(List.eraseIdx_sublist _ _).subset hx,e1,e2⟩
end
abbrev kS(s:List UInt8):az:=.string ⟨s.toArray⟩
abbrev gS(s:List UInt8):Prop:=s.length<=maxLen
theorem ahB:CP .string kS gS:=⟨λ_=>trivial,λh=>aaA⟩
abbrev kN(k:Int):az:=.int .i64 k
section
variable {κ:Type} {d:TypeDesc} {kv:κ->az} {g:κ->Prop} {P:Program} {w w':ay} {r n:Nat} {m:κ->Option az} {mty kt et:TypeId}
theorem MapV.NH(K:CP d kv g)(hm:P.underlying mty=some (.map kt et))(hd:P.underlying kt=some d){z:az}(hz:∀w,(zeroValue et).run P w=.ok z w)(h:MapV kv g w r m n)(k:κ):
  (Instr.lookup mty (.map (some r)) (kv k) true).run P w=.ok (.tuple #[(m k).getD z,.bool (m k).isSome]) w:=by
 obtain⟨es,c,h1,h0,hn,h2,h4⟩:=h.mem;rcases findNow_spec (K.is k) es.toList 0 (M3 K h2)with⟨g1,g2⟩ | ⟨j,e,g1,g2,g3⟩
 ·have hn:m k=none:=by
   cases K2:m k with
   | none=>rfl
   | some v=>
    obtain⟨x,hx,hk,_⟩:=(h4 k v).1 K2;exact absurd hk (g2 x hx)
  simp[Instr.lookup,run_underlying hm,MapKept.run_getObj_map h1,MapKept.run_checkKey hd (K.is k),MapKept.run_findKey hd g1,Result.andThen,hz,hn]
 have he:=bB g2;have K2:m k=some e.val:=(h4 k e.val).2 ⟨e,he,g3,rfl⟩;simp[Instr.lookup,run_underlying hm,MapKept.run_getObj_map h1,MapKept.run_checkKey hd (K.is k),MapKept.run_findKey hd g1,Result.andThen,K2]
end
end Go.Kt
namespace Go.Proofs.YtpbgcbdclnfpnaaGreatDoor.Con
open Go Go.RowKit Go.Kt Go.Kt.V Go.Proofs.YtpbgcbdclnfpnaaGreatDoor.Vc
def mI(l:List (aJ)):aJ->Option az:=λk=>if uS k l<l.length then some (.int ae (uS k l:Nat))else none
theorem M4(l:List (aJ))(x k:aJ):mI (l++[x]) k=if x∈l then mI l k else if k=x then some (.int ae (l.length:Nat))else mI l k:=by
 unfold mI;rw[aW,bK];by_cases hk:k∈l
 ·have h1:=nU.2 hk;rw[MC [x] hk,bc aG,bc h1];by_cases hx:x∈l
  ·rw[bc hx]
  rw[aY hx,aY λe=>hx acf]
 have h1:¬uS k l<l.length:=λh=>hk (nU.1 h);rw[aY h1];by_cases e:k=x
 ·subst e;rw[aY hk,bc rfl,Fg [] hk,bc aG]
 have:¬uS k (l++[x])<(l++[x]).length:=λh=>by
  have:=nU.1 h;rw[bN,aO]at this;exact this.elim hk e
 rw[aW,bK]at this;rw[aY this,aY e];split<;>rfl
theorem Xa(l:List (aJ))(k:aJ):(mI l k).isSome=decide (k∈l):=by
 unfold mI;by_cases hk:k∈l
 ·rw[bc (nU.2 hk),bJ hk];rfl
 rw[aY λh=>hk (nU.1 h),bI hk];rfl
abbrev Vt(w:ay)(r:Nat)(l:List (aJ)):Prop:=MapV kS gS w r (mI l) l.length
theorem Vt.at{w:ay}{r:Nat}{l:List (aJ)}(h:Vt w r l)(k:aJ):(Instr.lookup 115 (.map (some r)) (ah (T k)) true).run au w=.ok (ak #[O ae (if uS k l<l.length then(uS k l:Nat)else 0:Int),ao (decide (k∈l))]) w:=by
 have:=h.NH (P:=au) (mty:=115) (kt:=9) (et:=3) (z:=O ae 0) ahB (by kernel_rfl) (by kernel_rfl) (λw=>Tryz.zeroValue3 w) k;rw[Xa]at this;rw[this];unfold mI;split<;>rfl
theorem Vt.add{w:ay}{r:Nat}{l:List (aJ)}(h:Vt w r l){x:aJ}(hx:gS x)(hn:x∉l):
  ∃w',(Instr.mapUpdate 115 (.map (some r)) (ah (T x)) (O ae (l.length:Nat))).run au w=.ok () w'/\Vt w' r (l++[x])/\aA [r] w w':=by
 obtain⟨w',h1,h2,h3⟩:=h.update (P:=au) (mty:=115) (kt:=9) (et:=3) ahB (by kernel_rfl) (by kernel_rfl) hx (O ae (l.length:Nat));refine⟨w',h1,(h2.ext λk=>?_).le ?_,h3⟩
 ·rw[M4,aY hn]
 rw[aW,bK];split<;>omega
theorem Vt.has{w:ay}{r:Nat}{l:List (aJ)}(h:Vt w r l){x:aJ}(hx:x∈l):Vt w r (l++[x]):=by
 refine(h.ext λk=>?_).le abA;rw[M4,bc hx]
structure Lo (w:ay) (b m0 m1:Nat) (s:Sl) (nn vn:List (aJ)) (f:Ft):Prop where
 blk:aH w b 117 [.map (some m0),s.v,.map (some m1),O ae f.1,O ae f.2]
 nm:Vt w m0 nn
 vr:Vt w m1 vn
 n0:m0<m1
 n1:m1<b
section
variable {w w':ay} {b m0 m1:Nat} {s:Sl} {nn vn:List (aJ)} {f:Ft}
theorem Lo.only(h:Lo w b m0 m1 s nn vn f){bs:List Nat}(hO:aA bs w w')(h0:b∉bs)(h1:m0∉bs)(h2:m1∉bs):Lo w' b m0 m1 s nn vn f:=⟨hO.blk h.blk h0,h.nm.only hO h1,h.vr.only hO h2,h.n0,h.n1⟩
theorem Lo.o0(h:Lo w b m0 m1 s nn vn f)(hO:aA [] w w'):Lo w' b m0 m1 s nn vn f:=h.only hO aac aac aac
theorem Lo.nZ(h:Lo w b m0 m1 s nn vn f)(hO:aA [b] w w'){s':Sl}{f':Ft}(hB:aH w' b 117 [.map (some m0),s'.v,.map (some m1),O ae f'.1,O ae f'.2]):Lo w' b m0 m1 s' nn vn f':=
 ⟨hB,h.nm.only hO (by have:=h.n0;have:=h.n1;simp;omega),h.vr.only hO (by have:=h.n1;simp;omega),h.n0,h.n1⟩
theorem Lo.lt(h:Lo w b m0 m1 s nn vn f):b<w.heap.size:=h.blk.lt
theorem zT(w:ay)(k:Int):aB au 134 #[O ae k] w λe w'=>e=aq (ao (fU k))/\w'=w:=by
 refine ret (amZ _ _ _ ?_);refine⟨?_,rfl⟩;unfold fU;rw[show((k==3)||(k==4))=decide (k=3∨k=4) by rw[bW];simp]
theorem Fk(h:Lo w b m0 m1 s nn vn f)(ok:Bool)(e a:Int):aB au 95 #[ai (some ⟨b,0,none⟩),ao ok,O ae e,O ae a] w λr w'=>r=aq (ak #[])/\Lo w' b m0 m1 s nn vn (pT f (bad ok e a))/\aA [b] w w':=by
 refine ret (amW _ _ _ _ _ _ ?_);rw[WS];refine⟨f.1,λ_=>Blk.eh h.blk 3 rfl,λhc=>⟨b,3,_,_,rfl,h.blk,aac,λw0 hO hB=>⟨rfl,?_,hO⟩⟩,λhc=>⟨rfl,?_,Only.refl _ _⟩⟩
 ·rw[bc hc];exact h.nZ hO hB
 rw[aY (by rw[hc];decide)];exact h
theorem S7(h:Lo w b m0 m1 s nn vn f){x:aJ}(hx:gS x)(a:Int):aB au 58 #[ai (some ⟨b,0,none⟩),.map (some m0),ah (T x),O ae (nn.length:Nat),O ae a] w λr w'=>r=aq (ak #[])/\Lo w' b m0 m1 s (nn++[x]) vn (pT f (bad (!decide (x∈nn)) 24 a))/\aA [b,m0] w w':=by
 refine ret (aha _ _ _ _ _ _ _ ?_);refine⟨_,_,w,h.nm.at x,(Fk h _ 24 a).mono ?_⟩;rintro _ w1 ⟨rfl,h1,cG⟩;refine⟨rfl,λhc=>?_,λhc=>?_⟩
 ·obtain⟨w2,u1,u2,u3⟩:=h1.nm.add hx aai;refine⟨w2,u1,rfl,⟨u3.blk h1.blk (by have:=h.n0;have:=h.n1;simp;omega),u2,h1.vr.only u3 (by have:=h.n0;simp;omega),h.n0,h.n1⟩,(cG.weaken (bs':=[b,m0]) (λx hx=>.inl aa8)).trans u3 λx hx=>.inl aa8⟩
 exact⟨rfl,⟨h1.blk,h1.nm.has aai,h1.vr,h.n0,h.n1⟩,cG.weaken λx hx=>.inl aa8⟩
theorem S8(h:Lo w b m0 m1 s nn vn f){x:aJ}(hx:gS x)(a:Int):aB au 58 #[ai (some ⟨b,0,none⟩),.map (some m1),ah (T x),O ae (vn.length:Nat),O ae a] w λr w'=>r=aq (ak #[])/\Lo w' b m0 m1 s nn (vn++[x]) (pT f (bad (!decide (x∈vn)) 24 a))/\aA [b,m1] w w':=by
 refine ret (aha _ _ _ _ _ _ _ ?_);refine⟨_,_,w,h.vr.at x,(Fk h _ 24 a).mono ?_⟩;rintro _ w1 ⟨rfl,h1,cG⟩;refine⟨rfl,λhc=>?_,λhc=>?_⟩
 ·obtain⟨w2,u1,u2,u3⟩:=h1.vr.add hx aai;refine⟨w2,u1,rfl,⟨u3.blk h1.blk (by have:=h.n1;simp;omega),h1.nm.only u3 (by have:=h.n0;simp;omega),u2,h.n0,h.n1⟩,(cG.weaken (bs':=[b,m1]) (λx hx=>.inl aa8)).trans u3 λx hx=>.inl aa8⟩
 exact⟨rfl,⟨h1.blk,h1.nm,h1.vr.has aai,h.n0,h.n1⟩,cG.weaken λx hx=>.inl aa8⟩
end
def Ke(P:aL)(s:Sl)(w:ay)(s':Sl)(w':ay):Prop:=aF (λk=>P k∨s.a=some ⟨k,0,none⟩) w w'/\∀k,s'.a=some ⟨k,0,none⟩->s.a=some ⟨k,0,none⟩∨w.heap.size<=k
theorem Ke.trans{P:aL}{s t u:Sl}{w w' tT:ay}(h:Ke P s w t w')(g:Ke P t w' u tT):Ke P s w u tT:=by
 refine⟨h.1.trans g.1 λk hk=>?_,λk hk=>?_⟩
 ·rcases hk with hk | hk
  ·exact .inl (.inl hk)
  exact(h.2 k hk).elim (λh=>.inl (.inr h)) .inr
 rcases g.2 k hk with hk | hk
 ·exact h.2 k hk
 exact .inr (bf h.1.size hk)
theorem Ke.of{P:aL}{s:Sl}{w w':ay}{bs:List Nat}(hO:aA bs w w')(hb:∀k,k∈bs->P k):Ke P s w s w':=⟨hO.p λk hk=>.inl (.inl (hb k hk)),λk hk=>.inl hk⟩
def Zz:cM:=⟨0,[],0,0,0⟩
theorem S9:∀(D:Nat) {w:ay} {F:aL} {x:Nd} {cs:aK} {b m0 m1:Nat} {s:Sl} {nn vn:List (aJ)} {f:Ft},pM false D w F x cs->(∀k,F k->k<m0)->Lo w b m0 m1 s nn vn f->iV (b+1) w s (List.replicate nn.length Zz)->
  pz x<=8388608->nn.length+jk x<=1000000->
  aB au 57 #[ai (some ⟨b,0,none⟩),aj cs.toArray] w λe w'=>e=aq (ak #[])/\∃s',Lo w' b m0 m1 s' (nn++(OO x).map λp=>p.1) vn (pT f (yM nn (OO x)))/\iV (b+1) w' s' (List.replicate (nn.length+jk x) Zz)/\Ke (λk=>k=b∨k=m0) s w s' w'
 | 0,_,_,_,_,_,_,_,_,_,_,_,h,_,_,_,_,_=>h.elim
 | D+1,w,F,.mk bb ks,cs,b,m0,m1,s,nn,vn,f,⟨en,lv,mv,kids,oP,_,gU⟩,hF,hL,hS,hz,hn=>by
  have hk:=gU.1;clear gU;dsimp only[Nd.kids,Nd.b]at hk oP;subst oP;rw[jk]at hn;rw[pz]at hz;have KN:=hk.len;have hnn:=tG ks;have n0:=hL.n0;have n1:=hL.n1;have hgx:gS bb.nm:=by
   show bb.nm.length<=maxLen;have:maxLen=9223372036854775807:=rfl;unfold HU at hz;omega
  refine ret (amV _ _ _ _ _ _ _ _ _ _ _ _ ?_);intro k0 w0 gU fD cO;have z0:=cO.size;have DY:=hL.lt;have VC:=hL.o0 cO;have hS0:iV (b+1) w0 s _:=hS.yS cO.p0 λ_ _ _ h=>h;have Vw:s.n=nn.length:=by rw[hS.len,fT]
  have UZ:s.a≠some ⟨k0,0,none⟩:=λe=>acD
  refine⟨_,Blk.eh VC.blk 0 rfl,s,Blk.eh VC.blk 1 rfl,?_⟩;dsimp only;rw[Vw];refine(S7 VC hgx bb.a).mono ?_;rintro _ w1 ⟨rfl,hL1,cG⟩;have z1:=cG.size;have xo:iV (b+1) w1 s (List.replicate nn.length Zz):=hS0.yS (G:=λk=>k=b∨k=m0) (cG.p λk hk=>.inl aas) λk h _=>aG
  have m1':Ke (λk=>k=b∨k=m0) s w s w1:=(Ke.of cO aac).trans (Ke.of cG aac);obtain⟨y,w2,k1,k3,s3,w3,g1,g2,⟨gs,g3,g4⟩,g5⟩:=jG (P:=au) (t:=32) (ty:=32) (e:=89) (i:=Tryz.t89) (bytes:=48) (size:=5) (r:=nN) (G:=λ_=>False) (v:=aj #[O ae 0,ah (ar #[]),O ae 0,O ae 0,O ae 0]) (x:=Zz) (by kernel_rfl) (by kernel_rfl) rfl rfl rfl rfl aN aN aN db xo aG rfl rfl (λ_ h=>h.elim) (by rw[fT];omega);have z2:=k3.size;have z3:=g3.size;have gb:∀g,g∈gs->b<g/\g<w1.heap.size/\s.a=some ⟨g,0,none⟩:=λg hg=>⟨by have:=(g4 g hg).2.1;omega,(g4 g hg).2.2,(g4 g hg).1⟩
  have hL3:Lo w3 b m0 m1 s (nn++[bb.nm]) vn _:=(hL1.o0 k3).only g3 (λh=>by have:=gb _ h;omega) (λh=>by have:=gb _ h;omega) (λh=>by have:=gb _ h;omega);refine⟨rfl,cG.same aae,s,Blk.eh hL1.blk 1 rfl,y,w2,k1,k3.same aae,s3,w3,g1,g3.same λx hx=>?_,b,1,_,_,rfl,hL3.blk,aac,aG,λw4 dK sS=>?_⟩
  ·simp only[aO]at hx;subst hx;exact⟨aG,λh=>UZ (gb _ h).2.2⟩
  have z4:=dK.size;have hL4:Lo w4 b m0 m1 s3 (nn++[bb.nm]) vn (pT f (bad (!decide (bb.nm∈nn)) 24 bb.a)):=hL3.nZ dK sS;have Ct:iV (b+1) w3 s3 (List.replicate (nn.length+1) Zz):=by
   have:=iV.of g2;rwa[<-List.replicate_succ']at this
  have N2:iV (b+1) w4 s3 (List.replicate (nn.length+1) Zz):=Ct.yS (G:=λk=>k=b) (dK.p aac) λk h _=>aG
  have m4:Ke (λk=>k=b∨k=m0) s w s3 w4:=by
   refine m1'.trans ⟨((k3.mZ (g3.p (F:=λk=>(k=b∨k=m0)∨s.a=some ⟨k,0,none⟩) λg hg=>.inl (.inr (gb g hg).2.2))).trans (dK.p (F:=λk=>k=b) aac) λk hk=>.inl (.inl (.inl hk))),λk hk=>?_⟩;rcases g5 with e | ⟨g,e,h⟩
   ·exact .inl acf
   rw[e]at hk;injection hk with hk;injection hk with hk;exact .inr aG
  have n4:∀k,s3.a=some ⟨k,0,none⟩->k≠k0:=λk hk e=>by
   subst e;rcases g5 with e | ⟨g,e,h⟩
   ·exact UZ acf
   rw[e]at hk;injection hk with hk;injection hk with hk;omega
  have iJ:∀{u:ay} {q:Sl},Ke (λk=>k=b∨k=m0) s w q u->aD (pM false D) 9 u F kids ks:=λhm=>SliceF.nP (cX false D) aN hk hm.1 λk vh _=>by
   have:=hF k vh;exact λh=>h.elim aG λh=>by have:=(hS.blk h).1;dsimp only at this;omega
  refine⟨λkv i w'=>∃(j:Nat) (q:Sl),i=(j:Int)/\kv+j=ks.length/\j<=ks.length/\Lo w' b m0 m1 q (nn++bb.nm::(zf (ks.take j)).map λp=>p.1) vn (pT f (yM nn ((bb.nm,bb.a)::zf (ks.take j))))/\iV (b+1) w' q (List.replicate (nn.length+1+ff (ks.take j)) Zz)/\Ke (λk=>k=b∨k=m0) s w q w'/\w4.heap.size<=w'.heap.size/\∀k,q.a=some ⟨k,0,none⟩->k≠k0,ks.length,⟨0,s3,rfl,aG,bh _,by
   rw[de,zf,yM,yM,bQ];exact hL4,by rw[de,ff,fJ];exact N2,m4,ba _,n4⟩,?_⟩
  rintro kv _ w5 ⟨j,q,rfl,sJ,iA,hL5,N3,m5,z5,n5⟩;constructor
  ·intro hc;have hj:j<ks.length:=abp
   obtain⟨y,hy⟩:∃y,ks[j]? =some y:=⟨_,aQ hj⟩
   obtain⟨ad,y',ds,a1,a2,a3,a4,a5,a6⟩:=(iJ m5).get (bD j) aG;rw[aU,hy]at a2;injection a2 with a2;subst a2;have Yx:=a6;obtain⟨D',rfl⟩:∃D',D=D'+1:=by
    cases D with
    | zero=>exact a6.elim
    | succ D'=>exact⟨D',rfl⟩
   obtain⟨zx,zy,uA,lR,rfl,_⟩:=Yx;have kA:=qB hy;have hzy:=qD (bB hy);have N4:(nn++bb.nm::(zf (ks.take j)).map λp=>p.1).length=nn.length+1+ff (ks.take j):=by
    rw[aW,bn,bA,WT];omega
   refine⟨ad,a1,_,_,_,_,zx,zy,uA,lR,_,a5,λk6 w6 hk6 aeb eH=>?_⟩;have z6:=eH.size;have P1:=hL5.o0 eH;have I9:=hL5.lt;refine(S9 (D'+1) ((cX false (D'+1)).keep a6 λk _ bT=>eH.block k bT aac) hF P1 (by rw[N4];exact N3.yS eH.p0 λ_ _ _ h=>h) aG (by rw[N4];omega)).mono ?_;rintro _ w7 ⟨rfl,q7,F9,hS7,m7⟩;have z7:=m7.1.size;have e:ks.take (j+1)=ks.take j++[y]:=by rw[bE,hy];rfl
   have en1:zf (ks.take (j+1))=zf (ks.take j)++OO y:=by rw[e,Mu,zf,zf,bQ]
   refine⟨rfl,m7.1.same λx hx=>?_,kv-1,aG,j+1,q7,aad,aG,aG,?_,?_,(m5.trans (Ke.of eH aac)).trans m7,aG,λk hk e=>?_⟩
   ·simp only[aV,bp,cm]at hx;rcases hx with rfl | rfl
    ·exact⟨aG,λh=>h.elim aG λh=>n5 _ h rfl⟩
    refine⟨aeb,λh=>h.elim aG λh=>?_⟩;have:=(N3.blk h).2;dsimp only at this;omega
   ·have e1:nn++bb.nm::(zf (ks.take (j+1))).map (λp=>p.1)=(nn++bb.nm::(zf (ks.take j)).map λp=>p.1)++(OO y).map λp=>p.1:=by
     rw[en1,dh,bP,cp]
    have e2:yM nn ((bb.nm,bb.a)::zf (ks.take (j+1)))=yM nn ((bb.nm,bb.a)::zf (ks.take j))++yM (nn++bb.nm::(zf (ks.take j)).map λp=>p.1) (OO y):=by
     rw[en1,<-cp,Ff];rfl
    rw[e1,e2,jI];exact F9
   ·rw[N4]at hS7;rw[e,Bm,ff,ff,fJ,<-eY];exact hS7
   subst e;rcases m7.2 _ hk with h | h
   ·exact n5 _ h rfl
   omega
  intro hc;have qT:j=ks.length:=aby
  subst qT;rw[bq (ba _)]at N3 hL5;refine⟨rfl,q,?_,?_,m5⟩
  ·rw[OO];exact hL5
  rw[jk,show nn.length+(ff ks+1)=nn.length+1+ff ks by omega];exact N3
end Go.Proofs.YtpbgcbdclnfpnaaGreatDoor.Con
namespace Go.Kt
open Go Go.RowKit
section
variable {P:Program} {w:ay}
set_option maxRecDepth 20000 in
theorem wI {t it ty e:TypeId} {i:TypeInfo} {z:Value} (ht:P.underlying t=some (.slice e)) (hit:P.underlying it=some (.int .i64)) (hi:P.info? e=some i) (hz:i.zero=some z)
  {n:Nat} (hn0:0<n) (Cq:0<i.size) (Ul:n<=9223372036854775807) (X1:n*i.bytes<=281474976710656) (FU:Builtin.nextslicecap n 0*i.bytes<=281474976710656):
  (Builtin.append_ #[t,it] ty #[.slice none 0 0,.int .i64 n]).run P w=
   .ok (.slice (some ⟨w.heap.size,0,none⟩) n (grownCap w n 0 e))
    (w.drew.alloc (.cells (Builtin.zeroCells z.cells n++Builtin.zeroCells z.cells (grownCap w n 0 e-n)) e)):=by
 have hn:¬(n<=0):=aG
 have aqF:¬(9223372036854775807<(n:Int)):=aG
 have aqG:¬(281474976710656<Builtin.nextslicecap n 0*i.bytes):=aG
 have hwr:IntKind.i64.wrap (n:Int)=n:=gx aG aG;have jL:¬(281474976710656<(n:Int)*(i.bytes:Int)):=by
  have:((n*i.bytes:Nat):Int)<=281474976710656:=Int.ofNat_le.2 X1;rw[Int.natCast_mul]at this;omega
 have aqH:¬((n:Int)<0):=aG
 have gq:n≠0:=aG
 have hnz:n*i.size≠0:=by have:=Nat.mul_pos hn0 Cq;omega
 simp[Builtin.append_,run_underlying ht,run_underlying hit,sizeOf,typeInfo,zeroValue,hi,hz,asInt,asIntOf,hwr,aqH,jL,gq,hnz,aqF,aqG,Question.forced,run_firstCells_none,newRow,grownCap]
theorem Ta{α:Type}{r:Rp α}{F:Nat->Prop}{size bytes:Nat}{t it ty e:TypeId}{i:TypeInfo}{z:az}(ht:P.underlying t=some (.slice e))(hit:P.underlying it=some (.int .i64))(hi:P.info? e=some i)(hz:i.zero=some z)(qL:i.size=size)(X1:i.bytes=bytes)(PC:z.cells.size=size)
  {n:Nat} (hn0:0<n) (h0:0<size) (hm:n*bytes<=140737488355328) (xt:0<bytes):
  ∃s w',(Builtin.append_ #[t,it] ty #[.slice none 0 0,.int .i64 n]).run P w=.ok (Sl.v s) w'/\Own r size e w.heap.size w' F (s.cut 0 0 s.c size) []/\Only [] w w'/\s.a=some ⟨w.heap.size,0,none⟩:=by
 subst qL;subst X1;have Ul:n<=140737488355328:=bf (by have:=Gc n xt;omega) hm;have hf:=(growslice_fits hn0 hm:Builtin.nextslicecap n 0*i.bytes<=281474976710656)
 refine⟨⟨some ⟨w.heap.size,0,none⟩,n,grownCap w n 0 e⟩,_,wI ht hit hi hz hn0 h0 aG aG hf,?_,(Only.drew w).cr (Only.alloc _ _),rfl⟩;have lz:=grownCap_ge w n 0 e;have kA:=grownCap_le_maxLen w n 0 e (by simp only[maxLen];omega);refine .inr ⟨w.heap.size,([]:List (List az)),(Builtin.zeroCells z.cells n++Builtin.zeroCells z.cells (grownCap w n 0 e-n)).toList,?_,ba _,?_,?_,rfl,?_,?_,trivial⟩
 ·simp[Sl.cut,Addr.add]
 ·have:=Blk.alloc w.drew e (Builtin.zeroCells z.cells n++Builtin.zeroCells z.cells (grownCap w n 0 e-n)).toList;rw[Array.toArray_toList]at this;exact this
 ·rw[Array.toList_append,aW,vS w _ PC,vS w _ PC,<-eM];simp only[Sl.cut];congr 1;omega
 ·simp[Sl.cut]
 simp only[Sl.cut];simp only[maxLen]at kA;omega
end
end Go.Kt
namespace Go.Proofs.YtpbgcbdclnfpnaaGreatDoor.Con
open Go Go.RowKit Go.Kt Go.Kt.V Go.Proofs.YtpbgcbdclnfpnaaGreatDoor.Vc
structure Lx (w:ay) (b m0 m1:Nat) (F:aL) (s:Sl) (xs:List cM) (vn:List (aJ)) (f:Ft):Prop where
 lo:Lo w b m0 m1 s (xs.map λx:cM=>x.nm) vn f
 sp:aD nN 5 w F s xs
 fo:Fo xs
 ln:xs.length<=64
 nF:∀k,F k->k≠b
section
variable {w w':ay} {b m0 m1:Nat} {F G:aL} {s:Sl} {xs:List cM} {vn:List (aJ)} {f g:Ft}
theorem Lx.o0(h:Lx w b m0 m1 F s xs vn f)(hO:aA [] w w'):Lx w' b m0 m1 F s xs vn f:=⟨h.lo.o0 hO,SliceF.only db aN h.sp hO aac,h.fo,h.ln,h.nF⟩
theorem Lx.to(h:Lx w b m0 m1 F s xs vn f)(hO:aA [b] w w')(hl:Lo w' b m0 m1 s (xs.map λx:cM=>x.nm) vn g):Lx w' b m0 m1 F s xs vn g:=
 ⟨hl,SliceF.only db aN h.sp hO λk hk _ hm=>h.nF k hk abz,h.fo,h.ln,h.nF⟩
theorem lw(h:Lx w b m0 m1 F s xs vn f)(ok:Bool)(e a:Int):aB au 95 #[ai (some ⟨b,0,none⟩),ao ok,O ae e,O ae a] w λr w'=>r=aq (ak #[])/\Lx w' b m0 m1 F s xs vn (pT f (bad ok e a))/\aA [b] w w':=by
 refine(Fk h.lo ok e a).mono ?_;rintro _ w' ⟨rfl,h1,hO⟩;exact⟨rfl,h.to hO h1,hO⟩
theorem BD(xs:List cM)(n:aJ):gJ xs n= -1∨∃j:Nat,gJ xs n=j/\j<xs.length:=by
 rcases mU xs n with⟨h,_⟩ | ⟨j,x,h,hx,_⟩
 ·exact .inl h
 exact .inr ⟨j,h,eS hx⟩
theorem Fl(h:Lx w b m0 m1 F s xs vn f)(n:aJ):aB au 135 #[.map (some m0),ah (T n)] w λr w'=>r=aq (O ae (gJ xs n))/\w'=w:=by
 refine ret (am0 _ _ _ _ ?_);refine⟨_,_,w,h.lo.nm.at n,λhb=>⟨?_,rfl⟩,λhb=>⟨?_,rfl⟩⟩
 ·have hl:=nU.2 (aP hb);unfold gJ;rw[bc hl,bc (by rwa[bA]at hl)]
 have hl:¬_:=λh=>aX hb (nU.1 h);unfold gJ;rw[aY (by rwa[bA]at hl)]
theorem HY(h:Lx w b m0 m1 F s xs vn f){n:Int}(hn:n<xs.length):aB au 136 #[ai (some ⟨b,0,none⟩),O ae n] w λr w'=>r=aq (ao (decide (0<=n)&&!fU (lq xs n)))/\w'=w:=by
 refine ret (am1 _ _ _ _ ?_);refine⟨λr w'=>r=(decide (0<=n)&&!fU (lq xs n))/\w'=w,λr w' ⟨h1,h2⟩=>⟨by rw[h1],h2⟩,λhc=>?_,λhc=>⟨?_,rfl⟩⟩
 ·have hc:0<=n:=aP hc;obtain⟨j,rfl⟩:∃j:Nat,n=j:=⟨n.toNat,aG⟩
  obtain⟨x,hx⟩:=fL (xs:=xs) (i:=j) aG;obtain⟨ad,a1,a2,_⟩:=jJ h.sp hx;refine⟨s,Blk.eh h.lo.blk 1 rfl,ad,a1,x.k,a2.eh 0 _ rfl,(zT w x.k).mono ?_⟩;rintro _ w1 ⟨rfl,hu⟩;refine⟨_,rfl,?_,hu⟩;rw[fZ hx,bJ hc];rfl
 rw[show decide (0<=n)=false from hc];rfl
theorem Fm{b k0:Nat}(hO:aA [b] w w')(h:k0≠b):bS (λk=>k=k0) w w':=λk hk bT=>hO.block k bT (by subst hk;simp[h])
theorem tK{b:Nat}{u v:ay}(h:aA [b] w u)(g:aA [b] u v):aA [b] w v:=h.trans g λx hx=>.inl hx
theorem zh{b:Nat}(h:aA [] w w'):aA [b] w w':=h.weaken λx hx=>(by simp at hx)
theorem Fp:∀(d:Nat) {w:ay} {x:Ex} {cs:aK} {f:Ft},Ml false d w G x cs->(∀k,G k->k≠b)->Lx w b m0 m1 F s xs vn f->
  aB au 98 #[ai (some ⟨b,0,none⟩),aj cs.toArray] w λr w'=>r=aq (ak #[])/\Lx w' b m0 m1 F s xs vn (pT f (Vp xs vn x))/\aA [b] w w'
 | 0,_,_,_,_,h,_,_=>h.elim
 | d+1,w,x,cs,f,⟨sl,oP,sQ⟩,hG,h=>by
  subst oP;have sQ:=sQ.1;refine ret (am3 _ _ _ _ _ _ _ _ _ ?_);intro k0 w0 gU fD cO;have z0:=cO.size;have DY:=h.lo.lt;have h0:=h.o0 cO;have N4:=sQ.len;have hcp:=sQ.cap;have Jd:=sQ.big;have U2:k0≠b:=aG
  refine⟨λu=>Lx u b m0 m1 F s xs vn (pT f (bad (Vo xs vn x.k x.s) 23 x.a))/\aA [b] w u/\w0.heap.size<=u.heap.size,?_,λhk=>?_,λhk=>⟨λzr=>?_,λzr=>?_⟩⟩
  ·rintro w1 ⟨h1,o1,z1⟩;refine⟨λkv i u=>∃j:Nat,i=(j:Int)/\kv+j=x.gp.length/\j<=x.gp.length/\Lx u b m0 m1 F s xs vn (pT f (bad (Vo xs vn x.k x.s) 23 x.a++uF xs vn (x.gp.take j)))/\aA [b] w u/\w0.heap.size<=u.heap.size,x.gp.length,⟨0,rfl,rfl,bh _,by rw[de,uF,bQ];exact h1,o1,z1⟩,?_⟩;rintro kv _ w2 ⟨j,rfl,sJ,hj,h2,o2,z2⟩;refine⟨λhc=>?_,λhc=>?_⟩
   ·have hc:=aP hc;have hs2:aD (Ml false d) 6 w2 G sl x.gp:=SliceF.only (kR false d) aN sQ o2 λk hk _ hm=>hG k hk abz;obtain⟨ad,y,ds,a1,a2,a3,a4,a5,a6⟩:=hs2.get (bD j) aG;rw[aU]at a2;have Yx:=a6;obtain⟨d',rfl⟩:∃e,d=e+1:=by
     cases d with
     | zero=>exact a6.elim
     | succ e=>exact⟨e,rfl⟩
    obtain⟨pW,rfl,_⟩:=Yx;refine⟨ad,a1,_,_,_,_,_,_,a5,λk3 w3 zr xi dz=>?_⟩;have z3:=dz.size;refine(Fp (d'+1) ((kR false (d'+1)).keep a6 λk hk bT=>dz.block k bT aac) hG (h2.o0 dz)).mono ?_;rintro _ w4 ⟨rfl,h4,dK⟩;have z4:=dK.size;have mJ:x.gp.take (j+1)=x.gp.take j++[y]:=aeN
    have tV:=h2.lo.lt;refine⟨rfl,dK.same aae,kv-1,aG,j+1,aad,aG,aG,?_,(o2.cr dz).trans dK λx hx=>.inl hx,aG⟩;rw[mJ,HH,uF,uF,bQ,<-bP,jI];exact h4
   have hc:=aX hc;have qT:j=x.gp.length:=aG
   subst qT;rw[bq (ba _),<-abC]at h2;exact⟨rfl,h2,o2⟩
  ·have hk:x.k=2:=aas
   intro w5 eJ;have z5:=eJ.size;have h5:=h0.o0 eJ;refine⟨_,Blk.eh h5.lo.blk 2 rfl,_,_,w5,h5.lo.vr.at x.s,ci.refl _ _,(lw h5 _ 23 x.a).mono ?_⟩;rintro _ w7 ⟨rfl,h7,fN⟩;have z7:=fN.size;refine⟨rfl,fN.same aae,?_,tK (zh (cO.cr eJ)) fN,aG⟩;have:Vo xs vn x.k x.s=decide (x.s∈vn):=by unfold Vo;rw[hk];simp
   rw[this];exact h7
  ·have zr:x.k=3:=by simpa using zr
   intro w8 fX;have z8:=fX.size;have h8:=h0.o0 fX;refine⟨λk=>k=k0,_,Blk.eh h8.lo.blk 0 rfl,rfl,(Fl h8 x.s).mono ?_⟩;rintro _ w9 ⟨rfl,hu⟩;obtain rfl:w8=w9:=hu.symm;refine⟨_,rfl,ci.refl _ _,bS.refl _ _,(HY h8 (by rcases BD xs x.s with h | ⟨j,h,hl⟩<;>omega)).mono ?_⟩;rintro _ dL ⟨rfl,hu⟩;obtain rfl:w8=dL:=hu.symm;refine⟨_,rfl,ci.refl _ _,bS.refl _ _,(lw h8 _ 23 x.a).mono ?_⟩;rintro _ dN ⟨rfl,Jf,dX⟩;have D1:=dX.size;refine⟨rfl,dX.same aae,Fm dX U2,?_,tK (zh (cO.cr fX)) dX,aG⟩;have:Vo xs vn x.k x.s=stM xs x.s:=by unfold Vo;rw[zr];simp
   rw[this];exact Jf
  have vf:x.k≠2:=aas
  have zr:x.k≠3:=by simpa using zr
  have:Vo xs vn x.k x.s=true:=by unfold Vo;simp[vf,zr]
  rw[this];exact⟨h0,zh cO,ba _⟩
end
def HZ:Rp Sl:=λ_ _ x cs=>cs=[x.v]
theorem rH:HZ.Ok:=⟨λh _=>h,λh=>h,λh _=>h,λh=>by
 unfold HZ at h;subst h;intro v hv;simp only[aO]at hv;subst hv;rfl⟩
abbrev Dv(B:Nat)(w:ay)(G:aL)(s:Sl)(l:List Ac):Prop:=Own (uT false) 9 211 B w G s l
theorem Xb(w:ay)(G:aL){n:Nat}(hn:n<=20000000):aB au 174 #[Sl.nil.v,O ae (n:Int)] w λe w'=>(∃s:Sl,e=aq s.v/\Dv w.heap.size w' G s [])/\aA [] w w':=by
 refine(ahc Sl.nil n (λv w'=>(∃s:Sl,v=s.v/\Dv w.heap.size w' G s [])/\aA [] w w') w ?_).mono aau;have e0:av ae ((n:Int)-(av ae ((Sl.nil.c:Int)-(Sl.nil.n:Int))))=n:=by
  show av ae ((n:Int)-(av ae (((0:Nat):Int)-((0:Nat):Int))))=n;rw[gx (x:=((0:Nat):Int)-((0:Nat):Int)) aG aG,gx aG aG];omega
 refine⟨λu=>w=u,?_,λhc=>?_,λ_=>rfl⟩
 ·rintro _ rfl;rw[e0];refine⟨λl u=>Dv w.heap.size u G l []/\aA [] w u,λl u h=>⟨⟨l,rfl,h.1⟩,h.2⟩,λhc=>?_,λhc=>⟨Own.nil _ _ _ _ _ _,Only.refl _ _⟩⟩;have hc:=aP hc;obtain⟨s,w2,g1,g2,g3,_⟩:=Ta (P:=au) (w:=w) (r:=uT false) (F:=G) (size:=9) (bytes:=104) (t:=23) (it:=3) (ty:=23) (e:=211) (i:=Tryz.t211) (n:=n) (by kernel_rfl) (by kernel_rfl) (by kernel_rfl) rfl rfl rfl rfl aG aN aG aN;exact⟨0,⟨rfl,ba _⟩,s,w2,g1,0,⟨rfl,bh _⟩,g2,g3⟩
 have:=aP hc;omega
def mo(l:List (Sl×List Ac)):List Ac:=l.flatMap λp=>p.2
theorem uq{l:List (Sl×List Ac)}{j:Nat}{p:Sl×List Ac}(h:l[j]? =some p):mo (l.take (j+1))=mo (l.take j)++p.2:=by
 rw[bE,h];unfold mo;rw[fO];simp
theorem M5{l:List (Sl×List Ac)}(j:Nat):(mo (l.take j)).length<=(mo l).length:=by
 have:mo l=mo (l.take j)++mo (l.drop j):=by
  unfold mo;rw[<-fO,dl]
 rw[this,aW];omega
theorem OY{w:ay}{rows:Sl}{F G:aL}{l:List (Sl×List Ac)}(hR:aD HZ 1 w F rows (l.map λp=>p.1))(hA:∀p,p∈l->aD (uT false) 9 w G p.1 p.2)(hm:(mo l).length<=20000000):
  aB au 137 #[rows.v] w λe w'=>(∃s:Sl,e=aq s.v/\Dv w.heap.size w' (λk=>G k/\k<w.heap.size) s (mo l))/\aA [] w w':=by
 refine(ahb rows (λv w'=>(∃s:Sl,v=s.v/\Dv w.heap.size w' (λk=>G k/\k<w.heap.size) s (mo l))/\aA [] w w') w ?_).mono aau;have U3:=hR.len;have hcp:=hR.cap;have Jd:=hR.big;rw[bA]at U3;have row:∀{u:ay} {j:Nat},aA [] w u->j<l.length->∃ad p,dE rows (j:Int) 1 ad/\l[j]? =some p/\aE u ad [p.1.v]/\aD (uT false) 9 u (λk=>G k/\k<w.heap.size) p.1 p.2:=fun{u j} hO hj=>by
  obtain⟨ad,y,ds,a1,a2,a3,a4,a5,a6⟩:=(SliceF.only rH aN hR hO aac).get (bD j) aG;rw[aU,ch,gv]at a2;obtain⟨p,hp,rfl⟩:=a2;have a6:ds=[p.1.v]:=a6;subst a6;exact⟨ad,p,a1,hp,a5,((hA p (bB hp)).inHeap (dT false) aN).keep (dT false) aN λk _ bT=>hO.block k bT aac⟩
 refine⟨λkv n i u=>∃j:Nat,i=(j:Int)/\n=((mo (l.take j)).length:Nat)/\kv+j=l.length/\j<=l.length/\w=u,l.length,⟨0,rfl,rfl,rfl,bh _,rfl⟩,?_⟩;rintro kv _ _ _ ⟨j,rfl,rfl,sJ,hj,rfl⟩;refine⟨λhc=>?_,λhc=>?_⟩
 ·have hc:=aP hc;obtain⟨ad,p,a1,a2,a3,a4⟩:=row (Only.refl _ _) (j:=j) aG;have NZ:=a4.len;have kA:=M5 (l:=l) (j+1);rw[uq a2,aW]at kA;have hw:av ae (((mo (l.take j)).length:Nat)+(p.1.n:Int))=((mo (l.take (j+1))).length:Nat):=by
   rw[gx aG aG,uq a2,aW];omega
  refine⟨λn u=>n=((mo (l.take (j+1))).length:Nat)/\w=u,?_,ad,a1,p.1,a3,λhb=>?_,λ_=>⟨hw,rfl⟩⟩
  ·rintro _ _ ⟨rfl,rfl⟩;exact⟨kv-1,aG,j+1,aad,rfl,aG,aG,rfl⟩
  have:=aP hb;rw[hw]at this;omega
 have hc:=aX hc;have qT:j=l.length:=aG
 subst qT;rw[bq (ba _)];refine(Xb w (λk=>G k/\k<w.heap.size) hm).mono ?_;rintro _ w2 ⟨⟨s,rfl,hS⟩,dk⟩;refine⟨s,rfl,λkv t i u=>∃j:Nat,i=(j:Int)/\kv+j=l.length/\j<=l.length/\Dv w.heap.size u (λk=>G k/\k<w.heap.size) t (mo (l.take j))/\aA [] w u,l.length,⟨0,rfl,rfl,bh _,by rw[de];exact hS,dk⟩,?_⟩;rintro kv t _ w3 ⟨j,rfl,sJ,hj,hT,dz⟩;refine⟨λhc=>?_,λhc=>?_⟩
 ·have hc:=aP hc;obtain⟨ad,p,a1,a2,a3,a4⟩:=row dz (j:=j) aG;have kA:=M5 (l:=l) (j+1);rw[uq a2,aW]at kA;obtain⟨t',w4,g1,g2,gs,g3,g4,_⟩:=vT (P:=au) (t:=23) (ty:=23) (e:=211) (i:=Tryz.t211) (bytes:=104) (size:=9) (r:=uT false) (by kernel_rfl) (by kernel_rfl) rfl rfl rfl rfl (dT false) hT (a4.mono (dT false) λk hk=>⟨hk,λe=>by have:=(hT.blk e).1;dsimp only at this;omega⟩) dz.size aG aN;refine⟨ad,a1,p.1,a3,t',w4,g1,kv-1,aG,j+1,aad,aG,aG,by rw[uq a2];exact g2,dz.trans g3 λg hg=>.inr (g4 g hg).2.1⟩
 have hc:=aX hc;have qT:j=l.length:=aG
 subst qT;rw[bq (ba _)]at hT;exact⟨⟨t,rfl,hT⟩,dz⟩
section
variable {w w':ay} {b m0 m1:Nat} {F G H:aL} {s:Sl} {xs:List cM} {vn:List (aJ)} {f g:Ft}
theorem M6{rows:Sl}{l:List (Sl×List Ac)}(hR:aD HZ 1 w H rows (l.map λp=>p.1))(hA:∀p,p∈l->aD (uT false) 9 w G p.1 p.2)(hm:(mo l).length<=20000000)(hG:∀k,G k->k≠b)(h:Lx w b m0 m1 F s xs vn f):
  aB au 97 #[ai (some ⟨b,0,none⟩),rows.v] w λr w'=>r=aq (ak #[])/\Lx w' b m0 m1 F s xs vn (pT f (uG xs vn (mo l)))/\aA [b] w w':=by
 refine ret (am2 _ _ _ _ ?_);refine(OY hR hA hm).mono ?_;rintro _ w0 ⟨⟨t,rfl,hT⟩,cO⟩;have DY:=h.lo.lt;have z0:=cO.size;generalize mo l=al at*
 have htn:=hT.len;refine⟨t,rfl,λkv i u=>∃j:Nat,i=(j:Int)/\kv+j=al.length/\j<=al.length/\Lx u b m0 m1 F s xs vn (pT f (uG xs vn (al.take j)))/\aA [b] w0 u,al.length,⟨0,rfl,rfl,bh _,by rw[de];exact h.o0 cO,Only.refl _ _⟩,?_⟩;rintro kv _ w1 ⟨j,rfl,sJ,hj,h1,cG⟩;have z1:=cG.size;refine⟨λhc=>?_,λhc=>?_⟩
 ·have hc:=aP hc;have hT1:aD (uT false) 9 w1 _ t al:=SliceF.only (dT false) aN (hT.slice (dT false)) cG λk hk _ hm=>by
   simp only[aO]at hm;rcases hk with hk | hk
   ·exact hG k hk.1 hm
   omega
  obtain⟨ad,y,ds,a1,a2,a3,a4,a5,a6⟩:=hT1.get (bD j) aG;rw[aU]at a2;obtain⟨xc,rfl,hx⟩:=a6;obtain⟨sl,rfl⟩:=jo hx;have pD:=h1.lo.lt;refine⟨ad,a1,_,_,_,_,_,_,sl,_,_,a5,λk2 w2 vf xh dk=>?_⟩;have z2:=dk.size;have h2:=h1.o0 dk;have e1:uG xs vn (al.take (j+1))=uG xs vn (al.take j)++(bad (decide (y.k≠1)||decide (y.n∈vn)) 23 y.a++Vp xs vn y.x):=by
   rw[bE,a2];unfold uG;rw[fO];simp[acF]
  refine⟨λu=>Lx u b m0 m1 F s xs vn (pT f (uG xs vn (al.take j)++bad (decide (y.k≠1)||decide (y.n∈vn)) 23 y.a))/\aA [b] w2 u,?_,λhk w5 eJ=>?_,λhk=>?_⟩
  ·rintro w3 ⟨h3,dz⟩;have z3:=dz.size;obtain⟨d,hxd⟩:=hx;have hfp:∀k,((G k/\k<w.heap.size)∨(w.heap.size<=k/\t.a=some ⟨k,0,none⟩))->k≠b:=λk hk=>hk.elim (λh=>hG k h.1) λh=>aG
   refine(Fp d ((kR false d).keep ((kR false d).keep hxd λk _ bT=>dk.block k bT aac) λk hk bT=>dz.block k bT (by simp;exact hfp k hk)) hfp h3).mono ?_;rintro _ w4 ⟨rfl,h4,dK⟩;have z4:=dK.size;refine⟨rfl,dK.same aae,kv-1,aG,j+1,aad,aG,aG,?_,tK (tK (cG.cr dk) dz) dK⟩;rw[e1,<-bP,jI];exact h4
  ·have hk:y.k=1:=aas
   have z5:=eJ.size;have h5:=h2.o0 eJ;refine⟨_,Blk.eh h5.lo.blk 2 rfl,_,_,w5,h5.lo.vr.at y.n,ci.refl _ _,(lw h5 _ 23 y.a).mono ?_⟩;rintro _ w7 ⟨rfl,h7,fN⟩;have z7:=fN.size;refine⟨rfl,fN.same aae,?_,tK (zh eJ) fN⟩;rw[jI,hk];exact h7
  have hk:y.k≠1:=aas
  refine⟨?_,Only.refl _ _⟩;rw[jI,bJ hk];exact h2
 have hc:=aX hc;have qT:j=al.length:=aG
 subst qT;rw[bq (ba _)]at h1;exact⟨rfl,h1,tK (zh cO) cG⟩
end
theorem aoa(u:ay){a b:Int}(ha:rf a)(hb:rf b):∃y w1,(aw 33 2 #[.mk 0 (O ae a),.mk 1 (O ae b)]).run au u=.ok (Sl.v y) w1/\aA [] u w1/\aD rInt 1 w1 (λ_=>True) y [a,b]:=by
 obtain⟨y,w1,k1,k2,k3,_⟩:=jv (P:=au) (t:=33) (e:=3) (i:=Tryz.t3) (z:=O ae 0) (w:=u) (F:=λ_=>False) (vs:=[O ae a,O ae b]) (parts:=#[.mk 0 (O ae a),.mk 1 (O ae b)]) (len:=2) (xs:=[a,b]) (r:=rInt) (size:=1) (by kernel_rfl) (by kernel_rfl) rfl rfl aN rfl rfl aN aN bF ⟨⟨rfl,rfl,ha⟩,⟨rfl,rfl,hb⟩,trivial⟩;exact⟨y,w1,k1,k3,(k2.slice bF).mono bF λ_ _=>trivial⟩
theorem iV.sl{B:Nat}{w:ay}{s:Sl}{xs:List cM}(h:iV B w s xs):aD nN 5 w (λk=>B<=k) s xs:=(h.slice db).mono db λk hk=>hk.elim (λh=>h.elim) λh=>h.1
def tup(x:cM):Int×aJ×Int×Int×Int:=(x.k,x.nm,x.pa,x.dp,x.en)
section
variable {w w':ay} {b m0 m1:Nat} {F G:aL} {s:Sl} {xs:List cM} {vn:List (aJ)} {f g:Ft}
theorem Kf{n:Int}(h:pu xs n)(hl:xs.length<=64):rf n:=⟨by have:=h.1;omega,by have:=h.2;omega⟩
theorem Tc(h:Lx w b m0 m1 F s xs vn f){n o:Int}(hn:pu xs n)(ho:pu xs o):aB au 139 #[ai (some ⟨b,0,none⟩),O ae n,O ae o] w λr w'=>r=aq (ao (Fe xs n o))/\aA [] w w':=by
 refine ret (am6 _ _ _ _ _ ?_);obtain⟨y,w1,k1,k2,k3⟩:=aoa w (Kf hn h.ln) (Kf ho h.ln);have h1:=h.o0 k2;refine⟨s,Blk.eh h.lo.blk 1 rfl,y,w1,k1,(S6 h1.sp h.fo k3).mono ?_⟩;rintro _ w2 ⟨⟨r,rfl,hr⟩,dk⟩;have h2:=h1.o0 dk;have er:=h.fo.XO hr hn ho;have U0:=hr.ahU aac λi hi=>by
  simp only[aV,bp,cm]at hi;rcases hi with rfl | rfl
  ·exact hn
  exact ho
 obtain⟨m,e,t1,_⟩:=U0;obtain⟨k,_,x,hx,_⟩:=t1 n aac;obtain⟨ad,a1,a2,_⟩:=jJ h2.sp hx;subst e;refine⟨_,rfl,s,λ_=>Blk.eh h2.lo.blk 1 rfl,ad,λ_=>a1,x.k,λ_=>a2.eh 0 _ rfl,?_,k2.cr dk⟩;unfold Fe;rw[<-er,fZ hx];congr 1;rw[bW];simp
theorem abY{k0 k4:Nat}(h:Lx w b m0 m1 F s xs vn f){n o:Int}(hn:pu xs n)(ho:pu xs o)(h0:aH w k0 113 [ai (some ⟨b,0,none⟩)])(h4:aH w k4 3 [O ae n]):
  aB au 138 #[O ae o,ai (some ⟨k0,0,none⟩),ai (some ⟨k4,0,none⟩)] w λr w'=>r=aq (ao (!Fe xs n o))/\aA [] w w':=by
 refine ret (am5 _ _ _ _ _ ?_);refine⟨_,h0.cells 0 [_] λj v hj=>adV,_,h4.cells 0 [_] λj v hj=>adV,(Tc h hn ho).mono ?_⟩;rintro _ w1 ⟨rfl,hO⟩;exact⟨_,rfl,rfl,hO⟩
theorem abZ{k0 k4:Nat}(h:Lx w b m0 m1 F s xs vn f){n:Int}(hn:pu xs n){sN:Sl}{ns:List Int}(hN:aD rInt 1 w G sN ns)(hns:∀o,o∈ns->pu xs o)(h0:aH w k0 113 [ai (some ⟨b,0,none⟩)])(h4:aH w k4 3 [O ae n]):
  aB au 51 #[sN.v,.func (.func 138) #[] #[ai (some ⟨k0,0,none⟩),ai (some ⟨k4,0,none⟩)]] w λr w'=>r=aq (ao (ns.any λo=>!Fe xs n o))/\aA [] w w':=by
 refine ret (RT sN ⟨.func (.func 138) #[] #[ai (some ⟨k0,0,none⟩),ai (some ⟨k4,0,none⟩)],rfl⟩ (λv w'=>v=ao (ns.any λo=>!Fe xs n o)/\aA [] w w') w ?_);refine(RU sN ⟨.func (.func 138) #[] #[ai (some ⟨k0,0,none⟩),ai (some ⟨k4,0,none⟩)],rfl⟩ (λv w'=>(∃i:Int,v=O ae i/\decide (i>=0)=ns.any λo=>!Fe xs n o)/\aA [] w w') w ?_).mono (by
  rintro _ w' ⟨v,rfl,⟨i,rfl,hi⟩,hO⟩;exact⟨i,rfl,by rw[hi],hO⟩)
 have hl:=hN.len;have QD:=hN.cap;have xt:=hN.big;refine⟨λkv i u=>∃j:Nat,i=(j:Int)/\kv+j=ns.length/\j<=ns.length/\((ns.take j).any λo=>!Fe xs n o)=false/\aA [] w u,ns.length,⟨0,rfl,aG,bh _,rfl,Only.refl _ _⟩,?_⟩;rintro kv _ u ⟨j,rfl,sJ,hj,hh,hO⟩;refine⟨λhc=>?_,λhc=>?_⟩
 ·have hc:=aP hc;obtain⟨ad,y,cs,g1,g2,g3,g4,g5,g6⟩:=(SliceF.only bF aN hN hO aac).get (bD j) aG;rw[aU]at g2;obtain⟨rfl,hy⟩:=g6;have hym:=bB g2;refine⟨ad,g1,y,g5,138,[],[ai (some ⟨k0,0,none⟩),ai (some ⟨k4,0,none⟩)],rfl,eU (by kernel_rfl),(abY (h.o0 hO) hn (hns y hym) (hO.blk h0 aac) (hO.blk h4 aac)).mono ?_⟩;rintro _ u1 ⟨rfl,cG⟩;refine⟨_,rfl,λhb=>⟨⟨j,rfl,?_⟩,hO.cr cG⟩,λhb=>⟨kv-1,aG,j+1,aad,aG,aG,?_,hO.cr cG⟩⟩
  ·rw[bJ (by omega:(j:Int)>=0)];exact(fz.2 ⟨y,hym,hb⟩).symm
  rw[bE,g2,Vh,hh];simpa using hb
 have hc:=aX hc;rw[bq aG]at hh;exact⟨⟨-1,rfl,by rw[hh];rfl⟩,hO⟩
theorem Xc(hF:Fo xs){n:aJ}(h:¬gJ xs n<1):pu xs (Cp xs n):=by
 rcases mU xs n with⟨e,_⟩ | ⟨j,x,e,hx,_⟩
 ·omega
 have hl:=eS hx;unfold Cp;rw[e,fZ hx,jr hx];split
 ·obtain⟨p,_,h1,h2,_⟩:=hF.par hx aG;exact⟨aG,aG⟩
 exact⟨aG,aG⟩
theorem dd.kp{B:Nat}{w w':ay}{s:Sl}{l:List Int}(h:dd B w s l)(hO:aA [] w w'):dd B w' s l:=Own.keep bF h λk _ bT=>hO.block k bT aac
theorem ahC(w0:ay){u:ay}{s:Sl}{is:List Int}(h:dd w0.heap.size u s is)(hO:aA [] w0 u)(n:Int)(hn:rf n)(hm:is.length<=20000000):
  ∃y w1,(aw 33 1 #[.mk 0 (O ae n)]).run au u=.ok (Sl.v y) w1/\aA [] u w1/\∃s' w2,(Builtin.append_ #[33,33] 33 #[Sl.v s,Sl.v y]).run au w1=.ok (Sl.v s') w2/\dd w0.heap.size w2 s' (is++[n])/\aA [] w0 w2/\w1.heap.size<=w2.heap.size/\
   (∀k,k<u.heap.size->s.a≠some ⟨k,0,none⟩->w2.heap[k]? =w1.heap[k]?)/\∀k,k<u.heap.size->s.a≠some ⟨k,0,none⟩->s'.a≠some ⟨k,0,none⟩:=by
 obtain⟨y,w1,k1,k3,s',w2,g1,g2,⟨gs,g3,g4⟩,g5⟩:=jG (P:=au) (t:=33) (ty:=33) (e:=3) (i:=Tryz.t3) (bytes:=8) (size:=1) (r:=rInt) (G:=λ_=>False) (v:=O ae n) (x:=n) (by kernel_rfl) (by kernel_rfl) rfl rfl rfl rfl aN aN aN bF h hO.size rfl ⟨rfl,hn⟩ (λ_ h=>h.elim) aG;have z3:=k3.size;refine⟨y,w1,k1,k3,s',w2,g1,dd.of g2,((hO.cr k3).mZ (g3.p (F:=λk=>w0.heap.size<=k) λg hg=>.inl (g4 g hg).2.1)).only λk hk=>hk,g3.size,λk hk hs=>g3.block k aG λhg=>hs (g4 k hg).1,λk hk hs e=>?_⟩;rcases g5 with e' | ⟨g,e',h⟩
 ·exact hs (by rw[<-e',e])
 rw[e']at e;injection e with e;injection e with e;omega
theorem H0(l:List Int)(n:aJ)(r:List (aJ)):Qh xs l (n::r)=if gJ xs n<1 then false else if(l.any λo=>!Fe xs (Cp xs n) o)=true then false else Qh xs (l++[Cp xs n]) r:=rfl
theorem Kg(h:Lx w b m0 m1 F s xs vn f){sT:Sl}{tg:List (aJ)}(hT:aD lD 1 w G sT tg)(hm:tg.length<=20000000):aB au 99 #[ai (some ⟨b,0,none⟩),sT.v] w λr w'=>r=aq (ao (Qh xs [] tg))/\aA [] w w':=by
 refine ret (am4 _ _ _ _ ?_);intro k0 w0 gU fD cO;have z0:=cO.size;have DY:=h.lo.lt;have htn:=hT.len;refine⟨λkv l i q u=>∃(j:Nat) (al:List Int),i=(j:Int)/\kv+j=tg.length/\j<=tg.length/\q=some ⟨b,0,none⟩/\dd w.heap.size u l al/\(∀o,o∈al->pu xs o)/\al.length<=j/\Qh xs [] tg=Qh xs al (tg.drop j)/\aA [] w u/\w0.heap.size<=u.heap.size/\l.a≠some ⟨k0,0,none⟩,tg.length,
  ⟨0,[],rfl,rfl,bh _,rfl,Own.nil _ _ _ _ _ _,aac,ba _,rfl,cO,ba _,by intro e;cases e⟩,?_⟩
 rintro kv l _ _ w1 ⟨j,al,rfl,sJ,hj,rfl,hS,IX,jh,sI,cG,z1,ZW⟩;refine⟨λhc=>?_,λhc=>?_⟩
 ·have hc:=aP hc;obtain⟨ad,y,cs,g1,g2,g3,g4,g5,g6⟩:=(SliceF.only dJ aN hT cG aac).get (bD j) aG;rw[aU]at g2;have g6:cs=[ah (T y)]:=g6;subst g6;have h1:=h.o0 cG;have hdr:tg.drop j=y::tg.drop (j+1):=by
   obtain⟨bT,e⟩:=aZ.1 g2;rw[<-e,List.getElem_cons_drop]
  rw[hdr,H0]at sI;refine⟨ad,g1,_,g5,_,rfl,_,Blk.eh h1.lo.blk 0 rfl,(Fl h1 y).mono ?_⟩;rintro _ w2 ⟨rfl,hu⟩;obtain rfl:w1=w2:=hu.symm;refine⟨_,rfl,ci.refl _ _,λhb k3 w3 _ _ dz=>⟨?_,cG.cr dz⟩,λhb k4 w4 zY CM dK=>?_⟩
  ·have hb:=aP hb;rw[sI,bc hb]
  have hb:=aX hb;rw[aY hb]at sI;have Ga:=Xc h.fo hb;have z4:=dK.size;have o4:=cG.cr dK;have N2:dd w.heap.size w4 l al:=hS.kp dK;have hl4:l.a≠some ⟨k4,0,none⟩:=λe=>acD
  refine⟨λq i u=>q=some ⟨b,0,none⟩/\i=Cp xs y/\aA [] w u/\dd w.heap.size u l al/\w4.heap.size<=u.heap.size,?_,_,rfl,λw9 gH=>?_⟩
  ·rintro _ _ w5 ⟨rfl,rfl,o5,N3,z5⟩ sF sS;have h5:=h.o0 o5;refine(abZ h5 Ga (N3.slice bF) IX sF sS).mono ?_;rintro _ w6 ⟨rfl,eH⟩;have z6:=eH.size;have o6:=o5.cr eH;refine⟨_,rfl,_,eH.blk sF aac,_,eH.blk sS aac,λha=>⟨?_,o6⟩,λha=>?_⟩
   ·rw[sI,bc ha]
   rw[aY (by rw[ha];decide)]at sI;have hS6:dd w.heap.size w6 l al:=N3.kp eH;obtain⟨y1,w7,p1,p3,s',w8,q1,q2,q3,z8,q4,q5⟩:=ahC w hS6 o6 (Cp xs y) (Kf Ga h.ln) aG;have z7:=p3.size;refine⟨y1,w7,p1,p3.same aae,s',w8,q1,λk hk=>?_,kv-1,aG,j+1,al++[Cp xs y],aad,aG,aG,rfl,q2,λo ho=>?_,aaE,sI,q3,aG,q5 k0 aG ZW⟩
   ·simp only[aV,bp,cm]at hk;rcases hk with rfl | rfl
    ·exact q4 _ aG ZW
    exact q4 _ aG hl4
   rcases bN.1 ho with ho | ho
   ·exact IX o ho
   simp only[aO]at ho;subst ho;exact Ga
  have z9:=gH.size;have o9:=o4.cr gH;have h9:=h.o0 o9;obtain⟨e,_⟩ | ⟨jx,x,e,hx,_⟩:=mU xs y
  ·omega
  obtain⟨uz,b1,b2,b3,_⟩:=jJ h9.sp hx;rw[e]at hb⊢;refine⟨_,Blk.eh h9.lo.blk 1 rfl,uz,b1,x.k,b2.eh 0 _ rfl,(zT w9 x.k).mono ?_⟩;rintro _ dL ⟨rfl,hu⟩;obtain rfl:w9=dL:=hu.symm;refine⟨_,rfl,ci.refl _ _,λhh=>⟨_,rfl,λdN dX=>?_⟩,λhh=>⟨rfl,?_,o9,N2.kp gH,aG⟩⟩
  ·have D1:=dX.size;have VM:=o9.cr dX;have Jf:=h.o0 VM;obtain⟨ad3,c1,_,c3,_⟩:=jJ Jf.sp hx;refine⟨_,Blk.eh Jf.lo.blk 1 rfl,ad3,c1,x.pa,c3,λeT fk=>⟨rfl,?_,VM.trans fk λk hk=>.inr acI,?_,by have:=fk.size;omega⟩⟩
   ·unfold Cp;rw[e,fZ hx,jr hx,bc hh]
   refine Own.keep bF ((N2.kp gH).kp dX) λk hk bT=>fk.block k bT ?_;simp only[aO];rintro rfl;exact hk.elim (λh=>h) λh=>hl4 h.2
  unfold Cp;rw[e,fZ hx,aY aet]
 have hc:=aX hc;have qT:j=tg.length:=aG
 subst qT;rw[oW (ba _)]at sI;exact⟨by rw[sI];rfl,cG⟩
end
section
variable {w w':ay} {b m0 m1:Nat} {F G:aL} {s:Sl} {xs:List cM} {vn:List (aJ)} {f g:Ft}
theorem H2{l:List Nd}{j}{y}(h:l[j]? =some y):Mx (l.take (j+1))=Mx (l.take j)+if fU y.b.k=true then 0 else 1:=by
 unfold Mx;rw[bE,h,eC,aW];simp[Option.toList,mz,eI];cases fU y.b.k<;>simp
theorem ab0 l:Mx l<=l.length:=cu _ _
theorem Td{D:Nat}{bb}{ks}{cs}(hx:pM false (D+1) w G (.mk bb ks) cs)(hG:∀k,G k->k≠b)(h:Lx w b m0 m1 F s xs vn f){n:Nat}(hn:n<xs.length):
  aB au 96 #[ai (some ⟨b,0,none⟩),aj cs.toArray,O ae (n:Int)] w λr w'=>r=aq (ak #[])/\Lx w' b m0 m1 F s xs vn (pT f (zQ xs bb ks n))/\aA [b] w w':=by
 obtain⟨en,lv,mv,kids,oP,_,gU⟩:=hx;have hk:=gU.1;dsimp[Nd.kids,Nd.b]at hk oP;subst oP;refine ret (amY _ _ _ _ _ _ _ _ _ _ _ _ _ ?_);intro k0 w0 gU fD cO;have z0:=cO.size;have DY:=h.lo.lt;have KN:=hk.len;have ayM:=hk.cap;have ayN:=hk.big;have U2:k0≠b:=aG
 refine⟨λkv c bg i u=>∃j:Nat,i=(j:Int)/\kv+j=ks.length/\j<=ks.length/\c=(Mx (ks.take j):Nat)/\bg=HJ bb.ini (ks.take j)/\aA [] w u/\w0.heap.size<=u.heap.size,ks.length,⟨0,rfl,aG,bh _,rfl,rfl,cO,ba _⟩,?_⟩;rintro kv _ _ _ w1 ⟨j,rfl,sJ,hj,rfl,rfl,cG,z1⟩;refine⟨λhc=>?_,λhc=>?_⟩
 ·have hc:=aP hc;obtain⟨ad,y,ds,a1,a2,a3,a4,a5,a6⟩:=(SliceF.only (cX false D) aN hk cG aac).get (bD j) aG;rw[aU]at a2;obtain⟨D',rfl⟩:∃D',D=D'+1:=by
   cases D with
   | zero=>exact a6.elim
   | succ D'=>exact⟨D',rfl⟩
  obtain⟨zx,zy,uA,lR,rfl,_⟩:=a6;have lH:=ab0 (ks.take j);have sQ:(ks.take j).length<=j:=ac9
  refine⟨ad,a1,_,_,_,_,zx,zy,uA,lR,_,a5,λk3 w2 zr xi dk=>?_⟩;have z2:=dk.size;refine⟨λc u=>c=(Mx (ks.take (j+1)):Nat)/\aA [] w2 u,?_,(zT w2 y.b.k).mono ?_⟩
  ·rintro _ w3 ⟨rfl,dz⟩;have z3:=dz.size;refine⟨kv-1,aG,j+1,aad,aG,aG,rfl,?_,(cG.cr dk).cr dz,aG⟩;unfold HJ;rw[bE,a2,Vh,mM];simp
  rintro _ w4 ⟨rfl,hu⟩;obtain rfl:w2=w4:=hu.symm;refine⟨_,rfl,ci.refl _ _,λhh=>⟨?_,Only.refl _ _⟩,λhh=>⟨?_,Only.refl _ _⟩⟩
  ·rw[gx aG aG,H2 a2,aY (by intro e;rw[e]at hh;cases hh)];rfl
  rw[H2 a2,bc adi];rfl
 have hc:=aX hc;have qT:j=ks.length:=aG
 subst qT;rw[bq (ba _)];have h1:=h.o0 cG;have q0:∀u,((T u).toList==(ar #[]).toList)=decide (u=[]):=λu=>mM u [];refine(zT w1 bb.k).mono ?_;rintro _ w5 ⟨rfl,hu⟩;obtain rfl:w1=w5:=hu.symm;refine⟨_,rfl,ci.refl _ _,λhh w6 eH=>?_,λhh=>⟨λhp=>?_,λhp=>⟨λhs=>?_,λhs=>?_⟩⟩⟩
 ·have z6:=eH.size;have o6:=cG.cr eH;have h6:=h.o0 o6;have esh:zQ xs bb ks n=bad (stM xs bb.dft&&jq xs (gJ xs bb.dft) (Fc xs n)) 26 bb.a:=by unfold zQ;rw[bc hh]
  refine⟨_,Blk.eh h6.lo.blk 0 rfl,(Fl h6 bb.dft).mono ?_⟩;rintro _ w7 ⟨rfl,hu⟩;obtain rfl:w6=w7:=hu.symm;refine⟨_,rfl,ci.refl _ _,λu=>Lx u b m0 m1 F s xs vn (pT f _)/\aA [b] w u,λu h=>⟨rfl,h.1,h.2⟩,λw9 gH=>?_⟩;have z9:=gH.size;have o9:=o6.cr gH;have h9:=h.o0 o9;refine⟨λk=>k=k0,rfl,(HY h9 (by rcases BD xs bb.dft with h | _<;>omega)).mono ?_⟩;rintro _ dL ⟨rfl,hu⟩;obtain rfl:w9=dL:=hu.symm;obtain⟨x,hx⟩:=fL hn;obtain⟨ad,a1,a2,a3,_⟩:=jJ h9.sp hx;refine⟨_,rfl,ci.refl _ _,bS.refl _ _,λhb=>⟨s,Blk.eh h9.lo.blk 1 rfl,s,Blk.eh h9.lo.blk 1 rfl,ad,a1,x.pa,a3,(uo h9.sp h9.fo _ x.pa).mono ?_⟩,λhb=>(lw h9 false 26 bb.a).mono ?_⟩
  ·rintro _ dN ⟨rfl,hu⟩;obtain rfl:w9=dN:=hu.symm;refine⟨_,rfl,ci.refl _ _,bS.refl _ _,(lw h9 _ 26 bb.a).mono ?_⟩;rintro _ eT ⟨rfl,F7,fk⟩;refine⟨rfl,fk.same aae,Fm fk U2,?_,tK (zh o9) fk⟩;have e1:Ka xs (gJ xs bb.dft) x.pa=jq xs (gJ xs bb.dft) x.pa:=by rw[bW,wH,lr]
   rw[esh,jr hx,<-e1,show stM xs bb.dft=true from hb,cT];exact F7
  rintro _ fI ⟨rfl,vI,ez⟩;refine⟨rfl,ez.same aae,Fm ez U2,?_,tK (zh o9) ez⟩;rw[esh,show stM xs bb.dft=false from hb,eN];exact vI
 ·have hp:=aeJ
  have esh:zQ xs bb ks n=bad (decide (bb.ini=[])&&decide (1<Mx ks)) 25 bb.a:=by unfold zQ;rw[aY aet,bc hp]
  rw[q0,show decide ((Mx ks:Int)>1)=decide (1<Mx ks)from ga.2 aG];refine(lw h1 _ 25 bb.a).mono ?_;rintro _ fS ⟨rfl,h14,ey⟩;exact⟨rfl,ey.same aae,rfl,by rw[esh];exact h14,tK (zh cG) ey⟩
 ·have hp:=aeJ
  have hs:=aP hs;have esh:zQ xs bb ks n=bad (HJ bb.ini ks) 25 bb.a:=by unfold zQ;rw[aY aet,aY hp,bc aG]
  refine(lw h1 _ 25 bb.a).mono ?_;rintro _ fS ⟨rfl,h14,ey⟩;exact⟨rfl,ey.same aae,rfl,by rw[esh];exact h14,tK (zh cG) ey⟩
 have hp:=aeJ
 have hs:=aX hs;have esh:zQ xs bb ks n=bad (decide (bb.ini=[])) 25 bb.a++bad (decide (ks.length=0)) 26 bb.a:=by unfold zQ;rw[aY aet,aY hp,aY aG]
 rw[q0];refine(lw h1 _ 25 bb.a).mono ?_;rintro _ io ⟨rfl,h16,ic⟩;have z16:=ic.size;have e0:((kids.n:Int)==0)=decide (ks.length=0):=by rw[KN,bW];simp
 rw[e0];refine⟨rfl,ic.same aae,(lw h16 _ 26 bb.a).mono ?_⟩;rintro _ gn ⟨rfl,QB,iZ⟩;exact⟨rfl,iZ.same aae,rfl,by rw[esh,jI];exact QB,tK (tK (zh cG) ic) iZ⟩
theorem ahD u l:∃y w1,(aw 208 1 #[.mk 0 l.v]).run au u=.ok (Sl.v y) w1/\aA [] u w1/\aD HZ 1 w1 (λ_=>True) y [l]:=by
 obtain⟨y,w1,k1,k2,k3,_⟩:=jv (P:=au) (t:=208) (e:=23) (i:=Tryz.t23) (z:=Sl.nil.v) (w:=u) (F:=λ_=>False) (vs:=[l.v]) (parts:=#[.mk 0 l.v]) (len:=1) (xs:=[l]) (r:=HZ) (size:=1) (by kernel_rfl) (by kernel_rfl) rfl rfl aN rfl rfl aN aN rH ⟨⟨rfl,rfl⟩,trivial⟩;exact⟨y,w1,k1,k3,(k2.slice rH).mono rH λ_ _=>trivial⟩
theorem ahE u l m:∃y w1,(aw 208 2 #[.mk 0 l.v,.mk 1 m.v]).run au u=.ok (Sl.v y) w1/\aA [] u w1/\aD HZ 1 w1 (λ_=>True) y [l,m]:=by
 obtain⟨y,w1,k1,k2,k3,_⟩:=jv (P:=au) (t:=208) (e:=23) (i:=Tryz.t23) (z:=Sl.nil.v) (w:=u) (F:=λ_=>False) (vs:=[l.v,m.v]) (parts:=#[.mk 0 l.v,.mk 1 m.v]) (len:=2) (xs:=[l,m]) (r:=HZ) (size:=1) (by kernel_rfl) (by kernel_rfl) rfl rfl aN rfl rfl aN aN rH ⟨⟨rfl,rfl⟩,⟨rfl,rfl⟩,trivial⟩;exact⟨y,w1,k1,k3,(k2.slice rH).mono rH λ_ _=>trivial⟩
theorem Te:∀D {w:ay} {x:Nd} {cs:aK} {f:Ft} {n:Nat},pM false D w G x cs->(∀k,G k->k≠b)->Lx w b m0 m1 F s xs vn f->n+jk x<=xs.length->pz x<=8388608->
  aB au 59 #[ai (some ⟨b,0,none⟩),aj cs.toArray,O ae n] w λr w'=>r=aq (O ae ((n+jk x:Nat):Int))/\Lx w' b m0 m1 F s xs vn (pT f (SD xs vn n x))/\aA [b] w w'
 | 0,_,_,_,_,_,h,_,_,_,_=>h.elim
 | D+1,w,.mk bb ks,cs,f,n,hx,hG,h,hn,hz=>by
  have hx0:=hx;obtain⟨en,lv,mv,kids,oP,⟨F8,IV,sR⟩,gU⟩:=hx;have hk:=gU.1;have F8:=F8.1;have IV:=IV.1;have sR:=sR.1;clear gU;dsimp only[Nd.kids,Nd.b]at hk oP F8 IV sR;subst oP;rw[jk]at hn;rw[pz]at hz;have X2:=hz;unfold HU at X2;have VB:=oB bb.en;have KK:=oB bb.lv;have KN:=hk.len;have Cs:=sR.len;have N4:=h.ln;have ayO:=sR.cap;have ayP:=sR.big;have ayQ:=tG ks;refine ret (amX _ _ _ _ _ _ _ _ _ _ _ _ _ ?_);intro k0 w0 gU fD cO;have z0:=cO.size;have DY:=h.lo.lt;have U2:k0≠b:=aG
  have tr:∀{u v:ay},aA [b] w u->aA [b] u v->aA [b] w v:=λh g=>tK h g;refine(Td ((cX false (D+1)).keep hx0 λk hk bT=>cO.block k bT aac) hG (h.o0 cO) (n:=n) aG).mono ?_;rintro _ w1 ⟨rfl,h1,cG⟩;have z1:=cG.size;have o1:=tr (zh cO) cG;obtain⟨y,w2,p1,p2,p3⟩:=ahE w1 en lv;have z2:=p2.size;have o2:=o1.cr p2;have row:∀{u:ay} {sl:Sl} {l:List Ac},aD (uT false) 9 w G sl l->aA [b] w u->aD (uT false) 9 u G sl l:=λhs hO=>SliceF.only (dT false) aN hs hO λk hk _ hm=>hG k hk abz;refine⟨rfl,cG.same aae,y,w2,p1,p2.same aae,(M6 (l:=[(en,bb.en),(lv,bb.lv)]) p3 (λp hp=>?_) ?_ hG (h1.o0 p2)).mono ?_⟩
  ·simp only[aV,bp,cm]at hp;rcases hp with rfl | rfl
   ·exact row F8 o2
   exact row IV o2
  ·unfold mo;simp;omega
  rintro _ w3 ⟨rfl,h3,dz⟩;have z3:=dz.size;have o3:=tr o2 dz;have aef:mo [(en,bb.en),(lv,bb.lv)]=bb.en++bb.lv:=by unfold mo;simp
  rw[aef]at h3;refine⟨rfl,dz.same aae,λkv i u=>∃j:Nat,i=(j:Int)/\kv+j=bb.mv.length/\j<=bb.mv.length/\Lx u b m0 m1 F s xs vn (pT f (zQ xs bb ks n++(uG xs vn (bb.en++bb.lv)++(bb.mv.take j).flatMap (HI xs vn))))/\aA [b] w u/\w0.heap.size<=u.heap.size,bb.mv.length,
   ⟨0,rfl,aG,bh _,by rw[de,List.flatMap_nil,bQ,jI];exact h3,o3,aG⟩,?_⟩
  rintro kv _ w4 ⟨j,rfl,sJ,hj,h4,o4,z4⟩;refine⟨λhc=>?_,λhc=>?_⟩
  ·have hc:=aP hc;obtain⟨ad,m,ds,a1,a2,a3,a4,a5,a6⟩:=(SliceF.only (ni false) aN sR o4 λk hk _ hm=>hG k hk abz).get (bD j) aG;rw[aU]at a2;obtain⟨gc,uK,tg,rfl,hgx,Je,sI⟩:=a6;obtain⟨gs,rfl⟩:=jo hgx;have Je:=Je.1;have sI:=sI.1;have hmz:=wC (bB a2);unfold OW at hmz;have IX:=oB m.acts;have ux:=Fj m.tg;have Uy:=h4.lo.lt;refine⟨ad,a1,_,_,_,_,_,_,_,_,gs,_,uK,tg,_,a5,λk3 w5 zr xi eJ=>?_⟩;have z5:=eJ.size;have h5:=h4.o0 eJ;have aqL:k3≠b:=aG
   refine(lw h5 (ahp m) 28 m.a).mono ?_;rintro _ w6 ⟨rfl,h6,eH⟩;have z6:=eH.size;obtain⟨d,hxd⟩:=hgx;refine⟨rfl,eH.same aae,(Fp d ((kR false d).keep hxd λk hk bT=>?_) hG h6).mono ?_⟩
   ·exact(eH.block k aG (by simpa using hG k hk)).trans (eJ.block k bT aac)
   rintro _ w7 ⟨rfl,h7,fN⟩;have z7:=fN.size;obtain⟨y8,w8,q1,q2,q3⟩:=ahD w7 uK;have z8:=q2.size;have s7:aA [b] w5 w7:=tK eH fN;have s8:aA [b] w4 w8:=(tK (zh eJ) s7).cr q2;refine⟨rfl,fN.same aae,y8,w8,q1,q2.same aae,(M6 (l:=[(uK,m.acts)]) q3 (λp hp=>?_) ?_ hG (h7.o0 q2)).mono ?_⟩
   ·simp only[aO]at hp;subst hp;exact SliceF.only (dT false) aN Je s8 λk hk _ hm=>hG k hk abz
   ·unfold mo;simp only[vO,List.flatMap_nil,bQ];omega
   rintro _ w9 ⟨rfl,h9,gH⟩;have z9:=gH.size;have aef:mo [(uK,m.acts)]=m.acts:=by unfold mo;simp
   rw[aef]at h9;refine⟨rfl,gH.same aae,λdL dW=>⟨λk=>k=k3,rfl,?_⟩⟩;have PM:=dW.size;have PH:aA [b] w4 dL:=(tK s8 gH).cr dW;refine(Kg (h9.o0 dW) (SliceF.only dJ aN sI PH λk hk _ hm=>hG k hk abz) aG).mono ?_;rintro _ dN ⟨rfl,dX⟩;have D1:=dX.size;refine⟨_,rfl,dX.same aae,bS.only dX,(lw ((h9.o0 dW).o0 dX) _ 27 m.a).mono ?_⟩;rintro _ eT ⟨rfl,F7,fk⟩;have z12:=fk.size;refine⟨rfl,fk.same aae,Fm fk aqL,kv-1,aG,j+1,aad,aG,aG,?_,tr o4 (tK (PH.cr dX) fk),aG⟩;have e1:(bb.mv.take (j+1)).flatMap (HI xs vn)=(bb.mv.take j).flatMap (HI xs vn)++HI xs vn m:=by
    rw[bE,a2,fO];simp
   have e2:zQ xs bb ks n++(uG xs vn (bb.en++bb.lv)++((bb.mv.take j).flatMap (HI xs vn)++HI xs vn m))=(zQ xs bb ks n++(uG xs vn (bb.en++bb.lv)++(bb.mv.take j).flatMap (HI xs vn)))++HI xs vn m:=by simp only[bP]
   rw[e1,e2,jI,HI,jI,jI,jI];exact F7
  have hc:=aX hc;have qT:j=bb.mv.length:=aG
  subst qT;rw[bq (ba _)]at h4;refine⟨λkv a i u=>∃j:Nat,i=(j:Int)/\kv+j=ks.length/\j<=ks.length/\a=((n+1+ff (ks.take j):Nat):Int)/\Lx u b m0 m1 F s xs vn (pT f (zQ xs bb ks n++(uG xs vn (bb.en++bb.lv)++(bb.mv.flatMap (HI xs vn)++rF xs vn (n+1) (ks.take j)))))/\aA [b] w u/\w0.heap.size<=u.heap.size,ks.length,
   ⟨0,rfl,aG,bh _,aad,by rw[de,rF,bQ];exact h4,o4,z4⟩,?_⟩
  rintro kv _ _ fI ⟨j,rfl,sJ,hj,rfl,vI,o13,VK⟩;refine⟨λhc=>?_,λhc=>?_⟩
  ·have hc:=aP hc;obtain⟨ad,y,ds,a1,a2,a3,a4,a5,a6⟩:=(SliceF.only (cX false D) aN hk o13 λk hk _ hm=>hG k hk abz).get (bD j) aG;rw[aU]at a2;have Yx:=a6;obtain⟨D',rfl⟩:∃D',D=D'+1:=by
    cases D with
    | zero=>exact a6.elim
    | succ D'=>exact⟨D',rfl⟩
   obtain⟨zx,zy,uA,lR,rfl,_⟩:=Yx;have kA:=qB a2;have hzy:=qD (bB a2);refine⟨ad,a1,_,_,_,_,zx,zy,uA,lR,_,a5,λk7 fS hk7 ad5 ey=>?_⟩;have z14:=ey.size;have Yi:=vI.lo.lt;refine(Te (D'+1) ((cX false (D'+1)).keep a6 λk _ bT=>ey.block k bT aac) hG (vI.o0 ey) (n:=n+1+ff (ks.take j)) aG aG).mono ?_;rintro _ ia ⟨rfl,QC,iY⟩;have z15:=iY.size;have e:ks.take (j+1)=ks.take j++[y]:=aeN
   refine⟨_,rfl,iY.same aae,kv-1,aG,j+1,aad,aG,aG,?_,?_,tr (o13.cr ey) iY,aG⟩
   ·have:ff (ks.take (j+1))=ff (ks.take j)+jk y:=by rw[e,Bm,ff,ff];omega
    omega
   have e2:zQ xs bb ks n++(uG xs vn (bb.en++bb.lv)++(bb.mv.flatMap (HI xs vn)++(rF xs vn (n+1) (ks.take j)++SD xs vn (n+1+ff (ks.take j)) y)))=(zQ xs bb ks n++(uG xs vn (bb.en++bb.lv)++(bb.mv.flatMap (HI xs vn)++rF xs vn (n+1) (ks.take j))))++SD xs vn (n+1+ff (ks.take j)) y:=by simp only[bP]
   rw[e,HK,rF,rF,bQ,e2,jI];exact QC
  have hc:=aX hc;have qT:j=ks.length:=aG
  subst qT;rw[bq (ba _)]at vI⊢;refine⟨?_,by rw[SD];exact vI,o13⟩;rw[jk];congr 2;omega
end
def jK(c:Ch):Ft:=if(gN c).2≠0 then((gN c).2, -1)else pT (0,0) (HL c)
theorem H3{w}{F}{D}{c}{vs}{cs}(hx:ChR false (D+1) w F c vs cs)(hn:Yq c)(hs:sB c.vars+pz c.root<=8388608)(hE:Er w)(hT:Tb w):
  aB au 20 #[aj (vs.v::cs).toArray] w λe w'=>e=aq (aj #[O ae (jK c).1,O ae (jK c).2])/\aA [] w w':=by
 have hxr:=hx.root;obtain⟨en,lv,mv,kids,oP,_⟩:=hx.root;subst oP;refine ret (amU _ _ _ _ _ _ _ _ _ _ _ _ ?_);intro k0 k1 w0 gU fD kc jO cO;have z0:=cO.size;have keep:∀{u:ay},aA [] w u->ChR false (D+1) u F c vs (oL c.root.b.k c.root.b.nm c.root.b.ini c.root.b.dft en lv mv kids c.root.b.a):=λhO=>⟨hx.vars.keep gC aN λk _ bT=>hO.block k bT aac,(cX false _).keep hx.root λk _ bT=>hO.block k bT aac⟩
 refine(S4 (keep cO) hn hs (hE.only cO) (hT.only cO)).mono ?_;rintro _ w1 ⟨⟨t,rfl,ht,_⟩,cG⟩;have z1:=cG.size;have o1:=cO.cr cG;refine⟨_,_,rfl,cG.same aae,λhc w2 dk=>?_,λhc=>?_⟩
 ·have hc:(gN c).2≠0:=aai
  unfold jK;rw[bc hc];exact⟨rfl,o1.trans dk λk hk=>.inr acI⟩
 have hc:(gN c).2=0:=aai
 have elm:jK c=pT (0,0) (HL c):=by unfold jK;rw[aY (λh=>h hc)]
 rw[elm];have ht:=ht hc;have hnd:=xW hc;obtain⟨r3,hM3,dz⟩:=MapV.make (P:=au) (mty:=115) (kv:=kS) (g:=gS) w1;have hl3:=hM3.lt;refine⟨_,_,r3,dz.same aae,?_⟩;generalize w1.alloc (.map #[] 0)=w3 at*
 obtain⟨r4,hM4,dK⟩:=MapV.make (P:=au) (mty:=115) (kv:=kS) (g:=gS) w3;have hl4:=hM4.lt;have z3:=dz.size;refine⟨_,_,r4,dK.same aae,?_⟩;intro b w5 hb jL eJ xb;have z5:=eJ.size;have o5:=((o1.cr dz).cr dK).cr eJ;have hL5:Lo w5 b w1.heap.size w3.heap.size Sl.nil [] [] (0,0):=⟨xb,(((hM3.only dK aac).only eJ aac).ext λk=>rfl).le (ba _),((hM4.only eJ aac).ext λk=>rfl).le (ba _),aG,aG⟩
 have hxh:pM false (D+1) w (λk=>k<w.heap.size) c.root (oL c.root.b.k c.root.b.nm c.root.b.ini c.root.b.dft en lv mv kids c.root.b.a):=(cX false _).mono ((cX false _).inHeap hxr) λk hk=>hk.2;have hvh:aD Vl 3 w (λk=>k<w.heap.size) vs c.vars:=(hx.vars.1.inHeap gC aN).mono gC λk hk=>hk.2;refine(S9 (D+1) ((cX false _).keep hxh λk hk bT=>o5.block k bT aac) (λk hk=>aG) hL5 (Own.nil _ _ _ _ _ _) aG ad1).mono ?_;rintro _ w6 ⟨rfl,s6,P1,hS6,m6⟩;have z6:=m6.1.size;rw[cF]at P1;have enm:=(SC 0 (-1) 0 c.root).symm;rw[enm]at P1;have p6:aF (λk=>w1.heap.size<=k) w w6:=(o5.p0).trans m6.1 λk hk=>.inl (hk.elim (λh=>aG) λh=>aal);have s56:ci [k0,k1] w5 w6:=m6.1.same λx hx=>by
  simp at hx;rcases hx with rfl | rfl
  ·exact⟨aG,λh=>h.elim aG λh=>aal⟩
  exact⟨aG,λh=>h.elim aG λh=>aal⟩
 have hvl:=hvh.len;have hvz:=BB c.vars;refine⟨rfl,s56,_,s6,_,_,_,P1.blk,λkv i p l q x y u=>∃(j:Nat) (f:Ft),i=(j:Int)/\kv+j=c.vars.length/\j<=c.vars.length/\p=some w1.heap.size/\q=some w3.heap.size/\f=(x,y)/\Lo u b w1.heap.size w3.heap.size l ((cx c).map λx:cM=>x.nm) ((Gm c).take j) f/\f=pT (0,0) (yM [] (OO c.root)++yM [] ((c.vars.take j).map λv=>(v.n,v.a)))/\aF (λk=>w1.heap.size<=k) w u/\aF (λk=>k=b∨k=w3.heap.size) w6 u,c.vars.length,
  ⟨0,_,rfl,aG,bh _,rfl,rfl,rfl,P1,by rw[de,fV,yM,bQ],p6,OnlyP.refl _ _⟩,?_⟩
 rintro kv _ _ l2 _ _ _ w7 ⟨j,f,rfl,sJ,hj,rfl,rfl,hf,F9,hfe,p7,p67⟩;have z7:=p67.size;refine⟨λbT=>?_,λlz=>?_⟩
 ·have bT:=aP bT;obtain⟨ad,v,ds,a1,a2,a3,a4,a5,a6⟩:=(SliceF.nP gC aN hvh p7 λk hk _=>aG).get (bD j) aG;rw[aU]at a2;have a6:ds=[ah (T v.n),O ae v.v,O ae v.a]:=a6;subst a6;have yV:=BA (bB a2);have hgv:gS v.n:=by
   show v.n.length<=maxLen;have:maxLen=9223372036854775807:=rfl;omega
  have iA:((Gm c).take j).length=j:=by rw[cJ];unfold Gm;rw[bA];omega
  refine⟨ad,a1,_,_,_,a5,λk5 w8 CN F5 fX ve=>?_⟩;have z8:=fX.size;have NU:=F9.lt;have c9:=S8 (F9.o0 fX) hgv v.a;rw[iA]at c9;refine c9.mono ?_;rintro _ w9 ⟨rfl,hL9,gH⟩;have z9:=gH.size;have ev:(Gm c).take (j+1)=(Gm c).take j++[v.n]:=by
   rw[bE];unfold Gm;rw[ch,a2];rfl
  refine⟨rfl,gH.same aae,_,_,_,_,_,hL9.blk,kv-1,aG,j+1,_,aad,aG,aG,rfl,rfl,rfl,by rw[ev];exact hL9,?_,(p7.cr fX).trans (gH.p (F:=λk=>w1.heap.size<=k) λk hk=>.inl (by simp at hk;omega)) λk hk=>.inl hk,(p67.cr fX).trans (gH.p (F:=λk=>k=b∨k=w3.heap.size) λk hk=>.inl aas) λk hk=>.inl hk⟩;rw[hfe,<-jI];have ed:yM [] ((c.vars.take (j+1)).map λv=>(v.n,v.a))=yM [] ((c.vars.take j).map λv=>(v.n,v.a))++bad (!decide (v.n∈(Gm c).take j)) 24 v.a:=by
   rw[bE,a2,dh,Ff,cF];simp only[Option.toList,bH,fV,yM,bQ,iK];unfold Gm;rw[<-nC];rfl
  rw[ed,bP]
 have lz:=aX lz;have qT:j=c.vars.length:=aG
 subst qT;intro dL dW uJ n0 n1;have PM:=dW.size;have hvt:(Gm c).take c.vars.length=Gm c:=bq (by unfold Gm;rw[bA];exact ba _);rw[hvt]at F9;rw[bq (ba _)]at hfe;have U4:Lo dL b w1.heap.size w3.heap.size t ((cx c).map λx:cM=>x.nm) (Gm c) f:=F9.nZ dW (by subst hf;exact uJ);have p10:=p7.trans (dW.p (F:=λk=>w1.heap.size<=k) λk hk=>.inl acI) λk hk=>.inl hk;have xx:aD nN 5 dL (λk=>k<w1.heap.size) t (cx c):=by
  have q5:aA [] w1 w5:=(dz.cr dK).cr eJ;have h1:=SliceF.only db aN ((ht.sl.inHeap db aN).mono db (G:=λk=>k<w1.heap.size) λk hk=>hk.2) q5 aac;have h3:=SliceF.nP db aN (SliceF.nP db aN h1 m6.1 λk hk _ h=>h.elim aG λh=>aal) p67 λk hk _ h=>aG
  exact SliceF.only db aN h3 dW λk hk _ hm=>by simp at hm;omega
 have hX:Lx dL b w1.heap.size w3.heap.size (λk=>k<w1.heap.size) t _ _ f:=⟨U4,xx,Fb c,by unfold cx;rw[mE];exact hnd,λk hk=>aG⟩
 refine(Te (n:=0) _ ((cX false _).keep hxh λk hk bT=>p10.block k bT aG) (λk hk=>aG) hX (by unfold cx;rw[mE];omega) aG).mono ?_;rintro _ dN ⟨rfl,Jf,dX⟩;have D1:=dX.size;have hg:pT f (SD (cx c) (Gm c) 0 c.root)=pT (0,0) (HL c):=by
  rw[hfe,<-jI,bP];rfl
 rw[hg]at Jf;refine⟨_,rfl,dX.same aae,_,_,_,_,_,Jf.lo.blk,λeT fk _=>⟨rfl,?_⟩⟩;have p11:=(p10.mono λk _ hk=>aG).trans (dX.p (F:=λk=>w.heap.size<=k) λk hk=>.inl (by simp at hk;omega)) λk hk=>.inl hk;exact(p11.only λk hk=>hk).trans fk λk hk=>.inr (by simp at hk;omega)
def nq(l:aJ):Ft:=if(eO l).2.1=0 then jK (eO l).1 else(eO l).2
def xX(l:aJ):Ch:=if(nq l).1=0 then(eO l).1 else ch0
theorem Xd{w:ay}(l:aJ)(hn:Yq (eO l).1)(hs:sB (eO l).1.vars+pz (eO l).1.root<=8388608)(hE:Er w)(hT:Tb w):aB au 19 #[ah (T l)] w λe w'=>
  ∃(vs:Sl) (cs:aK),e=aq (ak #[aj (vs.v::cs).toArray,aj #[O ae (nq l).1,O ae (nq l).2]])/\ChR true 15 w' (Fr w.heap.size) (xX l) vs cs/\aA [] w w':=by
 refine(amT (T l) (λv w'=>∃(vs:Sl) (cs:aK),v=(ak #[aj (vs.v::cs).toArray,aj #[O ae (nq l).1,O ae (nq l).2]])/\ChR true 15 w' (Fr w.heap.size) (xX l) vs cs/\aA [] w w') w ?_).mono (by
  rintro e w' ⟨v,rfl,vs,cs,rfl,h⟩;exact⟨vs,cs,rfl,h⟩)
 intro k0 k1 w0 gU fD kc jO cO;have z0:=cO.size;refine(HO l (hE.only cO)).mono ?_;rintro _ w1 ⟨vs,cs,rfl,hC,cG⟩;have z1:=cG.size;have o1:=cO.cr cG;obtain⟨xe,xl,xm,xk,rfl,_⟩:=hC.root;refine⟨vs,_,_,_,_,xe,xl,xm,xk,_,_,_,rfl,cG.same aae,λk2 k3 w2 vf xh zr xi dk=>?_⟩;have z2:=dk.size;have o2:=o1.cr dk;have kC:∀{u:ay},aA [] w1 u->ChR true 15 u (Fr w0.heap.size) (eO l).1 vs (oL (eO l).1.root.b.k (eO l).1.root.b.nm (eO l).1.root.b.ini (eO l).1.root.b.dft xe xl xm xk (eO l).1.root.b.a):=fun{u} hO=>
  ⟨hC.vars.keep gC aN λk _ bT=>hO.block k bT aac,(cX true 15).keep hC.root λk _ bT=>hO.block k bT aac⟩
 have fin:∀{u v:ay},aA [] w u->aA [k1,k0] u v->aA [] w v:=λh1 h2=>h1.trans h2 λx hx=>.inr aam;refine⟨λa b u=>(a,b)=nq l/\aA [] w1 u/\w2.heap.size<=u.heap.size,?_,λhc=>?_,λhc=>⟨?_,dk,ba _⟩⟩
 ·rintro a b w3 ⟨he,dz,z3⟩;have e1:(nq l).1=a:=by rw[<-he]
  have e2:(nq l).2=b:=by rw[<-he]
  refine⟨λhc w4 dK n1 n2 n3 n4 n5 n6=>⟨λk=>k=k3,rfl,?_,?_,λw5 eJ=>⟨Sl.nil,_,by rw[e1,e2],?_,fin ((o1.cr dz).cr dK) eJ⟩⟩,λhc w6 eH n1 n2 n3 n4 n5 n6=>⟨λk=>k=k3,rfl,?_,?_,λw7 fN=>⟨vs,_,by rw[e1,e2],?_,fin ((o1.cr dz).cr eH) fN⟩⟩⟩
  ·exact λh=>n3 h
  ·exact λh=>n5 h
  ·have hc:a≠0:=aai
   unfold xX;rw[e1,aY hc];exact⟨j5.nil _ _ _ _ _ _,SK aN w5 _⟩
  ·exact λh=>n3 h
  ·exact λh=>n5 h
  have hc:a=0:=aai
  unfold xX;rw[e1,bc hc];have hC6:=kC (dz.cr eH);have ap:∀k,Fr w0.heap.size k->k∉[k1,k0]:=λk (hk:w0.heap.size<=k)=>aae
  have lo:∀k,Fr w0.heap.size k->Fr w.heap.size k:=λk (hk:w0.heap.size<=k)=>(by omega:w.heap.size<=k)
  exact⟨(hC6.vars.keep gC aN λk hk bT=>fN.block k bT (ap k hk)).mono gC lo,(cX true 15).mono ((cX true 15).keep hC6.root λk hk bT=>fN.block k bT (ap k hk)) lo⟩
 ·have hc:(eO l).2.1=0:=aai
  refine(H3 (D:=14) (kC dk).off hn hs (hE.only o2) (hT.only o2)).mono ?_;rintro _ w8 ⟨rfl,fX⟩;have z8:=fX.size;refine⟨_,_,rfl,fX.same aae,λw9 gH=>⟨?_,?_,by have:=gH.size;omega⟩⟩
  ·unfold nq;rw[bc hc]
  exact(dk.cr fX).trans gH λx hx=>.inr aaj
 have hc:(eO l).2.1≠0:=aai
 unfold nq;rw[aY hc]
def ab1(l:aJ):Bool:=nCb (eO l).1&&an8 (eO l).1
theorem ab2{l:aJ}(h:ab1 l=true):Yq (eO l).1/\sB (eO l).1.vars+pz (eO l).1.root<=8388608:=by
 unfold ab1 at h;rw[aR]at h;exact⟨an7 h.1,aP h.2⟩
end Go.Proofs.YtpbgcbdclnfpnaaGreatDoor.Con
namespace Go.Kt
open Go Go.RowKit Go.ChangeShapes Go.WideShapes
def rPair{α β:Type}(r:Rp α)(q:Rp β):Rp (α×β):=λw F x cs=>∃c d,cs=c++d/\r w F x.1 c/\q w F x.2 d
def rUnit:Rp Unit:=λ_ _ _ cs=>cs=[]
def rBool:Rp Bool:=λ_ _ b cs=>cs=[.bool b]
theorem qF:rBool.Ok where
 keep h _:=h
 inHeap h:=h
 mono h _:=h
 one h v hv:=by
  rw[show _=[Value.bool _]from h]at hv;simp at hv;subst hv;rfl
section
variable {H:Type} {enc:TypeId×az->H} {P:Program}
theorem uU(hl:laidOutB P=true){W W'}{sp}(hb:Below W.heap.size W W'):∀{ts:List TypeId} {vs:List az} {ds:List _} {ps:List MemPlace},
  (∀t,t∈ts->P.readableRec t=true/\t<P.types.size)->DataW.TrodAll enc P W 0 (λ_=>true) true ts vs ds ps->(∀x,x∈ps->x.block<W.heap.size)->(∀x,x∈ps->sp x.block=true)->DataW.TrodAll enc P W' 0 sp true ts vs ds ps
 | [],vs,ds,ps,_,h,_,_=>by
  obtain⟨rfl,rfl,rfl⟩:=trodAll_nil h;exact trodAll_mk0
 | t::ts,vs,ds,ps,hr,h,bT,xx=>by
  obtain⟨v,vs',d,ds',p,q,rfl,rfl,rfl,h1,h2⟩:=trodAll_cons h;obtain⟨r1,r2⟩:=hr t aac;exact trodAll_cons_mk (WideElems.Trod_stays hl r1 r2 h1 (λx hx=>hb.same (bT x aev)) λx hx=>xx x aev)
   (uU hl hb (λu hu=>hr u (by simp[hu])) h2 (λx hx=>bT x aev) λx hx=>xx x aev)
theorem law_post{f}{s:ChangeSpec}{fresh handsOn again}{W W'}{args}{ds gs}{before}{tb}
  (hW:DataW.Whole enc P f.params.toList s.vars false W args.toList ds gs before) (hv:s.vars=[])
  (adL:(s.fn H (ds++gs)).results=[.lit (.bool true)]) (hargs:(s.fn H (ds++gs)).args=ds) (yV:(s.fn H (ds++gs)).vars=[])
  (ht:f.resultTypes=#[tb]) (hu:P.underlying tb=some .bool) (hl:laidOutB P=true) (aeg:(f.params.toList.all λt=>P.readableRec t&&decide (t<P.types.size))=true) (hO:Only [] W W'):
  s.post enc P f false fresh handsOn again W args (.bool true) W':=by
 have hb:=hO.below (ba _) aac;have bT:=λp hp=>hW.lt p hp;obtain⟨p,q,hA,hV,rfl,hz,hn⟩:=id hW;rw[hv]at hV;obtain⟨rfl,rfl⟩:=trodVars_none hV;rw[bQ]at*
 have UD:∀sp,_->DataW.TrodAll enc P W' 0 sp true f.params.toList args.toList (s.fn H ds).args p:=λsp xx=>by
  rw[hargs];exact uU hl hb (λt ht=>by simpa using dF.1 aeg t ht) hA (λx hx=>by simpa using bT x hx) xx
 have hV':∀sp,DataW.TrodVars enc P W' sp s.vars (s.fn H ds).vars []:=λsp=>by
  rw[hv,yV];simp[DataW.TrodVars]
 have aax:∀b sp hd,DataW.TrodAll enc P W' b sp hd f.resultTypes.toList ((Value.bool true).resultList f.resultTypes.size) (s.fn H ds).results []:=λb sp hd=>by
  rw[adL,ht];exact trodAll_cons_mk (shut_bool hu true) trodAll_mk0
 have hold:∀x∈p,(λb=>decide _) x.block=true:=λx hx=>by simpa using bT x hx
 refine⟨ds,[],p,[],p,[],hW,by simpa using aax _ _ _,by simpa using UD _ hold,by simpa using hV' _,World.keptBut_mono (λx hx=>⟨hx,aa3⟩) (hb.frame _),λ_=>?_⟩;refine⟨ok_one ht rfl (okWide_bool_mk hu true),_,_,_++[],⟨[]++p,[],trodAll_append (UD _ (λ_ _=>rfl)) (aax _ _ _),hV' _,rfl,?_,?_⟩,?_⟩
 ·intro b off hp;have hp:=aeJ
  rw[hb.frozen (p:=_) (bT _ hp)];exact hz b off hp
 ·intro ha;cases ha
 intro x hp _;simpa using hp
variable {W:ay} {base:Nat} {spare:Nat->Bool} {held:Bool} {α:Type}
def Dw(enc:TypeId×az->H)(P:Program)(W:ay)(base:Nat)(spare:Nat->Bool)(held:Bool)(t:TypeId)(r:Rp α):Prop:=
 ∀ft cs x,DataW.trod enc P W base spare held ft t cs=some x->(∀n,n∈x.1.weights P t->n<=reachBytes)->∃a,r W (λ_=>True) a cs
theorem opens_int{t}(ht:P.underlying t=some (.int .i64)):Dw enc P W base spare held t rInt:=λft cs x h _=>by
 obtain⟨n,rfl,rfl,hw⟩:=DataW.trod_int ht h;refine⟨n,rfl,?_⟩;simpa[Lit.wf,IntKind.min,IntKind.max,IntKind.signed,IntKind.bits,rf]using hw
def rSl(r:Rp α)(size bytes:Nat):Rp (List α):=λw F xs cs=>∃s,cs=[s.v]/\SliceF r size w F s xs/\xs.length*bytes<=140737488351232
theorem tL{e}:∀{l:List _} {d:DataW H},d∈l->∀n,n∈d.weights P e->n∈DataW.weightsAll P e l
 | d0::l,d,hd,n,hn=>by
  simp[DataW.weightsAll,bN];rcases aV.1 hd with rfl | hd
  ·exact .inl hn
  exact .inr (tL hd n hn)
 | [],d,hd,_,_=>by simp at hd
theorem yO{β:Type}{p:Nat->β->Prop}:∀n,(∀i,i<n->∃b,p i b)->∃l:List β,l.length=n/\∀i b,l[i]? =some b->p i b
 | 0,_=>⟨[],rfl,λi b h=>aaB⟩
 | n+1,h=>by
  obtain⟨l,h1,h2⟩:=yO n λi hi=>h i aG;obtain⟨b,hb⟩:=h n aG;refine⟨l++[b],aeP,λi c hc=>?_⟩;by_cases hi:i<l.length
  ·rw[bM hi]at hc;exact h2 i c hc
  have:i=n:=by
   have:=(aZ.1 hc).1;simp at this;omega
  subst this;simp[h1]at hc;rw[<-hc];exact hb
theorem Dw.map{β}{t}{r}{q}(h:Dw enc P W base spare held t r)(f:α->β)(hf:∀a cs,r W (λ_=>True) a cs->q W (λ_=>True) (f a) cs):Dw enc P W base spare held t q:=λft cs x hx hw=>by
 obtain⟨a,ha⟩:=h ft cs x hx hw;exact⟨f a,hf a cs ha⟩
theorem opens_bool{t}(ht:P.underlying t=some .bool):Dw enc P W base spare held t rBool:=λft cs x h _=>by
 obtain⟨b,rfl,rfl⟩:=DataW.trod_bool ht h;exact⟨b,rfl⟩
theorem weights_of{ts}{ds}(h:(DataW.weightsEach P ts ds).all (· <=reachBytes)=true)(j:Nat){t}{d:DataW H}(ht:ts[j]? =some t)(hd:ds[j]? =some d):∀n,n∈d.weights P t->n<=reachBytes:=
 λn hn=>by simpa using dF.1 h n (DataW.weights_mem_each ht hd n hn)
end
end Go.Kt
