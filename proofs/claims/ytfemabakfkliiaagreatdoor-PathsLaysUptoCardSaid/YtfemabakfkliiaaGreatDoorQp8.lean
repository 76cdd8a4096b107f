import Derived.Test.YtfemabakfkliiaaGreatDoorQp7
set_option linter.defProp false
set_option linter.unusedSectionVars false
set_option linter.unusedSimpArgs false
set_option linter.unusedVariables false
set_option maxHeartbeats 1600000
set_option maxRecDepth 100000
open Bool renaming true->aE,false->aL
open Option renaming some->aM,none->aaa
open List renaming length->I
open Go.Value renaming int->O,string->X,pointer->ae,agg->ah,tuple->ai,bool->aj
open Go.IntKind renaming i64->U,wrap->ar
open Go.Ending renaming returned->ak
open _root_.ByteArray renaming mk->ao
open _root_.Go.Proofs.Tryz renaming prog->aq
open Go.Instr renaming buildSlice->au
open Go renaming World->av,Value->aw,Calls->az
open Go.Kt renaming Only->Q,SliceF->aA,Cells->aB,OnlyP->aD,Blk->aF
namespace Go.Proofs.YtfemabakfkliiaaGreatDoor.Con
open Go Go.RowKit Go.Kt Go.Kt.V Go.Proofs.YtfemabakfkliiaaGreatDoor.Vc
mutual
def Z4:Nd->Prop
 | .mk b k=>(1<=b.k/\b.k<=4)/\Ot k
def Ot:List Nd->Prop
 | []=>True
 | x::l=>Z4 x/\Ot l
end
def L4{x:Nd}:∀{l:List Nd},Ot l->x∈l->Z4 x
 | y::l,h,x=>by
  rw[Ot]at h;rcases aZ.1 x with rfl | x
  ·exact h.1
  exact L4 h.2 x
mutual
def XU:∀(d:Nat) (x:Nd),jY d x=aE->Z4 x
 | d,.mk b l,h=>by
  rw[jY,aR,aR]at h;rw[Z4];refine⟨?_,Ra (d+1) l h.2⟩;have a:=h.1.2;unfold qm at a;rw[aR]at a;have e:=a.2;by_cases c:fF b.k=aE
  ·unfold fF at c;have:=aO c;omega
  rw[aP c]at e;simp only[aR,bG]at e;omega
def Ra:∀(d:Nat) (l:List Nd),iL d l=aE->Ot l
 | _,[],_=>by rw[Ot];trivial
 | d,x::l,h=>by
  rw[iL,aR]at h;rw[Ot];exact⟨XU d x h.1,Ra d l h.2⟩
end
def qF(w:av)(b:Nat)(sl:Sl)(a:av)(s:Sl)(l:aH):Prop:=(Prg w b sl l/\I l<=4000000000000)/\kc b s a sl w
def qF.line{w c:av}{b:Nat}{sl s:Sl}{l:aH}(g:qF w b sl c s l){d:Nat}(Z:d<=4194304)(m:aH)(f:I m<=3000000000010){k:Nat}(i:k≠b)(j:s.a≠aM ⟨k,0,aaa⟩)(n:k<c.heap.size):
  az aq 113 #[ae (aM ⟨b,0,aaa⟩),O U (d:Int),X (T m)] w λe a=>e=ak (ai #[])/\cu [k] w a/\∃sl',qF a b sl' c s (kJ l (d,m)):=by
 obtain⟨⟨o,p⟩,M⟩:=g;refine(Q9 o Z m f).mono ?_;rintro _ a ⟨rfl,sl',P,h⟩;exact⟨rfl,M.sm i j n h,sl',⟨P,Q8 p Z f⟩,M.trans h⟩
def qF.only{w w' a:av}{b:Nat}{sl s:Sl}{l:aH}(c:qF w b sl a s l)(h:Q [] w w'):qF w' b sl a s l:=by
 obtain⟨⟨P,d⟩,M⟩:=c;exact⟨⟨P.only h,d⟩,M.trans (kc.only h)⟩
def NdC(D:Nat):Prop:=∀{F:aJ} {w:av} {b:Nat} {sl:Sl} {l:aH} {x:Nd} {c:aI} {d:Nat},lO aL D w F x c->(∀k,F k->k<b)->Prg w b sl l->I l<=4000000000000->Ci x->Z4 x->mj x<=1048576->d+iH x<=4000000->
 az aq 162 #[ae (aM ⟨b,0,aaa⟩),ah c.toArray,O U (d:Int)] w λe a=>e=ak (ai #[])/\∃(sl':Sl),Prg a b sl' (ey l (Fc d x))/\I (ey l (Fc d x))<=4000000000000/\kc b sl w sl' a
def Rb{D:Nat}(hD:NdC D){F:aJ}{f:av}{b:Nat}{sl:Sl}{l:aH}{x:Nd}{m:aI}{d:Nat}(hx:lO aL (D+1) f F x m)(K:∀k,F k->k<b)(hP:Prg f b sl l)(hl:I l<=4000000000000)(N:Ci x)(C:Z4 x)(P:mj x<=1048576)(ZF:d+iH x<=4000001):
  az aq 115 #[ae (aM ⟨b,0,aaa⟩),ah m.toArray,O U (d:Int)] f λe w'=>e=ak (ai #[])/\∃(sl':Sl),Prg w' b sl' (ey l (FE d x.b++qn d x.kids))/\I (ey l (FE d x.b++qn d x.kids))<=4000000000000/\kc b sl f sl' w':=by
 obtain⟨a,c⟩:=x;obtain⟨G,lv,mv,kids,R,vX,r⟩:=hx;dsimp only[Nd.kids,Nd.b]at R vX r;subst R;have hk:=r.1;rw[Ci]at N;rw[Z4]at C;obtain⟨⟨wV,AI,t⟩,R8⟩:=N;obtain⟨M,yA,V⟩:=vX;rw[mj]at P;rw[iH]at ZF;unfold yu at P;have Fh:=hP.lb;refine ret (amc _ _ _ _ _ _ _ _ _ _ _ ?_);intro B w ez i j;have z0:=j.size;have z:B≠b:=J
 have Y:sl.a≠aM ⟨B,0,aaa⟩:=λe=>acY
 have H:qF w b sl w sl l:=⟨⟨hP.only j,hl⟩,kc.refl _ _ _⟩
 have nF:∀k,F k->¬(k=b∨sl.a=aM ⟨k,0,aaa⟩):=λk v=>hP.YA (K k v);have fr:∀{u:av} {q:Sl} {L:aH},qF u b q w sl L->∀k,F k->k<f.heap.size->u.heap[k]? =f.heap[k]? :=fun{u q L} h k v bU=>(h.2.1.block k J (nF k v)).trans (j.block k bU aag);have sz:∀{u:av} {q:Sl} {L:aH},qF u b q w sl L->w.heap.size<=u.heap.size:=λh=>h.2.1.size;have sm:∀{u W:av} {q:Sl} {L:aH},qF u b q w sl L->Q [] u W->cu [B] u W:=λh hO=>hO.same (by have:=sz h;simp;omega);have S:∀{u:av} {q s:Sl} {la:List Ac} {L:aH},li aL (qy aL) 9 161 f F s la->qF u b q w sl L->li aL (qy aL) 9 161 u F s la:=λh p=>h.keep (cT aL) Z (fr p);have kM:∀{u:av} {q:Sl} {L:aH},qF u b q w sl L->aA (D7 aL) 13 u F mv a.mv:=λp=>(V.keep (iJ aL) Z (fr p)).1;have kK:∀{u:av} {q:Sl} {L:aH},qF u b q w sl L->aA (lO aL D) 9 u F kids c:=λp=>(r.keep (cf aL D) Z (fr p)).1;have aC:=gZ a.en;have am:=gZ a.lv;have FV:=V.1.len;have Fj:=hk.len;have Zl:=mA a.mv;have MC:=oB c;have m1:I a.en*1065080<=1048576*1065080:=fu _ J;have m2:I a.lv*1065080<=1048576*1065080:=fu _ J;let St:aH->av->Prop:=λL u=>∃q,qF u b q w sl L
 have eT:((T a.ini).toList==((ao #[]).toList))=decide (a.ini=[]):=iv a.ini [];rw[eT];have A:∀{la:List Ac},ki la<=1048576->I (ze la)<=3+I la*1065080:=fun{la} h=>by
  have:=IM la h;unfold ze;rw[aY,aQ];simp only[aY,bC];omega
 have g:=M.1.len;have E:=yA.1.len;refine⟨St (ey l (xU d a)),λw1 ⟨q1,n⟩=>⟨St (ey l (xU d a++P7 d a)),λw2 ⟨q2,o⟩=>⟨St (ey l (xU d a++P7 d a++SX d a)),λw3 ⟨q3,h3⟩=>?_,λhc=>?_,λhc=>⟨q2,by
  have hc:=aU hc;rw[show SX d a=[] by unfold SX;rw[aV (bH J)],bE];exact o⟩⟩,λhc=>?_,λhc=>⟨q1,by
  have hc:=aU hc;rw[show P7 d a=[] by unfold P7;rw[aV (bH J)],bE];exact n⟩⟩,λhc=>?_,λhc=>⟨sl,by
  have hc:a.ini=[]:=aaj
  rw[show xU d a=[] by unfold xU;rw[aV hc]];exact H⟩⟩
 ·refine⟨λx e u=>∃b:Nat,e=(b:Int)/\x+b=I a.mv/\b<=I a.mv/\St (ey l (xU d a++P7 d a++SX d a++(a.mv.take b).map λT=>(d,Fb T))) u,I a.mv,⟨0,rfl,J,be _,q3,by rw[cA,gU,bE];exact h3⟩,?_⟩;rintro x _ w4 ⟨b,rfl,oX,hj,q4,q⟩;obtain⟨⟨s,bv⟩,aT⟩:=id q;have aS:=s.buf.len;refine⟨q4,λ_=>Blk.dP s.blk 0 rfl,λk=>?_,λk=>?_⟩
  ·rw[aR]at k;have k:=aO k.1;obtain⟨ad,y,m,g1,g2,g3,g4,g5,g6⟩:=(kM q).get (ba b) J;rw[aW]at g2;have uJ:=bn g2;have R7:=oA uJ;have E4:=g6;obtain⟨gc,rh,tg,rfl,hg,BJ,nL⟩:=g6;obtain⟨gs,rfl⟩:=eU hg;refine⟨ad,g1,_,_,_,_,_,_,_,_,_,_,_,_,_,g5,(abW E4 (t y uJ) J).mono ?_⟩;rintro _ w5 ⟨rfl,ht,eh⟩;refine⟨_,rfl,sm q eh,((q.only eh).line (d:=d) J (Fb y) J z Y i).mono ?_⟩;rintro _ w6 ⟨rfl,bV,q6,h6⟩;exact⟨rfl,bV,x-1,J,b+1,aaf,J,J,q6,by
    rw[bh,g2,cK,<-bq,gP];exact h6⟩
  have cc:ey l (xU d a++P7 d a++SX d a++(a.mv.take b).map λT=>(d,Fb T))=ey l (FE d a):=by
   have G:FE d a=xU d a++P7 d a++SX d a++mvL d a:=by unfold FE;simp
   rw[G];unfold mvL;by_cases y:b=I a.mv
   ·rw[y,fp]
   have ZM:16384<I (ey l (xU d a++P7 d a++SX d a++(a.mv.take b).map λT=>(d,Fb T))):=by
    rw[jq]at k;rcases k with h | h
    ·have:=aU h;omega
    have:=aU h;omega
   conv=>rhs;rw[<-fk b a.mv,cK,<-bq,gP]
   rw[K6 _ _ ZM]
  refine⟨λx e u=>∃b:Nat,e=(b:Int)/\x+b=I c/\b<=I c/\St (ey l (FE d a++qn d (c.take b))) u,I c,⟨0,rfl,J,be _,q4,by rw[cA,qn,bE,<-cc];exact q⟩,?_⟩;rintro vC _ w7 ⟨e,rfl,Jn,hi,q7,h7⟩;obtain⟨⟨Ub,M2⟩,bY⟩:=id h7;refine⟨λZL=>?_,λZL=>?_⟩;rotate_left
  ·have ZL:=aU ZL;have d:e=I c:=J
   rw[d,fp]at Ub M2;exact⟨rfl,q7,Ub,M2,(kc.only j).trans bY⟩
  have ZL:=aO ZL;obtain⟨ad,y,m,g1,g2,g3,g4,g5,g6⟩:=(kK h7).get (ba e) J;rw[aW]at g2;have uJ:=bn g2;have R7:=nB uJ;have dO:=Lj uJ;have E4:=g6;obtain⟨D',rfl⟩:∃D',D=D'+1:=by
   cases D with
   | zero=>exact g6.elim
   | succ D'=>exact⟨D',rfl⟩
  obtain⟨ri,rj,oM,gD,rfl,_⟩:=g6;refine⟨ad,g1,_,_,_,_,ri,rj,oM,gD,_,g5,(hD E4 K Ub M2 (zZ R8 uJ) (L4 C.2 uJ) J J).mono ?_⟩;rintro _ w8 ⟨rfl,q8,co,cC,ce⟩;have e8:ey (ey l (FE d a++qn d (c.take e))) (Fc d y)=ey l (FE d a++qn d (c.take (e+1))):=by
   rw[bh,g2];show _=ey l (FE d a++qn d (c.take e++[y]));rw[Bc];simp only[gP]
  rw[e8]at co cC;exact⟨rfl,bY.sm z Y i ce,vC-1,J,e+1,aaf,J,J,q8,⟨co,cC⟩,bY.trans ce⟩
 ·refine(EK (S yA o) AI J).mono ?_;rintro _ w9 ⟨rfl,b⟩;have y:=A (la:=a.lv) J;refine⟨_,rfl,sm o b,aa2,?_⟩;rw[show(ao #[108,101,97,118,101,32])=T [108,101,97,118,101,32]from rfl,fJ];refine((o.only b).line (d:=d) J _ aen z Y i).mono ?_;rintro _ x ⟨rfl,k,q,s⟩;refine⟨rfl,k,q,?_⟩;have hc:=aO hc;rw[show SX d a=[(d,jl++32::ze a.lv)] by unfold SX;rw[aP (λe=>by rw[e]at E;simp at E;omega)],gP];exact s
 ·refine(EK (S M n) wV J).mono ?_;rintro _ w9 ⟨rfl,b⟩;have y:=A (la:=a.en) J;refine⟨_,rfl,sm n b,aa2,?_⟩;rw[show(ao #[101,110,116,101,114,32])=T [101,110,116,101,114,32]from rfl,fJ];refine((n.only b).line (d:=d) J _ aen z Y i).mono ?_;rintro _ x ⟨rfl,k,q,s⟩;refine⟨rfl,k,q,?_⟩;have hc:=aO hc;rw[show P7 d a=[(d,jk++32::ze a.en)] by unfold P7;rw[aP (λe=>by rw[e]at g;simp at g;omega)],gP];exact s
 refine⟨aa2,by rw[show(ao #[105,110,105,116,105,97,108,32])=T [105,110,105,116,105,97,108,32]from rfl,fJ,cM,aQ];simp only[aY,bC];omega,?_⟩;rw[show(ao #[105,110,105,116,105,97,108,32])=T [105,110,105,116,105,97,108,32]from rfl,show(ao #[59])=T [59]from rfl,fJ,fJ];refine(H.line (d:=d) J _ acI z Y i).mono ?_;rintro _ q ⟨rfl,x,k,b⟩;refine⟨rfl,x,k,?_⟩;have hc:¬a.ini=[]:=aaj
 rw[show xU d a=[(d,fT++32::(a.ini++[59]))] by unfold xU;rw[aP hc]];have e:([105,110,105,116,105,97,108,32]++a.ini++[59]:aH)=fT++32::(a.ini++[59]):=by simp[fT]
 rw[e]at b;exact b
def abX{D:Nat}(hD:NdC D){F:aJ}{g:av}{b:Nat}{sl:Sl}{l:aH}{x:Nd}{y:aI}{d:Nat}(E:lO aL (D+1) g F x y)(B:∀k,F k->k<b)(hP:Prg g b sl l)(hl:I l<=4000000000000)(hn:Ci x)(o:Z4 x)(C:mj x<=1048576)(ZF:d+iH x<=4000000):
 az aq 162 #[ae (aM ⟨b,0,aaa⟩),ah y.toArray,O U (d:Int)] g λe j=>e=ak (ai #[])/\∃(sl':Sl),Prg j b sl' (ey l (Fc d x))/\I (ey l (Fc d x))<=4000000000000/\kc b sl g sl' j:=by
 obtain⟨f,s⟩:=x;have H:=E;obtain⟨en,lv,mv,kids,G,vX,fZ⟩:=E;dsimp only[Nd.kids,Nd.b]at G vX fZ;subst G;have A:=C;rw[mj]at A;unfold yu at A;have Fh:=hP.lb;have aC:=Ik (.mk f s);refine ret (amF _ _ _ _ _ _ _ _ _ _ _ ?_);intro t w ez v n;have z0:=n.size;have z:t≠b:=J
 have Y:sl.a≠aM ⟨t,0,aaa⟩:=λe=>acY
 have h0:qF w b sl w sl l:=⟨⟨hP.only n,hl⟩,kc.refl _ _ _⟩
 have am:1<=f.k/\f.k<=4:=by rw[Z4]at o;exact o.1
 have nF:∀k,F k->¬(k=b∨sl.a=aM ⟨k,0,aaa⟩):=λk r=>hP.YA (B k r);have i:∀{u:av} {q:Sl} {L:aH},qF u b q w sl L->L=ey l (Fc d (.mk f s))->∃(sl':Sl),Prg u b sl' (ey l (Fc d (.mk f s)))/\I (ey l (Fc d (.mk f s)))<=4000000000000/\kc b sl g sl' u:=fun{u q L} h e=>by
  subst e;obtain⟨⟨p,a⟩,b⟩:=h;exact⟨q,p,a,(kc.only n).trans b⟩
 have K:∀(a c:aH),T a++T c=T (a++c):=fJ;have M:(ao #[104,105,115,116,111,114,121,32])=T [104,105,115,116,111,114,121,32]:=rfl;have N:(ao #[32,45,62,32])=T [32,45,62,32]:=rfl;have P:(ao #[59])=T [59]:=rfl;have R:(ao #[100,101,101,112,32])=T [100,101,101,112,32]:=rfl;have S:(ao #[115,116,97,116,101,32])=T [115,116,97,116,101,32]:=rfl;have V:(ao #[32,123])=T [32,123]:=rfl;have W:(ao #[112,97,114,97,108,108,101,108,32])=T [112,97,114,97,108,108,101,108,32]:=rfl;have e8:(ao #[125])=T [125]:=rfl;simp only[M,N,P,R,S,V,W,e8,K,cM];have go:∀(m:aH),I m<=3000000000010->az aq 113 #[ae (aM ⟨b,0,aaa⟩),O U (d:Int),X (T m)] w λe j=>e=ak (ai #[])/\cu [t] w j/\∃sl',qF j b sl' w sl (kJ l (d,m)):=λm hm=>h0.line (d:=d) J m hm z Y v;refine⟨λu=>¬fF f.k=aE/\∃q,qF u b q w sl (kJ l (d,kW f.k++32::(f.nm++[32,123]))),λw1 ⟨hh,q1,p⟩=>?_,λk3=>?_,λk3=>⟨λk4=>?_,λk4=>⟨λk1=>?_,λk1=>?_⟩⟩⟩
 ·obtain⟨⟨c,q⟩,h⟩:=p;have T:lO aL (D+1) w1 F (.mk f s) (ob f.k f.nm f.ini f.dft en lv mv kids f.a):=(cf aL _).keep H λk r bU=>(h.1.block k J (nF k r)).trans (n.block k bU aag);rw[fh (x:=(d:Int)+1) J J,show(d:Int)+1=((d+1:Nat):Int) by omega];refine(Rb hD (d:=d+1) T B c q hn o C J).mono ?_;rintro _ w2 ⟨rfl,q2,e,yW,a⟩;have h2:qF w2 b q2 w sl _:=⟨⟨e,yW⟩,h.trans a⟩
  refine⟨rfl,h.sm z Y v a,(h2.line (d:=d) J [125] Z z Y v).mono ?_⟩;rintro _ w3 ⟨rfl,aS,q3,h3⟩;refine⟨rfl,aS,afw,i h3 ?_⟩;rw[Fc,aP hh];simp only[u9,gP,Nd.b,Nd.kids];rfl
 ·have k3:f.k=3:=aeM
  simp only[aQ,aY,bC];refine⟨J,J,J,J,(go _ acI).mono ?_⟩;rintro _ a ⟨rfl,k,q,h⟩;refine⟨rfl,k,afw,i h ?_⟩;rw[Fc,aV (by unfold fF;exact bF (.inl k3)),k3];show _=kJ l _;congr 2;simp[kW,ww]
 ·have k4:f.k=4:=aeN
  simp only[aQ,aY,bC];refine⟨J,J,J,J,(go _ acI).mono ?_⟩;rintro _ a ⟨rfl,k,q,h⟩;refine⟨rfl,k,afw,i h ?_⟩;rw[Fc,aV (by unfold fF;exact bF (.inr k4)),k4];show _=kJ l _;congr 2;simp[kW,KR]
 ·have k1:f.k=1:=aeJ
  simp only[aQ,aY,bC];refine⟨J,J,(go _ acI).mono ?_⟩;rintro _ a ⟨rfl,k,q,h⟩;refine⟨rfl,k,by unfold fF;rw[k1];decide,q,?_⟩;have e:([115,116,97,116,101,32]++f.nm++[32,123]:aH)=kW f.k++32::(f.nm++[32,123]):=by rw[k1];simp[kW,DZ]
  rw[e]at h;exact h
 have k3:¬f.k=3:=aeM
 have k4:¬f.k=4:=aeN
 have k1:¬f.k=1:=aeJ
 have k:f.k=2:=J
 simp only[aQ,aY,bC];refine⟨J,J,(go _ acI).mono ?_⟩;rintro _ b ⟨rfl,a,q,h⟩;refine⟨rfl,a,by unfold fF;rw[k];decide,q,?_⟩;have e:([112,97,114,97,108,108,101,108,32]++f.nm++[32,123]:aH)=kW f.k++32::(f.nm++[32,123]):=by rw[k];simp[kW,tW]
 rw[e]at h;exact h
def Rc:∀D,NdC D
 | 0=>λh _ _ _ _ _ _ _=>h.elim
 | D+1=>λx h P l n F s Z=>abX (Rc D) x h P l n F s Z
def XV{w:av}{F:aJ}{D:Nat}{c:Ch}{i:Sl}{s:aI}(h:ChR aL (D+1) w F c i s)(n:G8 c)(P:nY c.vars+mj c.root<=1048576):
  az aq 80 #[ah (i.v::s).toArray] w λe K=>e=ak (ai #[X (T (ja c).1),O U (ja c).2])/\Q [] w K:=by
 have R:=h.root;obtain⟨o,t,mv,kids,H,_⟩:=h.root;subst H;refine ret (alR _ _ _ _ _ _ _ _ _ _ ?_);intro f S N M l;have W:=l.size;have keep:∀{u:av},Q [] w u->ChR aL (D+1) u F c i (ob c.root.b.k c.root.b.nm c.root.b.ini c.root.b.dft o t mv kids c.root.b.a):=λr=>⟨h.vars.keep dY Z λk _ b=>r.block k b aag,(cf aL _).keep h.root λk _ b=>r.block k b aag⟩
 have L:I c.root.b.nm<=mj c.root:=by
  obtain⟨v,⟨a,k⟩⟩:=c;show (I a.nm)<=mj (.mk a k);rw[mj];unfold yu;omega
 refine(aoa (keep l) n J).mono ?_;rintro _ V ⟨rfl,j⟩;have Y:=j.size;have x:=l.cd j;have p:∀(a c:aH),T a++T c=T (a++c):=fJ;have z:(ao #[99,104,97,114,116,32])=T [99,104,97,114,116,32]:=rfl;have A:(ao #[32,123])=T [32,123]:=rfl;have B:(ao #[118,97,114,32])=T [118,97,114,32]:=rfl;have C:(ao #[32,61,32])=T [32,61,32]:=rfl;have E:(ao #[59])=T [59]:=rfl;have G:(ao #[125])=T [125]:=rfl;refine⟨_,rfl,j.same aah,λg=>⟨?_,x⟩,λg=>?_⟩
 ·have g:pC c=aL:=by simpa using g
  unfold ja;rw[g];rfl
 have g:pC c=aE:=by simpa using g
 have Fl:Z4 c.root:=by
  unfold pC at g;simp only[aR]at g;exact XU 0 c.root g.1.2
 have ZM:16384<(I (ey [] (Ee c)))->ja c=([],2):=λaT=>by unfold ja;rw[aV g,aV aT]
 have co:¬16384<(I (ey [] (Ee c)))->ja c=(ey [] (Ee c),0):=λaT=>by unfold ja;rw[aV g,aP aT]
 obtain⟨LL,bv⟩:∃LL,LL=(0,gf++32::(c.root.b.nm++[32,123]))::(c.vars.map λv=>(1,ZZ v)):=⟨_,rfl⟩
 have cC:Ee c=LL++(FE 1 c.root.b++qn 1 c.root.kids)++[(0,[125])]:=by rw[bv];unfold Ee;simp
 rw[z,A,G,p,p,cM,cM];refine⟨J,aen,λk1 w2 mc jM cQ od=>?_⟩;have z2:=cQ.size;have o2:=x.cd cQ;have dO:Prg w2 k1 Sl.nil []:=⟨od,.inl ⟨rfl,rfl⟩⟩
 have aC:f≠k1:=J
 have Hc:(Sl.nil).a≠aM ⟨f,0,aaa⟩:=λe=>aeZ
 have aS:∀{u:av} {q:Sl} {ce:aH},qF u k1 q w2 Sl.nil ce->Q [] w u:=λaT=>(o2.qz aT.2.1).only λk hk=>hk.elim J λe=>aeZ
 have h2:qF w2 k1 Sl.nil w2 Sl.nil []:=⟨⟨dO,Z⟩,kc.refl _ _ _⟩
 have gO:=h.vars.1.len;have AH:I c.vars<=nY c.vars:=by
  have:∀c:List Vr,I c<=nY c:=λc=>by induction c with
   | nil=>exact be _
   | cons a c d=>rw[nY,aY];omega
  exact this _
 refine(h2.line (d:=0) Z _ acI aC Hc J).mono ?_;rintro _ w3 ⟨rfl,eQ,q3,h3⟩;have e0:([99,104,97,114,116,32]++c.root.b.nm++[32,123]:aH)=gf++32::(c.root.b.nm++[32,123]):=by simp[gf]
 rw[e0]at h3;have h3:qF w3 k1 q3 w2 Sl.nil (ey [] ((0,gf++32::(c.root.b.nm++[32,123]))::((c.vars.take 0).map λv=>(1,ZZ v)))):=h3;obtain⟨⟨el,gG⟩,gE⟩:=id h3;refine⟨rfl,eQ,q3,el.blk,λkv fd q u=>∃am:Nat,fd=(am:Int)/\kv+am=I c.vars/\am<=I c.vars/\qF u k1 q w2 Sl.nil (ey [] ((0,gf++32::(c.root.b.nm++[32,123]))::((c.vars.take am).map λv=>(1,ZZ v)))),I c.vars,⟨0,rfl,J,be _,h3⟩,?_⟩;rintro kv _ q w4 ⟨am,rfl,oX,hj,h4⟩;obtain⟨⟨bY,cc⟩,bV⟩:=id h4;refine⟨λmY w5 eh vQ=>?_,λmY=>?_⟩
 ·have mY:=aO mY;have h5:=h4.only eh;obtain⟨⟨iD,iN⟩,g8⟩:=id h5;have ip:aA AP 3 w5 (λk=>F k/\k<w.heap.size) i c.vars:=SliceF.keep dY (SliceF.inHeap dY h.vars.1 Z) Z λk hk b=>(aS h5).block k b aag;obtain⟨ad,y,s,g1,g2,g3,g4,g5,g6⟩:=ip.get (ba am) J;rw[aW]at g2;have uJ:=bn g2;have R7:=wK uJ;have a:=n.1 y uJ;have g6:s=[X (T y.n),O U y.v,O U y.a]:=g6;subst g6;have gT:ad.block<w.heap.size:=g3.2;have iF:=Q7 a;have kp:∀{u u':av} {qa qb:Sl} {ce:aH},qF u k1 qa w2 Sl.nil ce->kc k1 qa u qb u'->bT (λk=>k=f∨k<w.heap.size) u u':=fun{u u' qa qb ce} hp hm k hk b=>hm.1.block k b λhh=>by
   rcases hh with e | e
   ·omega
   rcases hp.2.2 k e with T | T
   ·cases T
   omega
  rw[B,C,E];refine⟨λk=>k=f∨k<w.heap.size,.inl rfl,ad,g1,.inr (by rw[pc];exact gT),_,g5.part 0 λfd v e=>uj e rfl,?_,?_,ad,g1,_,g5.part 1 λfd v e=>uj e rfl,(Q6 w5 a).mono ?_⟩
  ·rw[cM];omega
  ·rw[p,cM,aQ];simp only[aY,bC];omega
  rintro _ w6 ⟨rfl,dK⟩;have h6:=h5.only dK;obtain⟨⟨iS,lE⟩,k⟩:=id h6;have z6:=k.1.size;have z5:=g8.1.size;refine⟨_,rfl,dK.same aah,q,iS.blk,bT.only dK,?_,?_,?_⟩
  ·rw[p,p,cM,cM];simp only[aQ,aY,bC];omega
  ·rw[p,p,p,cM];simp only[aQ,aY,bC];omega
  rw[p,p,p,p];refine(Q9 iS (d:=1) Z _ acI).mono ?_;rintro _ w7 ⟨rfl,q7,Ub,q⟩;have M2:=Q8 (d:=1) (m:=[118,97,114,32]++y.n++[32,61,32]++Lib.itoa y.v++[59]) lE Z acI;have ev:([118,97,114,32]++y.n++[32,61,32]++Lib.itoa y.v++[59]:aH)=ZZ y:=by simp[ZZ,yJ]
  have e7:kJ (ey [] ((0,gf++32::(c.root.b.nm++[32,123]))::((c.vars.take am).map λv=>(1,ZZ v)))) (1,[118,97,114,32]++y.n++[32,61,32]++Lib.itoa y.v++[59])=ey [] ((0,gf++32::(c.root.b.nm++[32,123]))::((c.vars.take (am+1)).map λv=>(1,ZZ v))):=by
   rw[ev,bh,g2,cK];simp only[u9,gP];rfl
  rw[e7]at Ub M2;exact⟨rfl,k.sm aC Hc J q,q7,Ub.blk,kp h6 q,kv-1,J,am+1,aaf,J,J,⟨Ub,M2⟩,k.trans q⟩
 have T:lO aL (D+1) w4 (λk=>F k/\k<w.heap.size) c.root (ob c.root.b.k c.root.b.nm c.root.b.ini c.root.b.dft o t mv kids c.root.b.a):=(cf aL _).keep ((cf aL _).inHeap R) λk _ b=>(aS h4).block k b aag;have n8:=WT c.root;have mY:=aU mY;have lu:am=I c.vars:=J
 subst lu;rw[fp,<-bv]at bY cc;refine(Rb (Rc D) (d:=1) T (λk hk=>acL) bY cc n.2 Fl J J).mono ?_;rintro _ w8 ⟨rfl,q8,m,y,e⟩;have h8:qF w8 k1 q8 w2 Sl.nil _:=⟨⟨m,y⟩,bV.trans e⟩
 refine⟨rfl,bV.sm aC Hc J e,q8,m.blk,(h8.line (d:=0) Z [125] Z aC Hc J).mono ?_⟩;rintro _ w9 ⟨rfl,lT,q9,v⟩;have e9:kJ (ey (ey [] LL) (FE 1 c.root.b++qn 1 c.root.kids)) (0,[125])=ey [] (Ee c):=by
  rw[cC];simp only[gP];rfl
 rw[e9]at v;obtain⟨⟨a,nO⟩,mt⟩:=id v;have mK:=a.buf.len;refine⟨rfl,lT,q9,a.blk,λq=>⟨?_,aS v⟩,λq=>⟨_,a.buf.bytes,?_,aS v⟩⟩
 ·have q:=aO q;rw[ZM J]
 have q:=aU q;rw[co J]
def XW{D:Nat}{u:av}{H:aJ}{x:Nd}{n l mv kids:Sl}(h:lO aL (D+1) u H x (ob x.b.k x.b.nm x.b.ini x.b.dft n l mv kids x.b.a)):
  ∃y a,(au 25 1 #[.mk 0 (ah #[O U x.b.k,X (T x.b.nm),X (T x.b.ini),X (T x.b.dft),n.v,l.v,mv.v,kids.v,O U x.b.a])]).run aq u=.ok (Sl.v y) a/\Q [] u a/\aA (lO aL (D+1)) 9 a (λk=>H k∨(u.heap.size<=k/\k<a.heap.size)) y [x]:=by
 obtain⟨y,a,b,c,k3,_⟩:=kz (P:=aq) (t:=25) (e:=27) (i:=Tryz.t27) (w:=u) (F:=H) (vs:=[ah #[O U x.b.k,X (T x.b.nm),X (T x.b.ini),X (T x.b.dft),n.v,l.v,mv.v,kids.v,O U x.b.a]]) (parts:=#[.mk 0 (ah #[O U x.b.k,X (T x.b.nm),X (T x.b.ini),X (T x.b.dft),n.v,l.v,mv.v,kids.v,O U x.b.a])]) (len:=1) (xs:=[x]) (r:=lO aL (D+1)) (size:=9) aae aae rfl rfl Z rfl rfl Z Z (cf aL (D+1)) ⟨⟨rfl,h⟩,trivial⟩;exact⟨y,a,b,k3,((c.slice (cf aL (D+1))).inHeap (cf aL (D+1)) Z).mono (cf aL (D+1)) λk hk=>hk.1.elim .inl λh=>.inr ⟨h.1,hk.2⟩⟩
def XX{B:Nat}{w:av}{F:aJ}{s:Sl}{a:List Vr}(h:Own AP 3 76 B w F s a):aA AP 3 w (λk=>B<=k) s a:=by
 have b:Own AP 3 76 B w (λ_=>False) s a:=by
  rcases h with⟨rfl,rfl⟩ | ⟨g,s,tail,d,e,f,i,j,k,m,l⟩
  ·exact .inl ⟨rfl,rfl⟩
  exact .inr ⟨g,s,tail,d,e,f,i,j,k,m,iI.TM (λx c _ n=>n) l⟩
 exact(b.slice dY).mono dY λk hk=>hk.elim (λh=>h.elim) λh=>h.1
def Tx{w:av}{F:aJ}{D:Nat}{c:Ch}{p:Sl}{C:aI}(hx:ChR aL (D+1) w F c p C)(hs:nY c.vars+mj c.root<=8388608):
  az aq 12 #[ah (p.v::C).toArray] w λe S=>(∃(Y:Sl) (s:aI),e=ak (ah (Y.v::s).toArray)/\ChR aL (D+1) S (λ_=>True) c Y s)/\Q [] w S:=by
 have i:=hx.root;obtain⟨E,N,mv,kids,V,_⟩:=hx.root;subst V;refine ik (asF _ _ _ _ _ _ _ _ _ _ ?_);intro g l w0 fZ W mc jM B;have z0:=B.size;have T:=wL c.vars;have q:=hx.vars.1.inHeap dY Z;have o:∀{u:av},Q [] w u->lO aL (D+1) u F c.root (ob c.root.b.k c.root.b.nm c.root.b.ini c.root.b.dft E N mv kids c.root.b.a):=λb=>(cf aL _).keep i λk _ d=>b.block k d aag;refine⟨λa j R m n H K L M G u=>(∃s,s=[O U j,X R,X m,X n,H.v,K.v,L.v,M.v,O U G]/\ChR aL (D+1) u (λ_=>True) c a s)/\Q [] w u,?_,λf A=>?_⟩
 ·rintro a j R m n H K L M G u ⟨⟨s,rfl,h⟩,b⟩;exact⟨⟨a,_,rfl,h⟩,b⟩
 have z2:=A.size;have o2:=B.cd A;have am:∀{u v:av} {y:Sl} {a:Nat},Q [] w u->f.heap.size<=a->a<=u.heap.size->Own AP 3 76 a u (λk=>F k/\k<w.heap.size) y []->∃z v,(Builtin.append_ #[22,22] 22 #[Sl.v y,Sl.v p]).run aq u=.ok (Sl.v z) v/\aA AP 3 v (λk=>f.heap.size<=k) z c.vars/\aD (λk=>a<=k/\y.a=aM ⟨k,0,aaa⟩) u v:=fun{u v y a} b hz RM hy=>by
  have h:aA AP 3 u (λk=>(F k/\k<w.heap.size)/\y.a≠aM ⟨k,0,aaa⟩) p c.vars:=(q.keep dY Z λk _ d=>b.block k d aag).mono dY λk hk=>⟨hk,λe=>by have:=(hy.blk e).1;dsimp only at this;omega⟩
  obtain⟨z,v,g1,x,gs,g3,g4,_⟩:=qO (P:=aq) (t:=22) (ty:=22) (e:=76) (i:=Tryz.t76) (bytes:=32) (size:=3) (r:=AP) aae aae rfl rfl rfl rfl dY hy h RM acV Z;rw[bR]at x;exact⟨z,v,g1,(XX x).mono dY λk hk=>J,g3.p λbY hg=>.inl ⟨(g4 bY hg).2.1,(g4 bY hg).1⟩⟩
 have sm:∀{u v:av},f.heap.size<=u.heap.size->Q [] u v->cu [g,l] u v/\bT (λk=>k=g) u v:=λh b=>⟨b.same aah,bT.only b⟩
 have aS:∀{u v:av} {y:Sl} {a:Nat},f.heap.size<=a->a<=u.heap.size->aD (λk=>a<=k/\y.a=aM ⟨k,0,aaa⟩) u v->cu [g,l] u v/\bT (λk=>k=g) u v:=λh h' b=>⟨b.same λx hx=>by simp only[aZ,bp,ci]at hx;exact⟨J,λh=>J⟩,λk hk d=>b.block k d λh=>J⟩
 have bV:∀u:av,∃y v,(au 22 0 #[]).run aq u=.ok (Sl.v y) v/\Own AP 3 76 u.heap.size v (λk=>F k/\k<w.heap.size) y []/\Q [] u v:=λu=>Sq (P:=aq) (t:=22) (e:=76) (i:=Tryz.t76) aae aae AP 3 u (λk=>F k/\k<w.heap.size);have aT:∀{u v:av} {y:Sl} {a:Nat},Q [] w u->f.heap.size<=a->aD (λk=>a<=k/\y.a=aM ⟨k,0,aaa⟩) u v->Q [] w v:=λh hz bY=>(h.qz bY).only λk hk=>J
 have bv:∀{u:av},Q [] w u->lO aL (D+1) u (λk=>F k/\k<w.heap.size) c.root (ob c.root.b.k c.root.b.nm c.root.b.ini c.root.b.dft E N mv kids c.root.b.a):=λb=>(cf aL _).keep ((cf aL _).inHeap i) λk _ d=>b.block k d aag;have aC:∀{u v:av} {cc z:Sl},Q [] w u->f.heap.size<=u.heap.size->aA (lO aL (D+1)) 9 u (λ_=>True) cc [c.root]->aA AP 3 u (λk=>f.heap.size<=k) z c.vars->
   az aq 33 #[cc.v] u λe0 r=>∃l8:Sl,e0=(ak l8.v)/\cu [g,l] u r/\bT (λk=>k=g) u r/\
    ∃p0:Addr,cR l8 0 9 p0/\∃k:Int,∃s3 s4 s5:aK,∃x h y uE:Sl,∃t:Int,aB r p0 [O U k,X s3,X s4,X s5,x.v,h.v,y.v,uE.v,O U t]/\
     ∀w7:av,Q [l] r w7->((∃s,s=[O U k,X s3,X s4,X s5,x.v,h.v,y.v,uE.v,O U t]/\ChR aL (D+1) w7 (λ_=>True) c z s)/\Q [] w w7):=fun{u v cc z} b hz hl hv=>by
  refine(WN (D+1) hl (by rw[jm,jm];omega)).mono ?_;rintro _ r ⟨⟨t,rfl,hT⟩,P⟩;have z6:=P.size;obtain⟨m,n⟩:=sm hz P;obtain⟨ad,y,s,a1,e,a3,a4,a5,a6⟩:=hT.get (i:=0) J (by have:=hT.len;rw[bB]at this;omega);have e:aM c.root=aM y:=e;injection e with e;subst e;have FT:=a6;obtain⟨ri,rj,oM,gD,rfl,_⟩:=a6;refine⟨t,rfl,m,n,ad,a1,_,_,_,_,ri,rj,oM,gD,_,a5,λw7 fR=>⟨⟨_,rfl,⟨?_,λh=>aal⟩,?_⟩,(b.cd P).trans fR λx hx=>.inr aak⟩⟩
  ·exact(SliceF.only dY Z (SliceF.only dY Z hv P aag) fR λk hk _ hm=>aaV).mono dY λ_ _=>trivial
  refine(cf aL (D+1)).mono ((cf aL (D+1)).keep FT λk hk d=>fR.block k d ?_) λ_ _=>trivial;simp only[aN];omega
 have kp:∀{u v:av} {z:Sl},aA AP 3 u (λk=>f.heap.size<=k) z c.vars->Q [] u v->aA AP 3 v (λk=>f.heap.size<=k) z c.vars:=λh b=>SliceF.only dY Z h b aag;refine⟨λk=>k=g,rfl,rfl,?_,?_⟩
 ·obtain⟨P,t,p1,e,r⟩:=bV f;have z:=r.size;obtain⟨x,y⟩:=sm (aX _) r;have c:=o2.cd r;refine⟨P,t,p1,x,y,?_,?_⟩
  ·obtain⟨l6,w4,q1,q2,q3⟩:=am (v:=t) c (aX _) z e;have z4:=q3.size;obtain⟨b1,b2⟩:=aS (aX _) z q3;have k:Q [] w w4:=aT c (aX _) q3;obtain⟨l7,w5,r1,h,r3⟩:=XW (o k);have z5:=h.size;obtain⟨c1,c2⟩:=sm J h;exact⟨l6,w4,q1,b1,b2,l7,w5,r1,c1,c2,aC (v:=w5) (k.cd h) J (r3.mono (cf aL (D+1)) λ_ _=>trivial) (kp q2 h)⟩
  obtain⟨l7,w8,r1,r2,r3⟩:=XW (bv c);have z8:=r2.size;obtain⟨c1,c2⟩:=sm J r2;have o8:=c.cd r2;obtain⟨l6,w9,q1,q2,q3⟩:=am (v:=w8) o8 (aX _) J (e.keep dY λk _ d=>r2.block k d aag);have z9:=q3.size;obtain⟨b1,b2⟩:=aS (aX _) J q3;exact⟨l7,w8,r1,c1,c2,l6,w9,q1,b1,b2,aC (v:=w9) (aT o8 (aX _) q3) J ((SliceF.kU (cf aL (D+1)) Z r3 q3 λk hk _ h=>by
   have:=(e.blk h.2).2;dsimp only at this;omega).mono (cf aL (D+1)) λ_ _=>trivial) q2⟩
 obtain⟨l7,x,r1,r,r3⟩:=XW (bv o2);have ce:=r.size;obtain⟨c1,c2⟩:=sm (aX _) r;obtain⟨l5,y,p1,p2,e⟩:=bV x;have t:=e.size;obtain⟨P,a2⟩:=sm J e;have c:=(o2.cd r).cd e;obtain⟨l6,z,q1,q2,q3⟩:=am (v:=y) c J t p2;have co:=q3.size;obtain⟨b1,b2⟩:=aS J t q3;exact⟨l7,x,r1,c1,c2,l5,y,p1,P,a2,l6,z,q1,b1,b2,aC (v:=z) (aT c J q3) J ((SliceF.kU (cf aL (D+1)) Z (SliceF.only (cf aL (D+1)) Z r3 e aag) q3 λk hk _ h=>J).mono (cf aL (D+1)) λ_ _=>trivial) q2⟩
def Gr(s:Sl)(w:av)(a:Sl)(b:av):Prop:=aD (λk=>s.a=aM ⟨k,0,aaa⟩) w b/\∀k,a.a=aM ⟨k,0,aaa⟩->s.a=aM ⟨k,0,aaa⟩∨w.heap.size<=k
def Gr.trans{s c a:Sl}{w d v:av}(h:Gr s w c d)(k:Gr c d a v):Gr s w a v:=by
 have z:=h.1.size;refine⟨h.1.trans k.1 λx b=>?_,λx b=>?_⟩
 ·rcases h.2 x b with e | e
  ·exact .inl e
  exact .inr e
 rcases k.2 x b with e | e
 ·exact h.2 x e
 exact .inr J
def Gr.only{s:Sl}{w w':av}(h:Q [] w w'):Gr s w s w':=⟨h.p0,λ_ h=>.inl h⟩
def XY(t:Bool):∀(D:Nat) {w:av} {F:aJ} {x:Nd} {c:aI} {B:Nat} {s:Sl} {xs:List dU} {pa dp:Int},lO t D w F x c->(∀k,F k->k<B)->iy B w s xs->B<=w.heap.size->
  (I xs)+iH x<=1000000->0<=dp->dp+iH x<=1000000->
  az aq 49 #[s.v,ah c.toArray,O U pa,O U dp] w λe a=>∃b,e=ak (Sl.v b)/\iy B a b (xs++FF (I xs) pa dp x)/\Gr s w b a
 | 0,_,_,_,_,_,_,_,_,_,h,_,_,_,_,_,_=>h.elim
 | D+1,w,F,.mk d f,c,B,s,xs,pa,dp,⟨en,lv,mv,kids,L,_,n⟩,E,hS,W,hn,h0,hd=>by
  have hk:=n.1;clear n;dsimp only[Nd.kids,Nd.b]at hk L;subst L;rw[iH]at hn hd;have Fj:=hk.len;have am:=qo f;refine ik (alC _ _ _ _ _ _ _ _ _ _ _ _ ?_);intro p w0 n ez i;have z0:=i.size;have g:s.n=I xs:=hS.len;have S:iy B w0 s xs:=hS.AG i.p0 λ_ _ _ h=>h;obtain⟨y,w2,k1,k3,l,m,R,V,⟨gs,o,g4⟩,C⟩:=kj (P:=aq) (t:=43) (ty:=43) (e:=59) (i:=Tryz.t59) (bytes:=48) (size:=5) (r:=tD) (G:=λ_=>False) (v:=ah #[O U d.k,X (T d.nm),O U pa,O U dp,O U 0]) (x:=⟨d.k,d.nm,pa,dp,0⟩) aae aae rfl rfl rfl rfl Z Z Z dC S J rfl rfl (λ_ h=>h.elim) J;have z2:=k3.size;have z3:=o.size;have qY:s.a≠aM ⟨p,0,aaa⟩:=λe=>acu
  have m3:Gr s w l m:=by
   refine⟨(i.cd k3).qz (o.p (F:=λk=>s.a=aM ⟨k,0,aaa⟩) λq r=>.inl (g4 q r).1),λk hk=>?_⟩;rcases C with e | ⟨q,e,h⟩
   ·exact .inl acB
   rw[e]at hk;injection hk with hk;injection hk with hk;exact .inr J
  have n3:∀k,l.a=aM ⟨k,0,aaa⟩->k≠p:=λk hk e=>by
   subst e;rcases C with e | ⟨k,e,h⟩
   ·exact qY acB
   rw[e]at hk;injection hk with hk;injection hk with hk;omega
  have N:iy B m l (xs++[⟨d.k,d.nm,pa,dp,0⟩]):=iy.of V;have j6:∀{M:av} {q:Sl},Gr s w q M->aA (lO t D) 9 M F kids f:=λY=>SliceF.kU (cf t D) Z hk Y.1 λk xN _ h=>by
   have:=E k xN;have:=(hS.blk h).1;dsimp only at this;omega
  refine⟨y,w2,k1,k3.same aah,l,m,R,o.same λx hx=>⟨aak,λh=>acW⟩,λu q H a=>∃j:Nat,H=(j:Int)/\u+j=I f/\j<=I f/\iy B a q (xs++⟨d.k,d.nm,pa,dp,0⟩::rc (I xs+1) (I xs) (dp+1) (f.take j))/\Gr s w q a/\m.heap.size<=a.heap.size/\∀k,q.a=aM ⟨k,0,aaa⟩->k≠p,I f,⟨0,rfl,J,be _,by rw[cA,rc];exact N,m3,aX _,n3⟩,?_⟩;rintro u q _ w5 ⟨j,rfl,oX,mH,K,z,z5,A⟩;constructor
  ·intro hc;have hj:j<I f:=aa1
   obtain⟨y,hy⟩:∃y,f[j]? =aM y:=⟨_,bf hj⟩
   obtain⟨ad,y',ds,a1,B,a3,a4,a5,P⟩:=(j6 z).get (ba j) J;rw[aW,hy]at B;injection B with B;subst B;have FT:=P;obtain⟨r,rfl⟩:∃r,D=r+1:=by
    cases D with
    | zero=>exact P.elim
    | succ r=>exact⟨r,rfl⟩
   obtain⟨ri,rj,oM,gD,rfl,_⟩:=FT;have uD:=mS hy;have v:I (xs++⟨d.k,d.nm,pa,dp,0⟩::rc (I xs+1) (I xs) (dp+1) (f.take j))=I xs+1+dR (f.take j):=by
    rw[aQ,aY,sX];omega
   refine⟨ad,a1,_,_,_,_,ri,rj,oM,gD,_,a5,?_⟩;rw[fh J J,g];refine(XY t (r+1) (pa:=((I xs:Nat):Int)) P (s:=q) (xs:=xs++⟨d.k,d.nm,pa,dp,0⟩::rc (I xs+1) (I xs) (dp+1) (f.take j)) (dp:=dp+1) E K (by have:=i.size;omega) (by rw[v];omega) J J).mono ?_;rintro _ w7 ⟨q7,rfl,T,G⟩;have z7:=G.1.size;refine⟨q7,rfl,G.1.same λx hx=>?_,u-1,J,j+1,aaf,J,J,?_,z.trans G,J,λk hk e=>?_⟩
   ·simp only[aN]at hx;subst hx;exact⟨J,λh=>A _ h rfl⟩
   ·have e:f.take (j+1)=f.take j++[y]:=ahQ
    rw[e,Ij,rc,rc,bE];rw[v,bq,bZ]at T;exact T
   subst e;rcases G.2 _ hk with h | h
   ·exact A _ h rfl
   omega
  intro hc;have lu:j=I f:=aa6
  subst lu;rw[bm (aX _)]at K;have T:(xs++⟨d.k,d.nm,pa,dp,0⟩::rc (I xs+1) (I xs) (dp+1) f)[I xs]? =aM ⟨d.k,d.nm,pa,dp,0⟩:=by
   rw[cj (aX _),pO];rfl
  obtain⟨v,cells,G,x,y,p3,p4,p5,p6,p7⟩:=Own.aoo dC K T;have r:G=spv ⟨d.k,d.nm,pa,dp,0⟩:=p6;subst r;have s:q.n=I xs+1+dR f:=by rw[K.len,aQ,aY,sX];omega
  obtain⟨B,p9⟩:=p7 4 (O U (q.n:Int)) ⟨d.k,d.nm,pa,dp,(q.n:Int)⟩ (λ_=>False) Z rfl λ_ h=>h.elim;rw[<-g]at y;refine⟨_,y,v,I xs*5+4,cells,_,by rw[gC,g],p3,by rw[<-g]at B⊢;exact B,λe=>A v x e.symm,λw9 t P=>⟨q,rfl,?_,?_⟩⟩
  ·have:=p9 w9 t P;rw[tF _ _ (aX _),pO,List.set_cons_zero]at this;rw[FF];have e:(q.n:Int)=((I xs+1+dR f:Nat):Int):=by rw[s]
   rw[e]at this;exact this
  refine z.trans ⟨t.p λk hk=>?_,λk hk=>.inl hk⟩;simp only[aN]at hk;subst hk;exact .inl x
def XZ{w:av}{F:aJ}{D:Nat}{c:Ch}{v:Sl}{b:aI}(x:ChR aL (D+1) w F c v b)(p:iH c.root<=64):
  az aq 21 #[ah (v.v::b).toArray] w λe f=>(∃s,e=ak (Sl.v s)/\iy w.heap.size f s (ff c))/\Q [] w f:=by
 obtain⟨n,l,mv,kids,i,_⟩:=x.root;subst i;refine ik (alp _ _ _ _ _ _ _ _ _ _ ?_);intro r g o m q;have z:=q.size;have h:lO aL (D+1) g (λk=>k<w.heap.size) c.root (ob c.root.b.k c.root.b.nm c.root.b.ini c.root.b.dft n l mv kids c.root.b.a):=
  (cf aL _).keep ((cf aL _).mono ((cf aL _).inHeap x.root) λk hk=>hk.2) λk _ c=>q.block k c aag
 refine(XY aL (D+1) (B:=w.heap.size) (s:=Sl.nil) (xs:=[]) (pa:= -1) (dp:=0) h (λk hk=>hk) (Own.nil _ _ _ _ _ _) z acV Z J).mono ?_;rintro _ j ⟨d,rfl,S,G⟩;have a:Q [] g j:=G.1.only λk hk=>afs
 exact⟨d,rfl,a.same aah,⟨d,rfl,by rw[bR]at S;exact S⟩,q.cd a⟩
def Bp{c:Ch}(h:(ja c).2=0):pC c=aE:=by
 unfold ja at h;by_cases a:pC c=aE
 ·exact a
 rw[aP a]at h;exact absurd h (by show ¬(22:Int)=0;decide)
def Bq{c:Ch}(a:(ja c).2=0):iH c.root<=64:=by
 have h:=Bp a;unfold pC at h;simp only[aR]at h;exact(aO h.2).2.2.1
def abY{w:av}{F:aJ}{a:Nat}{c:Ch}{v:Sl}{f:aI}(x:ChR aL (a+1) w F c v f)(j:G8 c)(l:nY c.vars+mj c.root<=1048576):
  az aq 45 #[ah (v.v::f).toArray] w λe i=>(∃s:Sl,e=ak (ai #[Sl.v s,O U (ja c).2])/\((ja c).2=0->iy w.heap.size i s (ff c))/\((ja c).2≠0->s=Sl.nil))/\Q [] w i:=by
 obtain⟨n,p,mv,kids,m,_⟩:=x.root;subst m;refine ik (aly _ _ _ _ _ _ _ _ _ _ ?_);intro y A t z q;have E:=q.size;have keep:∀{u:av},Q [] w u->ChR aL (a+1) u F c v (ob c.root.b.k c.root.b.nm c.root.b.ini c.root.b.dft n p mv kids c.root.b.a):=λg=>⟨x.vars.keep dY Z λk _ b=>g.block k b aag,(cf aL _).keep x.root λk _ b=>g.block k b aag⟩
 refine(XV (keep q) j l).mono ?_;rintro _ B ⟨rfl,D⟩;have G:=D.size;have o:=q.cd D;refine⟨_,_,rfl,D.same aah,λhc=>⟨⟨_,rfl,λh=>absurd h aaj,λ_=>rfl⟩,o⟩,λhc=>?_⟩;have hc:(ja c).2=0:=aaj
 refine(XZ (keep o) (Bq hc)).mono ?_;rintro _ C ⟨⟨r,rfl,S⟩,d⟩;exact⟨_,rfl,d.same aah,⟨r,by rw[hc],λ_=>Own.low S J,λh=>absurd hc h⟩,o.cd d⟩
def X1{w:av}{F G:aJ}{a b:Sl}{s:List dU}(h:aA tD 5 w F a s)(g:aA tD 5 w G b s)(m:I s<=1000000):az aq 38 #[a.v,b.v] w λe c=>e=ak (aj aE)/\Q [] w c:=by
 refine ret (alw _ _ ?_);have f:=h.len;have d:=g.len;refine⟨λhc=>?_,λ_=>⟨λk i u=>∃j:Nat,i=(j:Int)/\k+j=I s/\j<=I s/\Q [] w u,I s,⟨0,rfl,J,be _,Only.refl _ _⟩,?_⟩⟩
 ·have:¬(a.n:Int)=(b.n:Int):=aaj
  omega
 rintro k _ u ⟨j,rfl,v,t,a⟩;refine⟨λhc=>?_,λ_=>⟨rfl,a⟩⟩;have hc:=aO hc;obtain⟨x,b⟩:=gu (xs:=s) (i:=j) J;obtain⟨ad,l,n,_⟩:=jI (SliceF.only dC Z h a aag) b;obtain⟨C,o,p,_⟩:=jI (SliceF.only dC Z g a aag) b;refine⟨ad,l,_,_,_,_,_,n,C,o,_,_,_,_,_,p,λr=>?_,λ_ y q=>⟨k-1,J,j+1,aaf,J,J,a.cd q⟩⟩;exfalso;have e:(T x.nm==T x.nm)=aE:=(by unfold T;exact Uo (α:=Array UInt8) _)
 simp[e]at r
def GR:∀{p:List (aH×Int)} {l:List (aH)},vf l p=[]->(p.map λx=>x.1).Nodup/\∀x,x∈p.map (λx=>x.1)->x∉l
 | [],l,_=>⟨List.nodup_nil,λx h=>acr⟩
 | x::p,l,h=>by
  rw[vf]at h;obtain⟨a,d⟩:=dW.1 h;have a:x.1∉l:=by simpa using xv.1 a
  obtain⟨c,g⟩:=GR d;rw[bS];refine⟨qM.2 ⟨λm=>g _ m aag,c⟩,λy b=>?_⟩;rcases aZ.1 b with rfl | b
  ·exact a
  exact λm=>g y b (F0 _ m)
def GS:∀{l:List (aH)} {i:Nat} {s:aH},l.Nodup->l[i]? =aM s->xu s l=i
 | [],i,s,_,h=>acr
 | x::l,0,s,_,h=>by
  rw[cG,bJ]at h;rw[xu,aV h.symm]
 | x::l,i+1,s,n,h=>by
  rw[cY]at h;have n:=qM.1 n;rw[xu,aP (λe=>n.1 (by rw[<-e];exact bn h)),GS n.2 h]
def L5{a:List dU}(n:(a.map λx:dU=>x.nm).Nodup){i:Nat}{x:dU}(h:a[i]? =aM x):fK a x.nm=i:=by
 unfold fK;have:=GS n (i:=i) (s:=x.nm) (by rw[cF,h];rfl);rw[this,aV (ir h)]
def IQ{x:List dU}:∀{r:List (aH)} {l:List Int},Io x l r=aE->∀t,t∈r->1<=fK x t
 | [],_,_,t,h=>acr
 | s::r,l,h,t,a=>by
  rw[Ew]at h;by_cases b:fK x s<1
  ·rw[aV b]at h;cases h
  rw[aP b]at h;split at h
  ·cases h
  rcases aZ.1 a with rfl | a
  ·omega
  exact IQ h t a
def Aw(s L:List dU)(a:Nat):Prop:=∀(i:Nat) (x:dU),L[i]? =aM x->s[a+i]? =aM x
def Aw.left{s L M:List dU}{a:Nat}(b:Aw s (L++M) a):Aw s L a:=λi x h=>b i x (by rw[bX (ir h)];exact h)
def Aw.right{s L M:List dU}{a:Nat}(h:Aw s (L++M) a):Aw s M (a+I L):=λb x i=>by
 rw[dM];exact h _ x (by rw[cj J,dN];exact i)
def Re{c:List dU}{s:aH}{p d:Int}:∀{l:List Nd} {a:Nat},vL s l=aE->Aw c (rc a p d l) a->∃(i:Nat) (x:dU),c[i]? =aM x/\x.nm=s/\x.pa=p/\a<=i
 | [],a,h,_=>by simp[vL]at h
 | .mk b k::l,a,h,f=>by
  rw[rc]at f;have g:=lX a p d (.mk b k);by_cases e:b.nm=s
  ·refine⟨a,⟨b.k,b.nm,p,d,_⟩,f.left 0 _ (by rw[FF];rfl),e,rfl,aX _⟩
  have a:vL s l=aE:=by
   unfold vL at h⊢;rw[List.any_cons]at h;simpa[Nd.b,e]using h
  have r:=f.right;rw[g]at r;obtain⟨i,x,b,j,m,n⟩:=Re a r;exact⟨i,x,b,j,m,J⟩
def rQ{c:Ch}(h:(ke c).1=0):(iM c).2=0/\Ag c=[]:=by
 unfold ke at h;by_cases p:(iM c).2≠0
 ·rw[aV p]at h;exact absurd h p
 rw[aP p]at h;exact⟨og.1 p,Eo (Et c) h⟩
def Ty{c:Ch}(h:(iM c).2=0):pC c=aE:=by
 unfold iM at h;by_cases a:pC c=aE
 ·exact a
 rw[aP a]at h;exact absurd h Z
section
variable {w w':av} {F G:aJ} {s:Sl} {xs:List dU}
def abZ{k:Nat}(x:dU)(n:aH)(B:aF w k 9 [X (T n)]):az aq 139 #[ah (spv x).toArray,ae (aM ⟨k,0,aaa⟩)] w λe w'=>e=ak (aj (decide (x.nm=n)))/\Q [] w w':=by
 refine ret (atm _ _ _ _ _ _ ?_);intro b c hk a h;exact⟨_,(h.blk B aag).cells 0 [_] λj v hj=>ae4,by rw[iv],h⟩
def yT{n:aH}{j:Nat}{x:dU}(h:xs[j]? =aM x)(a:∀y,y∈xs.take j->y.nm≠n)(e:x.nm=n):fK xs n=j:=by
 unfold fK;have l:=ir h;have:xu n (xs.map λx:dU=>x.nm)=j:=by
  have b:xs.map (λx:dU=>x.nm)=(xs.take j).map (λx:dU=>x.nm)++n::(xs.drop (j+1)).map λx:dU=>x.nm:=by
   rw[<-e,<-bS,<-cK];congr 1;rw[<-(bc.1 h).2,CA,fk]
  rw[b,Ir]
  ·rw[bK,cx];omega
  intro m;obtain⟨y,c,e⟩:=dv.1 m;exact a y c e
 rw[this,aV l]
def ahg(a:aA tD 5 w F s xs)(n:aH):az aq 96 #[s.v,X (T n)] w λe w'=>e=ak (O U (fK xs n))/\Q [] w w':=by
 refine ret (atc _ _ ?_);intro f d g z q M;have m:=a.len;have Y:=a.cap;have C:=a.big;refine(amn s ⟨.func (.func 139) #[] #[ae (aM ⟨f,0,aaa⟩)],rfl⟩ (λv w'=>v=O U (fK xs n)/\Q [] d w') d ?_).mono (by
  rintro _ w' ⟨v,rfl,rfl,h⟩;exact⟨_,rfl,_,h.blk M aag,rfl,q.cd h⟩)
 refine⟨λk i u=>∃j:Nat,i=(j:Int)/\k+j=I xs/\j<=I xs/\(∀y,y∈xs.take j->y.nm≠n)/\Q [] d u,I xs,⟨0,rfl,J,be _,aag,Only.refl _ _⟩,?_⟩;rintro k _ u ⟨j,rfl,o,l,b,h⟩;refine⟨λc=>?_,λc=>?_⟩
 ·have c:=aO c;obtain⟨x,r⟩:=gu (xs:=xs) (i:=j) J;obtain⟨ad,s,t,_⟩:=jI (SliceF.only dC Z a (q.cd h) aag) r;refine⟨ad,s,_,_,_,_,_,t,139,[],[ae (aM ⟨f,0,aaa⟩)],rfl,jR aae,(abZ x n (h.blk M aag)).mono ?_⟩;rintro _ v ⟨rfl,D⟩;refine⟨_,rfl,λp=>⟨?_,h.cd D⟩,λp=>⟨k-1,J,j+1,aaf,J,J,λy e=>?_,h.cd D⟩⟩
  ·rw[yT r b (aO p)]
  rw[bh,r,ch]at e;rcases e with e | e
  ·exact b y e
  simp only[Option.toList,aN]at e;subst e;exact aU p
 have c:=aU c;rw[bm J]at b;refine⟨?_,h⟩;rcases jt xs n with⟨e,_⟩ | ⟨i,x,_,p,e⟩
 ·rw[e]
 exact absurd e (b x (bn p))
end
section
variable {xs:List dU}
def Fo.deep(F:Fo xs){n:Nat}:∀(j:Nat) {i:Nat} {x y:dU},i<j->xs[i]? =aM x->xs[j]? =aM y->(n:Int)<x.en->j<=n->x.dp<y.dp
 | j,i,x,y,d,a,c,n,m=>by
  obtain⟨p,t,o,h,f,g,k,l,b⟩:=F.pa j y J c;by_cases e:i=p
  ·subst e;rw[a,bJ]at h;subst h;omega
  have q:i<p:=by
   refine Nat.lt_of_le_of_ne (jy λp=>?_) e;have:=b i x p d a;omega
  have:=Fo.deep F p q a h n J;omega
def wD(x:List dU)(a b:Int):Bool:=decide (b>=0)&&decide (b<(I x:Int))&&decide (a>b)&&decide (a<((x[b.toNat]?).map (λs:dU=>s.en)).getD 0)
def Rf{m:Nat}{x:dU}(h:xs[m]? =aM x)(n:Int):wD xs n m=decide ((m:Int)<n/\n<x.en):=by
 have:=ir h;unfold wD;rw[aW,h,gn,iz,bL];simp only[aR,bG];omega
def xG{m:Nat}{x:dU}(h:xs[m]? =aM x){n:Int}(a:0<=n):lY xs m n=decide ((m:Int)<=n/\n<x.en):=by
 unfold lY abu;rw[aW,h,bL];simp only[aR,bG];omega
def ahh(F:Fo xs)(a b:Int)(c:b<I xs):wD xs a b=Ad xs a b:=by
 by_cases h:0<=b
 ·obtain⟨m,rfl⟩:∃m:Nat,b=m:=⟨b.toNat,J⟩
  obtain⟨x,d⟩:=gu (xs:=xs) (i:=m) J;rw[Rf d];unfold Ad;by_cases e:0<=a
  ·rw[xG d e,bL];simp only[aR,bG];omega
  have:lY xs m a=aL:=by unfold lY;rw[bA J,db]
  rw[this,gK,bA J]
 unfold wD Ad lY;simp only[bA (by omega:¬b>=0),bA (by omega:¬(0<=b/\0<=a)),db,gK]
def ahi(F:Fo xs){n:Int}(b:0<=n){m:Nat}(a:m<I xs):(wD xs n m||(n==(m:Int)))=lY xs m n:=by
 obtain⟨x,h⟩:=gu (xs:=xs) (i:=m) a;have:=(F.up m x h).1;rw[Rf h,xG h b,bL];simp only[cE,bG,dB];omega
def Tz(F:Fo xs){a:Int}(h:0<=a){j m:Nat}{x y:dU}(b:xs[j]? =aM x)(c:xs[m]? =aM y)(f:j<m)(d:lY xs j a=aE)(e:lY xs m a=aE):x.dp<y.dp:=by
 rw[xG b h,cX]at d;rw[xG c h,cX]at e;exact F.deep (n:=a.toNat) m f b c J J
end
section
variable {w w':av} {F G:aJ} {sl sN:Sl} {xs:List dU}
def aog{B:Nat}{w:av}{s:Sl}{x:List Int}(h:gV B w s x):aA gL 1 w (λk=>B<=k) s x:=(h.slice cp).mono cp λk hk=>hk.elim (λh=>h.elim) λh=>h.1
def IR{w:av}{F:aJ}{s:Sl}{l:List Int}(h:aA gL 1 w F s l){i:Nat}{x:Int}(a:l[i]? =aM x):∃ad,cR s (i:Int) 1 ad/\aB w ad [O U x]:=by
 have e:=(bc.1 a).1;have m:=h.len;obtain⟨ad,y,f,b,g,j,k,c,d⟩:=h.get (ba i) J;rw[aW,a]at g;injection g with g;subst g;obtain⟨rfl,_⟩:=d;exact⟨ad,b,c⟩
def IT(w:av)(k:Int):az aq 29 #[O U k] w λe w'=>e=ak (aj (fF k))/\w'=w:=by
 refine ret (alt _ ?_);exact⟨by unfold fF;congr 1;rw[bL];simp,rfl⟩
def vq(a:aA tD 5 w F sl xs)(n:aH):az aq 23 #[sl.v,X (T n)] w λe w'=>e=ak (O U (fK xs n))/\w'=w:=by
 refine ret (alr _ _ ?_);have l:=a.len;have M:=a.cap;have C:=a.big;refine⟨λk i u=>∃j:Nat,i=(j:Int)/\k+j=I xs/\j<=I xs/\(∀y,y∈xs.take j->y.nm≠n)/\w=u,I xs,⟨0,rfl,J,be _,aag,rfl⟩,?_⟩;rintro k _ _ ⟨j,rfl,o,c,b,rfl⟩;refine⟨λh=>?_,λh=>?_⟩
 ·have h:=aO h;obtain⟨x,f⟩:=gu (xs:=xs) (i:=j) J;obtain⟨ad,g,m,_⟩:=jI a f;refine⟨ad,g,_,m.dP 1 _ rfl,λe=>?_,λe=>⟨k-1,J,j+1,aaf,J,J,λy d=>?_,rfl⟩⟩
  ·rw[iv]at e;rw[yT f b (aO e)];exact⟨rfl,rfl⟩
  rw[iv]at e;rw[bh,f,ch]at d;rcases d with d | d
  ·exact b y d
  simp only[Option.toList,aN]at d;subst d;exact aU e
 have h:=aU h;rw[bm J]at b;refine⟨?_,rfl⟩;rcases jt xs n with⟨e,_⟩ | ⟨i,x,_,d,e⟩
 ·rw[e]
 exact absurd e (b x (bn d))
def IU(h:aA tD 5 w F sl xs)(a b:Int):az aq 50 #[sl.v,O U a,O U b] w λe w'=>e=ak (aj (wD xs a b))/\w'=w:=by
 refine ret (alD _ _ _ ?_);unfold adN wD;rw[h.len];by_cases c:((decide (b>=0)&&decide (b<(I xs:Int)))&&decide (a>b))=aE
 ·have u:=c;simp only[aR]at u;have f:=aO u.1.1;have g:=aO u.1.2;obtain⟨i,rfl⟩:∃i:Nat,b=i:=⟨b.toNat,J⟩
  obtain⟨y,a⟩:=gu (xs:=xs) (i:=i) J;obtain⟨ad,d,_,_,_,e⟩:=jI h a;refine⟨ad,λ_=>d,y.en,λ_=>e,?_,rfl⟩;rw[aW,a];rfl
 refine⟨⟨0,0,aaa⟩,λh=>absurd h c,0,λh=>absurd h c,?_,rfl⟩;rw[pQ]at c;rw[c,db,db]
def ab0(c:aA tD 5 w F sl xs)(g:Fo xs)(r:I xs<=1000){a b:Int}(N:aA gL 1 w G sN [a,b])(o:sY xs a)(p:sY xs b):
  az aq 165 #[sl.v,sN.v] w λe w'=>e=ak (O U (yv xs a b))/\Q [] w w':=by
 refine ret (amI _ _ ?_);have q:=c.len;have H:sN.n=2:=N.len;have f:=o.1;have C:=p.1;have k:∀{u:av},Q [] w u->aA tD 5 u F sl xs:=λh=>SliceF.only dC Z c h aag;have kN:∀{u:av},Q [] w u->aA gL 1 u G sN [a,b]:=λh=>SliceF.only cp Z N h aag;refine⟨λv l i u=>∃m:Nat,i=(m:Int)/\v+m=I xs/\m<=I xs/\Q [] w u/\l=Ae xs a b m,I xs,⟨0,rfl,J,be _,Only.refl _ _,rfl⟩,?_⟩;rintro v _ _ j ⟨m,rfl,s,V,h,rfl⟩;refine⟨λd=>?_,λd=>?_⟩
 ·rw[aR]at d;have M:=aO d.1;obtain⟨x,E⟩:=gu (xs:=xs) (i:=m) J;refine⟨λD u=>D=Ae xs a b (m+1)/\Q [] w u,λD u ⟨F,G⟩=>⟨v-1,J,m+1,aaf,J,J,G,F⟩,λB al i u=>∃t:Nat,i=(t:Int)/\B+t=2/\t<=2/\al=(([a,b].take t).all λn=>lY xs m n)/\j=u,2,⟨0,rfl,J,be _,rfl,rfl⟩,?_⟩;rintro B _ _ _ ⟨t,rfl,L,K,rfl,rfl⟩;refine⟨λA=>?_,λA=>?_⟩
  ·have A:=aO A;obtain⟨ad,y,z,b,a,P,R,e,n⟩:=(kN h).get (ba t) J;obtain⟨rfl,_⟩:=n;rw[aW]at a;have x:0<=y:=by
    have:=bn a;simp only[aZ,bp,ci]at this;omega
   refine⟨ad,b,y,e,(IU (k h) y m).mono ?_⟩;rintro _ u ⟨rfl,w⟩;obtain rfl:j=u:=w.symm;refine⟨_,rfl,ad,λ_ _=>b,y,λ_ _=>e,B-1,J,t+1,aaf,J,J,?_,rfl⟩;rw[bh,a,jc,ahi g x J];simp
  have A:=aU A;have T:t=2:=J
  subst T;have y:([a,b].take 2).all (λn=>lY xs m n)=(lY xs m a&&lY xs m b):=aag
  rw[y];have w:Ae xs a b (m+1)=if(lY xs m a&&lY xs m b)=aE then(m:Int)else Ae xs a b m:=rfl
  obtain⟨ad,P,_,_,R,_⟩:=jI (k h) E;rcases uf (xs:=xs) a b m with⟨e,_⟩ | ⟨W,e,S,Y,_⟩
  ·rw[e]at w⊢;refine⟨ad,λ_ c=>absurd c Z,0,λ_ c=>absurd c Z,ad,λ_ c=>absurd c Z,0,λ_ c=>absurd c Z,λhq n a=>⟨?_,h.cd a⟩,λhq t b=>⟨?_,h.cd b⟩⟩
   ·rw[w,aV aev]
   rw[w,aP aev]
  obtain⟨z,a⟩:=gu (xs:=xs) (i:=W) J;obtain⟨zi,b,_,_,n,_⟩:=jI (k h) a;rw[e]at w⊢;refine⟨ad,λ_ _=>P,_,λ_ _=>R,zi,λ_ _=>b,_,λ_ _=>n,λhq w4 t=>⟨?_,h.cd t⟩,λhq w5 h5=>⟨?_,h.cd h5⟩⟩
  ·rw[w,aV];rw[aR]at hq;exact hq.1
  rw[w,aP];intro e;have:=Tz g f a E S (aR _ _▸Y).1 (aR _ _▸e).1;rw[e,bF (show x.dp>z.dp from this)]at hq;simp at hq
 refine⟨?_,h⟩;have:m=I xs:=by
  rw[jq]at d;rcases d with d | d
  ·have:=aU d;omega
  have:=aU d;omega
 rw[this];rfl
end
structure Lk (f:Ft) (w:av) (b:Nat) (F:aJ) (vs:Sl) (vars:List Vr) (nc:aI) (sl:Sl) (xs:List dU):Prop where
 blk:aF w b 104 (vs.v::(nc++[sl.v,O U f.1,O U f.2]))
 nc9:I nc=9
 vr:aA AP 3 w F vs vars
 sp:aA tD 5 w F sl xs
 nF:∀k,F k->k≠b
section
variable {f g:Ft} {w w':av} {b:Nat} {F G:aJ} {vs sl:Sl} {vars:List Vr} {nc:aI} {xs:List dU}
def Lk.only(h:Lk f w b F vs vars nc sl xs)(a:Q [] w w'):Lk f w' b F vs vars nc sl xs:=
 ⟨a.blk h.blk aag,h.nc9,SliceF.only dY Z h.vr a aag,SliceF.only dC Z h.sp a aag,h.nF⟩
def Lk.lF(h:Lk f w b F vs vars nc sl xs)(a:Q [b] w w')(B:aF w' b 104 (vs.v::(nc++[sl.v,O U g.1,O U g.2]))):Lk g w' b F vs vars nc sl xs:=
 ⟨B,h.nc9,SliceF.only dY Z h.vr a λk hk _ hm=>h.nF k hk ab2,SliceF.only dC Z h.sp a λk hk _ hm=>h.nF k hk ab2,h.nF⟩
def Lk.lb(h:Lk f w b F vs vars nc sl xs):b<w.heap.size:=h.blk.lt
def Lk.row(h:Lk f w b F vs vars nc sl xs):aB w ((⟨b,0,aaa⟩:Addr).add 10) [sl.v]:=by
 have a:=h.nc9;exact Blk.dP h.blk 10 (by rw[cY,cj J,a];rfl)
def uk(h:Lk f w b F vs vars nc sl xs)(e a:Int):az aq 47 #[ae (aM ⟨b,0,aaa⟩),O U e,O U a] w λr w'=>r=ak (ai #[])/\Lk (jp f [(e,a)]) w' b F vs vars nc sl xs/\Q [b] w w':=by
 refine ret (alA _ _ _ ?_);have c:=h.nc9;have g:(vs.v::(nc++[sl.v,O U f.1,O U f.2]))[11]? =aM (.int U f.1):=by
  rw[cY,cj J,c];rfl
 refine⟨f.1,Blk.dP h.blk 11 g,λhf=>⟨b,11,_,_,rfl,h.blk,aah,λi d E=>⟨rfl,?_,d⟩⟩,λhf=>⟨rfl,?_,Only.refl _ _⟩⟩
 ·have b:fE (vs.v::(nc++[sl.v,O U f.1,O U f.2])) 11 [O U e,O U a]=vs.v::(nc++[sl.v,O U e,O U a]):=by
   unfold fE;rw[gx,List.take_append,c,bm J];simp[c]
  rw[b]at E;have hf:f.1=0:=ade
  have:jp f [(e,a)]=(e,a):=by simp[jp,hf]
  rw[this];exact h.lF d E
 have hf:f.1≠0:=ade
 rw[En hf];exact h
def Rg(h:Lk f w b F vs vars nc sl xs){ok:Bool}(e a:Int)(k:ok=aL):az aq 47 #[ae (aM ⟨b,0,aaa⟩),O U e,O U a] w λr w'=>r=ak (ai #[])/\Lk (jp f (bad ok e a)) w' b F vs vars nc sl xs/\Q [b] w w':=by
 subst k;exact uk h e a
def Rh(a:Lk f w b F vs vars nc sl xs)(m:I vars<=8388608)(s:aH):az aq 163 #[ae (aM ⟨b,0,aaa⟩),X (T s)] w λe w'=>e=ak (aj (decide (s∈vars.map λv=>v.n)))/\w'=w:=by
 refine ret (amG _ _ ?_);have l:=a.vr.len;refine⟨λk i u=>∃j:Nat,i=(j:Int)/\k+j=I vars/\j<=I vars/\s∉(vars.take j).map (λv=>v.n)/\w=u,I vars,⟨0,rfl,J,be _,aag,rfl⟩,?_⟩;rintro k _ _ ⟨j,rfl,o,d,c,rfl⟩;refine⟨vs,Blk.dP a.blk 0 rfl,λh=>?_,λh=>⟨?_,rfl⟩⟩
 ·have h:=aO h;obtain⟨ad,y,s,f,g,p,q,n,e⟩:=a.vr.get (ba j) J;have e:s=[X (T y.n),O U y.v,O U y.a]:=e;subst e;rw[aW]at g;refine⟨vs,Blk.dP a.blk 0 rfl,ad,f,_,n.dP 0 _ rfl,λb=>⟨?_,rfl⟩,λb=>⟨k-1,J,j+1,aaf,J,J,?_,rfl⟩⟩
  ·rw[iv]at b;have b:=aO b;rw[bF (dv.2 ⟨y,bn g,b⟩)]
  rw[iv]at b;rw[bh,g,cK,ch];rintro(r | r)
  ·exact c r
  simp only[Option.toList,bS,gU,aN]at r;exact aU b r.symm
 have h:=aU h;rw[bm J]at c;rw[bA c]
def TA(h:Lk f w b F vs vars nc sl xs)(m:I xs<=1000)(s:aH):az aq 164 #[ae (aM ⟨b,0,aaa⟩),X (T s)] w λe w'=>e=ak (aj (Im xs s))/\w'=w:=by
 refine ret (amH _ _ ?_);refine⟨sl,h.row,(vq h.sp s).mono ?_⟩;rintro _ u ⟨rfl,a⟩;obtain rfl:w=u:=a.symm;refine⟨_,rfl,λr u=>r=Im xs s/\w=u,λr u ⟨d,g⟩=>⟨by rw[d],g.symm⟩,λc=>?_,λc=>⟨?_,rfl⟩⟩
 ·have c:=aO c;rcases jt xs s with⟨e,_⟩ | ⟨j,y,e,b,_⟩
  ·omega
  obtain⟨ad,f,i,_⟩:=jI h.sp b;rw[e];refine⟨sl,h.row,ad,f,_,i.dP 0 _ rfl,(IT w y.k).mono ?_⟩;rintro _ u ⟨rfl,a⟩;refine⟨_,rfl,?_,a.symm⟩;unfold Im;rw[e,fG b,bF J,cr]
 unfold Im;rw[show decide (0<=fK xs s)=aL from c,db]
def EM(h:∀k,G k->k≠b)(g:I vars<=8388608)(hm:I xs<=1000):∀(d:Nat) {f:Ft} {w:av} {x:Ex} {c:aI},Lk f w b F vs vars nc sl xs->NN aL d w G x c->Eb x<=8388608->
  az aq 117 #[ae (aM ⟨b,0,aaa⟩),ah c.toArray] w λe w'=>e=ak (ai #[])/\Lk (jp f (Qt xs (vars.map λv=>v.n) x)) w' b F vs vars nc sl xs/\Q [b] w w'
 | 0,_,_,_,_,_,a,_=>a.elim
 | d+1,f,w,x,c,p,⟨s,K,M⟩,A=>by
  subst K;have z:=M.1;have W:=z.len;have V:=p.lb;rw[Ec]at A;have H:I x.dD<=MJ x.dD:=by
   have:∀b:List Ex,I b<=MJ b:=λb=>by induction b with
    | nil=>exact be _
    | cons a b d=>
     rw[MJ,aY];have:=Ec a;omega
   exact this _
  generalize S:(vars.map λv=>v.n)=n;refine ret (ame _ _ _ _ _ _ _ ?_);intro L e T R q;have z0:=q.size;have t:=p.only q;have sm:∀{u E:av},Q [b] w u->e.heap.size<=u.heap.size->Q [b] u E->cu [L] u E:=λ_ A G=>G.same aah;let St:Ft->av->Prop:=λf u=>Lk f u b F vs vars nc sl xs/\Q [b] w u/\e.heap.size<=u.heap.size
  have B:St f e:=⟨t,only1 q,aX _⟩
  refine⟨λr u=>r=(decide (x.k≠2)||decide (x.s∈n))/\St f u,λj P ⟨m,C⟩=>⟨λr u=>r=(decide (x.k≠3)||Im xs x.s)/\St f u,λl Y ⟨o,D⟩=>⟨St (jp f (bad (ML xs n x.k x.s) 23 x.a)),λw3 N=>?_,λi=>?_,λi=>?_⟩,λhk=>⟨?_,C⟩,λhk=>?_⟩,λhk=>⟨?_,B⟩,λhk=>?_⟩
  ·refine⟨λw F u=>∃a:Nat,F=(a:Int)/\w+a=I x.dD/\a<=I x.dD/\St (jp f (bad (ML xs n x.k x.s) 23 x.a++ue xs n (x.dD.take a))) u,I x.dD,⟨0,rfl,J,be _,by rw[cA,ue,bE];exact N⟩,?_⟩;rintro w _ w4 ⟨a,rfl,oX,hj,v,s,z4⟩;refine⟨λb=>?_,λb=>?_⟩
   ·have b:=aO b;obtain⟨ad,y,ds,g1,g2,g3,g4,g5,g6⟩:=(SliceF.only (mw aL d) Z z s λk hk _ hm=>h k hk ab2).get (ba a) J;rw[aW]at g2;have am:=H8 (bn g2);have E4:=g6;obtain⟨s',rfl⟩:=eU ⟨d,g6⟩;have B8:=EM h g hm d v E4 J;rw[S]at B8;refine⟨ad,g1,_,_,_,_,_,_,g5,B8.mono ?_⟩;rintro _ w5 ⟨rfl,h5,f⟩;have z5:=f.size;have oP:x.dD.take (a+1)=x.dD.take a++[y]:=by rw[bh,g2];rfl
    refine⟨rfl,sm s z4 f,w-1,J,a+1,aaf,J,J,?_,ig s f,J⟩;rw[oP,Ep,ue,ue,bE,<-bq,gz];exact h5
   have b:=aU b;have d:a=I x.dD:=J
   subst d;rw[bm (aX _),<-WQ]at v;exact⟨rfl,v,s⟩
  ·obtain⟨b,a,s⟩:=D;have k:ML xs n x.k x.s=aL:=by
    unfold ML;rw[<-m,<-o];cases j<;>cases l<;>simp at i⊢
   refine(Rg b 23 x.a k).mono ?_;rintro _ w ⟨rfl,f,d⟩;have v:=d.size;exact⟨rfl,sm a s d,f,ig a d,J⟩
  ·have k:ML xs n x.k x.s=aE:=by
    unfold ML;rw[<-m,<-o];cases j<;>cases l<;>simp at i⊢
   rw[k];exact D
  ·have hk:x.k≠3:=aay
   rw[bF hk];rfl
  ·have hk:x.k=3:=aay
   obtain⟨a,d,f⟩:=C;refine(TA a hm _).mono ?_;rintro _ u ⟨rfl,b⟩;obtain rfl:P=u:=b.symm;exact⟨_,rfl,cu.refl _ _,afF,a,d,f⟩
  ·have hk:x.k≠2:=aay
   rw[bF hk];rfl
  have hk:x.k=2:=aay
  refine(Rh t g _).mono ?_;rintro _ u ⟨rfl,a⟩;obtain rfl:e=u:=a.symm;exact⟨_,rfl,cu.refl _ _,by rw[hk,S];rfl,B⟩
def L6(c:∀k,G k->k≠b)(h:I vars<=8388608)(hm:I xs<=1000){l:Sl}{q:List Ac}(o:Lk f w b F vs vars nc sl xs)(g:li aL (qy aL) 9 161 w G l q)(z:ki q<=8388608):
  az aq 116 #[ae (aM ⟨b,0,aaa⟩),l.v] w λe w'=>e=ak (ai #[])/\Lk (jp f (lP xs (vars.map λv=>v.n) q)) w' b F vs vars nc sl xs/\Q [b] w w':=by
 generalize S:(vars.map λv=>v.n)=n;refine ret (amd _ _ ?_);have r:=g.1.len;have t:=gZ q;have kp:∀{u:av},Q [b] w u->aA (qy aL) 9 u G l q:=λp=>SliceF.only (cT aL) Z g.1 p λk hk _ hm=>c k hk ab2;let St:Ft->av->Prop:=λf u=>Lk f u b F vs vars nc sl xs/\Q [b] w u
 refine⟨λa i u=>∃j:Nat,i=(j:Int)/\a+j=I q/\j<=I q/\St (jp f (lP xs n (q.take j))) u,I q,⟨0,rfl,J,be _,by rw[cA];exact o,Only.refl _ _⟩,?_⟩;rintro a i u ⟨j,rfl,A,x,Y⟩;refine⟨λm=>?_,λm=>?_⟩
 ·have m:=aO m;obtain⟨y,B⟩:∃y,q[j]? =aM y:=⟨_,bf (show j<(I q) by omega)⟩
  have R:=rJ (bn B);unfold GA at R;have F:lP xs n (q.take (j+1))=lP xs n (q.take j)++(bad (decide (y.k≠1)||decide (y.n∈n)) 23 y.a++Qt xs n y.x):=by
   rw[bh,B];unfold lP;rw[iY];simp[acF]
  have at_:∀{v:av},Q [b] w v->∃ad s,cR l (j:Int) 9 ad/\aB v (ad.add 0) [O U y.k]/\aB v (ad.add 1) [X (T y.n)]/\aB v (ad.add 2) (nR y.x.k y.x.n y.x.s y.x.op s y.x.a)/\aB v (ad.add 8) [O U y.a]/\rE aL v G y.x (nR y.x.k y.x.n y.x.s y.x.op s y.x.a):=fun{v} h=>by
   obtain⟨ad,y',T,y,b,q3,q4,d,G⟩:=(kp h).get (ba j) J;rw[aW,B]at b;injection b with b;subst b;obtain⟨xc,rfl,f⟩:=G;obtain⟨s,rfl⟩:=eU f;exact⟨ad,s,y,d.dP 0 _ rfl,d.dP 1 _ rfl,d.part 2 λi v w=>LY w,d.dP 8 _ rfl,f⟩
  obtain⟨ad,s,E,H,K,P,V,W⟩:=at_ Y.2;refine⟨λL v=>L=(decide (y.k≠1)||decide (y.n∈n))/\St (jp f (lP xs n (q.take j))) v,λN M ⟨D,e⟩=>⟨St (jp f (lP xs n (q.take j)++bad (decide (y.k≠1)||decide (y.n∈n)) 23 y.a)),λw2 C=>?_,λk=>?_,λk=>?_⟩,ad,E,_,H,λhk=>⟨?_,Y⟩,λhk=>⟨ad,E,_,K,(Rh Y.1 h _).mono ?_⟩⟩
  ·obtain⟨T,G,v,p2,p3,w,p5,d,y⟩:=at_ C.2;have b:=EM c h hm d C.1 y J;rw[S]at b;refine⟨T,v,_,_,_,_,_,_,w,b.mono ?_⟩;rintro _ w3 ⟨rfl,s,f⟩;refine⟨rfl,a-1,J,j+1,aaf,J,J,?_,ig C.2 f⟩;rw[F,<-bq,gz];exact s
  ·obtain⟨G,w,s,T,p3,p4,v,p6⟩:=at_ e.2;have f:(decide (y.k≠1)||decide (y.n∈n))=aL:=by rw[<-D];simpa using k
   refine⟨G,s,_,v,(Rg e.1 23 _ f).mono ?_⟩;rintro _ w4 ⟨rfl,b,d⟩;refine⟨rfl,?_,ig e.2 d⟩;rw[gz];exact b
  ·have b:(decide (y.k≠1)||decide (y.n∈n))=aE:=by rw[<-D];simpa using k
   rw[b];show St (jp f (_++[])) M;rw[bE];exact e
  ·have hk:y.k≠1:=aay
   rw[bF hk];rfl
  have hk:y.k=1:=aay
  rintro _ v ⟨rfl,b⟩;obtain rfl:u=v:=b.symm;exact⟨_,rfl,by rw[hk,S];rfl,Y⟩
 have m:=aU m;have b:j=I q:=J
 subst b;rw[bm (aX _)]at Y;exact⟨rfl,Y.1,Y.2⟩
end
section
variable {f:Ft} {w w':av} {b:Nat} {F G:aJ} {vs sl:Sl} {vars:List Vr} {nc:aI} {xs:List dU}
def ab1(F:Fo xs){a b:Int}(c:sY xs a)(d:sY xs b):∃(m:Nat) (x:dU),yv xs a b=m/\xs[m]? =aM x:=by
 unfold yv;rcases uf (xs:=xs) a b (I xs) with⟨_,h⟩ | ⟨m,e,f,_⟩
 ·have b:=h 0 F.ne;obtain⟨x,a⟩:=gu (xs:=xs) (i:=0) F.ne;have r:=(F.rt x a).2.2;obtain⟨e,j⟩:=c;obtain⟨g,k⟩:=d;rw[xG a e,xG a g,bF J,bF J]at b;cases b
 obtain⟨x,a⟩:=gu (xs:=xs) f;exact⟨m,x,e,a⟩
def L7(r:Fo xs)(v:I xs<=64){C:Sl}{g:List (aH)}(a:Lk f w b F vs vars nc sl xs)(E:aA mh 1 w G C g)(P:I g<=1100000):
  az aq 118 #[ae (aM ⟨b,0,aaa⟩),C.v] w λe w'=>e=ak (aj (Io xs [] g))/\Q [] w w':=by
 refine ret (amf _ _ ?_);have M:=E.len;have K:∀{u:av},Q [] w u->aA mh 1 u G C g:=λc=>SliceF.only du Z E c aag;have o:∀{u:av},Q [] w u->aA tD 5 u F sl xs:=λc=>(a.only c).sp;refine⟨λB q A u=>∃(j:Nat) (i:List Int),A=(j:Int)/\B+j=I g/\j<=I g/\I i=j/\(∀n,n∈i->sY xs n)/\gV w.heap.size u q i/\Io xs [] g=Io xs i (g.drop j)/\Q [] w u,I g,⟨0,[],rfl,J,be _,rfl,λn h=>by simp at h,Own.nil _ _ _ _ _ _,rfl,Only.refl _ _⟩,?_⟩;rintro B q _ V ⟨j,i,rfl,S,N,R,m,H,L,c⟩;refine⟨λl d D=>?_,λl=>⟨?_,c⟩⟩
 ·have l:=aO l;have f:=c.cd D;obtain⟨ad,s,cs,W,G,g3,g4,g5,Y⟩:=(K f).get (ba j) J;have Y:cs=[X (T s)]:=Y;subst Y;rw[aW]at G;have am:g.drop j=s::g.drop (j+1):=by
   obtain⟨bU,e⟩:=bc.1 G;rw[<-e,CA]
  rw[am,Ew]at L;refine⟨sl,(a.only f).row,ad,W,_,g5,(vq (o f) s).mono ?_⟩;rintro _ u ⟨rfl,hu⟩;obtain rfl:d=u:=hu.symm;refine⟨_,rfl,λF=>⟨?_,f⟩,λF=>?_⟩
  ·rw[L,aV (aO F)]
  have F:=aU F;rw[aP F]at L;have T:=QM r F;obtain⟨e,_⟩ | ⟨p,x,e,hx,_⟩:=jt xs s
  ·omega
  obtain⟨aC,a1,a2,a3,_⟩:=jI (o f) hx;have aS:gV w.heap.size d q i:=H.kp D;have eN:yQ xs s=if fF x.k=aE then x.pa else(p:Int):=by
   unfold yQ;rw[e,fG hx,lA hx]
  rw[e]at F⊢;refine⟨sl,(a.only f).row,aC,a1,_,a2.dP 0 _ rfl,(IT d x.k).mono ?_⟩;rintro _ u ⟨rfl,hu⟩;obtain rfl:d=u:=hu.symm;refine⟨_,rfl,λi3 u=>i3=yQ xs s/\d=u,λi3 w4 ⟨h3,aT⟩=>?_,λhh=>⟨sl,(a.only f).row,aC,a1,_,a3,?_,rfl⟩,λhh=>⟨?_,rfl⟩⟩
  ·subst aT h3;refine⟨λvC A u=>∃t:Nat,A=(t:Int)/\vC+t=I i/\t<=I i/\((i.take t).any λbV=>!Ff xs (yQ xs s) bV)=aL/\Q [] d u,I i,⟨0,rfl,J,be _,rfl,Only.refl _ _⟩,?_⟩;rintro vC _ w5 ⟨t,rfl,Jn,ht,e,eh⟩;have bv:=aS.len;have o5:=f.cd eh;have p:gV w.heap.size w5 q i:=aS.kp eh;refine⟨λx w6 dK=>?_,λx=>?_⟩
   ·have x:=aO x;have o6:=o5.cd dK;have cc:gV w.heap.size w6 q i:=p.kp dK;obtain⟨y,hy⟩:∃y,i[t]? =aM y:=⟨_,bf (show t<(I i) by omega)⟩
    have n:=m y (bn hy);obtain⟨zi,b1,b2⟩:=IR (aog cc) hy;obtain⟨y4,w7,k1,k2,k3⟩:=anJ w6 (Bd T v) (Bd n v);refine⟨λk=>k=b,rfl,sl,(a.only o6).row,zi,b1,y,b2,y4,w7,k1,bT.only k2,(ab0 (o (o6.cd k2)) r J k3 T n).mono ?_⟩;rintro _ w8 ⟨rfl,ft⟩;have o8:=(o6.cd k2).cd ft;obtain⟨Se,c1,c2⟩:=IR (aog ((cc.kp k2).kp ft)) hy;obtain⟨ce,z,em,RM⟩:=ab1 r T n;obtain⟨co,d1,d2,_⟩:=jI (o o8) RM;have bY:(!Ff xs (yQ xs s) y)=(((ce:Int)==yQ xs s||(ce:Int)==y)||z.k !=2):=by
     unfold Ff;rw[em,fG RM,bL];by_cases q:(ce:Int)=yQ xs s<;>by_cases b:(ce:Int)=y<;>by_cases q3:z.k=2<;>simp[q,b,q3]
    rw[em];refine⟨_,rfl,bT.only ft,Se,λ_=>c1,_,λ_=>c2,sl,λ_=>(a.only o8).row,co,λ_=>d1,_,λ_=>d2.dP 0 _ rfl,λhq=>⟨?_,o8⟩,λhq=>⟨vC-1,J,t+1,aaf,J,J,?_,(eh.cd dK).cd (k2.cd ft)⟩⟩
    ·rw[L,aV];exact fO.2 ⟨y,bn hy,bY.trans hq⟩
    rw[bh,hy,vT,e,kw];simp only[Option.toList,List.any_cons,List.any_nil,JJ];exact bY.trans hq
   have x:=aU x;rw[bm J]at e;rw[aP (by rw[e];decide)]at L;obtain⟨y,q,k,k3,b,z,W,G,g3,_⟩:=aeo w p o5 (yQ xs s) (Bd T v) J;refine⟨y,q,k,b,z,W,B-1,J,j+1,i++[yQ xs s],aaf,J,J,by rw[aQ,bB,R],λn h=>?_,G,L,g3⟩;rcases ch.1 h with h | h
   ·exact m n h
   simp only[aN]at h;subst h;exact T
  ·rw[eN,aV hh]
  rw[eN,aP aeg]
 have l:=aU l;rw[dV J]at L;rw[L];rfl
end
def b25(k:Int)(n:Nat)(i:aH)(g:Bool):Bool:=decide (k=2/\(i≠[]∨n<2))||decide (k=1/\0<n/\g=aL)||decide (k=1/\n=0/\i≠[])
def aeC n i g:b25 2 n i g=aE↔i≠[]∨n<2:=by unfold b25;simp
def Ri n i g:b25 1 n i g=aE↔(0<n/\g=aL)∨(n=0/\i≠[]):=by unfold b25;simp
def aoh{xs}{b}{l}{n} f (hk:1<=b.k/\b.k<=4) (hh:fF b.k=aL):jp f (vg xs b l n)=if b25 b.k (CS l) b.ini (vL b.ini l)=aE then jp f [(25,b.a)]else if b.k=1/\CS l=0/\I l≠0 then jp f [(26,b.a)]else f:=by
 have e:¬_:=λh=>by unfold fF at hh;rw[bF h]at hh;cases hh
 unfold vg;rw[aP aeg];rcases(by omega:b.k=2∨b.k=1)with a | d
 ·rw[aV a,a];by_cases c:b.ini≠[]∨CS l<2
  ·have:(decide (b.ini=[])&&decide (1<CS l))=aL:=by
    rw[jq,dl,dl];rcases c with c | c
    ·exact .inl c
    exact .inr J
   rw[aV ((aeC _ _ _).2 c),this];rfl
  have:(decide (b.ini=[])&&decide (1<CS l))=aE:=by
   rw[aR,cX,cX];exact⟨og.1 λh=>c (.inl h),Nat.lt_of_not_le λh=>c (.inr J)⟩
  rw[aP (λh=>c ((aeC _ _ _).1 h)),aP (λh=>absurd h.1 Z),this];rfl
 rw[aP J,d];by_cases s:0<CS l
 ·rw[aV s];cases g:vL b.ini l
  ·rw[aV ((Ri _ _ _).2 (.inl ⟨s,rfl⟩))];rfl
  rw[aP (λh=>((Ri _ _ _).1 h).elim (λh=>(by cases h.2)) λh=>J),aP (λh=>J)];rfl
 rw[aP s];have M:CS l=0:=J
 by_cases i:b.ini=[]
 ·rw[aP (λh=>((Ri _ _ _).1 h).elim (λh=>J) λh=>h.2 i),bF i];by_cases b:I l=0
  ·rw[aP (λh=>h.2.2 b),bF b];rfl
  rw[aV ⟨rfl,M,b⟩,bA b];rfl
 rw[aV ((Ri _ _ _).2 (.inr ⟨M,i⟩)),bA i,gz];show jp (jp f [_]) _=_;refine En ?_ _;rw[show jp f [_]=if f.1=0 then _ else f from rfl];split
 ·show 25≠0;decide
 assumption
section
variable {f:Ft} {w w':av} {b:Nat} {F G:aJ} {vs sl:Sl} {vars:List Vr} {nc:aI} {xs:List dU}
def X2(hG:∀k,G k->k≠b)(N:Fo xs)(hv:I vars<=8388608)(hm:I xs<=64){L:Nat}{c:Nb}{s:List Nd}{cs:aI}(aC:Lk f w b F vs vars nc sl xs)(hx:lO aL (L+1) w G (.mk c s) cs){a:Nat}(ha:a<I xs)(D:mj (.mk c s)<=1048576){dp:Nat}(P:jY dp (.mk c s)=aE):
  az aq 81 #[ae (aM ⟨b,0,aaa⟩),ah cs.toArray,O U (a:Int)] w λe w'=>e=ak (ai #[])/\Lk (jp f (vg xs c s a++(lP xs (vars.map λv=>v.n) (c.en++c.lv)++c.mv.flatMap (Cj xs (vars.map λv=>v.n))))) w' b F vs vars nc sl xs/\Q [b] w w':=by
 have Fl:1<=c.k/\c.k<=4:=by
  rw[jY,aR,aR]at P;have i:=P.1.2;unfold qm at i;rw[aR]at i;have i:=i.2;split at i
  ·rename_i a;unfold fF at a;have:=aO a;omega
  simp only[aR]at i;have:=(aO i.1.1.1.1).1;omega
 have ZB:∀H,H∈c.mv->H.k=3->0<=H.wt:=λH B hk=>by
  rw[jY,aR,aR]at P;have i:=P.1.2;unfold qm at i;rw[aR]at i;have i:=i.2;split at i
  ·simp only[aR]at i;have:=(aO i.2).2.2.2.1;rw[rn.1 this]at B;simp at B
  rw[aR]at i;have:=dx.1 i.2 H B;unfold mz at this;rw[aR]at this;have:=aO this.2;omega
 obtain⟨en,lv,mv,kids,iO,⟨he,yA,oa⟩,fZ⟩:=hx;dsimp only[Nd.kids,Nd.b]at iO he yA oa fZ;subst iO;have hk:=fZ.1;rw[mj]at D;unfold yu at D;have MC:=oB s;have i:=aC.lb;generalize S:(vars.map λv=>v.n)=m;let aS:List Ft:=vg xs c s a
 refine ret (alS _ _ _ _ _ _ _ _ _ _ _ ?_);intro k0 w0 ez xb W;have z0:=W.size;let St:Ft->av->Prop:=λf u=>Lk f u b F vs vars nc sl xs/\Q [b] w u/\w0.heap.size<=u.heap.size
 have s0:St f w0:=⟨aC.only W,only1 W,aX _⟩
 have sm:∀{g:Ft} {u d:av},St g u->Q [b] u d->cu [k0] u d:=λhs hO=>hO.same (by have:=hs.2.2;simp;omega);have st0:∀{g:Ft} {u d:av},St g u->Q [] u d->St g d:=fun{g u d} hs hO=>⟨hs.1.only hO,ig hs.2.1 (only1 hO),ad9⟩
 have R:∀{g r:Ft} {u d:av},St g u->Lk r d b F vs vars nc sl xs->Q [b] u d->St r d:=fun{g r u d} hs x hO=>⟨x,ig hs.2.1 hO,ad9⟩
 have lM:∀(e M:Int) {g:Ft} {u:av},St g u->az aq 47 #[ae (aM ⟨b,0,aaa⟩),O U e,O U M] u λK d=>K=ak (ai #[])/\cu [k0] u d/\St (jp g [(e,M)]) d:=λe M {g u} hs=>(uk hs.1 e M).mono (by
  rintro _ d ⟨rfl,x,hO⟩;exact⟨rfl,sm hs hO,R hs x hO⟩)
 have V:∀(k:Int) {u:av},az aq 29 #[O U k] u λK d=>∃b':Bool,K=ak (aj b')/\u=d/\b'=fF k:=λk {u}=>(IT u k).mono (by
  rintro _ d ⟨rfl,a⟩;exact⟨_,rfl,a.symm,rfl⟩)
 have kA:∀{u:av} {q:Sl} {o:List Ac},li aL (qy aL) 9 161 w G q o->∀{g:Ft},St g u->li aL (qy aL) 9 161 u G q o:=fun{u q o} h {g} hs=>h.keep (cT aL) Z λk hk C=>hs.2.1.block k C ae2;have kK:∀{g:Ft} {u:av},St g u->aA (lO aL L) 9 u G kids s:=λhs=>SliceF.only (cf aL L) Z hk hs.2.1 λk hk _ hm=>hG k hk ab2;have R8:=hk.len;refine⟨λE i0 b0 am u=>∃j:Nat,am=(j:Int)/\E+j=I s/\j<=I s/\i0=(CS (s.take j):Nat)/\b0=vL c.ini (s.take j)/\St f u,I s,⟨0,rfl,J,be _,rfl,rfl,s0⟩,?_⟩;rintro E _ _ _ w1 ⟨j,rfl,oX,hj,rfl,rfl,A⟩;refine⟨λY=>?_,λY=>(V c.k).mono ?_⟩
 ·have Y:=aO Y;obtain⟨y,l⟩:∃y,s[j]? =aM y:=⟨_,bf (show j<(I s) by omega)⟩
  have at_:∀{g:Ft} {u:av},St g u->∃(ad:Addr),cR kids (j:Int) 9 ad/\aB u (ad.add 0) [O U y.b.k]/\aB u (ad.add 1) [X (T y.b.nm)]:=fun{g u} hs=>by
   obtain⟨ad,T,y,k,a,v,G,e,f⟩:=(kK hs).get (ba j) J;rw[aW,l]at a;injection a with a;subst a;cases L with
   | zero=>exact f.elim
   | succ D'=>
    obtain⟨ri,rj,oM,gD,rfl,_⟩:=f;exact⟨ad,k,e.dP 0 _ rfl,e.dP 1 _ rfl⟩
  have t:=Ey l;have w:=W6 (s.take j);rw[cx]at w;have b:vL c.ini (s.take (j+1))=(vL c.ini (s.take j)||decide (y.b.nm=c.ini)):=by
   unfold vL;rw[bh,l,vT];simp
  obtain⟨ad,k,a,v⟩:=at_ A;refine⟨ad,k,_,a,(V y.b.k).mono ?_⟩;rintro _ u ⟨z,rfl,rfl,rfl⟩;refine⟨_,rfl,cu.refl _ _,λn u=>n=(CS (s.take (j+1)):Nat)/\St f u,λn F ⟨q,p⟩=>?_,λhn=>⟨?_,A⟩,λhn=>⟨?_,A⟩⟩
  ·obtain⟨e,y,T,G⟩:=at_ p;exact⟨e,λ_=>y,_,λ_=>G,λw4 f=>⟨E-1,J,j+1,aaf,J,J,q,by rw[b,iv],st0 p f⟩⟩
  ·rw[fh J J,t,aP (by intro e;rw[e]at hn;cases hn)];rfl
  rw[t,aV adK];rfl
 have Y:=aU Y;have lu:j=I s:=J
 subst lu;rw[bm (aX _)];rintro _ u ⟨b2,rfl,rfl,v⟩;have qk:∀{q:Sl} {o:List Ac},li aL (qy aL) 9 161 w G q o->ki o<=8388608->∀{g:Ft} {u:av},St g u->az aq 116 #[ae (aM ⟨b,0,aaa⟩),q.v] u λK d=>K=ak (ai #[])/\Q [b] u d/\St (jp g (lP xs m o)) d:=fun{q o} h T {g u} hs=>(L6 hG hv J hs.1 (kA h hs) T).mono (by
  rw[S];rintro _ d ⟨rfl,x,hO⟩;exact⟨rfl,hO,R hs x hO⟩)
 refine⟨b2,rfl,cu.refl _ _,St (jp f (vg xs c s a)),λw6 s6=>?_,?_,?_⟩
 ·refine(qk he J s6).mono ?_;rintro _ w7 ⟨rfl,fR,p⟩;refine⟨rfl,sm s6 fR,(qk yA J p).mono ?_⟩;rintro _ w8 ⟨rfl,ft,q⟩;have G:jp (jp (jp f (vg xs c s a)) (lP xs m c.en)) (lP xs m c.lv)=jp f (vg xs c s a++lP xs m (c.en++c.lv)):=by
   rw[<-gz,<-gz];unfold lP;rw[iY]
  rw[G]at q;have FV:=oa.1.len;have Zl:=mA c.mv;refine⟨rfl,sm p ft,λE am u=>∃j:Nat,am=(j:Int)/\E+j=I c.mv/\j<=I c.mv/\St (jp f (vg xs c s a++(lP xs m (c.en++c.lv)++(c.mv.take j).flatMap (Cj xs m)))) u,I c.mv,⟨0,rfl,J,be _,by rw[cA,uA,bE];exact q⟩,?_⟩;rintro n _ w ⟨t,rfl,z,ht,l⟩;refine⟨λe=>?_,λe=>?_⟩
  ·have e:=aO e;obtain⟨ad,y,ds,g1,g2,g3,g4,g5,g6⟩:=(SliceF.only (iJ aL) Z oa.1 l.2.1 λk hk _ hm=>hG k hk ab2).get (ba t) J;rw[aW]at g2;have uJ:=bn g2;have R7:=oA uJ;have cc:=ZB y uJ;unfold Fe at R7;obtain⟨gc,rh,tg,rfl,hg,BJ,nL⟩:=g6;obtain⟨gs,rfl⟩:=eU hg;have G4:=ve y.tg;have e9:jp f (vg xs c s a++(lP xs m (c.en++c.lv)++(c.mv.take (t+1)).flatMap (Cj xs m)))=jp (jp (jp (jp (jp f (vg xs c s a++(lP xs m (c.en++c.lv)++(c.mv.take t).flatMap (Cj xs m)))) (bad (Lm y) 28 y.a)) (Qt xs m y.g)) (lP xs m y.acts)) (bad (Io xs [] y.tg) 27 y.a):=by
    rw[bh,g2,iY];simp only[Option.toList,zl,uA,bE,Cj,gz]
   refine⟨λu=>St (jp f (vg xs c s a++_)) u,λdz E1=>⟨n-1,J,t+1,aaf,J,J,E1⟩,ad,g1,_,_,_,_,_,_,_,_,_,_,_,_,_,g5,λk7 dF bY Zw dT=>?_⟩;rw[e9];generalize jp f (vg xs c s a++(lP xs m (c.en++c.lv)++(c.mv.take t).flatMap (Cj xs m)))=f9 at*
   have z9:=l.2.2;have bV:k7≠b:=by have:=l.1.lb;omega
   have aT:∀{u d:av},dF.heap.size<=u.heap.size->Q [b] u d->cu [k0,k7] u d:=λT hO=>hO.same (by have:=dT.size;simp;omega);have bv:Q [b] w dF:=only1 dT;have Cu:=st0 l dT;obtain⟨dg,US⟩:=hg;let S5:Ft->av->Prop:=λg u=>St g u/\Q [b] w u/\dF.heap.size<=u.heap.size
   have up:∀{g r:Ft} {u d:av},S5 g u->Lk r d b F vs vars nc sl xs->Q [b] u d->S5 r d:=fun{g r u d} hs x hO=>⟨R hs.1 x hO,ig hs.2.1 hO,ad9⟩
   refine⟨S5 (jp f9 (bad (Lm y) 28 y.a)),λeZ G6=>?_,λhw=>?_,λhw=>?_⟩
   ·refine(EM hG hv J dg G6.1.1 ((mw aL dg).keep US λk hk C=>G6.2.1.block k C ae2) J).mono ?_;rw[S];rintro _ fl ⟨rfl,uI,eE⟩;have a:=up G6 uI eE;refine⟨rfl,aT G6.2.2 eE,(L6 hG hv J uI (BJ.keep (cT aL) Z λk hk C=>a.2.1.block k C ae2) J).mono ?_⟩;rw[S];rintro _ gw ⟨rfl,f,eS⟩;have b:=up a f eS;refine⟨rfl,aT a.2.2 eS,(L7 N hm f (SliceF.only du Z nL.1 b.2.1 λk hk _ B=>hG k hk (by simpa using B)) J).mono ?_⟩;rintro _ ij ⟨rfl,t⟩;have F:=up b (f.only t) (only1 t);refine⟨_,rfl,aT b.2.2 (only1 t),λh=>(uk F.1.1 27 _).mono ?_,λh=>?_⟩
    ·rintro _ jw ⟨rfl,k,jF⟩;rw[show Io xs [] y.tg=aL by simpa using h];exact⟨rfl,aT F.2.2 jF,(up F k jF).1⟩
    rw[show Io xs [] y.tg=aE by simpa using h];exact F.1
   ·refine(uk Cu.1 28 _).mono ?_;rintro _ f ⟨rfl,b,a⟩;have:Lm y=aL:=by
     unfold Lm;simp at hw⊢;omega
    rw[this];exact⟨rfl,aT (aX _) a,up ⟨Cu,bv,aX _⟩ b a⟩
   have:Lm y=aE:=by
    unfold Lm;simp at hw⊢;omega
   rw[this];exact⟨Cu,bv,aX _⟩
  have e:=aU e;rw[bm J]at l;exact⟨rfl,l.1,l.2.1⟩
 ·intro hh ku j9;have G:fF c.k=aE:=by rw[<-v];exact hh
  have F:=st0 A j9;refine⟨sl,F.1.row,(vq F.1.sp c.dft).mono ?_⟩;rintro _ u ⟨rfl,hu⟩;obtain rfl:ku=u:=hu.symm;refine⟨_,rfl,cu.refl _ _,λkg lr=>?_⟩;have l:=st0 F lr;obtain⟨y,w⟩:=gu ha;obtain⟨ad,a1,_,a3,_⟩:=jI l.1.sp w;refine⟨sl,l.1.row,sl,l.1.row,ad,a1,_,a3,(IU l.1.sp _ _).mono ?_⟩;rintro _ u ⟨rfl,hu⟩;obtain rfl:kg=u:=hu.symm;have R5:y.pa<I xs:=by
   by_cases e:a=0
   ·subst e;have:=(N.rt y w).1;omega
   obtain⟨p,t,z,f,q,_⟩:=N.pa a y J w;have:=ir f;omega
  rw[ahh N _ _ R5];have O1:vg xs c s a=bad (Im xs c.dft&&Ad xs (fK xs c.dft) y.pa) 26 c.a:=by unfold vg;rw[aV G,lA w]
  refine⟨_,rfl,cu.refl _ _,λb6 u=>b6=(!(Im xs c.dft&&Ad xs (fK xs c.dft) y.pa))/\St f u,λb6 pI ⟨k,n⟩=>⟨λh=>(lM 26 c.a n).mono ?_,λh=>?_⟩,λb=>⟨?_,l⟩,λb=>?_⟩
  ·rintro _ u ⟨rfl,a,e⟩;rw[O1,show(Im xs c.dft&&Ad xs (fK xs c.dft) y.pa)=aL by rw[h]at k;exact(de _).mp k.symm];exact⟨rfl,a,e⟩
  ·rw[O1,show(Im xs c.dft&&Ad xs (fK xs c.dft) y.pa)=aE by rw[h]at k;exact(jz _).mp k.symm];exact n
  ·unfold Im;rw[cE]at b;rcases b with b | b
   ·rw[bA (by have:=aO b;omega:¬0<=fK xs c.dft)];simp[b]
   rw[show Ad xs (fK xs c.dft) y.pa=aL by simpa using b];simp
  rw[fy]at b;have p:=aU b.1;have f:=by simpa using b.2
  rcases jt xs c.dft with⟨e,_⟩ | ⟨q,z,e,a,_⟩
  ·omega
  obtain⟨y,q,t,_⟩:=jI l.1.sp a;rw[e];refine⟨sl,l.1.row,y,q,_,t.dP 0 _ rfl,(V z.k).mono ?_⟩;rintro _ u ⟨b7,rfl,rfl,rfl⟩;refine⟨_,rfl,cu.refl _ _,?_,l⟩;rw[<-e,f];unfold Im;rw[e,fG a,bF J];simp
 intro hh;have w:fF c.k=aL:=by rw[<-v];exact hh
 have G:(kids.n:Int)=I s:=J
 have t:=aoh (xs:=xs) (l:=s) (n:=a) f Fl w;have y:=iv c.ini [];refine⟨λF u=>F=b25 c.k (CS s) c.ini (vL c.ini s)/\St f u,λF qL ⟨b,p⟩=>⟨λh=>(lM 25 c.a p).mono ?_,λq=>⟨λh=>(lM 26 c.a p).mono ?_,λh=>?_⟩⟩,λk=>⟨?_,A⟩,λk=>⟨λz=>⟨?_,A⟩,λz=>⟨?_,A⟩⟩⟩
 ·rintro _ u ⟨rfl,a,e⟩;rw[t,aV (by rw[<-b];exact h)];exact⟨rfl,a,e⟩
 ·rintro _ u ⟨rfl,a,e⟩;rw[aR,aR,dB,dB,cX]at h;rw[t,aP (by rw[<-b,q];decide),aV ⟨h.1.1,J,J⟩];exact⟨rfl,a,e⟩
 ·rw[t,aP (by rw[<-b,q];decide),aP]
  ·exact p
  rintro⟨a,f,l⟩;have e:((c.k==1&&((CS s:Nat):Int)==0)&&decide ((kids.n:Int)>0))=aE:=by
   rw[aR,aR,dB,dB,cX];exact⟨⟨a,J⟩,J⟩
  rw[e]at h;cases h
 ·rw[y]at k⊢;unfold b25;rw[bL];revert k;generalize vL c.ini s=g;by_cases a:c.ini=[]<;>cases g<;>simp[a]<;>omega
 ·rw[y]at k;unfold b25;rw[bL];revert k z;generalize vL c.ini s=g;by_cases a:c.ini=[]<;>cases g<;>simp[a]<;>omega
 rw[y]at k⊢;unfold b25;rw[bL];revert k z;generalize vL c.ini s=g;by_cases a:c.ini=[]<;>cases g<;>simp[a]<;>omega
end
def GU:∀{l:List Nd} {d:Nat} {y:Nd},iL d l=aE->y∈l->jY d y=aE
 | [],_,_,_,h=>acr
 | x::l,d,y,h,a=>by
  rw[iL,aR]at h;rcases aZ.1 a with rfl | a
  ·exact h.1
  exact GU h.2 a
section
variable {b:Nat} {F G:aJ} {vs sl:Sl} {vars:List Vr} {nc:aI} {xs:List dU}
def Rj(h:∀k,G k->k≠b)(g:Fo xs)(i:I vars<=8388608)(hm:I xs<=64):∀(D:Nat) {f:Ft} {w:av} {x:Nd} {c:aI} {a d:Nat},Lk f w b F vs vars nc sl xs->lO aL D w G x c->mj x<=1048576->a+iH x<=(I xs)->jY d x=aE->
  az aq 48 #[ae (aM ⟨b,0,aaa⟩),ah c.toArray,O U (a:Int)] w λe j=>e=ak (O U ((a+iH x:Nat):Int))/\Lk (jp f (MM xs (vars.map λv=>v.n) a x)) j b F vs vars nc sl xs/\Q [b] w j
 | 0,_,_,_,_,_,_,_,a,_,_,_=>a.elim
 | D+1,f,w,.mk m s,c,a,d,C,E,G,V,K=>by
  have N:=E;obtain⟨en,lv,mv,kids,H,_,B⟩:=E;dsimp only[Nd.kids,Nd.b]at H B;subst H;have hk:=B.1;have R8:=hk.len;have R:=G;rw[mj]at R;have MC:=oB s;have hb:=C.lb;rw[iH]at V⊢;have q:=K;rw[jY,aR]at q;refine ret (alB _ _ _ _ _ _ _ _ _ _ _ ?_);intro k0 w0 ez xb p;have z0:=p.size;refine(X2 h g i hm (C.only p) ((cf aL _).keep N λk _ P=>p.block k P aag) (a:=a) J G K).mono ?_;rw[MM];generalize S:(vars.map λv=>v.n)=n at*
  generalize eL:vg xs m s a++(lP xs n (m.en++m.lv)++m.mv.flatMap (Cj xs n))=A;have L:∀M,vg xs m s a++(lP xs n (m.en++m.lv)++(m.mv.flatMap (Cj xs n)++M))=A++M:=λM=>by rw[<-eL,bq,bq]
  rw[L];rintro _ w1 ⟨rfl,T,r⟩;have z1:=r.size;have o1:Q [b] w w1:=ig (only1 p) r;refine⟨rfl,r.same aah,λu W Y z=>∃l:Nat,Y=(l:Int)/\u+l=I s/\l<=I s/\W=((a+1+dR (s.take l):Nat):Int)/\Lk (jp f (A++qp xs n (a+1) (s.take l))) z b F vs vars nc sl xs/\Q [b] w z/\w0.heap.size<=z.heap.size,I s,⟨0,rfl,J,be _,by rw[cA,dR,fh J J];rfl,by rw[cA,qp,bE];exact T,o1,J⟩,?_⟩;rintro u _ _ w2 ⟨l,rfl,oX,hj,rfl,t,x,z2⟩;refine⟨λo=>?_,λo=>?_⟩
  ·have o:=aO o;obtain⟨ad,y,ds,g1,f,g3,g4,g5,v⟩:=(SliceF.only (cf aL D) Z hk x λk hk _ hm=>h k hk ab2).get (ba l) J;rw[aW]at f;have F:=bn f;have am:=nB F;have uD:=mS f;have E4:=v;obtain⟨b,rfl⟩:∃b,D=b+1:=by
    cases D with
    | zero=>exact v.elim
    | succ b=>exact⟨b,rfl⟩
   obtain⟨ri,rj,oM,gD,rfl,_⟩:=v;have B8:=Rj h g i hm (b+1) (a:=a+1+dR (s.take l)) t E4 J J (GU q.2 F);rw[S]at B8;refine⟨ad,g1,_,_,_,_,ri,rj,oM,gD,_,g5,B8.mono ?_⟩;rintro _ w3 ⟨rfl,h3,k⟩;have z3:=k.size;have e:dR (s.take (l+1))=dR (s.take l)+iH y:=by
    rw[bh,f,Ab];show _+dR [y]=_;rw[dR,dR];omega
   have e2:qp xs n (a+1) (s.take (l+1))=qp xs n (a+1) (s.take l)++MM xs n (a+1+dR (s.take l)) y:=by
    rw[bh,f,Es];show _++qp xs n _ [y]=_;rw[qp,qp,bE]
   refine⟨_,rfl,k.same aah,u-1,J,l+1,aaf,J,J,by rw[e];congr 1;omega,?_,ig x k,J⟩;rw[e2,<-bq,gz];exact h3
  have o:=aU o;have a:l=I s:=J
  subst a;rw[bm (aX _)]at t⊢;exact⟨by congr 2;omega,t,x⟩
end
abbrev X3:Rp Int:=λ_ _ (x:Int) c=>c=[Value.int U x]
def Ax:Rp.Ok X3:=⟨λh _=>h,λh=>h,λh _=>h,λh=>by
 subst h;intro v a;simp only[aZ,bp,ci]at a;subst a;rfl⟩
abbrev X4(B:Nat)(w:av)(s:Sl)(i:List Int):Prop:=Own X3 1 3 B w (λ_=>False) s i
def aeD(t:Bool):∀(D:Nat) {w:av} {G:aJ} {x:Nd} {b:aI} {B:Nat} {s:Sl} {is:List Int},lO t D w G x b->(∀k,G k->k<B)->X4 B w s is->B<=w.heap.size->I is+iH x<=1000000->
  az aq 46 #[ah b.toArray,s.v] w λe a=>∃d,e=ak (Sl.v d)/\X4 B a d (is++(AQ x).map λp=>p.2)/\Gr s w d a
 | 0,_,_,_,_,_,_,_,h,_,_,_,_=>h.elim
 | D+1,w,G,.mk i f,b,B,s,is,⟨en,lv,mv,kids,N,_,o⟩,L,hS,am,hn=>by
  have hk:=o.1;clear o;dsimp only[Nd.kids,Nd.b]at hk N;subst N;rw[iH]at hn;rw[AQ];have Fj:=hk.len;have aC:=qo f;refine ik (alz _ _ _ _ _ _ _ _ _ _ ?_);intro A w0 o ez n;have z0:=n.size;have S:X4 B w0 s is:=hS.keep Ax λk _ W=>n.block k W aag;obtain⟨y,w2,k1,k3,l,m,Y,g2,⟨gs,u,g4⟩,H⟩:=kj (P:=aq) (t:=33) (ty:=33) (e:=3) (i:=Tryz.t3) (bytes:=8) (size:=1) (r:=X3) (G:=λ_=>False) (v:=O U i.a) (x:=i.a) aae aae rfl rfl rfl rfl Z Z Z Ax S J rfl rfl (λ_ h=>h.elim) J;have z2:=k3.size;have z3:=u.size;have qY:s.a≠aM ⟨A,0,aaa⟩:=λe=>acu
  have m3:Gr s w l m:=by
   refine⟨(n.cd k3).qz (u.p (F:=λk=>s.a=aM ⟨k,0,aaa⟩) λc p=>.inl (g4 c p).1),λk hk=>?_⟩;rcases H with e | ⟨c,e,h⟩
   ·exact .inl acB
   rw[e]at hk;injection hk with hk;injection hk with hk;exact .inr J
  have n3:∀k,l.a=aM ⟨k,0,aaa⟩->k≠A:=λk hk e=>by
   subst e;rcases H with e | ⟨c,e,h⟩
   ·exact qY acB
   rw[e]at hk;injection hk with hk;injection hk with hk;omega
  have V:X4 B m l (is++[i.a]):=by
   rcases g2 with⟨F,e⟩ | ⟨h,s,tail,k,p,q,r,t,v,B,y⟩
   ·simp at e
   exact .inr ⟨h,s,tail,k,p,q,r,t,v,B,iI.TM (λx c _ g=>g) y⟩
  have j6:∀{T:av} {q:Sl},Gr s w q T->aA (lO t D) 9 T G kids f:=λhm=>SliceF.kU (cf t D) Z hk hm.1 λk z _ h=>by
   have:=L k z;have:=(hS.blk h).1;dsimp only at this;omega
  refine⟨y,w2,k1,k3.same aah,l,m,Y,u.same λx hx=>⟨aak,λh=>acW⟩,λC q M a=>∃j:Nat,M=(j:Int)/\C+j=I f/\j<=I f/\X4 B a q (is++i.a::(yw (f.take j)).map λp=>p.2)/\Gr s w q a/\m.heap.size<=a.heap.size/\∀k,q.a=aM ⟨k,0,aaa⟩->k≠A,I f,⟨0,rfl,J,be _,by rw[cA,yw];exact V,m3,aX _,n3⟩,?_⟩;rintro C q _ w5 ⟨j,rfl,oX,mH,K,E,z5,R⟩;refine⟨λg=>?_,λg=>?_⟩
  ·have g:=aO g;obtain⟨ad,y,P,r,p,v,B,s,q⟩:=(j6 E).get (ba j) J;rw[aW]at p;have F:=q;obtain⟨c,rfl⟩:∃c,D=c+1:=by
    cases D with
    | zero=>exact q.elim
    | succ c=>exact⟨c,rfl⟩
   obtain⟨ri,rj,oM,gD,rfl,_⟩:=F;have uD:=mS p;refine⟨ad,r,_,_,_,_,ri,rj,oM,gD,_,s,(aeD t (c+1) q L K J (by rw[aQ,aY,bK,Qs];omega)).mono ?_⟩;rintro _ w7 ⟨q7,rfl,UW,m7⟩;have z7:=m7.1.size;refine⟨q7,rfl,m7.1.same λx hx=>?_,C-1,J,j+1,aaf,J,J,?_,E.trans m7,J,λk hk e=>?_⟩
   ·simp only[aN]at hx;subst hx;exact⟨J,λh=>R _ h rfl⟩
   ·have e:yw (f.take (j+1))=yw (f.take j)++AQ y:=by
     rw[bh,p,Ip];show _++yw [y]=_;rw[yw,yw,bE]
    rw[e,cK,<-bZ,<-bq];exact UW
   subst e;rcases m7.2 _ hk with h | h
   ·exact R _ h rfl
   omega
  have g:=aU g;have c:j=I f:=J
  subst c;rw[bm (aX _)]at K;exact⟨q,rfl,K,E⟩
def TB f ok {e a} (h:e≠0):jp (jp f (bad ok e a)) [(e,a)]=jp f [(e,a)]:=by
 cases ok
 ·show jp (jp f [_]) [_]=_;refine En ?_ _;rw[show jp f [_]=if f.1=0 then _ else f from rfl];split
  ·exact h
  assumption
 rfl
def TC{xs}{s}{j:Nat}(h:s∈(xs.take j).map λx:dU=>x.nm):fK xs s<j:=by
 have e:xs.map (λx:dU=>x.nm)=(xs.take j).map (λx:dU=>x.nm)++(xs.drop j).map λx:dU=>x.nm:=by
  rw[<-cK,fk]
 have a:=pX.2 h;rw[bK,cx]at a;unfold fK;rw[e,Iq ((xs.drop j).map λx:dU=>x.nm) h,aV J];omega
def oJ(c:Ch):Ft:=if(ja c).2≠0 then((ja c).2, -1)else jp (0,0) (Ag c)
def iy.sl'{B}{w}{s}{xs}(h:iy B w s xs):aA tD 5 w (λk=>B<=k) s xs:=(h.slice dC).mono dC λk hk=>hk.elim (λh=>h.elim) λh=>h.1
def X5{w:av}{F:aJ}{D:Nat}{c:Ch}{d:Sl}{H:aI}(h:ChR aL (D+1) w F c d H)(M:G8 c)(j:nY c.vars+mj c.root<=1048576):
  az aq 20 #[ah (d.v::H).toArray] w λe P=>e=ak (ah #[O U (oJ c).1,O U (oJ c).2])/\Q [] w P:=by
 obtain⟨n,l,mv,kids,N,_⟩:=h.root;subst N;refine ret (alo _ _ _ _ _ _ _ _ _ _ ?_);intro m o w0 V S Y W C;have z0:=C.size;have keep:∀{u:av},Q [] w u->ChR aL (D+1) u F c d (ob c.root.b.k c.root.b.nm c.root.b.ini c.root.b.dft n l mv kids c.root.b.a):=λg=>⟨h.vars.keep dY Z λk _ f=>g.block k f aag,(cf aL _).keep h.root λk _ f=>g.block k f aag⟩
 refine(abY (keep C) M j).mono ?_;rintro _ r ⟨⟨sl,rfl,R,_⟩,A⟩;have z1:=A.size;have K:=C.cd A;refine⟨sl,_,rfl,A.same aah,λhc w2 L=>⟨?_,?_⟩,λhc b t qG oL E=>?_⟩
 ·have hc:(ja c).2≠0:=aaj
  unfold oJ;rw[aV hc]
 ·exact(K.qz (L.p (F:=λk=>w.heap.size<=k) λx h=>by simp only[aN]at h;exact .inl J)).only λk hk=>hk
 have hc:(ja c).2=0:=aaj
 have gG:=R hc;have gT:=Bq hc;have kf:=Bp hc;unfold pC at kf;simp at kf;have dO:oJ c=jp (0,0) (Ag c):=by unfold oJ;rw[aP (λaC=>aC hc)]
 rw[dO];have z3:=E.size;have o3:=K.cd E;have bY:=
  (cf aL _).keep ((cf aL _).mono ((cf aL _).inHeap h.root) λk hk=>hk.2) λk _ f=>o3.block k f aag
 refine(aeD aL (D+1) (B:=t.heap.size) (s:=Sl.nil) (is:=[]) bY (λk hk=>J) (Own.nil _ _ _ _ _ _) (aX _) acV).mono ?_;rintro _ w4 ⟨l1,rfl,hA,gE⟩;rw[bR]at hA;have dI:Q [] t w4:=gE.1.only λk hk=>afs
 have z4:=dI.size;have o4:=o3.cd dI;have fd:=CR c;have g8:I (ff c)=iH c.root:=by unfold ff;rw[lX]
 have Hc:=abv c.root;have bV:(ff c).map (λs:dU=>s.nm)=(AQ c.root).map λp=>p.1:=Ll 0 (-1) 0 c.root;have ip:=h.vars.1.len;have AH:=wL c.vars;let VP:List (aH×Int):=c.vars.map λv=>(v.n,v.a)
 have cC:Ag c=vf [] (AQ c.root)++(vf [] VP++MM (ff c) _ 0 c.root):=rfl;rw[cC];generalize iD:ff c=xs at*
 have cc:aA AP 3 w4 (λk=>k<r.heap.size) d c.vars:=SliceF.mono dY (SliceF.keep dY (SliceF.inHeap dY h.vars.1 Z) Z λk hk f=>o4.block k f aag) λk hk=>acL
 have Fk:aA tD 5 w4 _ sl xs:=SliceF.mono dC (SliceF.keep dC (SliceF.inHeap dC gG.sl' Z) Z λk hk f=>(E.cd dI).block k f aag) λk hk=>hk.2;have TT:=Fk.len;let NC:aI:=ob c.root.b.k c.root.b.nm c.root.b.ini c.root.b.dft n l mv kids c.root.b.a
 have bv:∀{u:av} {f1 f2:Int},Q [b] w4 u->aF u b 104 (d.v::(NC++[sl.v,O U f1,O U f2]))->Lk (f1,f2) u b (λk=>k<r.heap.size) d c.vars NC sl xs:=fun{u f1 f2} g hB=>
  ⟨hB,rfl,SliceF.only dY Z cc g λk hk _ hm=>aaV,SliceF.only dC Z Fk g λk hk _ hm=>aaV,λk hk=>J⟩
 let SC:Sl->Int->aK->aK->aK->Sl->Sl->Sl->Sl->Int->Sl->Prop:=λl2 i2 s0 s1 s2 l3 l4 l5 l6 i3 l7=>d=l2/\c.root.b.k=i2/\T c.root.b.nm=s0/\T c.root.b.ini=s1/\T c.root.b.dft=s2/\n=l3/\l=l4/\mv=l5/\kids=l6/\c.root.b.a=i3/\sl=l7
 have aS:SC d c.root.b.k (T c.root.b.nm) (T c.root.b.ini) (T c.root.b.dft) n l mv kids c.root.b.a sl:=⟨rfl,rfl,rfl,rfl,rfl,rfl,rfl,rfl,rfl,rfl,rfl⟩
 have ce:∀{u u':av},Q [b] w4 u->Q [b] u u'->Q [b] w4 u':=λaC k=>ig aC k;have el:∀{u:av},Q [b] w4 u->Q [] w u:=λaC=>(o4.qz (aC.p (F:=λk=>w.heap.size<=k) λx h=>by simp at h;exact .inl J)).only λk hk=>hk;have sm:∀{u u':av},Q [b] w4 u->m≠b->o≠b->Q [b] u u'->cu [m,o] u u':=fun{u u'} hu h1 h2 g=>g.same (by have:=hu.size;simp;omega);refine⟨l1,rfl,dI.same aah,λkv i l2 i2 s0 s1 s2 l3 l4 l5 l6 i3 l7 f1 f2 u=>∃am:Nat,i=(am:Int)/\kv+am=I xs/\am<=I xs/\SC l2 i2 s0 s1 s2 l3 l4 l5 l6 i3 l7/\(f1,f2)=jp (0,0) (vf [] ((AQ c.root).take am))/\Q [b] w4 u,I xs,⟨0,rfl,J,be _,aS,rfl,Only.refl _ _⟩,?_⟩;have eQ:aA X3 1 w4 (λk=>t.heap.size<=k) l1 ((AQ c.root).map λp=>p.2):=(hA.slice Ax).mono Ax λk hk=>hk.elim (λaC=>aC.elim) λaC=>aC.1;have gO:b<w4.heap.size:=J
 have kA:∀{u:av},Q [b] w4 u->aA X3 1 u (λk=>t.heap.size<=k) l1 ((AQ c.root).map λp=>p.2):=λaC=>SliceF.only Ax Z eQ aC λk hk _ hm=>aaV
 have kS:∀{u:av},Q [b] w4 u->aA tD 5 u (λk=>k<r.heap.size) sl xs:=λaC=>SliceF.only dC Z Fk aC λk hk _ hm=>by simp at hm;omega
 have kV:∀{u:av},Q [b] w4 u->aA AP 3 u (λk=>k<r.heap.size) d c.vars:=λaC=>SliceF.only dY Z cc aC λk hk _ hm=>aaV
 have co:∀{u:av} (e a f1 f2:Int),Q [b] w4 u->m≠b->o≠b->aF u b 104 (d.v::(NC++[sl.v,O U f1,O U f2]))->
   az aq 47 #[ae _,O U e,O U a] u λp u'=>p=ak (ai #[])/\cu [m,o] u u'/\∃c i:Int,aF u' b 104 (d.v::(NC++[sl.v,O U c,O U i]))/\(c,i)=jp (f1,f2) [(e,a)]/\Q [b] w4 u':=fun{u} e a f1 f2 hu h1 h2 hB=>(uk (bv hu hB) e a).mono (by
  rintro _ u' ⟨rfl,k,g⟩;exact⟨rfl,sm hu h1 h2 g,_,_,k.blk,rfl,ce hu g⟩)
 rintro kv _ _ _ _ _ _ _ _ _ _ _ _ i4 i5 w5 ⟨am,rfl,oX,hj,⟨rfl,rfl,rfl,rfl,rfl,rfl,rfl,rfl,rfl,rfl,rfl⟩,aT,h5⟩;refine⟨λhc=>?_,λhc=>?_⟩
 ·have hc:=aO hc;obtain⟨y,v⟩:=gu (xs:=xs) (i:=am) J;obtain⟨ad,B,F,_⟩:=jI (kS h5) v;obtain⟨p,k⟩:∃p,(AQ c.root)[am]? =aM p:=⟨_,bf (show am<(I (AQ c.root)) by omega)⟩
  have q:p.1=y.nm:=by
   have h1:(xs.map λs:dU=>s.nm)[am]? =aM y.nm:=by rw[cF,v];rfl
   rw[bV,cF,k]at h1;exact Db h1
  have x:vf [] ((AQ c.root).take (am+1))=vf [] ((AQ c.root).take am)++bad (!decide (y.nm∈(xs.take am).map λs:dU=>s.nm)) 24 p.2:=by
   rw[bh,k,Af,bR,mg,<-bV,<-mg];simp only[Option.toList,vf,bE,q]
  have a:decide (y.nm∈(xs.take am).map λs:dU=>s.nm)=(fK xs y.nm !=(am:Int)):=by
   by_cases c:y.nm∈(xs.take am).map λs:dU=>s.nm
   ·have:=TC c;rw[bF c];simp;omega
   rw[bA c,yT v (λz i e=>c (dv.2 ⟨z,i,e⟩)) rfl];simp
  refine⟨λl2 i2 s0 s1 s2 l3 l4 l5 l6 i3 l7 f1 f2 u=>SC l2 i2 s0 s1 s2 l3 l4 l5 l6 i3 l7/\(f1,f2)=jp (0,0) (vf [] ((AQ c.root).take (am+1)))/\Q [b] w4 u,?_,ad,B,_,F.dP 1 _ rfl,(vq (kS h5) _).mono ?_⟩
  ·rintro _ _ _ _ _ _ _ _ _ _ _ _ _ u ⟨j,c,hu⟩;exact⟨kv-1,J,am+1,aaf,J,J,j,c,hu⟩
  rintro _ u ⟨rfl,hu⟩;obtain rfl:w5=u:=hu.symm;refine⟨_,rfl,cu.refl _ _,λc=>?_,λc=>⟨aS,?_,h5⟩⟩
  ·obtain⟨p1,z,s,q1,e,q3,q4,q5,G⟩:=(kA h5).get (i:=(am:Int)) (ba am) (by have:=(kA h5).len;rw[bK]at this;omega);have G:s=[Value.int U z]:=G;subst G;rw[aW,cF,k]at e;have e:p.2=z:=Db e;refine⟨p1,q1,_,q5,λhB h1 h2=>(co 24 z _ _ h5 h1 h2 hB).mono ?_⟩;rintro _ u ⟨rfl,hS,g1,g2,T,hg,hu⟩;refine⟨rfl,hS,d,_,_,_,_,n,l,mv,kids,_,sl,g1,g2,T,aS,?_,hu⟩;rw[hg,aT,x,gz,a,show(fK xs y.nm !=(am:Int))=aE from c,e];rfl
  rw[aT,x,gz,a,show(fK xs y.nm !=(am:Int))=aL from c];rfl
 have hc:=aU hc;have lu:am=I xs:=J
 subst lu;rw[bm J]at aT;have iF:I VP=I c.vars:=bK _;refine⟨λkv i l2 i2 s0 s1 s2 l3 l4 l5 l6 i3 l7 f1 f2 u=>∃am:Nat,i=(am:Int)/\kv+am=I c.vars/\am<=I c.vars/\SC l2 i2 s0 s1 s2 l3 l4 l5 l6 i3 l7/\(f1,f2)=jp (0,0) (vf [] (AQ c.root)++vf [] (VP.take am))/\Q [b] w4 u,I c.vars,⟨0,rfl,J,be _,aS,by rw[cA,vf,bE];exact aT,h5⟩,?_⟩;rintro vC _ _ _ _ _ _ _ _ _ _ _ _ i6 i7 w9 ⟨e,rfl,Jn,hm,⟨rfl,rfl,rfl,rfl,rfl,rfl,rfl,rfl,rfl,rfl,rfl⟩,s,B⟩;refine⟨λme=>?_,λme hB h1 h2=>?_⟩
 ·have me:=aO me;obtain⟨v,G⟩:∃v,c.vars[e]? =aM v:=⟨_,bf (show e<(I c.vars) by omega)⟩
  have nX:vf [] (VP.take (e+1))=vf [] (VP.take e)++bad (!decide (v.n∈(c.vars.take e).map λv=>v.n)) 24 v.a:=by
   have i:VP[e]? =aM (v.n,v.a):=by show(c.vars.map λv=>(v.n,v.a))[e]? =_;rw[cF,G];rfl
   have q:(VP.take e).map (λp=>p.1)=(c.vars.take e).map λv=>v.n:=by
    show((c.vars.map λv=>(v.n,v.a)).take e).map _=_;rw[<-mg,gR];rfl
   rw[bh,i,Af,bR,q];simp only[Option.toList,vf,bE]
  refine⟨λkv i l2 i2 s0 s1 s2 l3 l4 l5 l6 i3 l7 f1 f2 u=>∃am:Nat,i=(am:Int)/\kv+am=e/\am<=e/\SC l2 i2 s0 s1 s2 l3 l4 l5 l6 i3 l7/\(f1,f2)=jp (i6,i7) (bad (!decide (v.n∈(c.vars.take am).map λv=>v.n)) 24 v.a)/\Q [b] w4 u,e,⟨0,rfl,J,be _,aS,rfl,B⟩,?_⟩;rintro iN _ _ _ _ _ _ _ _ _ _ _ _ i8 i9 dz ⟨q,rfl,iS,a,⟨rfl,rfl,rfl,rfl,rfl,rfl,rfl,rfl,rfl,rfl,rfl⟩,k,F⟩;refine⟨λx=>?_,λx=>⟨vC-1,J,e+1,aaf,J,J,aS,?_,F⟩⟩
  ·have x:=aO x;obtain⟨v2,lE⟩:∃v,c.vars[q]? =aM v:=⟨_,bf (show q<(I c.vars) by omega)⟩
   have p:∀{u:av} {q:Nat} {v:Vr},Q [b] w4 u->c.vars[q]? =aM v->∃(ad:Addr),cR d (q:Int) 3 ad/\aB u (ad.add 0) [X (T v.n)]/\aB u (ad.add 2) [O U v.a]:=fun{u q v} hu a=>by
    have lT:=(bc.1 a).1;obtain⟨ad,y,ds,g1,c,g3,g4,g5,z⟩:=(kV hu).get (i:=(q:Int)) (ba q) J;rw[aW,a]at c;injection c with c;subst c;have z:ds=[X (T v.n),O U v.v,O U v.a]:=z;subst z;exact⟨ad,g1,g5.dP 0 _ rfl,g5.dP 2 _ rfl⟩
   obtain⟨p2,e1,e2,_⟩:=p F lE;obtain⟨p3,e3,e4,_⟩:=p F G;have qw:∀z:aH,z∈(c.vars.take (q+1)).map (λv=>v.n)↔z∈(c.vars.take q).map (λv=>v.n)∨v2.n=z:=λz=>by
    rw[bh,lE,cK,ch];simp[eq_comm]
   refine⟨λl2 i2 s0 s1 s2 l3 l4 l5 l6 i3 l7 f1 f2 u=>SC l2 i2 s0 s1 s2 l3 l4 l5 l6 i3 l7/\(f1,f2)=jp (i6,i7) (bad (!decide (v.n∈(c.vars.take (q+1)).map λv=>v.n)) 24 v.a)/\Q [b] w4 u,?_,p2,e1,_,e2,p3,e3,_,e4,λa=>⟨p3,e3,λeZ eW=>?_⟩,λa gw eS=>⟨aS,?_,F.cd eS⟩⟩
   ·rintro _ _ _ _ _ _ _ _ _ _ _ _ _ u ⟨j,c,hu⟩;exact⟨iN-1,J,q+1,aaf,J,J,j,c,hu⟩
   ·have c:=F.cd eW;obtain⟨p4,q,_,y⟩:=p c G;obtain rfl:=cR.Cp e3 q;refine⟨_,y,λhB h1 h2=>(co 24 v.a _ _ c h1 h2 hB).mono ?_⟩;rintro _ u ⟨rfl,hS,z,T,i,hg,hu⟩;refine⟨rfl,hS,d,_,_,_,_,n,l,mv,kids,_,sl,z,T,i,aS,?_,hu⟩;rw[iv]at a;have a:=aO a;rw[hg,k,TB _ _ Z,bF ((qw _).2 (.inr a))];rfl
   rw[iv]at a;have a:=aU a;rw[k];congr 3;exact gv.2 ⟨λaC=>(qw _).2 (.inl aC),λaC=>((qw _).1 aC).resolve_right a⟩
  have x:=aU x;have:q=e:=J
  subst this;rw[k,s,nX,<-gz,bq]
 have me:=aU me;have:e=I c.vars:=J
 subst this;rw[bm J]at s;have q:lO aL (D+1) w9 _ c.root NC:=(cf aL _).keep bY λk hk f=>(B.block k J aah).trans (dI.block k f aag);refine(Rj (G:=λk=>k<w.heap.size) (λk hk=>J) fd J J (D+1) (bv B hB) q J (a:=0) J kf.1.2).mono ?_;rintro _ y ⟨rfl,i,p⟩;rw[s,<-gz,bq]at i;exact⟨_,rfl,sm B h1 h2 p,d,_,_,_,_,n,l,mv,kids,_,sl,_,_,i.blk,λz v _=>⟨rfl,by
  have:=((el (ce B p)).qz (v.p (F:=λk=>w.heap.size<=k) λx h=>by simp at h;exact .inl J))
  exact this.only λk hk=>hk⟩⟩
end Go.Proofs.YtfemabakfkliiaaGreatDoor.Con
namespace Go.Proofs.YtfemabakfkliiaaGreatDoor.Con
def Kc(x:List dU)(d:Int)(c:Nat):Prop:=∃t,x[c]? =aM t/\t.pa=d
def Sb(s:List dU)(d:Int)(x:Nat):Prop:=d<x/\x<I s/\(d= -1∨∃k:Nat,d=k/\nf s k x)
def SS(s:List dU)(x:Nat):Prop:=∃t,s[x]? =aM t/\(t.k=1∨t.k=2)
def EN(x:List dU)(S:aJ)(d:Int):Prop:=∀c a,Kc x d c->Kc x d a->S c->S a->c=a
structure Gd (xs:List dU) (d:Int) (G:aJ):Prop where
 ne:∃g,G g
 bl:∀g,G g->Sb xs d g/\SS xs g
 con:∀(n:Nat) (t:dU) (c c' g g':Nat),xs[n]? =aM t->t.k=1->Kc xs n c->Kc xs n c'->G g->G g'->nf xs c g->nf xs c' g'->c=c'
section
variable {xs:List dU} (F:Fo xs) {d d':Int} {c c' k n x:Nat} {t:dU} {D:Int->Prop} {S G:aJ}
include F
theorem Fo.G1(a:Kc xs d c):Sb xs d c:=by
 obtain⟨t,h,rfl⟩:=a;have l:=ir h;by_cases b:0<c
 ·obtain⟨p,s,e,g,c,_,d,_⟩:=F.par h b;exact⟨J,l,.inr ⟨p,g,s,c,J,d⟩⟩
 have:c=0:=J
 subst this;have:=(F.rt t h).1;exact⟨J,l,.inl this⟩
theorem Fo.YE(b:Sb xs d x)(a:xs[x]? =aM t):t.pa=d∨∃p:Nat,t.pa=p/\Sb xs d p/\p<x/\nf xs p x:=by
 obtain⟨e,f,h⟩:=b;by_cases c:0<x
 ·obtain⟨p,s,j,l,m,_,q,r⟩:=F.par a c;have d:nf xs p x:=⟨s,m,J,q⟩
  have n:=ir m;rcases h with rfl | ⟨k,rfl,u,g,o,i⟩
  ·exact .inr ⟨p,l,⟨J,n,.inl rfl⟩,j,d⟩
  have:=r k u g J i;by_cases s:k=p
  ·exact .inl J
  exact .inr ⟨p,l,⟨J,n,.inr ⟨k,rfl,F.rW ⟨u,g,o,i⟩ d this⟩⟩,j,d⟩
 have:x=0:=J
 subst this;rcases h with rfl | ⟨k,rfl,_⟩
 ·exact .inl (F.rt t a).1
 omega
theorem Fo.ahA(h:Sb xs d k)(g:nf xs k x):Sb xs d x:=by
 obtain⟨c,f,a⟩:=h;have l:=F.EW g;have u:k<=x:=by obtain⟨_,_,h,_⟩:=g;exact h
 refine⟨J,l,a.imp id ?_⟩;rintro⟨b,e,m⟩;exact⟨b,e,F.oK m g⟩
theorem Fo.aou(h:Sb xs d k)(a:Sb xs k x):Sb xs d x:=by
 obtain⟨c,f,g⟩:=a;rcases g with g | ⟨b,e,m⟩
 ·omega
 have:b=k:=J
 subst this;exact F.ahA h m
theorem Fo.YG:∀(x:Nat),Sb xs d x->∃c,Kc xs d c/\nf xs c x
 | x,h=>by
  obtain⟨t,a⟩:=gu h.2.1;rcases F.YE h a with e | ⟨p,_,d,f,b⟩
  ·exact⟨x,⟨t,a,e⟩,F.qu h.2.1⟩
  obtain⟨c,e,g⟩:=Fo.YG p d;exact⟨c,e,F.oK g b⟩
theorem Fo.aeP(h:Kc xs d c)(f:Kc xs d c')(g:nf xs c x)(a:nf xs c' x):¬c<c':=λb=>by
 obtain⟨t,i,rfl⟩:=f;obtain⟨p,s,l,m,n,_,o,e⟩:=F.par i J;obtain⟨u,j,q,k⟩:=F.rW g a (Nat.le_of_lt b);have:=e c u j b k;have:=(F.G1 h).1;omega
theorem Fo.Ja(h:Kc xs d c)(b:Kc xs d c')(g:nf xs c x)(a:nf xs c' x):c=c':=by
 have:=F.aeP h b g a;have:=F.aeP b h a g;omega
end
end Go.Proofs.YtfemabakfkliiaaGreatDoor.Con
namespace Go.Proofs.YtfemabakfkliiaaGreatDoor.Con
open Go Go.RowKit Go.Kt Go.Kt.V Go.Proofs.YtfemabakfkliiaaGreatDoor.Vc
def mE(x:List dU)(s:aH):Int:=if s=[]then -1 else fK x s
def X6(x:List dU)(l:List Int):Nat->Int
 | 0=> -1
 | n+1=>if(l.all λk=>lY x n k)=aE then n else X6 x l n
def ahj(x:List dU)(n:Int):Bool:=decide (0<=n)&&decide (n<I x)
def Ay{x:List dU}{n:Int}:ahj x n=aE↔sY x n:=by
 unfold ahj sY;rw[aR,bG,bG]
def mtM(x:List dU)(l:List Int):Int:=if l=[]∨(l.any λn=>!ahj x n)=aE then -1 else X6 x l (I x)
def wQ(x:List dU)(l:List Int):∀n:Nat,(X6 x l n= -1/\∀m,m<n->(l.all λk=>lY x m k)=aL)∨∃m:Nat,X6 x l n=m/\m<n/\(l.all λk=>lY x m k)=aE/\∀j,m<j->j<n->(l.all λk=>lY x j k)=aL
 | 0=>.inl ⟨rfl,λm h=>J⟩
 | n+1=>by
  unfold X6;by_cases h:(l.all λk=>lY x n k)=aE
  ·rw[aV h];exact .inr ⟨n,rfl,J,h,λj a b=>J⟩
  rw[aP h];have h:(l.all λk=>lY x n k)=aL:=acs
  rcases wQ x l n with⟨a,b⟩ | ⟨m,a,b,c,d⟩
  ·exact .inl ⟨a,λm f=>(qH.1 f).elim (b m) λe=>ahT⟩
  exact .inr ⟨m,a,J,c,λj f g=>(qH.1 g).elim (d j f) λe=>ahT⟩
def ta{x:List dU}{l:List Int}{m:Nat}:(l.all λk=>lY x m k)=aE↔∀n:Int,n∈l->∃k:Nat,n=k/\nf x m k:=by
 rw[dx];constructor
 ·intro h n c;obtain⟨i,j,d,a,b⟩:=rK.1 (h n c);have:i=m:=J
  subst this;exact⟨j,a,b⟩
 intro h n c;obtain⟨k,a,b⟩:=h n c;exact rK.2 ⟨m,k,rfl,a,b⟩
def Fo.aov{x:List dU}(F:Fo x){l:List Int}{r:Int}(h:Mt x l r):r=mtM x l:=by
 unfold mtM;rcases h with⟨a,b⟩ | ⟨⟨a,b⟩,m,d,c,e⟩
 ·rw[aV,b];rcases a with a | ⟨n,g,f⟩
  ·exact .inl a
  refine .inr (fO.2 ⟨n,g,?_⟩);rw[de,fx];exact λh=>f (Ay.1 h)
 rw[aP]
 ·obtain⟨n,p⟩:=gW l a;obtain⟨k,_,hk⟩:=c n p;have f:m<I x:=by
   obtain⟨s,t,_⟩:=hk;exact ir t
  rcases wQ x l (I x) with⟨_,g⟩ | ⟨q,i,u,j,o⟩
  ·have:=g m f;rw[ta.2 c]at this;cases this
  have k:=e q (ta.1 j);have:m<=q:=by
   refine jy λn=>?_;have:=o m n f;rw[ta.2 c]at this;cases this
  rw[i,d];omega
 rintro(h | h)
 ·exact a h
 obtain⟨n,g,f⟩:=fO.1 h;rw[Ay.2 (b n g)]at f;cases f
def FH(x:List dU)(l:List Int):Nat->Int->Int
 | 0,d=>d
 | n+1,d=>if 0<d/\(jJ x d≠1∨d∈l)then FH x l n (NY x d)else d
def Bs(x:List dU)(s:Int)(t:List Int):Int:=if t=[]then -1 else FH x (s::t) (I x) (mtM x (s::t))
structure Ro where
 src:Int
 slot:Int
 k:Int
 ev:aH
 wt:Int
 tg:List Int
 dom:Int
def roM(x:List dU)(a i:Nat)(m:Mv):Ro:=⟨a,i,m.k,m.ev,m.wt,m.tg.map (mE x),Bs x a (m.tg.map (mE x))⟩
def IV(x:List dU)(a:Nat):Nat->List Mv->List Ro
 | _,[]=>[]
 | i,m::l=>roM x a i m::IV x a (i+1) l
mutual
def Uz(x:List dU):Nat->Nd->List Ro
 | a,.mk b l=>IV x a 0 b.mv++su x (a+1) l
def su(s:List dU):Nat->List Nd->List Ro
 | _,[]=>[]
 | a,x::l=>Uz s a x++su s (a+iH x) l
end
mutual
def AR:Nd->List Nb
 | .mk b l=>b::EO l
def EO:List Nd->List Nb
 | []=>[]
 | x::l=>AR x++EO l
end
structure Pl where
 sp:List dU
 ini:List Int
 dft:List Int
 ro:List Ro
def kP(c:Ch):Pl:=⟨ff c,(AR c.root).map λb=>mE (ff c) b.ini,(AR c.root).map λb=>mE (ff c) b.dft,Uz (ff c) 0 c.root⟩
def Rk:∀l m:List Nd,EO (l++m)=EO l++EO m
 | [],m=>by rw[bR,EO,bR]
 | x::l,m=>by rw[bZ,EO,EO,Rk l m,bq]
mutual
def vu:∀x,I (AR x)=iH x
 | .mk b l=>by rw[AR,iH,aY,C0]
def C0:∀l,I (EO l)=dR l
 | []=>by rw[EO,dR];rfl
 | x::l=>by rw[EO,dR,aQ,vu,C0]
end
def L8(s:List dU):∀(l m:List Nd) (a:Nat),su s a (l++m)=su s a l++su s (a+dR l) m
 | [],m,a=>by rw[bR,su,bR,dR,gy]
 | x::l,m,a=>by rw[bZ,su,su,L8 s l m,bq,dR,dM]
def EP(s:List dU)(a:Nat):∀(l:List Mv) (i:Nat) (m:Mv),IV s a i (l++[m])=IV s a i l++[roM s a (i+I l) m]
 | [],i,m=>rfl
 | x::l,i,m=>by
  rw[bZ,IV,IV,EP s a l,bZ,aY];congr 4;omega
def xH(s:List dU)(a:Nat):∀(l:List Mv) (i:Nat),I (IV s a i l)=I l
 | [],_=>rfl
 | x::l,i=>by rw[IV,aY,aY,xH s a l]
def gV.sl{B:Nat}{w:av}{s:Sl}{x:List Int}(h:gV B w s x):aA gL 1 w (λk=>B<=k) s x:=(h.slice cp).mono cp λk hk=>hk.elim (λh=>h.elim) λh=>h.1
def rR{w:av}{F:aJ}{s:Sl}{l:List Int}(h:aA gL 1 w F s l){i:Nat}{x:Int}(a:l[i]? =aM x):∃ad,cR s (i:Int) 1 ad/\aB w ad [O U x]:=by
 have e:=(bc.1 a).1;have m:=h.len;obtain⟨ad,y,f,b,g,j,k,c,d⟩:=h.get (ba i) J;rw[aW,a]at g;injection g with g;subst g;obtain⟨rfl,_⟩:=d;exact⟨ad,b,c⟩
def kI{w a:av}{F:aJ}{s:Sl}{l:List Int}(h:aA gL 1 w F s l)(b:Q [] w a):aA gL 1 a F s l:=SliceF.only cp Z h b aag
def kd(x:List dU)(i:Int):Int:=((x[i.toNat]?).map λs:dU=>s.k).getD 0
def GV{x:List dU}{i:Nat}{s:dU}(h:x[i]? =aM s):kd x (i:Int)=s.k:=by
 unfold kd;rw[aW,h];rfl
def stK(k:Int):Bool:=(k==1)||(k==2)
def nD(x:List dU)(n:Nat):List Int:=(jo x n (I x)).filter λk=>stK (kd x k)
structure Sd (xs:List dU):Prop where
 fo:Fo xs
 le:I xs<=64
 kn:∀(i:Nat) (s:dU),xs[i]? =aM s->1<=s.k/\s.k<=4
 rt:∃s,xs[0]? =aM s/\s.k=1
 pr:∀(i:Nat) (s:dU),xs[i]? =aM s->s.k=2->nD xs i≠[]
def ER{x:List dU}{i n:Nat}{k:Int}:k∈jo x i n↔∃(q:Nat) (t:dU),k=q/\q<n/\x[q]? =aM t/\t.pa=i:=by
 unfold jo;rw[dv];constructor
 ·rintro⟨q,h,rfl⟩;rw[j8,oS]at h;have:=aO h.2;rcases hx:x[q]? with _|t
  ·rw[hx]at this;cases this
  rw[hx]at this;injection this with this;exact⟨q,t,rfl,h.1,hx,this⟩
 rintro⟨q,t,rfl,h,a,b⟩;exact⟨q,by rw[j8,oS];exact⟨h,bF (by rw[a];exact bN aM b)⟩,rfl⟩
def Az{x:List dU}{i:Nat}{k:Int}:k∈nD x i↔∃(q:Nat) (t:dU),k=q/\x[q]? =aM t/\t.pa=i/\stK t.k=aE:=by
 unfold nD;rw[j8,ER];constructor
 ·rintro⟨⟨q,t,rfl,_,h,b⟩,a⟩;rw[GV h]at a;exact⟨q,t,rfl,h,b,a⟩
 rintro⟨q,t,rfl,h,a,b⟩;exact⟨⟨q,t,rfl,ir h,h,a⟩,by rw[GV h];exact b⟩
def X7(x:List dU)(i:Nat):I (nD x i)<=I x:=by
 unfold nD;refine bD (kZ _ _) ?_;unfold jo;rw[bK];exact bD (kZ _ _) (by rw[zn];exact aX _)
def pls(n:Nat)(p:Nat->Bool):List Int:=((List.range n).filter p).map λk:Nat=>(k:Int)
def ab3{n:Nat}{p:Nat->Bool}{x:Int}:x∈pls n p↔∃k:Nat,x=k/\k<n/\p k=aE:=by
 unfold pls;rw[dv];constructor
 ·rintro⟨k,hk,rfl⟩;rw[j8,oS]at hk;exact⟨k,rfl,hk⟩
 rintro⟨k,rfl,hk⟩;exact⟨k,by rw[j8,oS];exact hk,rfl⟩
def X8(n:Nat)(p:Nat->Bool):(pls n p).Pairwise (· <·):=by
 unfold pls;rw[zq];refine List.Pairwise.imp (R:=(· <·)) (λh=>J) ?_;exact List.Pairwise.filter _ List.pairwise_lt_range
def lvP(x:List dU)(act:List Int)(n:Nat):Bool:=decide ((n:Int)∈act)&&(kd x n==1)&&(I (nD x n)==0)
def lvs(x:List dU)(act:List Int):List Int:=pls (I x) (lvP x act)
def onC(x:List dU)(act:List Int)(n:Nat):Nat:=(nD x n).countP λr=>decide (r∈act)
def aur(x:List dU)(act:List Int)(n:Nat):Bool:=if kd x n=2 then onC x act n==I (nD x n) else onC x act n==min 1 (I (nD x n))
structure axv (xs:List dU) (act:List Int) (x:Int):Prop where
 ge:0<=x
 lt:x<I xs
 st:stK (kd xs x)=aE
 up:x=0∨∀s,xs[x.toNat]? =aM s->s.pa∈act
 on:aur xs act x.toNat=aE
structure Lg (xs:List dU) (act:List Int):Prop where
 rt:(0:Int)∈act
 rise:act.Pairwise (· <·)
 at_:∀x,x∈act->axv xs act x
end Go.Proofs.YtfemabakfkliiaaGreatDoor.Con
namespace Go.Proofs.YtfemabakfkliiaaGreatDoor.Con
open Go Go.RowKit Go.Kt Go.Kt.V Go.Proofs.YtfemabakfkliiaaGreatDoor.Vc
def ahk(n:Int):Nat:=if 0<=n/\n<=63 then 2 ^ n.toNat else 0
def TD(m:Nat)(n:Int):Nat:=m||| ahk n
def L9(n:Int)(i:Nat):(ahk n).testBit i=decide (i<64/\n=i):=by
 unfold ahk;split
 ·rw[Nat.testBit_two_pow,gv];omega
 rw[Nat.zero_testBit];exact(bA J).symm
def vw(x:Nat):List Int:=pls 64 λi=>x.testBit i
def TE{x:Nat}{n:Int}:n∈vw x↔∃k:Nat,n=k/\k<64/\x.testBit k=aE:=ab3
def Ou(x:Nat):(vw x).Pairwise (· <·):=X8 _ _
def UA(x:List dU)(d:Int):Nat->Int->Nat->Nat
 | 0,_,S=>S
 | f+1,g,S=>if d<g then UA x d f (NY x g) (TD S g)else S
def ul(x:List dU)(d:Int)(G:List Int)(S:Nat):Nat:=G.foldl (λS g=>UA x d (I x) g S) S
def TF(x:List dU)(g:Nat->List Int)(S n:Nat):Nat:=
 if S.testBit n then(if kd x n=2 then(nD x n).foldl TD S else if nD x n≠[]/\((nD x n).all λr=>!S.testBit r.toNat)=aE then ul x n (g n) S else S)else S
def AA(x:List dU)(g:Nat->List Int):Nat->Nat->Nat
 | 0,S=>S
 | n+1,S=>TF x g (AA x g n S) n
section
variable {xs:List dU} (F:Fo xs) (hl:xs.length<=64)
include F hl
theorem Rl{d:Int}(h: -1<=d):∀(f g S:Nat),g<f->g<(I xs)->∀m,(UA xs d f g S).testBit m=aE↔S.testBit m=aE∨(d<m/\nf xs m g)
 | 0,g,S,a,_,m=>J
 | f+1,g,S,c,i,m=>by
  unfold UA;obtain⟨t,j⟩:=gu i;by_cases hd:d<g
  ·rw[aV hd,lA j];have o:∀m,(TD S g).testBit m=aE↔S.testBit m=aE∨m=g:=λm=>by
    unfold TD;rw[Nat.testBit_or,L9,cE,bG];exact F2 ⟨λc=>J,λc=>⟨J,J⟩⟩
   by_cases z:0<g
   ·obtain⟨p,s,q,k,e,_,l,n⟩:=F.par j z;have d:nf xs p g:=⟨s,e,J,l⟩
    rw[k,Rl h f p (TD S g) J (ir e) m,o,or_assoc];refine F2 ⟨?_,?_⟩
    ·rintro(rfl | ⟨a,b⟩)
     ·exact⟨hd,F.qu i⟩
     exact⟨a,F.oK b d⟩
    rintro⟨a,u,b,p,f⟩;by_cases r:m=g
    ·exact .inl r
    have:=n m u b J f;exact .inr ⟨a,F.rW ⟨u,b,p,f⟩ d this⟩
   have:g=0:=J
   subst this;rw[(F.rt t j).1];have e:UA xs d f (-1) (TD S (0:Nat))=TD S (0:Nat):=by
    cases f with
    | zero=>rfl
    | succ f=>unfold UA;rw[aP J]
   rw[e,o];refine F2 ⟨?_,?_⟩
   ·rintro rfl;exact⟨hd,F.qu i⟩
   rintro⟨_,_,_,b,_⟩;omega
  rw[aP hd];refine⟨.inl,λc=>c.elim id λ⟨a,_,_,b,_⟩=>?_⟩;omega
theorem Bt{d:Int}(a: -1<=d):∀(G:List Int) (S:Nat),(∀g,g∈G->sY xs g)->∀m,(ul xs d G S).testBit m=aE↔S.testBit m=aE∨(d<m/\∃g:Nat,(g:Int)∈G/\nf xs m g)
 | [],S,_,m=>⟨.inl,λh=>h.elim id λ⟨_,g,h,_⟩=>acr⟩
 | g::G,S,h,m=>by
  obtain⟨c,f⟩:=h g (.head _);obtain⟨g,rfl⟩:∃k:Nat,g=k:=⟨g.toNat,J⟩
  have:=Bt a G (UA xs d (I xs) g S) (λy b=>h y (.tail _ b)) m;unfold ul at this⊢;rw[C8,this,Rl F hl a _ _ _ J J,or_assoc];refine F2 ⟨?_,?_⟩
  ·rintro(⟨d,e⟩ | ⟨d,q,e,i⟩)
   ·exact⟨d,g,.head _,e⟩
   exact⟨d,q,.tail _ e,i⟩
  rintro⟨d,q,j,i⟩;rcases aZ.1 j with e | e
  ·have:q=g:=J
   subst this;exact .inl ⟨d,i⟩
  exact .inr ⟨d,q,e,i⟩
end
def ahl(x:List dU)(S n:Nat):Prop:=(kd x n=2->∀r,r∈nD x n->S.testBit r.toNat=aE)/\(kd x n=1->nD x n=[]∨∃r,r∈nD x n/\S.testBit r.toNat=aE)
def ahl.mono{x:List dU}{S a n:Nat}(b:ahl x S n)(s:∀m,S.testBit m=aE->a.testBit m=aE):ahl x a n:=
 ⟨λe r h=>s _ (b.1 e r h),λe=>(b.2 e).imp id λ⟨r,h,c⟩=>⟨r,h,s _ c⟩⟩
def AB{s}(h:dJ s=aE):s≠[]:=λe=>by subst e;exact absurd h Z
mutual
def Bw:Nd->List Nd
 | .mk b l=>.mk b l::zf l
def zf:List Nd->List Nd
 | []=>[]
 | x::l=>Bw x++zf l
end
mutual
def AD:∀x,I (Bw x)=iH x
 | .mk b l=>by rw[Bw,iH,aY,IW]
def IW:∀l,I (zf l)=dR l
 | []=>by rw[zf,dR];rfl
 | x::l=>by rw[zf,dR,aQ,AD,IW]
end
mutual
def Ma:∀x,(Bw x).map (λy=>y.b)=AR x
 | .mk b l=>by rw[Bw,AR,bS,aeF];rfl
def aeF:∀l,(zf l).map (λy=>y.b)=EO l
 | []=>by rw[zf,EO];rfl
 | x::l=>by rw[zf,EO,cK,Ma,aeF]
end
def ahm(s:List dU)(v:List (aH))(a:Nat)(x:Nd):Prop:=∃b p,Aw s (FF a b p x) a/\vg s x.b x.kids a=[]/\(∀m,m∈x.b.mv->Cj s v m=[])/\qm x.b (I x.kids)=aE/\∀y,y∈x.kids->∃d,jY d y=aE
section
variable {xs:List dU} {vs:List (aH)}
def GW:∀{l:List Nd} {d:Nat} {y:Nd},iL d l=aE->y∈l->jY d y=aE
 | [],_,_,_,h=>aal
 | x::l,d,y,h,a=>by
  rw[iL,aR]at h;rcases aZ.1 a with rfl | a
  ·exact h.1
  exact GW h.2 a
mutual
def Rn:∀(x:Nd) (a d:Nat) (c p:Int),MM xs vs a x=[]->jY d x=aE->Aw xs (FF a c p x) a->∀i y,(Bw x)[i]? =aM y->ahm xs vs (a+i) y
 | .mk b l,a,d,c,p,f,j,s,i,y,h=>by
  rw[MM]at f;obtain⟨m,g⟩:=dW.1 f;obtain⟨g,e⟩:=dW.1 g;obtain⟨e,n⟩:=dW.1 e;rw[jY,aR,aR]at j;obtain⟨⟨_,o⟩,k⟩:=j;rw[Bw]at h;cases i with
  | zero=>
   rw[cG,bJ]at h;subst h;exact⟨c,p,s,m,λb a=>List.flatMap_eq_nil_iff.1 e b a,o,λy h=>⟨d+1,GW k h⟩⟩
  | succ i=>
   rw[cY]at h;rw[FF]at s;have A:Aw xs (rc (a+1) a (p+1) l) (a+1):=λi x b=>by rw[dM,jG 1 i];exact s (i+1) x b
   have:=Mb l (a+1) (d+1) a (p+1) n k A i y h;rwa[dM,jG 1 i]at this
def Mb:∀(l:List Nd) (a d:Nat) (b p:Int),qp xs vs a l=[]->iL d l=aE->Aw xs (rc a b p l) a->∀i y,(zf l)[i]? =aM y->ahm xs vs (a+i) y
 | [],_,_,_,_,_,_,_,i,y,h=>by rw[zf]at h;simp at h
 | x::l,a,d,b,p,c,k,s,i,y,h=>by
  rw[qp]at c;obtain⟨e,f⟩:=dW.1 c;rw[iL,aR]at k;rw[rc]at s;rw[zf]at h;have F:=AD x;by_cases g:i<iH x
  ·rw[bX J]at h;exact Rn x a d b p e k.1 s.left i y h
  rw[cj J,F]at h;have r:=s.right;rw[lX]at r;have:=Mb l (a+iH x) d b p f k.2 r _ y h;rwa[show a+iH x+(i-iH x)=a+i by omega]at this
end
def Mc{pa dp}:∀{l:List Nd} {a i:Nat} {s:dU},(rc a pa dp l)[i]? =aM s->s.pa=pa->pa<a->∃y,y∈l/\s.k=y.b.k/\s.nm=y.b.nm
 | [],a,i,s,h,_,_=>by rw[rc]at h;simp at h
 | .mk b k::l,a,i,s,h,d,f=>by
  rw[rc]at h;have c:=lX a pa dp (.mk b k);by_cases g:i<iH (.mk b k)
  ·rw[bX J]at h;obtain⟨m,n,o,j⟩:=Il a pa dp _ i s h;by_cases b:i=0
   ·subst b;rw[FF,cG,bJ]at h;subst h;exact⟨_,.head _,rfl,rfl⟩
   obtain⟨p,t,_,_,e,_⟩:=j J;omega
  rw[cj J,c]at h;obtain⟨y,a,e⟩:=Mc h d J;exact⟨y,.tail _ a,e⟩
def Md{y}{pa dp}:∀{l:List Nd} a,y∈l->∃(j:Nat) (t:dU),(rc a pa dp l)[j]? =aM t/\t.pa=pa/\t.k=y.b.k
 | [],_,h=>aal
 | .mk b k::l,a,h=>by
  rw[rc];rw[aZ]at h;rcases h with rfl | h
  ·exact⟨0,_,rfl,rfl,rfl⟩
  obtain⟨j,t,c,d⟩:=Md _ h;exact⟨I (FF a pa dp (.mk b k))+j,t,by rw[cj J,dN];exact c,d⟩
end
structure Snd (c:Ch) (xs:List dU) (vs:List (aH)):Prop where
 fo:Fo xs
 le:I xs<=64
 len:I xs=iH c.root
 nd:(xs.map λx:dU=>x.nm).Nodup
 rt:c.root.b.k=1
 nice:∀i y,(Bw c.root)[i]? =aM y->ahm xs vs i y
def Rq{c}(k:pC c=aE)(d:Ag c=[]):Snd c (ff c) (Jw c):=by
 unfold pC at k;simp only[aR]at k;obtain⟨a,g⟩:=dW.1 d;obtain⟨g,b⟩:=dW.1 g;have h:=(GR a).1;rw[(Ll 0 (-1) 0 c.root).symm]at h;have hd:=aO k.2;have f:I (ff c)=iH c.root:=lX 0 _ 0 c.root;refine⟨CR c,J,f,h,hd.1,λi y j=>?_⟩;have:=Rn c.root 0 0 _ 0 b k.1.2 (λi x e=>by rw[bP];exact e) i y j;rwa[bP]at this
def ahn{c}(h:(ke c).1=0):Snd c (ff c) (Jw c):=Rq (Ty (rQ h).1) (rQ h).2
section
variable {c:Ch} {xs:List dU} {vs:List (aH)} (N:Snd c xs vs)
include N
theorem Snd.at_{i}{t}(h:xs[i]? =aM t):∃b l a p,(Bw c.root)[i]? =aM (.mk b l)/\t=⟨b.k,b.nm,a,p,((i+iH (.mk b l):Nat))⟩/\Aw xs (rc (i+1) i (p+1) l) (i+1)/\vg xs b l i=[]/\(∀m,m∈b.mv->Cj xs vs m=[])/\qm b (I l)=aE/\∀y,y∈l->∃d,jY d y=aE:=by
 have r:i<I (Bw c.root):=by rw[AD,<-N.len];exact ir h
 obtain⟨y,g⟩:∃y,(Bw c.root)[i]? =aM y:=⟨_,bf r⟩
 obtain⟨a,p,f,k,n,o,q⟩:=N.nice i y g;obtain⟨b,l⟩:=y;have e:=f 0 _ rfl;rw[gy,h,bJ]at e;refine⟨b,l,a,p,g,?_,λj x s=>?_,k,n,o,q⟩
 ·rw[e];congr 1;rw[iH];omega
 have:=f (j+1) x s;rwa[show i+_=i+1+j by omega]at this
theorem Snd.kn{i:Nat}{t}(c:xs[i]? =aM t):1<=t.k/\t.k<=4:=by
 obtain⟨b,l,p,d,_,rfl,_,_,_,h,_⟩:=N.at_ c;dsimp only;unfold qm at h;by_cases a:fF b.k=aE
 ·have:=aO a;omega
 rw[aP a]at h;simp only[aR]at h;have:=(aO h.2.1.1.1.1).1;omega
theorem Snd.hk(n k:Nat)(d:Kc xs n k):SS xs n:=by
 have h:=N.fo.G1 d;obtain⟨g,i,a⟩:=h;rcases a with a | ⟨m,e,f,u,j,c⟩
 ·omega
 have:m=n:=J
 subst this;refine⟨f,u,?_⟩;obtain⟨b,l,k,p,_,rfl,_,_,_,h,_⟩:=N.at_ u;dsimp only at c⊢;unfold qm at h;by_cases e:fF b.k=aE
 ·rw[aV e]at h;simp only[aR]at h;have:=(aO h.2.2).2.2.2.2;have:=rn.1 this;subst this;rw[iH,dR]at c;omega
 rw[aP e]at h;simp only[aR]at h;exact(aO h.2.1.1.1.1).1
theorem Snd.acg{n}{t}{b}{l}{dp}(g:xs[n]? =aM t)(d:t.en=((n+iH (.mk b l):Nat):Int))(f:Aw xs (rc (n+1) n (dp+1) l) (n+1))(h:nD xs n≠[]):0<CS l:=by
 obtain⟨w,h⟩:=gW _ h;obtain⟨q,j,rfl,u,p,hk⟩:=Az.1 h;obtain⟨o,r,a⟩:=N.fo.G1 ⟨j,u,p⟩;rcases a with a | ⟨m,e,v,c,x,k⟩
 ·omega
 have:m=n:=J
 subst this;rw[g,bJ]at c;subst c;rw[d,iH]at k;have t:=sX (m+1) m (dp+1) l;obtain⟨s,A⟩:=gu (xs:=rc (m+1) m (dp+1) l) (i:=q-(m+1)) J;have:=f _ s A;rw[show m+1+_=q by omega,u,bJ]at this;subst this;obtain⟨y,b,e,_⟩:=Mc A p J;refine List.length_pos_of_mem (j8.2 ⟨b,?_⟩);unfold stK at hk;rw[cE,dB,dB]at hk;unfold fF;rw[de,dl];omega
theorem Snd.ach{n}{l}{dp}(s:Aw xs (rc (n+1) n (dp+1) l) (n+1))(c:0<CS l):nD xs n≠[]:=by
 obtain⟨y,h⟩:=List.exists_mem_of_length_pos c;obtain⟨h,a⟩:=j8.1 h;obtain⟨j,t,d,e,f⟩:=Md (pa:=n) (dp:=dp+1) _ h;have b:=s j t d;have:=N.kn b;have m:=Az.2 ⟨_,t,rfl,b,e,by
  unfold fF at a;rw[de,dl]at a;unfold stK;rw[cE,dB,dB];omega⟩
 exact List.ne_nil_of_mem m
theorem Snd.sd:Sd xs:=by
 refine⟨N.fo,N.le,λi s h=>N.kn h,?_,λi s a hk=>?_⟩
 ·obtain⟨t,e⟩:=gu N.fo.ne;refine⟨t,e,?_⟩;obtain⟨b,l,k,p,d,rfl,_⟩:=N.at_ e;have r:=N.rt;generalize c.root=f at d r;obtain⟨g,j⟩:=f;rw[Bw,cG,bJ]at d;injection d with d;subst d;exact r
 obtain⟨b,l,e,p,_,rfl,d,c,_⟩:=N.at_ a;dsimp only at hk;unfold vg at c;rw[aP (by unfold fF;rw[hk];decide),aV hk]at c;have:=xv.1 c;rw[aR,bG,bG]at this;exact N.ach d J
theorem Snd.ini{n}{t}{b}(f:xs[n]? =aM t)(k:(AR c.root)[n]? =aM b)(i:t.k=1)(s:nD xs n≠[]):∃q:Nat,mE xs b.ini=q/\Kc xs n q:=by
 obtain⟨a,A,B,w,l,rfl,j,h,_,z,r⟩:=N.at_ f;have m:a=b:=by
  rw[<-Ma,cF,l]at k;injection k
 subst m;dsimp only at i;unfold vg at h;rw[aP (by unfold fF;rw[i];decide),aP J,aV (N.acg f rfl j s)]at h;have M:=xv.1 h;obtain⟨u,x,g,o,p,_⟩:=Re M j;have v:a.ini≠[]:=by
  obtain⟨y,c,e⟩:=fO.1 M;rw[<-aO e];obtain⟨d,hd⟩:=r y c;obtain⟨b,n⟩:=y;rw[jY,aR,aR]at hd;have:=hd.1.2;unfold qm at this;rw[aR]at this;exact AB this.1
 refine⟨u,?_,x,g,p⟩;unfold mE;rw[aP v,<-o];exact L5 N.nd g
theorem Snd.dft{n:Nat}{t}{b}(f:xs[n]? =aM t)(g:(AR c.root)[n]? =aM b)(a:fF t.k=aE):∃q:Nat,mE xs b.dft=q/\SS xs q/\Sb xs t.pa q:=by
 obtain⟨e,B,C,y,m,s,z,d,_,h,A⟩:=N.at_ f;have p:e=b:=by
  rw[<-Ma,cF,m]at g;injection g
 subst p;have o:t.k=e.k:=by rw[s]
 rw[o]at a;unfold vg at d;rw[aV a]at d;have:=xv.1 d;rw[aR,Lp]at this;obtain⟨k,v,w,r,j,D,i⟩:=this;unfold Im at k;rw[aR,bG]at k;unfold qm at h;rw[aV a]at h;simp at h;have l:=N.fo.EW i;obtain⟨x,u⟩:=gu l;refine⟨w,?_,⟨x,u,?_⟩,?_⟩
 ·unfold mE;rw[aP (AB h.2.1)];exact j
 ·have hk:=k.2;rw[j,fG u]at hk;have:=N.kn u;unfold fF at hk;rw[de,dl]at hk;omega
 rw[<-lA f,r];exact⟨J,l,.inr ⟨v,rfl,i⟩⟩
end
def Cn(x:List dU)(G:aJ):Prop:=∀(n:Nat) (t:dU) (c a g b:Nat),x[n]? =aM t->t.k=1->Kc x n c->Kc x n a->G g->G b->nf x c g->nf x a b->c=a
abbrev MO:=Int->Option (List Int)
def iE(x:List dU)(dft:List Int)(M:MO)(t:Int):List Int:=
 if t<0∨(I x:Int)<=t then[]else if fF (jJ x t)then(match M t with
  | some l=>l
  | none=>[(dft[t.toNat]?).getD 0])else[t]
def GX(x:List dU)(M:MO):Prop:=∀(n:Nat) (t:dU) (l:List Int),x[n]? =aM t->fF t.k=aE->M n=aM l->l≠[]/\(∀g,g∈l->∃k:Nat,g=k/\SS x k/\Sb x t.pa k)/\Cn x λk=>(k:Int)∈l
def GX.none(x:List dU):GX x λ_=>aaa:=λ_ _ _ _ _ h=>aal
def Me{c:Type}{R:c->c->Prop}:∀{l:List c} {a b:c},l.Pairwise R->a∈l->b∈l->a≠b->R a b∨R b a
 | [],_,_,_,h,_,_=>aal
 | x::l,a,b,h,e,f,n=>by
  rw[MG]at h;rcases aZ.1 e with rfl | d<;>rcases aZ.1 f with rfl | w
  ·exact absurd rfl n
  ·exact .inl (h.1 b w)
  ·exact .inr (h.1 a d)
  exact Me h.2 d w n
def Mf{x:List dU}:∀{r:List (aH)} {l:List Int},Io x l r=aE->(∀s,s∈r->∀o,o∈l->Ff x (yQ x s) o=aE)/\r.Pairwise λs a=>Ff x (yQ x a) (yQ x s)=aE
 | [],l,_=>⟨λ_ h=>aal,List.Pairwise.nil⟩
 | s::r,l,h=>by
  rw[Io]at h;by_cases b:fK x s<1
  ·rw[aV b]at h;cases h
  rw[aP b]at h;by_cases c:(l.any λo=>!Ff x (yQ x s) o)=aE
  ·rw[aV c]at h;cases h
  rw[aP c]at h;obtain⟨g,e⟩:=Mf h;refine⟨λa s o d=>?_,MG.2 ⟨λa s=>g a s _ aag,e⟩⟩;rcases aZ.1 s with rfl | s
  ·cases h:Ff x (yQ x a) o
   ·exact absurd (fO.2 ⟨o,d,by rw[h];rfl⟩) c
   rfl
  exact g a s o (ch.2 (.inl d))
section
variable {xs:List dU} (F:Fo xs)
include F
theorem Fo.aci{a b:Nat}(g:a<I xs)(i:b<I xs):∃m:Nat,yv xs a b=m/\nf xs m a/\nf xs m b/\∀j,nf xs j a->nf xs j b->j<=m:=by
 have y:∀j:Nat,(lY xs j a&&lY xs j b)=aE↔nf xs j a/\nf xs j b:=λj=>by
  rw[aR,rK,rK];constructor
  ·rintro⟨⟨p,k,s,t,h⟩,⟨q,r,e,n,o⟩⟩;have:p=j:=J
   have:q=j:=J
   have:k=a:=J
   have:r=b:=J
   subst_vars;exact⟨h,o⟩
  rintro⟨h,e⟩;exact⟨⟨j,a,rfl,rfl,h⟩,⟨j,b,rfl,rfl,e⟩⟩
 rcases uf (xs:=xs) a b (I xs) with⟨_,h⟩ | ⟨m,c,l,d,f⟩
 ·have:=h 0 F.ne;rw[(y 0).2 ⟨F.uo g,F.uo i⟩]at this;cases this
 obtain⟨k,n⟩:=(y m).1 d;refine⟨m,c,k,n,λj a Y=>jy λb=>?_⟩;have H:j<I xs:=by
  obtain⟨_,e,_⟩:=a;exact ir e
 have:=f j b H;rw[(y j).2 ⟨a,Y⟩]at this;cases this
theorem Fo.YH{a b:Nat}(A:a<I xs)(r:b<I xs)(h:Ff xs a b=aE){n c l y z:Nat}{t:dU}(H:xs[n]? =aM t)(K:t.k=1)(B:Kc xs n c)(C:Kc xs n l)(u:nf xs a y)(E:nf xs b z)(f:nf xs c y)(q:nf xs l z):c=l:=by
 obtain⟨m,e,w,p,M⟩:=F.aci A r;unfold Ff at h;rw[aR,bG,bG,e]at h;obtain⟨⟨L,N⟩,G⟩:=h;have i:=F.oK w u;have x:=F.oK p E;have v:nf xs n c:=by
  obtain⟨_,_,a⟩:=F.G1 B;rcases a with a | ⟨k,e,a⟩
  ·omega
  have:k=n:=J
  rw[<-this];exact a
 have o:nf xs n l:=by
  obtain⟨_,_,a⟩:=F.G1 C;rcases a with a | ⟨k,e,a⟩
  ·omega
  have:k=n:=J
  rw[<-this];exact a
 have g:=F.oK v f;have j:=F.oK o q;rcases Nat.lt_trichotomy n m with D | s | S
 ·have e:=F.rW g i (Nat.le_of_lt D);obtain⟨c0,k,a⟩:=F.YG (d:=(n:Int)) m ⟨J,F.EW e,.inr ⟨n,rfl,e⟩⟩;have b:=F.Ja B k f (F.oK a i);have c:=F.Ja C k q (F.oK a x);omega
 ·subst s;rw[fG H]at G;omega
 exfalso;by_cases c:n<=a
 ·have a:=F.rW g u c;by_cases d:n<=b
  ·have:=M n a (F.rW j E d);omega
  have:=F.rW E j J;have:=M b (F.oK this a) (F.qu r);have:b<=m:=this;have e:m<=b:=by obtain⟨_,_,h,_⟩:=p;exact h
  omega
 have n:=F.rW u g J;have cg:=F.oK n j;rcases Nat.le_total a b with d | d
 ·have:=M a (F.qu A) (F.rW cg E d);have b:m<=a:=by obtain⟨_,_,h,_⟩:=w;exact h
  omega
 have:=M b (F.rW E cg d) (F.qu r);have a:m<=b:=by obtain⟨_,_,h,_⟩:=p;exact h
 omega
end
section
variable {xs:List dU} (F:Fo xs) {l:List Int}
include F
theorem Rs:∀(f d:Nat),d<(I xs)->d<=f->(∀n,n∈l->∃k:Nat,n=k/\nf xs d k)->∃r:Nat,FH xs l f d=r/\r<I xs/\(∀n,n∈l->∃k:Nat,n=k/\nf xs r k)/\(r=0∨jJ xs r=1/\(r:Int)∉l)
 | 0,d,h,f,c=>⟨d,rfl,h,c,.inl J⟩
 | f+1,d,h,a,c=>by
  unfold FH;by_cases hd:0<(d:Int)/\(jJ xs d≠1∨(d:Int)∈l)
  ·rw[aV hd];obtain⟨t,d⟩:=gu h;obtain⟨p,s,l,g,b,_,i,_⟩:=F.par d J;rw[lA d,g];exact Rs f p (ir b) J λn j=>by
    obtain⟨k,e,hk⟩:=c n j;exact⟨k,e,F.oK ⟨s,b,J,i⟩ hk⟩
  rw[aP hd];refine⟨d,rfl,h,c,?_⟩;by_cases b:d=0
  ·exact .inl b
  refine .inr ⟨?_,λh=>hd ⟨J,.inr h⟩⟩;exact og.1 λh=>hd ⟨J,.inl h⟩
theorem Rt{a:Nat}{g:List Int}(b:a<I xs)(h:∀t,t∈g->sY xs t)(i:g≠[]):∃r:Nat,Bs xs a g=r/\r<I xs/\(∀n,n∈(a:Int)::g->∃k:Nat,n=k/\nf xs r k)/\(r=0∨jJ xs r=1/\(r:Int)∉(a:Int)::g):=by
 unfold Bs mtM;rw[aP i,aP]
 ·rcases wQ xs ((a:Int)::g) (I xs) with⟨_,c⟩ | ⟨q,d,e,f,j⟩
  ·have:=c 0 F.ne;rw[ta.2]at this
   ·cases this
   intro n k;rcases aZ.1 k with rfl | k
   ·exact⟨a,rfl,F.uo b⟩
   obtain⟨a,l⟩:=h n k;exact⟨n.toNat,J,F.uo J⟩
  rw[d];exact Rs F _ q e J (ta.1 f)
 rintro(e | e)
 ·cases e
 obtain⟨n,a,c⟩:=fO.1 e;rw[de,fx]at c;refine c (Ay.2 ?_);rcases aZ.1 a with rfl | a
 ·exact⟨J,J⟩
 exact h n a
end
section
variable {c:Ch} {xs:List dU} {vs:List (aH)} (N:Snd c xs vs) {M:MO} (hM:GX xs M) {dft:List Int} (Jo:dft=(AR c.root).map λb=>mE xs b.dft)
include N hM Jo
theorem Snd.acj{n:Nat}{t:dU}(h:xs[n]? =aM t):iE xs dft M n≠[]/\(Cn xs λk=>(k:Int)∈iE xs dft M n)/\∀g,g∈iE xs dft M n->∃k:Nat,g=k/\SS xs k/\((fF t.k=aL/\k=n)∨(fF t.k=aE/\Sb xs t.pa k)):=by
 unfold iE;have l:=ir h;rw[aP J,fG h];have hk:=N.kn h;cases d:fF t.k
 ·rw[aP aag];refine⟨aag,λp u a k g c m o e f b E i j=>?_,λg b=>⟨n,by simpa using b,⟨t,h,?_⟩,.inl ⟨rfl,rfl⟩⟩⟩
  ·have a:g=n:=JK (show(g:Int)=n by simpa using b);have q:c=n:=JK (show(c:Int)=n by simpa using E);subst a q;exact N.fo.Ja e f i j
  unfold fF at d;rw[dl]at d;omega
 rw[aV rfl];cases m:M n with
 | some i=>
  obtain⟨a,b,c⟩:=hM n t i h d m;exact⟨a,c,λg f=>by
   obtain⟨k,e,j,n⟩:=b g f;exact⟨k,e,j,.inr ⟨rfl,n⟩⟩⟩
 | none=>
  have f:n<I (AR c.root):=by rw[vu,<-N.len];exact l
  obtain⟨b,f⟩:∃b,(AR c.root)[n]? =aM b:=⟨_,bf f⟩
  obtain⟨q,e,r,s⟩:=N.dft h f d;have p:(dft[(n:Int).toNat]?).getD 0=q:=by
   rw[Jo,aW,cF,f];exact e
  dsimp only;rw[p];refine⟨aag,λy z a x g j _ _ t u i E v w=>?_,λg i=>⟨q,by simpa using i,r,.inr ⟨rfl,s⟩⟩⟩;have k:g=q:=JK (show(g:Int)=q by simpa using i);have o:j=q:=JK (show(j:Int)=q by simpa using E);subst k o;exact N.fo.Ja t u v w
theorem Snd.ahB{n:Nat}{t:dU}{b:Nb}(j:xs[n]? =aM t)(m:(AR c.root)[n]? =aM b)(l:t.k=1)(r:nD xs n≠[]):Gd xs n (λg=>(g:Int)∈iE xs dft M (mE xs b.ini))/\∀g,g∈iE xs dft M (mE xs b.ini)->sY xs g:=by
 obtain⟨q,e,o⟩:=N.ini j m l r;obtain⟨v,u,p⟩:=o;rw[e];obtain⟨d,f,i⟩:=N.acj hM Jo u;have s:=N.fo.G1 ⟨v,u,p⟩;have a:∀g,g∈iE xs dft M q->∃k:Nat,g=k/\SS xs k/\Sb xs n k:=λg h=>by
  obtain⟨k,b,c,⟨_,e⟩ | ⟨_,n⟩⟩:=i g h
  ·exact⟨k,b,c,by rw[e];exact s⟩
  exact⟨k,b,c,by rw[<-p];exact n⟩
 refine⟨⟨?_,λg h=>?_,f⟩,λg h=>?_⟩
 ·obtain⟨g,h⟩:=gW _ d;obtain⟨k,e,_⟩:=a g h;exact⟨k,by rw[<-e];exact h⟩
 ·obtain⟨k,e,b,c⟩:=a _ h;have:k=g:=J
  subst this;exact⟨c,b⟩
 obtain⟨k,e,c,b⟩:=a _ h;exact⟨J,by have:=b.2.1;omega⟩
theorem Snd.ack{a:Nat}{t:dU}{b:Nb}{m:Mv}(f:xs[a]? =aM t)(y:(AR c.root)[a]? =aM b)(r:m∈b.mv)(B:m.tg≠[]):
  (∀s,s∈m.tg.map (mE xs)->sY xs s)/\∃d:Nat,Bs xs a (m.tg.map (mE xs))=d/\kd xs d=1/\nf xs d a/\Gd xs d (λk=>∃s,s∈m.tg.map (mE xs)/\(k:Int)∈iE xs dft M s)/\∀s,s∈m.tg.map (mE xs)->∀g,g∈iE xs dft M s->sY xs g:=by
 obtain⟨w,T,V,S,E,rfl,_,_,P,l,_⟩:=N.at_ f;have G:w=b:=by
  rw[<-Ma,cF,E]at y;injection y
 subst G;have F:=N.fo;have L:Io xs [] m.tg=aE:=by
  have:=P m r;unfold Cj at this;obtain⟨_,this⟩:=dW.1 this;obtain⟨_,this⟩:=dW.1 this;obtain⟨_,this⟩:=dW.1 this;exact xv.1 this
 have D:∀s,s∈m.tg->s≠[]:=λs h=>by
  unfold qm at l;by_cases a:fF w.k=aE
  ·rw[aV a]at l;simp only[aR]at l;have:w.mv=[]:=rn.1 (aO l.2.2).2.2.2.1;rw[this]at r;cases r
  rw[aP a]at l;simp only[aR]at l;have:=dx.1 l.2.2 m r;unfold mz at this;simp only[aR]at this;exact AB (dx.1 this.1.2 s h)
 have K:=IQ L;have R:∀s,s∈m.tg->∃(k:Nat) (u:dU),mE xs s=k/\1<=k/\xs[k]? =aM u/\fK xs s=k:=λs h=>by
  have i:=K s h;rcases jt xs s with⟨e,_⟩ | ⟨k,u,e,a,_⟩
  ·omega
  refine⟨k,u,?_,J,a,e⟩;unfold mE;rw[aP (D s h)];exact e
 have H:∀s,s∈m.tg.map (mE xs)->sY xs s:=λs h=>by
  obtain⟨s,a,rfl⟩:=dv.1 h;obtain⟨k,u,e,_,b,_⟩:=R s a;rw[e];exact⟨J,by have:=ir b;omega⟩
 refine⟨H,?_⟩;obtain⟨d,e,hd,z,o⟩:=Rt F (ir f) H (by simpa using B);have C:kd xs d=1:=by
  obtain⟨u,a⟩:=gu hd;rw[GV a];rcases o with rfl | ⟨hk,_⟩
  ·obtain⟨s,h,hk⟩:=N.sd.rt;rw[a,bJ]at h;subst h;exact hk
  rwa[fG a]at hk
 have x:nf xs d a:=by
  obtain⟨k,j,hk⟩:=z a (.head _);have:k=a:=J
  rw[<-this];exact hk
 have Y:∀s,s∈m.tg->∀k:Nat,mE xs s=k->1<=k->Sb xs d k:=λs h k j i=>by
  have q:(k:Int)∈m.tg.map (mE xs):=dv.2 ⟨s,h,j⟩;obtain⟨a,b,hk⟩:=z k (.tail _ q);have:a=k:=J
  subst this;have c:d<=a:=by obtain⟨_,_,f,_⟩:=hk;exact f
  refine⟨?_,F.EW hk,.inr ⟨d,rfl,hk⟩⟩;rcases o with rfl | ⟨_,n⟩
  ·omega
  have:d≠a:=λe=>n (.tail _ (by rw[e];exact q));omega
 have Z:∀s,s∈m.tg->∃A:Nat,yQ xs s=A/\A<I xs/\∀g,g∈iE xs dft M (mE xs s)->∃k:Nat,g=k/\SS xs k/\nf xs A k/\Sb xs d k:=λs h=>by
  obtain⟨k,u,j,i,a,n⟩:=R s h;obtain⟨_,_,c⟩:=N.acj hM Jo a;have b:=Y s h k j i;unfold yQ;rw[n,fG a,j,lA a];cases d:fF u.k
  ·refine⟨k,by rw[aP aag],ir a,λg t=>?_⟩;obtain⟨q,eq,s,⟨_,e⟩ | ⟨p,_⟩⟩:=c g t
   ·subst e;exact⟨q,eq,s,F.qu (ir a),b⟩
   rw[d]at p;cases p
  obtain⟨p,W,N,s,t,_⟩:=F.par a J;refine⟨p,by rw[aV rfl];exact s,ir t,λg M=>?_⟩;obtain⟨q,eq,v,⟨k,_⟩ | ⟨_,k⟩⟩:=c g M
  ·rw[d]at k;cases k
  rw[s]at k;have aC:nf xs p q:=by
   obtain⟨_,_,e | ⟨p',ep,e⟩⟩:=k
   ·omega
   have:p'=p:=J
   rw[<-this];exact e
  refine⟨q,eq,v,aC,?_⟩;rcases F.YE b a with e | ⟨p',ep,am,_⟩
  ·rw[<-e,s];exact k
  have:p'=p:=J
  subst this;exact F.aou am k
 refine⟨d,e,C,x,⟨?_,?_,?_⟩,?_⟩
 ·obtain⟨s,h⟩:=gW _ B;obtain⟨k,u,j,i,d,_⟩:=R s h;obtain⟨b,_,_⟩:=N.acj hM Jo d;obtain⟨g,a⟩:=gW _ b;rw[<-j]at a;obtain⟨A,_,_,c⟩:=Z s h;obtain⟨q,eq,_⟩:=c g a;exact⟨q,_,dv.2 ⟨s,h,rfl⟩,by rw[<-eq];exact a⟩
 ·rintro g ⟨_,h,e⟩;obtain⟨s,a,rfl⟩:=dv.1 h;obtain⟨A,_,_,d⟩:=Z s a;obtain⟨q,eq,b,_,c⟩:=d g e;have:q=g:=J
  subst this;exact⟨c,b⟩
 ·rintro n u k k' g g' hn i hk j6 ⟨_,h,hg⟩ ⟨_,AK,EY⟩ b a;obtain⟨s,BE,rfl⟩:=dv.1 h;obtain⟨W,c,rfl⟩:=dv.1 AK;obtain⟨A,eA,p,hA⟩:=Z s BE;obtain⟨A',aS,d,aT⟩:=Z W c;obtain⟨q,eq,_,t,_⟩:=hA g hg;obtain⟨q',bv,_,e,_⟩:=aT g' EY;have:q=g:=J
  subst this;have:q'=g':=J
  subst this;by_cases M:s=W
  ·subst M;obtain⟨bV,v,ej,_,hv,_⟩:=R s BE;obtain⟨_,g2,_⟩:=N.acj hM Jo hv;rw[ej]at hg EY;exact g2 n u k k' q q' hn i hk j6 hg EY b a
  have n:=(Mf L).2;have k:Ff xs (yQ xs W) (yQ xs s)=aE∨Ff xs (yQ xs s) (yQ xs W)=aE:=Me n BE c M;rw[eA,aS]at k;rcases k with f | f
  ·exact(F.YH d p f hn i j6 hk e t a b).symm
  exact F.YH p d f hn i hk j6 t e b a
 rintro _ h g d;obtain⟨s,a,rfl⟩:=dv.1 h;obtain⟨A,_,_,c⟩:=Z s a;obtain⟨q,eq,_,_,b⟩:=c g d;exact⟨J,by have:=b.2.1;omega⟩
end
section
def Ru:∀l m:List Nd,zf (l++m)=zf l++zf m
 | [],m=>by rw[bR,zf,bR]
 | x::l,m=>by rw[bZ,zf,zf,Ru l m,bq]
def Fg(x:List dU):Nat->List Nd->List Ro
 | _,[]=>[]
 | a,y::l=>IV x a 0 y.b.mv++Fg x (a+1) l
def AE(x:List dU):∀(l m:List Nd) (a:Nat),Fg x a (l++m)=Fg x a l++Fg x (a+I l) m
 | [],m,a=>by rw[bR,Fg,bR];rfl
 | y::l,m,a=>by rw[bZ,Fg,Fg,AE x l m,bq,aY];congr 3;omega
mutual
def X9(s:List dU):∀(x:Nd) (a:Nat),Fg s a (Bw x)=Uz s a x
 | .mk b l,a=>by rw[Bw,Fg,Uz,aeG s l];rfl
def aeG(s:List dU):∀(l:List Nd) (a:Nat),Fg s a (zf l)=su s a l
 | [],a=>by rw[zf,su];rfl
 | x::l,a=>by rw[zf,su,AE,X9 s x,aeG s l,AD]
end
section
variable {xs:List dU} (F:Fo xs)
include F
theorem Mg{l:List Int}(a:l≠[]){q:Nat}(b:∀n,n∈l->∃k:Nat,n=k/\nf xs q k)(h:q=0∨jJ xs q=1/\(q:Int)∉l):∀(f d:Nat),d<(I xs)->(∀n,n∈l->∃k:Nat,n=k/\nf xs d k)->q<=d->(q:Int)<=FH xs l f d
 | 0,d,c,hd,q=>by
  unfold FH;omega
 | f+1,d,c,hd,g=>by
  unfold FH;by_cases x:0<(d:Int)/\(jJ xs d≠1∨(d:Int)∈l)
  ·rw[aV x];obtain⟨t,j⟩:=gu c;obtain⟨p,s,w,m,i,_,o,r⟩:=F.par j J;rw[lA j,m];have z:q≠d:=by
    rintro rfl;rcases h with y | ⟨u,v⟩
    ·omega
    exact x.2.elim (λc=>c u) v
   refine Mg a b h f p (ir i) (λn d=>?_) (jy λt=>?_)
   ·obtain⟨k,e,hk⟩:=hd n d;exact⟨k,e,F.oK ⟨s,i,J,o⟩ hk⟩
   obtain⟨n,d⟩:=gW l a;obtain⟨k,A,s,f,B,C⟩:=b n d;obtain⟨F,e,G,p,D,E⟩:=hd n d;have:=r q s f J J;omega
  rw[aP x];omega
def TG(x:List dU)(a:Int)(g:List Int)(d:Nat):Bool:=(decide (jJ x d=1)&&(wD x a d||(d:Int)==0))&&g.all λt=>wD x t d
def IX(x:List dU)(a:Int)(t:List Int):Nat->Int
 | 0=> -1
 | m+1=>if TG x a t m=aE then m else IX x a t m
omit F in
theorem ES (a:Int) (tg:List Int):∀n:Nat,(IX xs a tg n= -1/\∀m,m<n->TG xs a tg m=aL)∨∃m:Nat,IX xs a tg n=m/\m<n/\TG xs a tg m=aE/\∀j,m<j->j<n->TG xs a tg j=aL
 | 0=>.inl ⟨rfl,λm h=>J⟩
 | n+1=>by
  unfold IX;by_cases h:TG xs a tg n=aE
  ·rw[aV h];exact .inr ⟨n,rfl,J,h,λj h1 h2=>J⟩
  rw[aP h];have h:TG xs a tg n=aL:=acs
  rcases ES a tg n with⟨h1,h2⟩ | ⟨m,h1,h2,h3,h4⟩
  ·exact .inl ⟨h1,λm hm=>(qH.1 hm).elim (h2 m) λe=>ahT⟩
  exact .inr ⟨m,h1,J,h3,λj h5 h6=>(qH.1 h6).elim (h4 j h5) λe=>ahT⟩
section
variable {a:Nat} {tg:List Int} (ha:a<xs.length) (h0:jJ xs 0=1) (ht:∀t,t∈tg->1<=t/\t<xs.length)
include ha ht
theorem IY{d:Nat}(h:TG xs a tg d=aE)(hd:d<I xs):(∀n,n∈(a:Int)::tg->∃k:Nat,n=k/\nf xs d k)/\(d=0∨jJ xs d=1/\(d:Int)∉(a:Int)::tg):=by
 unfold TG at h;simp only[aR,bG,cE,dB,dx]at h;obtain⟨⟨j,b⟩,g⟩:=h;obtain⟨x,i⟩:=gu hd;have c:∀n:Int,wD xs n d=aE->∃k:Nat,n=k/\d<k/\nf xs d k:=λn h=>by
  rw[Rf i,cX]at h;exact⟨n.toNat,J,J,x,i,J,J⟩
 by_cases f:d=0
 ·subst f;refine⟨λn d=>?_,.inl rfl⟩;rcases aZ.1 d with rfl | d
  ·exact⟨a,rfl,F.uo ha⟩
  obtain⟨k,e,_,hk⟩:=c n (g n d);exact⟨k,e,hk⟩
 have b:=b.resolve_right J;have m:∀n,n∈(a:Int)::tg->∃k:Nat,n=k/\d<k/\nf xs d k:=λn l=>by
  rcases aZ.1 l with rfl | l
  ·exact c _ b
  exact c _ (g n l)
 refine⟨λn l=>?_,.inr ⟨j,λl=>?_⟩⟩
 ·obtain⟨k,e,_,hk⟩:=m n l;exact⟨k,e,hk⟩
 obtain⟨k,e,hk,_⟩:=m _ l;omega
include h0
theorem Ya(i:tg≠[]):IX xs a tg (I xs)=Bs xs a tg:=by
 obtain⟨r,j,d,l,hk⟩:=Rt F ha (λt b=>⟨by have:=ht t b;omega,(ht t b).2⟩) i;have f:TG xs a tg r=aE:=by
  obtain⟨x,s⟩:=gu d;have q:jJ xs r=1:=by
   rcases hk with rfl | hk
   ·exact h0
   exact hk.1
  have w:∀n,n∈(a:Int)::tg->n≠r->wD xs n r=aE:=λn p i=>by
   obtain⟨k,e,y,a,t,u⟩:=l n p;rw[s,bJ]at a;subst a;rw[Rf s,cX];omega
  unfold TG;simp only[aR,bG,cE,dB,dx];refine⟨⟨q,?_⟩,λt h=>w t (.tail _ h) ?_⟩
  ·rcases hk with rfl | ⟨_,p⟩
   ·exact .inr rfl
   exact .inl (w _ (.head _) λe=>p (by rw[<-e];exact .head _))
  rcases hk with rfl | ⟨_,p⟩
  ·have:=ht t h;omega
  exact λe=>p (by rw[<-e];exact .tail _ h)
 rcases ES (xs:=xs) (a:Int) tg (I xs) with⟨_,g⟩ | ⟨m,e,h,o,c⟩
 ·rw[g r d]at f;cases f
 have u:r<=m:=jy λb=>by
  rw[c r b d]at f;cases f
 obtain⟨k,p⟩:=IY F ha ht o h;have V:(m:Int)<=Bs xs a tg:=by
  unfold Bs mtM;rw[aP i,aP]
  ·rcases wQ xs ((a:Int)::tg) (I xs) with⟨_,g⟩ | ⟨q,e,n,k3,s⟩
   ·have:=g m h;rw[ta.2 k]at this;cases this
   rw[e];refine Mg F aag k p _ q n (ta.1 k3) (jy λb=>?_);have:=s m b h;rw[ta.2 k]at this;cases this
  rintro(e | e)
  ·cases e
  obtain⟨n,a,q⟩:=fO.1 e;rw[de,fx]at q;refine q (Ay.2 ?_);rcases aZ.1 a with rfl | a
  ·exact⟨J,J⟩
  have:=ht n a;exact⟨J,this.2⟩
 rw[e,j];omega
end
end
end
def nU(s:Sl)(k:Nat):Prop:=s.a=aM ⟨k,0,aaa⟩
def Yb{w}{F}{s}{l}(h:aA gL 1 w F s l) c:
  az aq 142 #[Sl.v s,O U c] w λe b=>∃i,e=ak (O U i)/\decide (i>=0)=decide (c∈l)/\Q [] w b:=by
 refine ik (amo _ _ ?_);have f:=h.len;have D:=h.big;have j:=h.cap;refine⟨λv i b=>∃n,n<=I l/\i=n/\v=(I l)-n/\(∀x,x∈l.take n->x≠c)/\b=w,I l,⟨0,be _,rfl,rfl,aag,rfl⟩,?_⟩;rintro v _ d ⟨n,g,rfl,rfl,p,u⟩;obtain rfl:w=d:=u.symm;refine⟨λa=>?_,λa=>?_⟩
 ·have m:=aO a;have H:n<I l:=J
  obtain⟨ad,c,k⟩:=rR h (bf H);refine⟨ad,c,_,k,λhe=>⟨_,rfl,?_,Only.refl _ _⟩,λhe=>⟨(I l)-_,J,n+1,J,aaf,rfl,?_,rfl⟩⟩
  ·have he:=acT
   rw[bF J];symm;rw[cX,he];exact mU H
  have he:=acT
  intro y l;rw[bh,bf H]at l;simp only[fY,ch,aN]at l;rcases l with l | rfl
  ·exact p y l
  exact λe=>he e.symm
 have m:=aU a;rw[bm J]at p;exact⟨_,rfl,(bA λe=>p c e rfl).symm,Only.refl _ _⟩
def Mh{w}{F}{s}{l}(h:aA gL 1 w F s l) c:
  az aq 98 #[Sl.v s,O U c] w λe d=>e=ak (aj (decide (c∈l)))/\Q [] w d:=by
 refine ret (alW _ _ ?_);refine(Yb h c).mono ?_;rintro _ f ⟨b,rfl,i,a⟩;exact⟨b,rfl,by rw[i],a⟩
def ET u {a} (h:tn a):∃y b,(au 33 1 #[.mk 0 (O U a)]).run aq u=.ok (Sl.v y) b/\Q [] u b/\gV u.heap.size b y [a]:=by
 obtain⟨y,b,k,c,k3,_⟩:=kz (P:=aq) (t:=33) (e:=3) (i:=Tryz.t3) (z:=O U 0) (w:=u) (F:=λ_=>False) (vs:=[O U a]) (parts:=#[.mk 0 _]) (len:=1) (xs:=[a]) (r:=gL) (size:=1) aae aae rfl rfl Z rfl rfl Z Z cp ⟨⟨rfl,rfl,h⟩,trivial⟩;exact⟨y,b,k,k3,c⟩
def aoi{A}{u}{s y}{is js}{G}(j:gV A u s is)(l:A<=u.heap.size)(o:aA gL 1 u G y js)(m:∀k,G k->¬nU s k)(q:I is+I js<=1000000000):
  ∃a w,(Builtin.append_ #[33,33] 33 #[Sl.v s,Sl.v y]).run aq u=.ok (Sl.v a) w/\gV A w a (is++js)/\aD (nU s) u w/\∀k,nU a k->nU s k∨u.heap.size<=k:=by
 obtain⟨a,w,b,c,p,d,f,h⟩:=qO (P:=aq) (t:=33) (ty:=33) (e:=3) (i:=Tryz.t3) (bytes:=8) (size:=1) (r:=gL) (F:=λ_=>True) (y:=y) (ys:=js) aae aae rfl rfl rfl rfl cp (j.mono cp λk hk=>trivial) (o.mono cp λk hk=>⟨trivial,m k hk⟩) l J Z;refine⟨a,w,b,gV.of c,d.p λg n=>.inl (f g n).1,λk hk=>?_⟩;unfold nU at hk⊢;rcases h with e | e
 ·exact .inl acB
 rw[e]at hk;injection hk with hk;injection hk with hk;exact .inr J
def ab4{A}{u}{s}{is}(h:gV A u s is)(m:A<=u.heap.size){n}(p:tn n)(B:I is<=20000000):
  ∃y w,(au 33 1 #[.mk 0 (O U n)]).run aq u=.ok (Sl.v y) w/\Q [] u w/\∃a b,(Builtin.append_ #[33,33] 33 #[Sl.v s,Sl.v y]).run aq w=.ok (Sl.v a) b/\gV A b a (is++[n])/\aD (nU s) w b/\∀k,nU a k->nU s k∨u.heap.size<=k:=by
 obtain⟨y,w,q,k3,a,b,c,d,⟨z,f,j⟩,l⟩:=kj (P:=aq) (t:=33) (ty:=33) (e:=3) (i:=Tryz.t3) (bytes:=8) (size:=1) (r:=gL) (G:=λ_=>False) (v:=O U n) (x:=n) aae aae rfl rfl rfl rfl Z Z Z cp h m rfl ⟨rfl,p⟩ (λ_ h=>h.elim) J;refine⟨y,w,q,k3,a,b,c,gV.of d,f.p λg o=>.inl (j g o).1,λk hk=>?_⟩;unfold nU at hk⊢;rcases l with e | ⟨g,e,h⟩
 ·exact .inl acB
 rw[e]at hk;injection hk with hk;injection hk with hk;exact .inr J
section
variable {w w':av} {F G:aJ} {s:Sl} {xs:List dU} {b:Nat} {ty:TypeId} {x1 x2 x3:aw}
def Yc(B:aF w b ty [s.v,x1,x2,x3])(a:aA tD 5 w F s xs) n:az aq 66 #[ae (aM ⟨b,0,aaa⟩),X (T n)] w λe w'=>e=ak (O U (mE xs n))/\Q [] w w':=by
 refine ret (as0 _ _ ?_);rw[iv n []];refine⟨λh=>⟨?_,Only.refl _ _⟩,λh=>⟨s,Blk.dP B 0 rfl,(ahg a n).mono ?_⟩⟩
 ·unfold mE;rw[aV (aO h)]
 rintro _ w ⟨rfl,b⟩;exact⟨_,rfl,by unfold mE;rw[aP (aU h)],b⟩
def Yd xs n:mE xs n= -1∨∃j:Nat,mE xs n=j/\j<I xs:=by
 unfold mE;split
 ·exact .inl rfl
 exact Ev xs n
def TH(B:aF w b ty [s.v,x1,x2,x3])(h:aA tD 5 w F s xs)(f:Fo xs)(z:I xs<=1000000){sT}{tg}(T:aA gL 1 w G sT tg)(m:I tg<=20000000){a:Nat}(g:a<=1000000):
  az aq 67 #[ae (aM ⟨b,0,aaa⟩),O U a,sT.v] w λe w'=>e=ak (O U (Bs xs a tg))/\Q [] w w':=by
 refine ret (as1 _ _ _ ?_);have l:=T.len;refine⟨λhc=>⟨?_,Only.refl _ _⟩,λhc=>?_⟩
 ·have hc:=aaj
  have:tg=[]:=bH J;unfold Bs;rw[aV this]
 have hc:=aaj
 have K:tg≠[]:=λe=>hc (by rw[e]at l;simp at l;omega);obtain⟨y,M,L,k3,o⟩:=ET w (a:=a) ⟨J,J⟩;have i:=kI (SliceF.inHeap cp T Z) k3;obtain⟨q,t,E,b,F,_⟩:=aoi o k3.size i (λk hk e=>by have:=(o.blk e).1;dsimp only at this;omega) ae7;have p:=(k3.qz (F.mono (G:=λk=>w.heap.size<=k) λk _ e=>by have:=(o.blk e).1;exact this)).only λk hk=>hk;refine⟨y,M,L,q,t,E,s,Blk.dP (p.blk B aag) 0 rfl,(WY (SliceF.only dC Z h p aag) f (b.slice cp)).mono ?_⟩;rintro _ N ⟨⟨C,rfl,H⟩,A⟩;have r:=f.aov H;have D:[(a:Int)]++tg=(a:Int)::tg:=rfl;rw[D]at r b;have j:C<I xs:=by
  rw[r];unfold mtM;split
  ·omega
  rcases wQ xs ((a:Int)::tg) (I xs) with⟨c,_⟩ | _<;>omega
 refine⟨C,rfl,λv d u=>FH xs ((a:Int)::tg) v d=Bs xs a tg/\d<I xs/\d<=v/\Q [] w u/\Q [] t u,I xs,⟨?_,j,J,p.cd A,A⟩,?_⟩
 ·unfold Bs;rw[aP K,r]
 rintro v d G ⟨hd,P,y,k,q⟩;refine⟨λc u=>c=decide (0<d/\(jJ xs d≠1∨d∈(a:Int)::tg))/\Q [] w u/\Q [] t u,?_,λe=>?_,λe=>?_⟩
 ·rintro _ R ⟨rfl,c,w⟩;refine⟨λa=>?_,λa=>⟨?_,c⟩⟩
  ·have a:=aO a;obtain⟨S,rfl⟩:∃S:Nat,d=S:=⟨d.toNat,J⟩
   obtain⟨x,V⟩:=gu (xs:=xs) (i:=S) J;obtain⟨ad,W,_,Y,_⟩:=jI (SliceF.only dC Z h c aag) V;have hp:=f.aeO V;obtain⟨n,rfl⟩:∃n,v=n+1:=⟨v-1,J⟩
   refine⟨s,Blk.dP (c.blk B aag) 0 rfl,ad,W,x.pa,Y,n,J,?_,J,J,c,w⟩;rw[FH,aV a,lA V]at hd;exact hd
  rw[<-hd];cases v with
  | zero=>rfl
  | succ n=>rw[FH,aP (aU a)]
 ·have e:=aO e;obtain⟨a,rfl⟩:∃a:Nat,d=a:=⟨d.toNat,J⟩
  obtain⟨x,c⟩:=gu (xs:=xs) (i:=a) J;obtain⟨ad,n,w,_⟩:=jI (SliceF.only dC Z h k aag) c;refine⟨s,Blk.dP (k.blk B aag) 0 rfl,ad,n,x.k,w.dP 0 _ rfl,λhk=>⟨?_,k,q⟩,λhk=>(Mh (kI (b.slice cp) q) _).mono ?_⟩
  ·have hk:=aay
   exact(bF ⟨e,.inl (by rw[fG c];exact hk)⟩).symm
  rintro _ x ⟨rfl,d⟩;refine⟨_,rfl,?_,k.cd d,q.cd d⟩;rw[gv,fG c];exact⟨λh=>⟨e,.inr h⟩,λh=>h.2.resolve_left λs=>s aay⟩
 have e:=aU e;exact⟨(bA λh=>e h.1).symm,k,q⟩
end
def B1(w:av)(F:aJ)(t i:Nat)(s:Sl):Prop:=s.n=0∨∃g c,s.a=aM ⟨g,0,aaa⟩/\aF w g t c/\s.n*i<=I c/\F g
def _root_.Go.Kt.Own.roC{a:Type}{r:Rp a}{i e B:Nat}{w:av}{F G:aJ}{s:Sl}{x:List a}(b:Own r i e B w F s x)(k:∀g,s.a=aM ⟨g,0,aaa⟩->G g):B1 w G e i s:=by
 rcases b with⟨rfl,_⟩ | ⟨g,c,tail,h,_,d,_,f,_,_,j⟩
 ·exact .inl rfl
 exact .inr ⟨g,_,h,d,by rw[aQ,j.Mo,f];omega,k g h⟩
def B1.keep{w w':av}{F:aJ}{t i:Nat}{s:Sl}(h:B1 w F t i s)(hk:∀k,F k->k<w.heap.size->w'.heap[k]? =w.heap[k]?):B1 w' F t i s:=by
 rcases h with h | ⟨g,c,d,a,e,b⟩
 ·exact .inl h
 exact .inr ⟨g,c,d,(hk g b a.lt).trans a,e,b⟩
def B1.imp{w:av}{F G:aJ}{t i:Nat}{s:Sl}(h:B1 w F t i s)(hk:∀k,F k->k<w.heap.size->G k):B1 w G t i s:=by
 rcases h with h | ⟨g,c,b,a,d,e⟩
 ·exact .inl h
 exact .inr ⟨g,c,b,a,d,hk g e a.lt⟩
def rRo:Rp Ro:=λw F x c=>∃t,c=[O U x.src,O U x.slot,O U x.k,X (T x.ev),O U x.wt,t.v,O U x.dom]/\aA gL 1 w F t x.tg/\B1 w F 3 1 t
def jE:rRo.Ok where
 keep:=by
  rintro w e F x c ⟨d,h,a,b⟩ hk;exact⟨d,h,a.keep cp Z hk,b.keep hk⟩
 inHeap:=by
  rintro w F x c ⟨d,h,a,b⟩;exact⟨d,h,a.inHeap cp Z,b.imp λk hk l=>⟨hk,l⟩⟩
 mono:=by
  rintro w F G x s ⟨d,a,b,c⟩ hk;exact⟨d,a,b.mono cp hk,c.imp λk h _=>hk k h⟩
 one:=by
  rintro w F x c ⟨d,rfl,_⟩ v h;simp at h;rcases h with rfl | rfl | rfl | rfl | rfl | rfl | rfl<;>rfl
def Q3(a c d:Sl)(k:Nat):Prop:=nU a k∨nU c k∨nU d k
structure Lb (w:av) (b:Nat) (F:aJ) (s si sd sr:Sl) (xs:List dU) (ini dft:List Int) (ro:List Ro):Prop where
 sp:aA tD 5 w F s xs
 hF:∀k,F k->k<w.heap.size/\k≠b/\¬Q3 si sd sr k
 i:gV (b+1) w si ini
 d:gV (b+1) w sd dft
 r:Own rRo 7 57 (b+1) w (λk=>b<k/\¬nU si k/\¬nU sd k) sr ro
 ap:∀k,nU si k->¬nU sd k/\¬nU sr k
 ap2:∀k,nU sd k->¬nU sr k
structure La (w:av) (b:Nat) (F:aJ) (s si sd sr:Sl) (xs:List dU) (ini dft:List Int) (ro:List Ro):Prop extends Lb w b F s si sd sr xs ini dft ro where
 blk:aF w b 93 [s.v,si.v,sd.v,sr.v]
section
variable {w w':av} {F:aJ} {s si sd sr:Sl} {xs:List dU} {b:Nat} {ini dft:List Int} {ro:List Ro}
def La.lt(h:La w b F s si sd sr xs ini dft ro):b<w.heap.size:=h.blk.lt
def Lb.bi(h:Lb w b F s si sd sr xs ini dft ro):∀k,nU si k->b<k/\k<w.heap.size:=λk e=>by have:=h.i.blk e;dsimp only at this;omega
def Lb.bd(h:Lb w b F s si sd sr xs ini dft ro):∀k,nU sd k->b<k/\k<w.heap.size:=λk e=>by have:=h.d.blk e;dsimp only at this;omega
def Lb.br(h:Lb w b F s si sd sr xs ini dft ro):∀k,nU sr k->b<k/\k<w.heap.size:=λk e=>by have:=h.r.blk e;dsimp only at this;omega
def Lb.o0(h:Lb w b F s si sd sr xs ini dft ro)(c:Q [] w w'):Lb w' b F s si sd sr xs ini dft ro:=
 ⟨SliceF.only dC Z h.sp c aag,λk hk=>⟨cV (h.hF k hk).1 c.size,(h.hF k hk).2⟩,h.i.keep cp λk _ a=>c.block k a aag,h.d.keep cp λk _ a=>c.block k a aag,h.r.keep jE λk _ a=>c.block k a aag,h.ap,h.ap2⟩
def La.o0(h:La w b F s si sd sr xs ini dft ro)(a:Q [] w w'):La w' b F s si sd sr xs ini dft ro:=⟨h.toLb.o0 a,a.blk h.blk aag⟩
def Lb.acm(h:Lb w b F s si sd sr xs ini dft ro){n}(t:tn n)(x:b<w.heap.size)(r:I ini<=20000000):
  ∃y a,(au 33 1 #[.mk 0 (O U n)]).run aq w=.ok (Sl.v y) a/\Q [] w a/\∃c d,(Builtin.append_ #[33,33] 33 #[Sl.v si,Sl.v y]).run aq a=.ok (Sl.v c) d/\aD (nU si) a d/\(∀k,nU c k->nU si k∨w.heap.size<=k)/\
   ∀f,Q [b] d f->Lb f b F s c sd sr xs (ini++[n]) dft ro:=by
 obtain⟨y,a,v,k3,c,d,m,o,i,g⟩:=ab4 h.i J t r;have z:=k3.size;have A:=i.size;refine⟨y,a,v,k3,c,d,m,i,g,λf hO=>?_⟩;have hk:∀k,k<w.heap.size->k≠b->¬nU si k->f.heap[k]? =w.heap[k]? :=λk p h2 q=>by
  rw[hO.block k J adh,i.block k J q,k3.block k p aag]
 refine⟨h.sp.keep dC Z λk xN l=>hk k l (h.hF k xN).2.1 λe=>(h.hF k xN).2.2 (.inl e),λk xN=>⟨adb,(h.hF k xN).2.1,λu=>u.elim (λe=>(g k e).elim (λe=>(h.hF k xN).2.2 (.inl e)) λe=>ae5) λe=>(h.hF k xN).2.2 (.inr e)⟩,o.keep cp λk j l=>hO.block k l (by have:=j.resolve_left id;simp;omega),h.d.keep cp λk j l=>?_,((h.r.inHeap jE).keep jE λk j l=>?_).mono jE λk j=>⟨j.1.1,λe=>?_,j.1.2.2⟩,λk e=>?_,h.ap2⟩
 ·have:=j.resolve_left id;exact hk k l J λe=>(h.ap k e).1 this.2
 ·rcases j with j | j
  ·exact hk k l (by have:=j.1.1;omega) j.1.2.1
  exact hk k l J λe=>(h.ap k e).2 j.2
 ·rcases g k e with e | e
  ·exact j.1.2.1 e
  have:=j.2;omega
 rcases g k e with e | e
 ·exact h.ap k e
 exact⟨λe=>by have:=h.bd k e;omega,λe=>by have:=h.br k e;omega⟩
def La.acm(h:La w b F s si sd sr xs ini dft ro){n}(p:tn n)(o:I ini<=20000000):
  ∃y c,(au 33 1 #[.mk 0 (O U n)]).run aq w=.ok (Sl.v y) c/\Q [] w c/\∃a d,(Builtin.append_ #[33,33] 33 #[Sl.v si,Sl.v y]).run aq c=.ok (Sl.v a) d/\aD (nU si) c d/\(∀k,nU a k->nU si k∨w.heap.size<=k)/\aF d b 93 [s.v,si.v,sd.v,sr.v]/\
   ∀f,Q [b] d f->aF f b 93 [s.v,a.v,sd.v,sr.v]->La f b F s a sd sr xs (ini++[n]) dft ro:=by
 obtain⟨y,c,q,k3,a,d,i,g,j,l⟩:=h.toLb.acm p h.lt o;exact⟨y,c,q,k3,a,d,i,g,j,g.blk (k3.blk h.blk aag) λe=>by have:=h.bi b e;omega,λf m B=>⟨l f m,B⟩⟩
def Lb.acn(h:Lb w b F s si sd sr xs ini dft ro){n}(v:tn n)(z:b<w.heap.size)(u:I dft<=20000000):
  ∃y c,(au 33 1 #[.mk 0 (O U n)]).run aq w=.ok (Sl.v y) c/\Q [] w c/\∃d f,(Builtin.append_ #[33,33] 33 #[Sl.v sd,Sl.v y]).run aq c=.ok (Sl.v d) f/\aD (nU sd) c f/\(∀k,nU d k->nU sd k∨w.heap.size<=k)/\
   ∀i,Q [b] f i->Lb i b F s si d sr xs ini (dft++[n]) ro:=by
 obtain⟨y,c,x,k3,d,f,o,p,m,g⟩:=ab4 h.d J v u;have A:=k3.size;have B:=m.size;refine⟨y,c,x,k3,d,f,o,m,g,λi hO=>?_⟩;have hk:∀k,k<w.heap.size->k≠b->¬nU sd k->i.heap[k]? =w.heap[k]? :=λk r h2 t=>by
  rw[hO.block k J adh,m.block k J t,k3.block k r aag]
 refine⟨h.sp.keep dC Z λk xN l=>hk k l (h.hF k xN).2.1 λe=>(h.hF k xN).2.2 (.inr (.inl e)),λk xN=>⟨adb,(h.hF k xN).2.1,λq=>q.elim (λe=>(h.hF k xN).2.2 (.inl e)) λq=>q.elim (λe=>(g k e).elim (λe=>(h.hF k xN).2.2 (.inr (.inl e))) λe=>ae5) λe=>(h.hF k xN).2.2 (.inr (.inr e))⟩,h.i.keep cp λk j l=>?_,p.keep cp λk j l=>hO.block k l (by have:=j.resolve_left id;simp;omega),((h.r.inHeap jE).keep jE λk j l=>?_).mono jE λk j=>⟨j.1.1,j.1.2.1,λe=>?_⟩,λk e=>⟨λa=>?_,(h.ap k e).2⟩,λk e=>?_⟩
 ·have:=j.resolve_left id;exact hk k l J (h.ap k this.2).1
 ·rcases j with j | j
  ·exact hk k l (by have:=j.1.1;omega) j.1.2.2
  exact hk k l J λe=>h.ap2 k e j.2
 ·rcases g k e with e | e
  ·exact j.1.2.2 e
  have:=j.2;omega
 ·rcases g k a with a | a
  ·exact(h.ap k e).1 a
  have:=h.bi k e;omega
 rcases g k e with e | e
 ·exact h.ap2 k e
 exact λa=>by have:=h.br k a;omega
def La.acn(h:La w b F s si sd sr xs ini dft ro){n}(p:tn n)(o:I dft<=20000000):
  ∃y c,(au 33 1 #[.mk 0 (O U n)]).run aq w=.ok (Sl.v y) c/\Q [] w c/\∃a d,(Builtin.append_ #[33,33] 33 #[Sl.v sd,Sl.v y]).run aq c=.ok (Sl.v a) d/\aD (nU sd) c d/\(∀k,nU a k->nU sd k∨w.heap.size<=k)/\aF d b 93 [s.v,si.v,sd.v,sr.v]/\
   ∀f,Q [b] d f->aF f b 93 [s.v,si.v,a.v,sr.v]->La f b F s si a sr xs ini (dft++[n]) ro:=by
 obtain⟨y,c,q,k3,a,d,i,g,j,l⟩:=h.toLb.acn p h.lt o;exact⟨y,c,q,k3,a,d,i,g,j,g.blk (k3.blk h.blk aag) λe=>by have:=h.bd b e;omega,λf m B=>⟨l f m,B⟩⟩
def Lb.aco(h:Lb w b F s si sd sr xs ini dft ro){x}{tg}{G}(K:aA gL 1 w G tg x.tg)(E:B1 w G 3 1 tg)(H:∀k,G k->b<k/\¬nU si k/\¬nU sd k/\¬nU sr k)(N:b<w.heap.size)(S:I ro<=20000000):
  ∃y d,(au 44 1 #[.mk 0 (ah #[O U x.src,O U x.slot,O U x.k,X (T x.ev),O U x.wt,tg.v,O U x.dom])]).run aq w=.ok (Sl.v y) d/\Q [] w d/\∃c f,(Builtin.append_ #[44,44] 44 #[Sl.v sr,Sl.v y]).run aq d=.ok (Sl.v c) f/\aD (nU sr) d f/\(∀k,nU c k->nU sr k∨w.heap.size<=k)/\
   ∀m,Q [b] f m->Lb m b F s si sd c xs ini dft (ro++[x]):=by
 obtain⟨y,d,M,k3,c,f,z,A,⟨R,o,p⟩,B⟩:=kj (P:=aq) (t:=44) (ty:=44) (e:=57) (i:=Tryz.t57) (bytes:=80) (size:=7) (r:=rRo) (G:=G) (v:=ah #[O U x.src,O U x.slot,O U x.k,X _,O U x.wt,tg.v,O U x.dom]) (x:=x) aae aae rfl rfl rfl rfl Z Z Z jE h.r J rfl ⟨tg,rfl,K,E⟩ (λk hk _=>by have:=H k hk;exact⟨⟨this.1,this.2.1,this.2.2.1⟩,this.2.2.2⟩) J;have n:=o.p λu L=>.inl (p u L).1;have g:∀k,nU c k->nU sr k∨w.heap.size<=k:=λk hk=>by
  unfold nU at hk⊢;rcases B with e | ⟨u,e,h⟩
  ·exact .inl acB
  rw[e]at hk;injection hk with hk;injection hk with hk;exact .inr J
 have V:=k3.size;have W:=n.size;refine⟨y,d,M,k3,c,f,z,n,g,λm hO=>?_⟩;have hk:∀k,k<w.heap.size->k≠b->¬nU sr k->m.heap[k]? =w.heap[k]? :=λk C h2 D=>by
  rw[hO.block k J adh,n.block k J D,k3.block k C aag]
 refine⟨h.sp.keep dC Z λk xN l=>hk k l (h.hF k xN).2.1 λe=>(h.hF k xN).2.2 (.inr (.inr e)),λk xN=>⟨adb,(h.hF k xN).2.1,λq=>q.elim (λe=>(h.hF k xN).2.2 (.inl e)) λq=>q.elim (λe=>(h.hF k xN).2.2 (.inr (.inl e))) λe=>(g k e).elim (λe=>(h.hF k xN).2.2 (.inr (.inr e))) λe=>ae5⟩,h.i.keep cp λk j l=>?_,h.d.keep cp λk j l=>?_,(A.keep jE λk j l=>hO.block k l ?_).mono jE λk j=>?_,λk e=>⟨(h.ap k e).1,λa=>?_⟩,λk e a=>?_⟩
 ·have:=j.resolve_left id;exact hk k l J (h.ap k this.2).2
 ·have:=j.resolve_left id;exact hk k l J (h.ap2 k this.2)
 ·simp;rcases j with _ | j<;>omega
 ·rcases j with j | j
  ·exact j
  exact⟨J,λe=>by have:=h.bi k e;omega,λe=>by have:=h.bd k e;omega⟩
 ·rcases g k a with a | a
  ·exact(h.ap k e).2 a
  have:=h.bi k e;omega
 rcases g k a with a | a
 ·exact h.ap2 k e a
 have:=h.bd k e;omega
def La.aco(h:La w b F s si sd sr xs ini dft ro){x:Ro}{tg}{G}(o:aA gL 1 w G tg x.tg)(C:B1 w G 3 1 tg)(m:∀k,G k->b<k/\¬nU si k/\¬nU sd k/\¬nU sr k)(p:I ro<=20000000):
  ∃y c,(au 44 1 #[.mk 0 (ah #[O U x.src,O U x.slot,O U x.k,X (T x.ev),O U x.wt,tg.v,O U x.dom])]).run aq w=.ok (Sl.v y) c/\Q [] w c/\∃a d,(Builtin.append_ #[44,44] 44 #[Sl.v sr,Sl.v y]).run aq c=.ok (Sl.v a) d/\aD (nU sr) c d/\(∀k,nU a k->nU sr k∨w.heap.size<=k)/\aF d b 93 [s.v,si.v,sd.v,sr.v]/\
   ∀f,Q [b] d f->aF f b 93 [s.v,si.v,sd.v,a.v]->La f b F s si sd a xs ini dft (ro++[x]):=by
 obtain⟨y,c,q,k3,a,d,i,g,j,l⟩:=h.toLb.aco o C m h.lt p;exact⟨y,c,q,k3,a,d,i,g,j,g.blk (k3.blk h.blk aag) λe=>by have:=h.br b e;omega,λf n B=>⟨l f n,B⟩⟩
end
section
def Co(b:Nat)(a:aJ)(w:av)(c:aJ)(d:av):Prop:=aD (λk=>k=b∨a k) w d/\∀k,c k->a k∨w.heap.size<=k
def Co.refl(b:Nat)(a:aJ)(w:av):Co b a w a w:=⟨OnlyP.refl _ _,λ_ h=>.inl h⟩
def Co.trans{b:Nat}{a R S:aJ}{u v w:av}(h:Co b a u R v)(g:Co b R v S w):Co b a u S w:=by
 refine⟨h.1.trans g.1 λk hk=>?_,λk hk=>?_⟩
 ·rcases hk with hk | hk
  ·exact .inl (.inl hk)
  exact(h.2 k hk).elim (λh=>.inl (.inr h)) .inr
 rcases g.2 k hk with hk | hk
 ·exact h.2 k hk
 exact .inr (bD h.1.size hk)
def Co.cd{b:Nat}{a R:aJ}{u v w:av}(h:Co b a u R v)(c:Q [] v w):Co b a u R w:=⟨h.1.cd c,h.2⟩
def Co.of0{b:Nat}{a R:aJ}{u v w:av}(c:Q [] u v)(h:Co b a v R w):Co b a u R w:=⟨c.qz h.1,λk hk=>(h.2 k hk).imp id λh=>bD c.size h⟩
def Rv{y:Nd}:∀{l:List Nd} {j:Nat},l[j]? =aM y->jm (l.take j)+mj y<=jm l
 | [],j,h=>acr
 | x::l,0,h=>by
  rw[cG,bJ]at h;subst h;rw[cA,jm,jm];omega
 | x::l,j+1,h=>by
  rw[cY]at h;have:=Rv h;rw[gx,jm,jm];omega
mutual
def Ye(s:List dU):∀(x:Nd) (a:Nat),I (Uz s a x)<=mj x
 | .mk b l,a=>by
  have:=IZ s l (a+1);have:=mA b.mv;rw[Uz,aQ,xH,mj];unfold yu;omega
def IZ(s:List dU):∀(l:List Nd) (a:Nat),I (su s a l)<=jm l
 | [],a=>by rw[su];exact be _
 | x::l,a=>by
  have:=Ye s x a;have:=IZ s l (a+iH x);rw[su,aQ,jm];omega
end
section
variable {b:Nat} {F:aJ} {s:Sl} {xs:List dU}
def La.q3{w:av}{i sd sr:Sl}{ini dft:List Int}{r:List Ro}(h:La w b F s i sd sr xs ini dft r):∀k,Q3 i sd sr k->b<k/\k<w.heap.size:=λk hk=>hk.elim (h.bi k) λhk=>hk.elim (h.bd k) (h.br k)
def aeI(h:Fo xs)(z:I xs<=64):∀(D:Nat) {w:av} {G:aJ} {x:Nd} {g:aI} {i sd sr:Sl} {ini dft:List Int} {r:List Ro},lO aL D w G x g->(∀k,G k->k<b)->La w b F s i sd sr xs ini dft r->
  mj x<=8388608->I ini+iH x<=1000000->I dft=(I ini)->I r+mj x<=16777216->
  az aq 36 #[ae (aM ⟨b,0,aaa⟩),ah g.toArray] w λe j=>e=ak (ai #[])/\∃d p f,La j b F s d p f xs (ini++(AR x).map λc=>mE xs c.ini) (dft++(AR x).map λc=>mE xs c.dft) (r++Uz xs (I ini) x)/\Co b (Q3 i sd sr) w (Q3 d p f) j
 | 0,_,_,_,_,_,_,_,_,_,_,a,_,_,_,_,_,_=>a.elim
 | D+1,w,G,.mk l o,g,i,sd,sr,ini,dft,r,⟨en,lv,mv,kids,iO,⟨_,_,P⟩,fZ⟩,hG,N,hz,hn,yU,aC=>by
  have hk:=fZ.1;have P:=P.1;clear fZ;dsimp only[Nd.kids,Nd.b]at hk iO P;subst iO;rw[iH]at hn;rw[mj]at hz aC;have Fj:=hk.len;have FV:=P.len;have aT:=qo o;have xI:=mA l.mv;have aS:wH l.mv<=yu l:=by unfold yu;omega
  refine ret (asN _ _ _ _ _ _ _ _ _ _ ?_);intro k0 C fZ ez M;have z0:=M.size;have Fh:=N.lt;have V:=N.q3;have Z8:=N.o0 M;have H:∀n,tn (mE xs n):=λn=>by
   rcases Yd xs n with a | ⟨c,a,b⟩
   ·rw[a];exact⟨Z,Z⟩
   rw[a];exact⟨J,J⟩
  have TT:i.n=I ini:=N.i.len;have sw:∀{B:aJ} {u v:av} {bs:List Nat} {Y:aJ},Co b (Q3 i sd sr) C B u->aD Y u v->(∀k,Y k->k=b∨B k)->(∀k,k∈bs->k<C.heap.size/\w.heap.size<=k)->cu bs u v:=fun{B u v bs Y} m hO hP hb=>hO.same λx hx=>by
   have hx:=hb x hx;refine⟨by have:=m.1.size;omega,λa=>?_⟩;rcases hP x a with rfl | a
   ·omega
   rcases m.2 x a with a | a
   ·have:=V x a;omega
   omega
  refine⟨i,Blk.dP Z8.blk 1 rfl,λw1 S=>⟨λk=>k=b,rfl,i,Blk.dP (S.blk Z8.blk aag) 1 rfl,?_⟩⟩;have L:=Z8.o0 S;have z1:=S.size;have m1:Co b (Q3 i sd sr) C (Q3 i sd sr) w1:=(Co.refl _ _ _).cd S;refine(Yc L.blk L.sp l.ini).mono ?_;rintro _ w2 ⟨rfl,K⟩;have am:=L.o0 K;have m2:=m1.cd K;obtain⟨y,w3,p1,R,E,w4,p3,W,p5,p6,p7⟩:=am.acm (H l.ini) J;have z2:=K.size;have z3:=R.size;have z4:=W.size;refine⟨_,rfl,K.same aah,bT.only K,y,w3,p1,R.same aah,bT.only R,E,w4,p3,sw (m2.cd R) W (λk hk=>.inr (.inl hk)) aah,λk hk A=>?_,b,1,_,_,rfl,p6,dH rfl,J,λw5 eh vQ w6 dK=>?_⟩
  ·subst hk;exact W.block _ A λe=>by have:=N.bi _ e;omega
  have UT:=p7 w5 eh vQ;have z5:=eh.size;have m5:Co b (Q3 i sd sr) C (Q3 E sd sr) w5:=by
   refine m2.trans ⟨(R.qz (W.mono (G:=λk=>k=b∨Q3 i sd sr k) λk _ hk=>.inr (.inl hk))).trans (eh.p (F:=λk=>k=b) aag) λk hk=>.inl (.inl hk),λk hk=>?_⟩;rcases hk with hk | hk
   ·exact(p5 k hk).imp .inl λa=>J
   exact .inl (.inr hk)
  have MD:=UT.o0 dK;have z6:=dK.size;have m6:=m5.cd dK;refine⟨λk=>k=b,rfl,sd,Blk.dP MD.blk 2 rfl,(Yc MD.blk MD.sp l.dft).mono ?_⟩;rintro _ w7 ⟨rfl,v⟩;have vZ:=MD.o0 v;have m7:=m6.cd v;obtain⟨y8,w8,r1,r2,n,w9,r3,r4,r5,r6,r7⟩:=vZ.acn (H l.dft) J;have z7:=v.size;have z8:=r2.size;have z9:=r4.size;refine⟨_,rfl,v.same aah,bT.only v,y8,w8,r1,r2.same aah,bT.only r2,n,w9,r3,sw (m7.cd r2) r4 (λk hk=>.inr (.inr (.inl hk))) aah,λk hk A=>?_,b,2,_,_,rfl,r6,dH rfl,J,λdz dX pK=>?_⟩
  ·subst hk;exact r4.block _ A λe=>by have:=vZ.bd _ e;omega
  have ZC:=r7 dz dX pK;have JG:=dX.size;have co:Co b (Q3 i sd sr) C (Q3 E n sr) dz:=by
   refine m7.trans ⟨(r2.qz (r4.mono (G:=λk=>k=b∨Q3 E sd sr k) λk _ hk=>.inr (.inr (.inl hk)))).trans (dX.p (F:=λk=>k=b) aag) λk hk=>.inl (.inl hk),λk hk=>?_⟩;rcases hk with hk | hk | hk
   ·exact .inl (.inl hk)
   ·exact(r5 k hk).imp (λa=>.inr (.inl a)) λa=>J
   exact .inl (.inr (.inr hk))
  have cc:∀{B:aJ} {u:av},Co b (Q3 i sd sr) C B u->¬B k0:=λm e=>by
   rcases m.2 k0 e with a | a
   ·have:=V k0 a;omega
   omega
  have j6:∀{u:av} {B:aJ},Co b (Q3 i sd sr) C B u->aA (lO aL D) 9 u G kids o:=λm=>SliceF.kU (cf aL D) Z hk (M.qz m.1) λk bY _=>by
   have:=hG k bY;exact λa=>a.elim J λa=>by have:=V k a;omega
  have T6:∀{u:av} {B:aJ},Co b (Q3 i sd sr) C B u->aA (D7 aL) 13 u G mv l.mv:=λm=>SliceF.kU (iJ aL) Z P (M.qz m.1) λk bY _=>by
   have:=hG k bY;exact λa=>a.elim J λa=>by have:=V k a;omega
  refine⟨λkv ce u=>∃(bv:Nat) (q:Sl),ce=(bv:Int)/\kv+bv=I l.mv/\bv<=I l.mv/\La u b F s E n q xs (ini++[mE xs l.ini]) (dft++[mE xs l.dft]) (r++IV xs (I ini) 0 (l.mv.take bv))/\Co b (Q3 i sd sr) C (Q3 E n q) u,I l.mv,⟨0,sr,rfl,J,be _,by rw[cA,IV,bE];exact ZC,co⟩,?_⟩;rintro kv _ dF ⟨bv,q,rfl,oX,hj,Cw,bV⟩;have C3:=bV.1.size;refine⟨λhc=>?_,λhc=>?_⟩
  ·have hc:=aO hc;obtain⟨ad,m,ds,a1,a2,a3,a4,a5,a6⟩:=(T6 bV).get (ba bv) J;rw[aW]at a2;obtain⟨gc,rh,tg,rfl,US,BJ,nL⟩:=a6;obtain⟨sl,rfl⟩:=eU US;have nL:=nL.1;have G4:=nL.len;have eQ:Fe m<=wH l.mv:=oA (bn a2);have gO:=ve m.tg;unfold Fe at eQ;refine⟨ad,a1,_,_,_,_,_,_,_,_,sl,_,rh,tg,_,a5,λk9 re s gG gE fd el eW=>?_⟩;have gT:=eW.size;refine⟨λvC ce dO T4 k2 ev wt cC dm u=>∃t:Nat,ce=(t:Int)/\dO=(I ini:Int)/\T4=(bv:Int)/\k2=m.k/\ev=T m.ev/\wt=m.wt/\dm=0/\vC+t=I m.tg/\t<=I m.tg/\gV s.heap.size u cC ((m.tg.take t).map (mE xs))/\Q [] dF u/\s.heap.size<=u.heap.size,I m.tg,⟨0,rfl,by rw[TT],rfl,rfl,rfl,rfl,rfl,J,be _,Own.nil _ _ _ _ _ _,eW,aX _⟩,?_⟩;rintro vC _ _ _ _ _ _ cC _ fl ⟨t,rfl,rfl,rfl,rfl,rfl,rfl,rfl,Jn,ht,y,eE,T2⟩;have ma:∀k,nU cC k->s.heap.size<=k:=λk e=>(y.blk e).1;have ZQ:=Cw.o0 eE;have c:I ((m.tg.take t).map (mE xs))=t:=af3
   refine⟨λme=>?_,λme=>?_⟩
   ·have me:=aO me;obtain⟨zi,x2,ip,b1,b2,b3,b4,b5,b6⟩:=(SliceF.only du Z nL eE aag).get (ba t) J;rw[aW]at b2;unfold mh at b6;subst b6;refine⟨zi,b1,_,b5,λgw F=>⟨λk=>k<s.heap.size,el,?_⟩⟩;have iD:=F.size;have E6:=ZQ.o0 F;refine(Yc E6.blk E6.sp x2).mono ?_;rintro _ ij ⟨rfl,a⟩;have iF:=a.size;have T:gV s.heap.size ij cC _:=(y.keep cp λk _ A=>F.block k A aag).keep cp λk _ A=>a.block k A aag;obtain⟨y2,jw,c1,b,l2,iX,c3,c4,q,c6⟩:=ab4 T J (H x2) (by rw[c];omega);have iN:=b.size;have iS:=q.size;have g8:Q [] dF iX:=((((eE.cd F).cd a).cd b).qz (q.mono (G:=λk=>dF.heap.size<=k) λk _ e=>ae9)).only λk hk=>hk;refine⟨_,rfl,a.same aah,bT.only a,y2,jw,c1,b.same aah,bT.only b,l2,iX,c3,q.same λx hx=>?_,λk hk _=>q.block k J λe=>ae9,λku j9=>⟨vC-1,J,t+1,aaf,rfl,rfl,rfl,rfl,rfl,rfl,J,J,?_,g8.trans j9 λx hx=>.inr aak,by have:=j9.size;omega⟩⟩
    ·simp only[aZ,bp,ci]at hx;rcases hx with rfl | rfl | rfl
     ·exact⟨J,λe=>afb⟩
     ·exact⟨J,λe=>afb⟩
     exact⟨J,λe=>afb⟩
    rw[bh,b2,cK];exact c4.keep cp λk hk A=>j9.block k A acX
   have me:=aU me;have mK:t=I m.tg:=J
   subst mK;rw[bm (aX _)]at y c;rw[TT];refine(TH ZQ.blk ZQ.sp h J (y.slice cp) (by rw[c];omega) (a:=I ini) J).mono ?_;rintro _ lZ ⟨rfl,lQ⟩;have nO:=lQ.size;refine⟨_,rfl,lQ.same aah,λkg lr=>⟨λk=>k=b,rfl,?_⟩⟩;have n8:=lr.size;have lT:Q [] dF kg:=(eE.cd lQ).trans lr λx hx=>.inr aak;have lE:=Cw.o0 lT;have T:gV s.heap.size kg cC _:=(y.keep cp λk _ A=>lQ.block k A aag).keep cp λk hk A=>lr.block k A acX;obtain⟨y3,nj,d1,d2,q',pI,d3,d4,d5,d6,d7⟩:=lE.aco (x:=roM xs (I ini) bv m) (T.slice cp) (T.roC λoR hg=>.inr ⟨(T.blk hg).1,hg⟩) (λk hk=>by
    have hk:=hk.resolve_left id;exact⟨J,λe=>by have:=Cw.bi k e;omega,λe=>by have:=Cw.bd k e;omega,λe=>by have:=Cw.br k e;omega⟩) (by rw[aQ,xH,cx];omega)
   have oF:=d2.size;have oN:=d4.size;refine⟨q,Blk.dP lE.blk 3 rfl,y3,nj,d1,d2.same aah,bT.only d2,q',pI,d3,d4.same λx hx=>?_,λk hk A=>?_,b,3,_,_,rfl,d6,dH rfl,J,J,J,λth uu mt=>⟨kv-1,J,bv+1,q',aaf,J,J,?_,?_⟩⟩
   ·simp only[aZ,bp,ci]at hx;rcases hx with rfl | rfl | rfl
    ·exact⟨J,λe=>cc bV (.inr (.inr e))⟩
    ·exact⟨J,λe=>afz⟩
    exact⟨J,λe=>afz⟩
   ·subst hk;exact d4.block _ A λe=>afz
   ·have e:l.mv.take (bv+1)=l.mv.take bv++[m]:=ahR
    have a:I (l.mv.take bv)=bv:=ae8
    rw[e,EP,a,bP,<-bq];exact d7 th uu mt
   refine(bV.cd lT).trans ⟨(d2.qz (d4.mono (G:=λk=>k=b∨Q3 E n q k) λk _ hk=>.inr (.inr (.inr hk)))).trans (uu.p (F:=λk=>k=b) aag) λk hk=>.inl (.inl hk),λk hk=>?_⟩;rcases hk with hk | hk | hk
   ·exact .inl (.inl hk)
   ·exact .inl (.inr (.inl hk))
   exact(d5 k hk).imp (λa=>.inr (.inr a)) λa=>J
  have hc:=aU hc;have lu:bv=I l.mv:=J
  subst lu;rw[bm (aX _)]at Cw;clear oX;refine⟨λkv ce u=>∃(bv:Nat) (qi qd qr:Sl),ce=(bv:Int)/\kv+bv=I o/\bv<=I o/\La u b F s qi qd qr xs (ini++(mE xs l.ini::(EO (o.take bv)).map λc=>mE xs c.ini)) (dft++(mE xs l.dft::(EO (o.take bv)).map λc=>mE xs c.dft)) (r++(IV xs (I ini) 0 l.mv++su xs (I ini+1) (o.take bv)))/\Co b (Q3 i sd sr) C (Q3 qi qd qr) u,I o,⟨0,E,n,q,rfl,J,be _,by rw[cA,EO,su,bE];exact Cw,bV⟩,?_⟩;rintro kv _ uF ⟨bv,qi,qd,qr,rfl,oX,hj,t,a⟩;have pi:=a.1.size;refine⟨λT=>?_,λT=>?_⟩
  ·have T:=aO T;obtain⟨ad,y,ds,s,a2,a3,a4,a5,q⟩:=(j6 a).get (ba bv) J;rw[aW]at a2;have F:=q;obtain⟨b,rfl⟩:∃b,D=b+1:=by
    cases D with
    | zero=>exact q.elim
    | succ b=>exact⟨b,rfl⟩
   obtain⟨ri,rj,oM,gD,rfl,_⟩:=F;have uD:=mS a2;have AS:mj y<=jm o:=nB (bn a2);have AT:=Rv a2;refine⟨ad,s,_,_,_,_,ri,rj,oM,gD,_,a5,λMW qL wd tO wZ=>?_⟩;have Bv:=wZ.size;have rx:=t.o0 wZ;have RS:I (ini++(mE xs l.ini::(EO (o.take bv)).map λc=>mE xs c.ini))=I ini+1+dR (o.take bv):=by
    rw[aQ,aY,bK,C0];omega
   have ut:I (dft++(mE xs l.dft::(EO (o.take bv)).map λc=>mE xs c.dft))=I dft+1+dR (o.take bv):=by
    rw[aQ,aY,bK,C0];omega
   have AC:I (r++(IV xs (I ini) 0 l.mv++su xs (I ini+1) (o.take bv)))<=I r+(yu l+jm (o.take bv)):=by
    have:=IZ xs (o.take bv) (I ini+1);rw[aQ,aQ,xH];omega
   refine(aeI h z (b+1) ((cf aL (b+1)).keep q λk _ A=>wZ.block k A aag) hG rx J (by rw[RS];omega) (by rw[RS,ut];omega) J).mono ?_;rintro _ sC ⟨rfl,ti,td,tr,pm,pP⟩;have By:=pP.1.size;have As:=rx.q3;have uP:=cc a;refine⟨rfl,pP.1.same λx hx=>?_,kv-1,J,bv+1,ti,td,tr,aaf,J,J,?_,(a.cd wZ).trans pP⟩
   ·simp only[aZ,bp,ci]at hx;rcases hx with rfl | rfl
    ·exact⟨J,λc=>c.elim J uP⟩
    exact⟨tO,λc=>c.elim J λc=>by have:=t.q3 _ c;omega⟩
   have e:o.take (bv+1)=o.take bv++[y]:=ahR
   rw[RS]at pm;rw[e,Rk,EO,EO,bE,L8,su,su,bE,cK,cK,<-bq (IV xs (I ini) 0 l.mv),<-bq r];rw[bq,bq,bZ,bZ]at pm;exact pm
  have T:=aU T;have lu:bv=I o:=J
  subst lu;rw[bm (aX _)]at t;refine⟨rfl,qi,qd,qr,?_,Co.of0 M a⟩;rw[AR,Uz,bS,bS];exact t
end
structure PlR (w:av) (F:aJ) (s si sd sr:Sl) (p:Pl):Prop where
 sp:aA tD 5 w F s p.sp
 ini:aA gL 1 w F si p.ini
 dft:aA gL 1 w F sd p.dft
 ro:aA rRo 7 w F sr p.ro
def PlR.o0{w b:av}{F:aJ}{s i sd sr:Sl}{p:Pl}(h:PlR w F s i sd sr p)(a:Q [] w b):PlR b F s i sd sr p:=
 ⟨SliceF.only dC Z h.sp a aag,SliceF.only cp Z h.ini a aag,SliceF.only cp Z h.dft a aag,SliceF.only jE Z h.ro a aag⟩
def Yf{c:Ch}(h:(ke c).1=0):ke c=(0,0):=by
 obtain⟨a,b⟩:=rQ h;unfold ke;rw[aP (λe=>e a),b];rfl
structure PlO (w0 w:av) (s si sd sr:Sl) (p:Pl):Prop where
 sp:B1 w (λk=>w0.heap.size<=k) 59 5 s
 ro:B1 w (λk=>w0.heap.size<=k) 57 7 sr
 own:∃B,w0.heap.size<=B/\gV B w si p.ini/\gV B w sd p.dft
 ap:∀k,nU si k->¬nU sd k
def I0{w:av}{F:aJ}{D:Nat}{c:Ch}{v:Sl}{g:aI}(hx:ChR aL (D+1) w F c v g)(m:G8 c)(o:nY c.vars+mj c.root<=8388608)(E:Er w)(T:Tb w):
  az aq 13 #[ah (v.v::g).toArray] w λe d=>(∃s i sd sr:Sl,e=ak (ai #[ah #[s.v,i.v,sd.v,sr.v],ah #[O U (ke c).1,O U (ke c).2]])/\((ke c).1=0->PlR d (λk=>w.heap.size<=k) s i sd sr (kP c)/\PlO w d s i sd sr (kP c))/\((ke c).1≠0->s=Sl.nil/\i=Sl.nil/\sd=Sl.nil/\sr=Sl.nil))/\Q [] w d:=by
 obtain⟨n,u,mv,kids,B,_⟩:=hx.root;subst B;refine ik (asG _ _ _ _ _ _ _ _ _ _ ?_);intro W p r w0 S R mc V qG oL q;have z0:=q.size;have keep:∀{z:av},Q [] w z->ChR aL (D+1) z F c v (ob c.root.b.k c.root.b.nm c.root.b.ini c.root.b.dft n u mv kids c.root.b.a):=λl=>⟨hx.vars.keep dY Z λk _ b=>l.block k b aag,(cf aL _).keep hx.root λk _ b=>l.block k b aag⟩
 refine(Lw (keep q) m o (E.only q) (T.only q)).mono ?_;rintro _ w1 ⟨rfl,a⟩;have z1:=a.size;have y:=q.cd a;refine⟨_,_,rfl,a.same aah,λhc k3 w2 yZ ur A C H K L M N=>?_,λhc Y t f uw yg rl P j=>?_⟩
 ·have hc:(ke c).1≠0:=aaj
  refine⟨λk=>k=k3,rfl,λh=>M h,λh=>N h,λs e=>⟨⟨Sl.nil,Sl.nil,Sl.nil,Sl.nil,rfl,λh=>absurd h hc,λ_=>⟨rfl,rfl,rfl,rfl⟩⟩,(y.cd A).trans e λx hx=>.inr aam⟩⟩
 have hc:(ke c).1=0:=aaj
 have hp:=(rQ hc).1;have aT:=xx hp;have z4:=j.size;have o4:=y.cd j;refine(WW (keep o4) m o (E.only o4) (T.only o4)).mono ?_;rintro _ w5 ⟨⟨s,rfl,h1,_⟩,eh⟩;have hS:=h1 hp;have z5:=eh.size;have o5:=o4.cd eh;refine⟨s,_,rfl,eh.same aah,λw6 dK RW C H K L=>?_⟩;have z6:=dK.size;have o6:Q [] w w6:=o5.trans dK λx hx=>.inr aak;have aS:lO aL (D+1) w6 (λk=>k<w.heap.size) c.root (ob c.root.b.k c.root.b.nm c.root.b.ini c.root.b.dft n u mv kids c.root.b.a):=
  (cf aL _).keep ((cf aL _).mono ((cf aL _).inHeap hx.root) λk hk=>hk.2) λk _ b=>o6.block k b aag
 have M1:aA tD 5 w6 (λk=>f.heap.size<=k/\k<w5.heap.size) s (ff c):=SliceF.only dC Z ((SliceF.inHeap dC (hS.slice dC) Z).mono dC λk hk=>⟨(hk.1.resolve_left id).1,hk.2⟩) dK λk hk _ hm=>aaV
 have am:∀k,¬Q3 Sl.nil Sl.nil Sl.nil k:=λk hk=>by rcases hk with hk | hk | hk<;>cases hk
 have aC:La w6 t (λk=>f.heap.size<=k/\k<w5.heap.size) s Sl.nil Sl.nil Sl.nil (ff c) [] [] []:=⟨⟨M1,λk hk=>⟨J,J,am k⟩,Own.nil _ _ _ _ _ _,Own.nil _ _ _ _ _ _,Own.nil _ _ _ _ _ _,λk h=>aal,λk h=>aal⟩,RW⟩
 have fN:I (ff c)=iH c.root:=by unfold ff;rw[lX]
 refine(aeI (CR c) J (D+1) aS (λk hk=>J) aC J acV rfl acV).mono ?_;rintro _ w7 ⟨rfl,i,sd,sr,e,m7⟩;have z7:=m7.1.size;refine⟨rfl,m7.1.same λx hx=>?_,s,i,sd,sr,e.blk,λw8 ft yy=>⟨⟨s,i,sd,sr,by rw[Yf hc],λ_=>⟨?_,?_⟩,λh=>absurd hc h⟩,?_⟩⟩
 ·simp only[aZ,bp,ci]at hx;refine⟨J,λh=>h.elim J (am x)⟩
 ·have kp:∀k,k<w7.heap.size->k∉[r,p]->w8.heap[k]? =w7.heap[k]? :=λk h1 h=>ft.block k h1 h;simp only[bR]at e;rw[show([]:List Int).length=0 from rfl]at e;refine⟨(e.sp.keep dC Z λk hk b=>kp k b aah).mono dC λk hk=>J,((e.i.slice cp).keep cp Z λk hk b=>kp k b ?_).mono cp λk hk=>?_,((e.d.slice cp).keep cp Z λk hk b=>kp k b ?_).mono cp λk hk=>?_,((e.r.slice jE).keep jE Z λk hk b=>kp k b ?_).mono jE λk hk=>?_⟩
  ·have:=hk.resolve_left id;simp;omega
  ·have:=hk.resolve_left id;omega
  ·have:=hk.resolve_left id;simp;omega
  ·have:=hk.resolve_left id;omega
  ·rcases hk with hk | hk
   ·have:=hk.1;simp;omega
   simp;omega
  rcases hk with hk | hk
  ·have:=hk.1;omega
  omega
 ·have kp:∀k,k<w7.heap.size->k∉[r,p]->w8.heap[k]? =w7.heap[k]? :=λk h1 h2=>ft.block k h1 h2;simp only[bR]at e;have hR:B1 w5 (λk=>f.heap.size<=k/\k<w5.heap.size) 59 5 s:=hS.roC λG x=>hS.blk x;refine⟨(((hR.keep λk hk c=>dK.block k c aah).keep λk hk c=>m7.1.block k c λh=>h.elim J (am k)).keep λk hk c=>kp k c aah).imp λk hk _=>J,((e.r.roC λG x=>e.br G x).keep λk hk c=>kp k c aah).imp λk hk _=>J,⟨t+1,J,e.i.keep cp λk hk c=>kp k c ?_,e.d.keep cp λk hk c=>kp k c ?_⟩,λk hk=>(e.ap k hk).1⟩
  ·have:=hk.resolve_left id;simp;omega
  have:=hk.resolve_left id;simp;omega
 refine((o6.qz (m7.1.mono (G:=λk=>w.heap.size<=k) λk _ hk=>hk.elim J λh=>absurd h (am k))).only λk hk=>hk).trans ft λx hx=>.inr aam
def aho{w:av}{F:aJ}{D:Nat}{c:Ch}{v:Sl}{a:aI}(x:ChR aL (D+1) w F c v a)(n:G8 c)(j:nY c.vars+mj c.root<=8388608)(E:Er w)(T:Tb w):
  az aq 13 #[ah (v.v::a).toArray] w λe b=>(∃s i sd sr:Sl,e=ak (ai #[ah #[s.v,i.v,sd.v,sr.v],ah #[O U (ke c).1,O U (ke c).2]])/\((ke c).1=0->PlR b (λk=>w.heap.size<=k) s i sd sr (kP c)))/\Q [] w b:=
 (I0 x n j E T).mono λ_ _ ⟨⟨s,i,sd,sr,d,f,_⟩,h⟩=>⟨⟨s,i,sd,sr,d,λg=>(f g).1⟩,h⟩
section
variable {w w':av} {F G:aJ} {sl sT:Sl} {xs:List dU} {tg:List Int}
def ahp(h:aA tD 5 w F sl xs)(b:Fo xs)(m:I xs<=64)(g:jJ xs 0=1){a:Nat}(c:a<I xs)(T:aA gL 1 w G sT tg)(f:∀t,t∈tg->1<=t/\t<I xs):
  az aq 24 #[sl.v,O U (a:Int),sT.v] w λe w'=>e=ak (O U (Bs xs a tg))/\Q [] w w':=by
 refine ret (als _ _ _ ?_);have l:=h.len;have H:=T.len;have v:=T.big;have j:=T.cap;by_cases i:tg=[]
 ·subst i;refine⟨λ_ N _ u=>N= -1/\Q [] w u,0,⟨rfl,Only.refl _ _⟩,?_⟩;rintro k _ d u ⟨rfl,e⟩;refine⟨λa=>?_,λ_=>⟨rfl,e⟩⟩;rw[aR]at a;have:=aO a.2;rw[bC]at H;omega
 have A:0<I tg:=mM.2 i;have L:∀{u:av},Q [] w u->aA tD 5 u F sl xs:=λo=>SliceF.only dC Z h o aag;have B:∀{u:av},Q [] w u->aA gL 1 u G sT tg:=λo=>SliceF.only cp Z T o aag;refine⟨λr N q u=>∃d:Nat,q=(d:Int)/\r+d=I xs/\d<=I xs/\Q [] w u/\N=IX xs a tg d,I xs,⟨0,rfl,J,be _,Only.refl _ _,rfl⟩,?_⟩;rintro r _ _ s ⟨d,rfl,C,V,o,rfl⟩;refine⟨λp=>?_,λp=>?_⟩
 ·rw[aR]at p;have oQ:=aO p.1;obtain⟨x,F⟩:=gu (xs:=xs) (i:=d) J;obtain⟨ad,K,P,_,R,_⟩:=jI (L o) F;refine⟨λM u=>M=IX xs a tg (d+1)/\Q [] w u,λM u ⟨S,W⟩=>⟨r-1,J,d+1,aaf,J,J,W,S⟩,(IU (L o) a d).mono ?_⟩;rintro _ u ⟨rfl,E⟩;obtain rfl:s=u:=E.symm;refine⟨_,rfl,ad,K,x.k,P.dP 0 _ rfl,λG ok q u=>∃t:Nat,q=(t:Int)/\G+t=I tg/\t<=I tg/\ok=(((x.k==1)&&(wD xs a d||(d:Int)==0))&&(tg.take t).all λn=>wD xs n d)/\s=u,I tg,⟨0,rfl,J,be _,aag,rfl⟩,?_⟩;rintro G _ _ _ ⟨t,rfl,Jn,Y,rfl,rfl⟩;refine⟨λD=>?_,λD=>?_⟩
  ·have D:=aO D;obtain⟨y,e⟩:∃y,tg[t]? =aM y:=⟨_,bf (show t<(I tg) by omega)⟩
   obtain⟨a,k,n⟩:=IR (B o) e;refine⟨a,k,y,n,(IU (L o) y d).mono ?_⟩;rintro _ u ⟨rfl,E⟩;obtain rfl:s=u:=E.symm;refine⟨_,rfl,G-1,J,t+1,aaf,J,J,?_,rfl⟩;rw[bh,e,jc];simp[sJ]
  have D:=aU D;have y:(((x.k==1)&&(wD xs a d||(d:Int)==0))&&(tg.take t).all λn=>wD xs n d)=TG xs a tg d:=by
   rw[bm J];unfold TG;rw[fG F];rfl
  rw[y];have w:IX xs a tg (d+1)=if TG xs a tg d=aE then(d:Int)else IX xs a tg d:=rfl
  rcases ES (xs:=xs) a tg d with⟨e,_⟩ | ⟨am,e,hj,UB,_⟩
  ·rw[e]at w⊢;refine⟨ad,λ_ h=>absurd h Z,0,λ_ h=>absurd h Z,ad,λ_ h=>absurd h Z,0,λ_ h=>absurd h Z,λhq n a=>⟨?_,o.cd a⟩,λhq t k=>⟨?_,o.cd k⟩⟩
   ·rw[w,aV aev]
   rw[w,aP aev]
  obtain⟨z,t⟩:=gu (xs:=xs) (i:=am) J;obtain⟨zi,b1,_,_,b4,_⟩:=jI (L o) t;rw[e]at w⊢;refine⟨ad,λ_ _=>K,_,λ_ _=>R,zi,λ_ _=>b1,_,λ_ _=>b4,λhq w4 h4=>⟨?_,o.cd h4⟩,λhq w5 h5=>⟨?_,o.cd h5⟩⟩
  ·rw[w,aV];rw[aR]at hq;exact hq.1
  rw[w,aP];intro e;obtain⟨k,ek,s1,BE,g1,g2⟩:=(IY b c f UB J).1 a (.head _);obtain⟨k',aC,s2,MX,g3,g4⟩:=(IY b c f e J).1 a (.head _);rw[t,bJ]at BE;subst BE;have:=b.deep (n:=a) d hj t F J J;rw[e,bF (show x.dp>z.dp from this)]at hq;simp at hq
 have:d=I xs:=by
  rw[jq]at p;rcases p with p | p
  ·have:=aU p;omega
  have:=aU p;omega
 rw[this,Ya b c g f i];exact⟨rfl,o⟩
end
def rNX:Rp Nd:=λw F x c=>∃d,lO aL d w F x c
def wR:rNX.Ok where
 keep:=λ⟨d,h⟩ hk=>⟨d,(cf aL d).keep h hk⟩
 inHeap:=λ⟨d,h⟩=>⟨d,(cf aL d).inHeap h⟩
 mono:=λ⟨d,h⟩ hk=>⟨d,(cf aL d).mono h hk⟩
 one:=λ⟨d,h⟩=>(cf aL d).one h
abbrev Yg(B:Nat)(w:av)(F:aJ)(s:Sl)(l:List Nd):Prop:=Own rNX 9 27 B w (λk=>F k∨B<=k) s l
def Mi:∀(D:Nat) {w:av} {F:aJ} {x:Nd} {c:aI} {B:Nat} {s:Sl} {ns:List Nd},lO aL D w F x c->(∀k,F k->k<B)->Yg B w F s ns->B<=w.heap.size->I ns+iH x<=100000->
  az aq 22 #[s.v,ah c.toArray] w λe a=>∃b,e=ak (Sl.v b)/\Yg B a F b (ns++Bw x)/\Gr s w b a
 | 0,_,_,_,_,_,_,_,h,_,_,_,_=>h.elim
 | D+1,w,F,.mk f d,c,B,s,ns,hx,z,hS,am,hn=>by
  have W:=hx;obtain⟨Y,lv,mv,kids,N,_,p⟩:=hx;have hk:=p.1;clear p;dsimp only[Nd.kids,Nd.b]at hk N;subst N;rw[iH]at hn;rw[Bw];have Fj:=hk.len;have aC:=qo d;refine ik (alq _ _ _ _ _ _ _ _ _ _ ?_);intro C w0 p ez i;have z0:=i.size;have S:Yg B w0 F s ns:=hS.keep wR λk _ o=>i.block k o aag;obtain⟨y,w2,k1,k3,m,n,g1,g2,⟨gs,u,g4⟩,L⟩:=kj (P:=aq) (t:=25) (ty:=25) (e:=27) (i:=Tryz.t27) (bytes:=160) (size:=9) (r:=rNX) (G:=F) (v:=ah (ob f.k f.nm f.ini f.dft Y lv mv kids f.a).toArray) (x:=.mk f d) aae aae rfl rfl rfl rfl Z Z Z wR S J rfl ⟨D+1,(cf aL _).mono ((cf aL _).keep ((cf aL _).inHeap W) λk _ o=>i.block k o aag) λk hk=>hk.1⟩ (λq l _=>⟨.inl l,λe=>by have h1:=z q l;have:=(hS.blk e).1;dsimp only at this;omega⟩) J;have z2:=k3.size;have z3:=u.size;have qY:s.a≠aM ⟨C,0,aaa⟩:=λe=>acu
  have m3:Gr s w m n:=by
   refine⟨(i.cd k3).qz (u.p (F:=λk=>s.a=aM ⟨k,0,aaa⟩) λq r=>.inl (g4 q r).1),λk hk=>?_⟩;rcases L with e | ⟨q,e,h⟩
   ·exact .inl acB
   rw[e]at hk;injection hk with hk;injection hk with hk;exact .inr J
  have n3:∀k,m.a=aM ⟨k,0,aaa⟩->k≠C:=λk hk e=>by
   subst e;rcases L with e | ⟨k,e,h⟩
   ·exact qY acB
   rw[e]at hk;injection hk with hk;injection hk with hk;omega
  have V:Yg B n F m (ns++[.mk f d]):=g2.mono wR λq l=>l.elim id λh=>.inr J;have j6:∀{T:av} {q:Sl},Gr s w q T->aA (lO aL D) 9 T F kids d:=λhm=>SliceF.kU (cf aL D) Z hk hm.1 λk A _ h=>by
   have:=z k A;have:=(hS.blk h).1;dsimp only at this;omega
  refine⟨y,w2,k1,k3.same aah,m,n,g1,u.same λx hx=>⟨aak,λh=>acW⟩,λE q M a=>∃j:Nat,M=(j:Int)/\E+j=I d/\j<=I d/\Yg B a F q (ns++.mk f d::zf (d.take j))/\Gr s w q a/\n.heap.size<=a.heap.size/\∀k,q.a=aM ⟨k,0,aaa⟩->k≠C,I d,⟨0,rfl,J,be _,by rw[cA,zf];exact V,m3,aX _,n3⟩,?_⟩;rintro E q _ w5 ⟨j,rfl,oX,mH,K,H,z5,R⟩;refine⟨λg=>?_,λg=>?_⟩
  ·have g:=aO g;obtain⟨ad,y,ds,v,r,G,P,B,s⟩:=(j6 H).get (ba j) J;rw[aW]at r;have t:=s;obtain⟨q,rfl⟩:∃q,D=q+1:=by
    cases D with
    | zero=>exact s.elim
    | succ q=>exact⟨q,rfl⟩
   obtain⟨ri,rj,oM,gD,rfl,_⟩:=t;have uD:=mS r;refine⟨ad,v,_,_,_,_,ri,rj,oM,gD,_,B,(Mi (q+1) s z K J (by rw[aQ,aY,IW];omega)).mono ?_⟩;rintro _ w7 ⟨q7,rfl,UW,m7⟩;have z7:=m7.1.size;refine⟨q7,rfl,m7.1.same λx hx=>?_,E-1,J,j+1,aaf,J,J,?_,H.trans m7,J,λk hk e=>?_⟩
   ·simp only[aN]at hx;subst hx;exact⟨J,λh=>R _ h rfl⟩
   ·have e:zf (d.take (j+1))=zf (d.take j)++Bw y:=by
     rw[bh,r,Ru];show _++zf [y]=_;rw[zf,zf,bE]
    rw[e,<-bZ,<-bq];exact UW
   subst e;rcases m7.2 _ hk with h | h
   ·exact R _ h rfl
   omega
  have g:=aU g;have e:j=I d:=J
  subst e;rw[bm (aX _)]at K;exact⟨q,rfl,K,H⟩
def aus{c}(a:(oJ c).1=0):(ja c).2=0/\Snd c (ff c) (Jw c):=by
 unfold oJ at a;by_cases h:(ja c).2≠0
 ·rw[aV h]at a;exact absurd a h
 rw[aP h]at a;have h:=og.1 h;exact⟨h,Rq (Bp h) (Eo (Et c) a)⟩
def Yh{c}(h:(oJ c).1=0):oJ c=(0,0):=by
 unfold oJ at h⊢;by_cases p:(ja c).2≠0
 ·rw[aV p]at h;exact absurd h p
 rw[aP p]at h⊢;rw[Eo (Et c) h];rfl
def Snd.aow{c}{xs}{vs}(N:Snd c xs vs){a:Nat}{y}{m}(g:(Bw c.root)[a]? =aM y)(h:m∈y.b.mv):∀s,s∈m.tg->mE xs s=fK xs s/\∃k:Nat,fK xs s=k/\1<=k/\k<I xs:=by
 obtain⟨j,p,_,_,o,f,_⟩:=N.nice _ _ g;have n:=by
  have:=o m h;obtain⟨_,this⟩:=dW.1 this;obtain⟨_,this⟩:=dW.1 this;obtain⟨_,this⟩:=dW.1 this;exact xv.1 this
 have d:=λs b=>by
  unfold qm at f;by_cases a:fF y.b.k=aE
  ·rw[aV a]at f;simp only[aR]at f;have:=rn.1 (aO f.2.2).2.2.2.1;rw[this]at h;cases h
  rw[aP a]at f;simp only[aR]at f;have:=dx.1 f.2.2 m h;unfold mz at this;simp only[aR]at this;exact AB (dx.1 this.1.2 s b)
 intro s b;have i:=IQ n s b;rcases jt xs s with⟨e,_⟩ | ⟨k,l,e,u,_⟩
 ·omega
 exact⟨by unfold mE;rw[aP (d s b)],k,e,J,ir u⟩
mutual
def Yi:∀(x y:Nd),y∈Bw x->yu y.b<=mj x
 | .mk b l,y,h=>by
  rw[Bw]at h;rw[mj];rcases aZ.1 h with rfl | h
  ·show yu b<=_;omega
  have:=Yj l y h;omega
def Yj:∀(l:List Nd) (y:Nd),y∈zf l->yu y.b<=jm l
 | [],y,h=>by rw[zf]at h;cases h
 | x::l,y,h=>by
  rw[zf,ch]at h;rw[jm];rcases h with h | h
  ·have:=Yi x y h;omega
  have:=Yj l y h;omega
end
def ab5 xs {y} {ns} {a} (h:ns[a]? =aM y):I (Fg xs 0 (ns.take a))+I y.b.mv<=I (Fg xs 0 ns):=by
 have e:ns.take (a+1)=ns.take a++[y]:=by rw[bh,h];rfl
 have:=bN List.length (AE xs (ns.take (a+1)) (ns.drop (a+1)) 0);rw[fk,aQ,e,AE,aQ,Fg,Fg,bE,xH]at this;omega
def Yk xs {y} {n:List Nd} {a} (h:n[a]? =aM y):Fg xs 0 (n.take (a+1))=Fg xs 0 (n.take a)++IV xs a 0 y.b.mv:=by
 have e:n.take (a+1)=n.take a++[y]:=by rw[bh,h];rfl
 have l:I (n.take a)=a:=by
  have:=(bc.1 h).1;rw[cx];omega
 rw[e,AE,Fg,Fg,bE,l,bP]
def PlQ(w:av)(B:Nat)(b:Prop)(s i sd sr:Sl)(c:Ch):Prop:=(b->PlR w (λk=>B<=k) s i sd sr (kP c))/\(¬b->s=Sl.nil/\i=Sl.nil/\sd=Sl.nil/\sr=Sl.nil)
def ahq{w:av}{F:aJ}{D:Nat}{c:Ch}{A:Sl}{C:aI}(hx:ChR aL (D+1) w F c A C)(M:G8 c)(j:nY c.vars+mj c.root<=1048576):
  az aq 7 #[ah (A.v::C).toArray] w λe K=>(∃s H sd sr:Sl,e=ak (ai #[ah #[s.v,H.v,sd.v,sr.v],ah #[O U (oJ c).1,O U (oJ c).2]])/\PlQ K w.heap.size ((oJ c).1=0) s H sd sr c)/\Q [] w K:=by
 obtain⟨g,l,mv,kids,N,_⟩:=hx.root;subst N;refine ik (alk _ _ _ _ _ _ _ _ _ _ ?_);intro P R S w0 fZ ez mc jM qG oL r;have z0:=r.size;have keep:∀{u:av},Q [] w u->ChR aL (D+1) u F c A (ob c.root.b.k c.root.b.nm c.root.b.ini c.root.b.dft g l mv kids c.root.b.a):=λi=>⟨hx.vars.keep dY Z λk _ b=>i.block k b aag,(cf aL _).keep hx.root λk _ b=>i.block k b aag⟩
 refine(X5 (keep r) M j).mono ?_;rintro _ w1 ⟨rfl,p⟩;have z1:=p.size;have E:=r.cd p;refine⟨_,_,rfl,p.same aah,λhc k3 w2 yZ Y L n1 n2 n3 n4 V W=>?_,λhc k3 m yZ Y o=>?_⟩
 ·have hc:(oJ c).1≠0:=aaj
  refine⟨λk=>k=k3,rfl,λh=>V h,λh=>W h,λm o=>⟨⟨Sl.nil,Sl.nil,Sl.nil,Sl.nil,rfl,λh=>absurd h hc,λ_=>⟨rfl,rfl,rfl,rfl⟩⟩,(E.cd L).trans o λx hx=>.inr aam⟩⟩
 have hc:(oJ c).1=0:=aaj
 obtain⟨hp,cC⟩:=aus hc;have gG:=Bq hp;have z3:=o.size;have o3:=E.cd o;refine(XZ (keep o3) gG).mono ?_;rintro _ w4 ⟨⟨x2,rfl,ce⟩,dI⟩;have z4:=dI.size;have o4:=o3.cd dI;have gO:lO aL (D+1) w4 (λk=>k<w.heap.size) c.root (ob c.root.b.k c.root.b.nm c.root.b.ini c.root.b.dft g l mv kids c.root.b.a):=
  (cf aL _).keep ((cf aL _).mono ((cf aL _).inHeap hx.root) λk hk=>hk.2) λk _ b=>o4.block k b aag
 have G7:(2:Nat)*iH c.root<=128:=J
 refine⟨x2,rfl,dI.same aah,(Mi (D+1) (B:=w4.heap.size) (s:=Sl.nil) (ns:=[]) gO (λk hk=>J) (Own.nil _ _ _ _ _ _) (aX _) acV).mono ?_⟩;rintro _ w5 ⟨x3,rfl,aT,gE⟩;rw[bR]at aT;have eh:Q [] w4 w5:=gE.1.only λk hk=>afs
 have z5:=eh.size;have o5:=o4.cd eh;refine⟨x3,rfl,eh.same aah,λk4 w6 uw yg dK=>?_⟩;have z6:=dK.size;have o6:=o5.cd dK;have fN:I (ff c)=iH c.root:=by unfold ff;rw[lX]
 have Hc:I (Bw c.root)=iH c.root:=AD _;have RZ:∀{a:Nat} {y:Nd} {am:Mv},(Bw c.root)[a]? =aM y->am∈y.b.mv->∀s,s∈am.tg->mE (ff c) s=fK (ff c) s/\∃k:Nat,fK (ff c) s=k/\1<=k/\k<I (ff c):=λh hm=>cC.aow h hm;have g8:=Yi c.root;have el:jJ (ff c) 0=1:=by
  obtain⟨s,j,hk⟩:=cC.sd.rt;exact(fG j).trans hk
 have gT:=Ye (ff c) c.root 0;have fd:=cC.fo;have dO:kP c=⟨ff c,(Bw c.root).map λy=>mE (ff c) y.b.ini,(Bw c.root).map λy=>mE (ff c) y.b.dft,Fg (ff c) 0 (Bw c.root)⟩:=by
  unfold kP;rw[X9,<-Ma,gR,gR];rfl
 rw[<-X9]at gT;have eQ:aA tD 5 w6 (λk=>k<k4/\m.heap.size<=k) x2 (ff c):=SliceF.only dC Z (SliceF.mono dC (SliceF.inHeap dC (SliceF.only dC Z (SliceF.inHeap dC ce.sl' Z) eh aag) Z) λk hk=>⟨acL,by have:=hk.1.1;omega⟩) dK aag;have cc:aA rNX 9 w6 (λk=>k<k4) x3 (Bw c.root):=SliceF.only wR Z (SliceF.mono wR (SliceF.inHeap wR (aT.slice wR) Z) λk hk=>acL) dK aag;clear aT ce;generalize iF:ff c=xs at*
 generalize ip:Bw c.root=ns at*
 have co:∀k,¬Q3 Sl.nil Sl.nil Sl.nil k:=λk hk=>by rcases hk with hk | hk | hk<;>cases hk
 have MD:Lb w6 k4 (λk=>k<k4/\m.heap.size<=k) x2 Sl.nil Sl.nil Sl.nil xs [] [] []:=⟨eQ,λk hk=>⟨J,J,co k⟩,Own.nil _ _ _ _ _ _,Own.nil _ _ _ _ _ _,Own.nil _ _ _ _ _ _,λk h=>aal,λk h=>aal⟩
 have bv:∀n,tn (mE xs n):=λn=>by
  rcases Yd xs n with h | ⟨c,h,a⟩
  ·rw[h];exact⟨Z,Z⟩
  rw[h];exact⟨J,J⟩
 have bY:∀{u:av},aD (λk=>k=k4) w6 u->∀{a:Nat} {y:Nd},ns[a]? =aM y->∃ad g l mv kids,cR x3 (a:Int) 9 ad/\aB u ad (ob y.b.k y.b.nm y.b.ini y.b.dft g l mv kids y.b.a)/\aA (D7 aL) 13 u (λk=>k<k4) mv y.b.mv:=fun{u} i {a y} hy=>by
  have h:=SliceF.kU wR Z cc i λk hk _ hm=>J
  have:=h.len;obtain⟨ad,v,t,f,c,q,s,n,e⟩:=h.get (i:=(a:Int)) (ba a) (by have:=(bc.1 hy).1;omega);rw[aW,hy]at c;injection c with c;subst c;obtain⟨d,e⟩:=e;cases d with
  | zero=>exact e.elim
  | succ d=>
   obtain⟨k,x⟩:=y;obtain⟨g,l,mv,kids,rfl,⟨_,_,a⟩,_⟩:=e;exact⟨ad,g,l,mv,kids,f,n,a.1⟩
 refine⟨λkv bV q0 q1 q2 q3 u=>∃a:Nat,bV=(a:Int)/\kv+a=I ns/\a<=I ns/\x2=q0/\Lb u k4 (λk=>k<k4/\m.heap.size<=k) x2 q1 q2 q3 xs ((ns.take a).map λy=>mE xs y.b.ini) ((ns.take a).map λy=>mE xs y.b.dft) (Fg xs 0 (ns.take a))/\aD (λk=>k=k4) w6 u/\∀k,Q3 q1 q2 q3 k->w6.heap.size<=k,I ns,⟨0,rfl,J,be _,rfl,by rw[cA,Fg];exact MD,OnlyP.refl _ _,λk hk=>absurd hk (co k)⟩,?_⟩;rintro kv _ _ q1 q2 q3 w7 ⟨a,rfl,oX,ha,rfl,vZ,m7,aC⟩;have z7:=m7.size;have iD:x3.n=I ns:=cc.len;refine⟨λaS=>?_,λaS=>?_⟩
 ·have aS:=aO aS;obtain⟨y,hy⟩:∃y,ns[a]? =aM y:=⟨_,bf (show a<(I ns) by omega)⟩
  obtain⟨ad,ri,rj,oM,gD,d,n,B⟩:=bY m7 hy;have iN:a<I xs:=J
  have iS:=ab5 xs hy;have FV:=B.len;have oP:∀f:Nd->Int,(ns.take (a+1)).map f=(ns.take a).map f++[f y]:=λf=>by rw[bh,hy,cK];rfl
  refine⟨λv u=>v=mE xs y.b.ini/\w7=u,?_,ad,d,_,n.dP 2 _ rfl,λc=>⟨ad,d,_,n.dP 2 _ rfl,(vq vZ.sp y.b.ini).mono ?_⟩,λc=>⟨?_,rfl⟩⟩
  ·rintro _ _ ⟨rfl,rfl⟩;refine⟨λv u=>v=mE xs y.b.dft/\w7=u,?_,ad,d,_,n.dP 3 _ rfl,λc=>⟨ad,d,_,n.dP 3 _ rfl,(vq vZ.sp y.b.dft).mono ?_⟩,λc=>⟨?_,rfl⟩⟩
   ·rintro _ _ ⟨rfl,rfl⟩;have mK:k4<w7.heap.size:=J
    have M2:I ((ns.take a).map λy=>mE xs y.b.ini)=a:=af3
    have nO:I ((ns.take a).map λy=>mE xs y.b.dft)=a:=af3
    obtain⟨y1,w8,p1,p2,s1,w9,p3,p4,p5,p6⟩:=vZ.acm (bv y.b.ini) mK (by rw[M2];omega);have z8:=p2.size;have z9:=p4.size;have sm:∀{u v:av} {mt:aJ},w6.heap.size<=u.heap.size->aD mt u v->(∀k,mt k->w6.heap.size<=k)->cu [P,R,S,k3,k4] u v:=fun{u v mt} hz i hP=>i.same λx hx=>by
     simp only[aZ,bp,ci]at hx;exact⟨J,λh=>by have:=hP x h;omega⟩
    refine⟨y1,w8,p1,p2.same aah,s1,w9,p3,sm J p4 λk hk=>aC k (.inl hk),λdz dX=>?_⟩;have ZC:=p6 dz dX;have JG:=dX.size;have n8:aD (λk=>k=k4) w6 dz:=(m7.trans (p2.qz p4) λk hk=>.inr (aC k (.inl hk))).trans (dX.p (F:=λk=>k=k4) aag) λk hk=>.inl hk;have oN:∀k,nU s1 k->w6.heap.size<=k:=λk hk=>(p5 k hk).elim (λh=>aC k (.inl h)) λh=>J
    obtain⟨y2,dF,r1,r2,s2,eZ,r3,r4,r5,r6⟩:=ZC.acn (bv y.b.dft) J (by rw[nO];omega);have C3:=r2.size;have rx:=r4.size;refine⟨y2,dF,r1,r2.same aah,s2,eZ,r3,sm J r4 λk hk=>aC k (.inr (.inl hk)),λfl eE=>?_⟩;have ZQ:=r6 fl eE;have T2:=eE.size;have oF:aD (λk=>k=k4) w6 fl:=(n8.trans (r2.qz r4) λk hk=>.inr (aC k (.inr (.inl hk)))).trans (eE.p (F:=λk=>k=k4) aag) λk hk=>.inl hk;have TY:∀k,nU s2 k->w6.heap.size<=k:=λk hk=>(r5 k hk).elim (λh=>aC k (.inr (.inl h))) λh=>J
    refine⟨λvC bV p0 p1 p2 p3 u=>∃f:Nat,bV=(f:Int)/\vC+f=I y.b.mv/\f<=I y.b.mv/\x2=p0/\s1=p1/\s2=p2/\Lb u k4 (λk=>k<k4/\m.heap.size<=k) x2 s1 s2 p3 xs (((ns.take a).map λy=>mE xs y.b.ini)++[mE xs y.b.ini]) (((ns.take a).map λy=>mE xs y.b.dft)++[mE xs y.b.dft]) (Fg xs 0 (ns.take a)++IV xs a 0 (y.b.mv.take f))/\aD (λk=>k=k4) w6 u/\∀k,nU p3 k->w6.heap.size<=k,I y.b.mv,⟨0,rfl,J,be _,rfl,rfl,rfl,by rw[cA,IV,bE];exact ZQ,oF,λk hk=>aC k (.inr (.inr hk))⟩,?_⟩;rintro vC _ _ _ _ q gw ⟨f,rfl,Jn,hj,rfl,rfl,rfl,E6,lE,lT⟩;have tO:=lE.size;obtain⟨C1,pi,pm,pP,oR,b1,b5,oa⟩:=bY lE hy;obtain rfl:=cR.Cp d b1;have wW:=oa.len;refine⟨ad,b1,_,b5.dP 6 _ rfl,λoQ=>?_,λoQ=>?_⟩
    ·have oQ:=aO oQ;obtain⟨zi,am,ds,d1,d2,d3,d4,d5,d6⟩:=oa.get (ba f) J;rw[aW]at d2;obtain⟨gc,rh,tg,rfl,US,BJ,nL⟩:=d6;obtain⟨sl,rfl⟩:=eU US;have nL:=nL.1;have G4:=nL.len;have Zl:=bn d2;have AC:Fe am<=wH y.b.mv:=oA Zl;have By:=g8 y (bn hy);have Bv:=ve am.tg;have AT:wH y.b.mv<=yu y.b:=by unfold yu;omega
     have uP:=RZ hy Zl;unfold Fe at AC;refine⟨ad,b1,_,b5.dP 6 _ rfl,zi,d1,_,_,_,_,_,_,_,_,sl,_,rh,tg,_,d5,λk5 k6 q rl BI Y1 O0 iG=>?_⟩;have BV:=iG.size;refine⟨λv bV v0 v1 v2 ev wt As dm u=>∃t:Nat,bV=(t:Int)/\v0=(a:Int)/\v1=(f:Int)/\v2=am.k/\ev=T am.ev/\wt=am.wt/\dm=0/\v+t=I am.tg/\t<=I am.tg/\gV q.heap.size u As ((am.tg.take t).map (mE xs))/\Q [] gw u/\q.heap.size<=u.heap.size,I am.tg,⟨0,rfl,rfl,rfl,rfl,rfl,rfl,rfl,J,be _,Own.nil _ _ _ _ _ _,iG,aX _⟩,?_⟩;rintro v _ _ _ _ _ _ As _ jw ⟨t,rfl,rfl,rfl,rfl,rfl,rfl,rfl,AS,ht,hT,jF,BY⟩;have ma:∀k,nU As k->q.heap.size<=k:=λk e=>(hT.blk e).1;have ut:=SliceF.only dC Z E6.sp jF aag;have wd:I ((am.tg.take t).map (mE xs))=t:=af3
     refine⟨λme=>?_,λme=>?_⟩
     ·have me:=aO me;refine λiX a=>⟨λk=>k<q.heap.size,O0,?_⟩
      have Do:=a.size;obtain⟨Se,s,CC,e1,T,e3,e4,e5,e6⟩:=(SliceF.only du Z nL (jF.cd a) aag).get (ba t) J;rw[aW]at T;unfold mh at e6;subst e6;refine⟨Se,e1,_,e5,?_⟩;refine(vq (SliceF.only dC Z ut a aag) s).mono ?_;rintro _ u ⟨rfl,hu⟩;obtain rfl:iX=u:=hu.symm;rw[<-(uP s (bn T)).1];have z:gV q.heap.size iX As _:=hT.keep cp λk _ b=>a.block k b aag;obtain⟨y3,ku,c1,h,l2,lZ,c3,c4,y,c6⟩:=ab4 z J (bv s) (by rw[wd];omega);have DO:=h.size;have EQ:=y.size;have Cc:Q [] gw lZ:=(((jF.cd a).cd h).qz (y.mono (G:=λk=>gw.heap.size<=k) λk _ e=>ae9)).only λk hk=>hk;refine⟨_,rfl,cu.refl _ _,λ_ _ _=>rfl,y3,ku,c1,h.same aah,bT.only h,l2,lZ,c3,y.same λx hx=>?_,λk hk _=>y.block k J λe=>ae9,λkg lr=>⟨v-1,J,t+1,aaf,rfl,rfl,rfl,rfl,rfl,rfl,J,J,?_,Cc.trans lr λx hx=>.inr aak,by have:=lr.size;omega⟩⟩
      ·simp only[aZ,bp,ci]at hx;exact⟨J,λe=>afb⟩
      rw[bh,T,cK];exact c4.keep cp λk hk b=>lr.block k b acX
     have me:=aU me;have G:t=I am.tg:=J
     subst G;rw[bm (aX _)]at hT wd;refine(ahp ut fd J el iN (hT.slice cp) (λz hz=>?_)).mono ?_
     ·obtain⟨s,j,rfl⟩:=dv.1 hz;obtain⟨e,k,a,h,t⟩:=uP s j;rw[e,a];exact⟨J,J⟩
     rintro _ nj ⟨rfl,z⟩;have Fd:=z.size;refine⟨_,rfl,z.same aah,λpI sF=>?_⟩;have Fn:=sF.size;have t:Q [] gw pI:=(jF.cd z).trans sF λx hx=>.inr aak;have T:=E6.o0 t;have s:gV q.heap.size pI As _:=(hT.keep cp λk _ b=>z.block k b aag).keep cp λk hk b=>sF.block k b acX;obtain⟨y4,th,g1,g2,q',uF,g3,g4,g5,g6⟩:=T.aco (x:=roM xs a f am) (s.slice cp) (s.roC λGg hg=>.inr ⟨(s.blk hg).1,hg⟩) (λk hk=>by
      have hk:=hk.resolve_left id;exact⟨J,λe=>by have:=E6.bi k e;omega,λe=>by have:=E6.bd k e;omega,λe=>by have:=E6.br k e;omega⟩) J (by rw[aQ,xH,cx];omega)
     have FS:=g2.size;have Ge:=g4.size;refine⟨y4,th,g1,g2.same aah,q',uF,g3,g4.same λx hx=>?_,λqL wZ=>⟨vC-1,J,f+1,aaf,J,J,rfl,rfl,rfl,?_,?_,λk hk=>(g5 k hk).elim (lT k) λh=>J⟩⟩
     ·simp only[aZ,bp,ci]at hx;refine⟨J,λh=>?_⟩;have a:=lT x h;have e:=E6.br x h;omega
     ·have e:y.b.mv.take (f+1)=y.b.mv.take f++[am]:=by rw[bh,d2];rfl
      have h:I (y.b.mv.take f)=f:=ae8
      rw[e,EP,h,bP,<-bq];exact g6 qL wZ
     exact(lE.trans (t.qz (g2.qz g4)) λk hk=>.inr (lT k hk)).trans (wZ.p (F:=λk=>k=k4) aag) λk hk=>.inl hk
    have oQ:=aU oQ;have e:f=I y.b.mv:=J
    subst e;rw[bm (aX _)]at E6;refine⟨kv-1,J,a+1,aaf,J,J,rfl,?_,lE,λk hk=>hk.elim (oN k) λhk=>hk.elim (TY k) (lT k)⟩;rw[oP,oP,Yk xs hy];exact E6
   ·rintro _ u ⟨rfl,h⟩;obtain rfl:w7=u:=h.symm;rw[iv]at c;refine⟨_,rfl,cu.refl _ _,?_,rfl⟩;unfold mE;rw[aP];simpa using c
   rw[iv]at c;unfold mE;rw[aV];simpa using c
  ·rintro _ u ⟨rfl,h⟩;obtain rfl:w7=u:=h.symm;rw[iv]at c;refine⟨_,rfl,cu.refl _ _,?_,rfl⟩;unfold mE;rw[aP];simpa using c
  rw[iv]at c;unfold mE;rw[aV];simpa using c
 have aS:=aU aS;have e:a=I ns:=J
 subst e;rw[bm (aX _)]at vZ;refine λc f=>⟨⟨x2,q1,q2,q3,by rw[Yh hc],λ_=>?_,λh=>absurd hc h⟩,?_⟩
 ·rw[dO];refine⟨(vZ.sp.keep dC Z λk hk b=>f.block k b aah).mono dC λk hk=>J,((vZ.i.slice cp).keep cp Z λk hk b=>f.block k b ?_).mono cp λk hk=>?_,((vZ.d.slice cp).keep cp Z λk hk b=>f.block k b ?_).mono cp λk hk=>?_,((vZ.r.slice jE).keep jE Z λk hk b=>f.block k b ?_).mono jE λk hk=>?_⟩
  ·have:=hk.resolve_left id;simp;omega
  ·have:=hk.resolve_left id;omega
  ·have:=hk.resolve_left id;simp;omega
  ·have:=hk.resolve_left id;omega
  ·rcases hk with hk | hk
   ·have:=hk.1;simp;omega
   simp;omega
  rcases hk with hk | hk
  ·have:=hk.1;omega
  omega
 refine((o6.qz (m7.mono (G:=λk=>w.heap.size<=k) λk _ hk=>J)).only λk hk=>hk).trans f λx hx=>.inr aam
end
section
variable {B:Nat} {w w':av} {s:Sl} {l d:List Int}
def gV.cells(d:gV B w s l){g:Nat}(h:s.a=aM ⟨g,0,aaa⟩):∃tail,B<=g/\aF w g 3 (l.map (Value.int U)++tail)/\I tail=s.c-s.n/\s.n=I l/\s.n<=s.c/\s.c<=9223372036854775807/\∀x,x∈l->tn x:=by
 rcases d with⟨rfl,rfl⟩ | ⟨e,b,tail,i,j,f,q,m,n,p,o⟩
 ·cases h
 rw[i]at h;injection h with h;injection h with h;subst h;have t:∀{l:List Int} {b:List (aI)},qB gL 1 w (λk=>False/\k≠e) l b->b.flatten=l.map (Value.int U)/\∀x,x∈l->tn x:=by
  intro l b
  induction l generalizing b with
  | nil=>
   intro d;have:=d.len;cases b with
   | nil=>exact⟨rfl,λx hx=>aeX⟩
   | cons c b=>cases this
  | cons a l u=>
   intro d;cases b with
   | nil=>have:=d.len;cases this
   | cons c b=>
    have v:=d;unfold qB at v;obtain⟨⟨A,z,H⟩,y⟩:(I c=1/\gL w (λk=>False/\k≠e) a c)/\qB gL 1 w (λk=>False/\k≠e) l b:=v;obtain⟨r,s⟩:=u y;refine⟨by rw[eH,r,z];rfl,λx hx=>?_⟩;rw[aZ]at hx;rcases hx with rfl | hx
    ·exact H
    exact s x hx
 obtain⟨r,s⟩:=t o;rw[r]at f;exact⟨tail,j,f,J,m,n,p,s⟩
def gV.mk{g:Nat}{tail:aI}(d:s.a=aM ⟨g,0,aaa⟩)(c:B<=g)(b:aF w g 3 (l.map (Value.int U)++tail))(t:I tail=s.c-s.n)(n:s.n=I l)(e:s.n<=s.c)(h:s.c<=9223372036854775807)(i:∀x,x∈l->tn x):gV B w s l:=by
 refine .inr ⟨g,l.map λx=>[Value.int U x],tail,d,c,?_,J,n,e,h,?_⟩
 ·have:(l.map λx=>[Value.int U x]).flatten=l.map (Value.int U):=by
   clear b n i
   induction l with
   | nil=>rfl
   | cons a l f=>rw[bS,eH,f];rfl
  rw[this];exact b
 clear b n
 induction l with
 | nil=>trivial
 | cons a l j=>exact⟨⟨rfl,rfl,i a (.head _)⟩,j λx f=>i x (.tail _ f)⟩
def gV.aox(h:gV B w s l):(s=Sl.nil/\l=[])∨∃g,s.a=aM ⟨g,0,aaa⟩:=by
 rcases h with h | ⟨g,c,tail,a,_⟩
 ·exact .inl h
 exact .inr ⟨g,a⟩
end
end Go.Proofs.YtfemabakfkliiaaGreatDoor.Con
