import Derived.Test.YtpbgcbdclnfpnaaGreatDoorQs5
set_option linter.unusedSectionVars false
set_option linter.unusedSimpArgs false
set_option linter.unusedVariables false
set_option maxHeartbeats 4000000
open Go.Value renaming int->O,string->ah,pointer->ai,agg->aj,tuple->ak,bool->ao
open Go.IntKind renaming i64->ae,wrap->av
open Go.Ending renaming returned->aq
open _root_.ByteArray renaming mk->ar
open _root_.Go.Proofs.Tryz renaming prog->au
open Go.Instr renaming buildSlice->aw
open Go renaming World->ay,Value->az,Calls->aB
open Go.Kt renaming Only->aA,SliceF->aD,Cells->aE,OnlyP->aF,Blk->aH
namespace Go.Proofs.YtpbgcbdclnfpnaaGreatDoor.Con
open Go Go.RowKit Go.Kt Go.Kt.V Go.Proofs.YtpbgcbdclnfpnaaGreatDoor.Vc
theorem OE(w:ay):∃(s:Sl) (w':ay),(aw 132 16 #[.mk 1 (ah (ar #[43])),.mk 2 (ah (ar #[45])),.mk 3 (ah (ar #[42])),.mk 4 (ah (ar #[47])),.mk 5 (ah (ar #[37])),.mk 6 (ah (ar #[60])),.mk 7 (ah (ar #[60,61])),.mk 8 (ah (ar #[62])),.mk 9 (ah (ar #[62,61])),.mk 10 (ah (ar #[61,61])),.mk 11 (ah (ar #[33,61])),.mk 12 (ah (ar #[38,38])),.mk 13 (ah (ar #[124,124])),.mk 14 (ah (ar #[45])),.mk 15 (ah (ar #[33]))]).run au w=.ok (Sl.v s) w'/\
  aD lD 1 w' (λk=>w.heap.size<=k/\k<w'.heap.size) s CD/\aA [] w w':=by
 have tU:=run_buildSlice (P:=au) w 132 9 16 #[.mk 1 (ah (ar #[43])),.mk 2 (ah (ar #[45])),.mk 3 (ah (ar #[42])),.mk 4 (ah (ar #[47])),.mk 5 (ah (ar #[37])),.mk 6 (ah (ar #[60])),.mk 7 (ah (ar #[60,61])),.mk 8 (ah (ar #[62])),.mk 9 (ah (ar #[62,61])),.mk 10 (ah (ar #[61,61])),.mk 11 (ah (ar #[33,61])),.mk 12 (ah (ar #[38,38])),.mk 13 (ah (ar #[124,124])),.mk 14 (ah (ar #[45])),.mk 15 (ah (ar #[33]))]
  (CD.map λx=>Value.string (T x)).toArray Tryz.t9 _ (by kernel_rfl) (by kernel_rfl) rfl aN aN (by kernel_rfl)
 refine⟨⟨some ⟨w.heap.size,0,none⟩,16,16⟩,_,tU,⟨rfl,ba _,λh=>aal,(by decide:(16:Nat)<=9223372036854775807),λj x hx=>?_⟩,Only.alloc _ _⟩;have hB:=Blk.alloc w 9 (CD.map λx=>Value.string (T x));have bT:=hB.lt;refine⟨⟨w.heap.size,0,none⟩,[ah (T x)],rfl,⟨ba _,bT⟩,rfl,?_,rfl⟩;rw[kl];exact Blk.eh hB j aeK
theorem Za(w:ay):aB au 230 #[] w λe w'=>∃s:Sl,e=aq s.v/\aD lD 1 w' (λk=>w.heap.size<=k/\k<w'.heap.size) s CD/\aA [] w w':=by
 refine(amt (λv w'=>∃s:Sl,v=s.v/\aD lD 1 w' (λk=>w.heap.size<=k/\k<w'.heap.size) s CD/\aA [] w w') w ?_).mono (by
  rintro e w' ⟨v,rfl,s,rfl,h⟩;exact⟨s,rfl,h⟩)
 obtain⟨s,w',h1,h2,h3⟩:=OE w;exact⟨s,w',h1,s,rfl,h2,h3⟩
def mT(ts:List Tk):Nat:=(ts.takeWhile λt=>t.k !=5).length
theorem L4(ts:List Tk):mT ts<=ts.length:=by
 unfold mT;exact(List.takeWhile_sublist _).length_le
theorem Db{t:Tk}{ts:List Tk}{i:Nat}:tk (t::ts) (i+1)=tk ts i:=by unfold tk;rw[du]
theorem Dc{t:Tk}{ts:List Tk}:tk (t::ts) 0=t:=rfl
theorem EU:∀(ts:List Tk) (i:Nat),i<mT ts->(tk ts i).k≠5
 | [],_,h=>by simp[mT]at h
 | t::ts,i,h=>by
  unfold mT at h;rw[eV]at h;split at h
  ·rename_i ht;cases i with
   | zero=>rw[Dc];simpa using ht
   | succ i=>rw[Db];exact EU ts i (by simpa[mT]using h)
  simp at h
theorem EV:∀(ts:List Tk),mT ts<ts.length->(tk ts (mT ts)).k=5
 | [],h=>aaB
 | t::ts,h=>by
  unfold mT at h⊢;rw[eV]at h⊢;split
  ·rename_i ht;rw[bc ht]at h;rw[bn,Db];exact EV ts (by simpa[mT]using h)
  rename_i ht;rw[cZ,Dc];simpa using ht
theorem R7{ts:List Tk}(h:mT ts+1=ts.length):xO ts:=λi hi=>by
 constructor
 ·intro hk;refine cy λhn=>EU ts i aG hk
 intro hn;have:i=mT ts:=aG
 rw[this];exact EV ts aG
theorem Wz(w:ay)(t:Tk):aB au 229 #[t.v] w λe w'=>e=aq (ao (t.k==5))/\aA [] w w':=by
 refine ret (ams t.k (T t.t) t.n t.a (λv w'=>v=ao (t.k==5)/\aA [] w w') w ?_);exact λk0 w0 _ _ hO=>⟨rfl,hO⟩
theorem R8{w:ay}{F:aL}{l:Sl}{ts:List Tk}(h:aD Oy 4 w F l ts):aB au 228 #[l.v,.func (.func 229) #[] #[]] w λe w'=>e=aq (O ae (if mT ts<ts.length then(mT ts:Int)else -1))/\aA [] w w':=by
 refine ret (agF l ⟨.func (.func 229) #[] #[],rfl⟩ (λv w'=>v=O ae (if mT ts<ts.length then(mT ts:Int)else -1)/\aA [] w w') w ?_);have fy:=h.len;have qR:=h.big;have lI:=h.cap;refine⟨λnv i w'=>∃n:Nat,n<=mT ts/\i=(n:Int)/\nv=ts.length-n/\aA [] w w',ts.length,⟨0,bh _,rfl,rfl,Only.refl _ _⟩,?_⟩;rintro nv _ w0 ⟨n,hn,rfl,rfl,cO⟩;have kA:=L4 ts;refine⟨λhc=>?_,λhc=>?_⟩
 ·have bT:(n:Int)<l.n:=aP hc;obtain⟨ad,x,cs,g1,g2,g3,g4,g5,g6⟩:=(SliceF.only jR aN h cO aac).get (bD n) bT;rw[aU,L0 aG]at g2;injection g2 with g2;subst g2;unfold Oy at g6;subst g6;refine⟨ad,g1,_,_,_,_,g5,229,[],[],rfl,eU (by kernel_rfl),?_⟩;refine(Wz w0 (tk ts n)).mono ?_;rintro _ w1 ⟨rfl,cG⟩;refine⟨_,rfl,λhb=>⟨?_,cO.cr cG⟩,λhb=>⟨ts.length-(n+1),aG,n+1,?_,aad,rfl,cO.cr cG⟩⟩
  ·have hb:(tk ts n).k=5:=aaz
   have:n=mT ts:=by
    refine cy λgq=>EU ts n aG hb
   rw[bc aG,this]
  have hb:¬(tk ts n).k=5:=aaz
  refine cy λgq=>hb ?_;have:n=mT ts:=aG
  rw[this];exact EV ts aG
 have lz:¬(n:Int)<l.n:=aX hc;rw[aY aG];exact⟨rfl,cO⟩
def Hq:Ex:=.mk 0 0 [] 0 [] 0
def dI(ts:List Tk)(a:Int):Ex×Int×Int×Int:=
 if 0<=a/\a<ts.length/\mT ts+1=ts.length then(match JP ts a.toNat with
  | .error (c,p)=>(Hq,0,c,p)
  | .ok (x,j)=>(x,(j:Int),0,0))
 else(Hq,0,1, -1)
theorem rx0(w:ay)(lo hi:Nat):RX w lo hi Hq [O ae 0,O ae 0,ah (ar #[]),O ae 0,Sl.nil.v,O ae 0]:=.leaf ..
theorem L5{w:ay}{F:aL}{l:Sl}{ts:List Tk}(h:aD Oy 4 w F l ts)(a:Int)(ha:rf a):aB au 214 #[l.v,O ae a] w λe w'=>
  ∃cs,e=aq (ak #[aj cs.toArray,O ae (dI ts a).2.1,aj #[O ae (dI ts a).2.2.1,O ae (dI ts a).2.2.2]])/\RX w' w.heap.size w'.heap.size (dI ts a).1 cs/\((dI ts a).2.2.1=0->0<=(dI ts a).2.1/\(dI ts a).2.1<ts.length)/\aA [] w w':=by
 refine(amr l a (λv w'=>∃cs,v=(ak #[aj cs.toArray,O ae (dI ts a).2.1,aj #[O ae (dI ts a).2.2.1,O ae (dI ts a).2.2.2]])/\RX w' w.heap.size w'.heap.size (dI ts a).1 cs/\((dI ts a).2.2.1=0->0<=(dI ts a).2.1/\(dI ts a).2.1<ts.length)/\aA [] w w') w ?_).mono (by
  rintro e w' ⟨v,rfl,cs,rfl,h⟩;exact⟨cs,rfl,h⟩)
 intro k0 k1 w0 gU fD kc jO cO;have fy:=h.len;have lI:=h.cap;have qR:=h.big;have z0:=cO.size;have h:=(h.inHeap jR aN)
 refine(R8 (SliceF.only jR aN h cO aac)).mono ?_;rintro _ w1 ⟨rfl,cG⟩;have z1:=cG.size;have j9:=cO.cr cG;have kA:=L4 ts;have hcond:(((decide (a<0))||(decide (a>=(l.n:Int))))||((if mT ts<ts.length then(mT ts:Int)else -1) !=(av ae ((l.n:Int)-1))))=!decide (0<=a/\a<ts.length/\mT ts+1=ts.length):=by
  rw[gx aG aG,fy];by_cases h1:mT ts<ts.length
  ·rw[bc h1,bW];simp;omega
  rw[aY h1,bW];simp;omega
 refine⟨_,rfl,cG.same aae,?_⟩;dsimp only;rw[hcond];refine⟨λhc w2 dk=>?_,λhc=>?_⟩
 ·have hc:¬(0<=a/\a<ts.length/\mT ts+1=ts.length):=by
   rw[da,dv]at hc;exact hc
  rw[dI,aY hc];exact⟨_,rfl,rx0 _ _ _,λh=>aal,(j9.weaken (bs':=[]) λ_ h=>aal).trans dk λx hx=>.inr aam⟩
 have hc:0<=a/\a<ts.length/\mT ts+1=ts.length:=by
  rw[I0,bL]at hc;exact hc
 rw[dI,bc hc];obtain⟨i,rfl⟩:∃i:Nat,a=(i:Int):=⟨a.toNat,aG⟩
 refine(Za w1).mono ?_;rintro _ w3 ⟨sn,rfl,Vw,dz⟩;have z3:=dz.size;refine⟨sn,rfl,dz.same aae,λb w4 hb jL dK sS=>?_⟩;have z4:=dK.size;have Ca:=j9.cr dz;have hR:Rd (λk=>F k/\k<w.heap.size) (λk=>w1.heap.size<=k/\k<w3.heap.size) ts w4 b l sn i 0 0 ((0:Nat):Int):=
  ⟨sS,SliceF.only jR aN h (Ca.cr dK) aac,SliceF.only dJ aN Vw dK aac,λk hk=>adD,λk hk=>adD,R7 hc.2.2,aG⟩
 refine((Hp (lG 0 0)).1 0 0 i w4 aN aN (ba _) hR).mono ?_;rintro _ w5 ⟨v,rfl,hD⟩;obtain⟨vk,vn,vs,vo,vl,va,rfl⟩:=hD.B5;have z5:=hD.1.size;obtain⟨eJ,hD⟩:=hD;rw[aU];have hpr:JP ts i=gj ts (lG 0 0) 0 0 i:=rfl;rw[hpr];have fin:∀{j:Nat} {c p:Int},Rd (λk=>F k/\k<w.heap.size) (λk=>w1.heap.size<=k/\k<w3.heap.size) ts w5 b l sn j c p ((0:Nat):Int)->∀w8,aA [] w5 w8->∀w9,aA [k1,k0] w8 w9->aA [] w w9:=λhR w8 fX w9 gH=>(((Ca.cr dK).trans eJ λx hx=>.inr aaj).cr fX).trans gH λx hx=>.inr aam;refine⟨_,_,_,_,_,_,rfl,eJ.same aae,?_⟩;cases hE:gj ts (lG 0 0) 0 0 i with
 | error e=>
  rw[hE]at hD;obtain⟨c,p⟩:=e;obtain⟨a1,a2,j,a3⟩:=hD;refine⟨_,_,_,_,_,_,a3.blk,λk3 w6 zr xi eH KQ=>?_⟩;have z6:=eH.size;refine(Da (a3.only eH)).mono ?_;rintro _ w7 ⟨rfl,fN⟩;have h7:=(a3.only eH).only fN;have gq:(c !=0)=true:=by simpa using a1
  refine⟨_,rfl,fN.same aae,_,_,_,_,_,_,h7.blk,λ_ w8 fX ve n1 n2 n3 n4 n5 n6=>⟨λk=>k=b,rfl,λe=>n2 e,λe=>n4 e,λw9 gH _=>⟨_,rfl,rx0 _ _ _,λh=>absurd h a1,fin a3 w8 (eH.cr (fN.cr fX)) w9 gH⟩⟩,λhc=>by rw[gq]at hc;cases hc⟩
 | ok q=>
  rw[hE]at hD;obtain⟨x,j⟩:=q;obtain⟨cs,a1,a2,a3⟩:=hD;refine⟨_,_,_,_,_,_,a3.blk,λk3 w6 zr xi eH KQ=>?_⟩;have z6:=eH.size;refine(Da (a3.only eH)).mono ?_;rintro _ w7 ⟨rfl,fN⟩;have z7:=fN.size;have h7:=(a3.only eH).only fN;refine⟨_,rfl,fN.same aae,_,_,_,_,_,_,h7.blk,λhc=>(by simp at hc),λ_ dL dW uJ n1 n2 n3 n4 n5 n6=>⟨λk=>k=b,rfl,λe=>n2 e,λe=>n4 e,λdN dX _=>?_⟩⟩;have PM:=dW.size;have D1:=dX.size;have oP:(tB vk vn vs vo vl va)=cs:=bm Array.toList (Value.agg.inj a1);refine⟨tB vk vn vs vo vl va,rfl,?_,λ_=>⟨bD j,by have:=a3.lt;dsimp only;omega⟩,fin a3 dL (eH.cr (fN.cr dW)) dN dX⟩;rw[oP];exact((a2.only (eH.cr (fN.cr dW)) aac).only dX λq hq=>.inl (by simp only[aV,bp,cm]at hq;omega)).wide aG aG
def pf(l:aJ):Ex×Int×Int:=
 if(dC l).2.1≠0 then(Hq,(dC l).2.1,(dC l).2.2)
 else if(dI (dC l).1 0).2.2.1≠0 then(Hq,(dI (dC l).1 0).2.2.1,(dI (dC l).1 0).2.2.2)
 else if(tk (dC l).1 (dI (dC l).1 0).2.1.toNat).k≠5 then(Hq,4,(tk (dC l).1 (dI (dC l).1 0).2.1.toNat).a)
 else((dI (dC l).1 0).1,0,(dI (dC l).1 0).2.2.2)
theorem abo{w:ay}(l:aJ)(hE:Er w):aB au 240 #[ah (T l)] w λe w'=>
  ∃cs,e=aq (ak #[aj cs.toArray,aj #[O ae (pf l).2.1,O ae (pf l).2.2]])/\RX w' w.heap.size w'.heap.size (pf l).1 cs/\aA [] w w':=by
 refine(amL (T l) (λv w'=>∃cs,v=(ak #[aj cs.toArray,aj #[O ae (pf l).2.1,O ae (pf l).2.2]])/\RX w' w.heap.size w'.heap.size (pf l).1 cs/\aA [] w w') w ?_).mono (by
  rintro e w' ⟨v,rfl,cs,rfl,h⟩;exact⟨cs,rfl,h⟩)
 intro k0 k1 w0 gU fD kc jO cO;have z0:=cO.size;refine(Hm l (hE.only cO)).mono ?_;rintro _ w1 ⟨l0,rfl,hT,cG⟩;have z1:=cG.size;have j9:=cO.cr cG;generalize mJ:dC l=tm at*
 obtain⟨ts,c,p⟩:=tm;dsimp only at hT⊢;have hra:pf l=if c≠0 then(Hq,c,p)else if(dI ts 0).2.2.1≠0 then(Hq,(dI ts 0).2.2.1,(dI ts 0).2.2.2)else if(tk ts (dI ts 0).2.1.toNat).k≠5 then(Hq,4,(tk ts (dI ts 0).2.1.toNat).a)else((dI ts 0).1,0,(dI ts 0).2.2.2):=by
  unfold pf;rw[mJ]
 refine⟨l0,_,_,rfl,cG.same aae,λhc k2 w2 vf xh dk n1 n2 n3=>⟨λk=>k=k2,rfl,λe=>n2 e,λe=>n3 e,λw3 dz=>?_⟩,λhc k3 w4 zr xi dK=>?_⟩
 ·have hc:c≠0:=aai
  rw[hra,bc hc];exact⟨_,rfl,rx0 _ _ _,((j9.cr dk).trans dz λx hx=>.inr aam)⟩
 have hc:c=0:=aai
 rw[aY (by simp[hc])]at hra;have z4:=dK.size;refine(L5 (hT.only dK).sl 0 ⟨aN,aN⟩).mono ?_;rintro _ w5 ⟨cs,rfl,hX,hj,eJ⟩;have z5:=eJ.size;generalize VI:dI ts 0=pa at*
 obtain⟨x,j,c',p'⟩:=pa;dsimp only at hX hj hra⊢;obtain⟨xl,rfl,_⟩:=hX.cells;refine⟨_,_,_,_,_,_,_,_,_,rfl,eJ.same aae,λk4 w6 zY CM eH=>?_⟩;have z6:=eH.size;have h6:=((hT.only (dK.cr eJ)).keep (w':=w6) λk hk bT=>eH.block k bT (by
  have:=hT.blk hk.2;simp only[aO];dsimp only at this;omega))
 have hl6:=h6.len;have apo:aA [] w w6:=((j9.cr dK).cr eJ).new eH aG;have fin:∀{w8 w9:ay},aA [k3] w6 w8->aA [k1,k0] w8 w9->aA [] w w9:=λh8 h9=>(apo.new h8 aG).trans h9 λx hx=>.inr aam;refine⟨λi9 i10 w7=>aA [k3] w6 w7/\((c'≠0/\i9=c'/\i10=p')∨(c'=0/\(tk ts j.toNat).k≠5/\i9=4/\i10=(tk ts j.toNat).a)∨(c'=0/\(tk ts j.toNat).k=5/\i9=0/\i10=p')),?_,?_⟩
 ·rintro i9 i10 w7 ⟨fN,aah⟩;have z7:=fN.size;refine⟨λhi w8 fX n1 n2 n3 n4 n5 n6=>⟨λk=>k=k3,rfl,?_,?_,λw9 gH=>?_⟩,λhi dL dW n1 n2 n3 n4 n5 n6=>⟨λk=>k=k3,rfl,?_,?_,λdN dX=>?_⟩⟩
  ·intro e;omega
  ·intro e;omega
  ·have hi:i9≠0:=acR
   have hr:pf l=(Hq,i9,i10):=by
    rw[hra];rcases aah with⟨a1,rfl,rfl⟩ | ⟨a1,a2,rfl,rfl⟩ | ⟨a1,a2,rfl,rfl⟩
    ·rw[bc a1]
    ·rw[aY (by simp[a1]),bc a2]
    exact absurd rfl hi
   rw[hr];exact⟨_,rfl,rx0 _ _ _,fin (fN.cr fX) gH⟩
  ·intro e;omega
  ·intro e;omega
  have hi:i9=0:=acR
  have hr:pf l=(x,i9,i10):=by
   rw[hra];rcases aah with⟨a1,rfl,rfl⟩ | ⟨a1,a2,rfl,rfl⟩ | ⟨a1,a2,rfl,rfl⟩
   ·exact absurd hi a1
   ·exact absurd hi aN
   rw[aY (by simp[a1]),aY (by simp[a2])]
  rw[hr];have zw:aA [k3,k1,k0] w5 dN:=(((eH.trans fN λx hx=>.inl hx).cr dW).weaken (bs':=[k3,k1,k0]) λx hx=>.inl aan).trans dX λx hx=>.inl abS;have D1:=zw.size;exact⟨_,rfl,(hX.only zw λq hq=>.inl (by simp only[aV,bp,cm]at hq;omega)).wide aG D1,fin (fN.cr dW) dX⟩
 by_cases sC:c'=0
 ·obtain⟨Yp,Qq⟩:=hj sC;obtain⟨n,rfl⟩:∃n:Nat,j=(n:Int):=⟨j.toNat,aG⟩
  obtain⟨ad,t,cs,g1,g2,g3,g4,g5,g6⟩:=h6.sl.get Yp aG;rw[aU,L0 aG]at g2;injection g2 with g2;subst g2;unfold Oy at g6;subst g6;rw[aU];refine⟨ad,λ_=>g1,(tk ts n).k,λ_=>g5.eh 0 _ rfl,λhh=>⟨ad,g1,(tk ts n).a,g5.eh 3 _ rfl,λeT fk=>⟨fk,.inr (.inl ⟨sC,?_,rfl,rfl⟩)⟩⟩,λhh=>⟨Only.refl _ _,.inr (.inr ⟨sC,?_,sC,rfl⟩)⟩⟩
  ·simpa[sC]using hh
  simpa[sC]using hh
 have hb:(c'==0)=false:=by simpa using sC
 refine⟨⟨0,0,none⟩,λhh=>aez,0,λhh=>aez,λhh=>aez,λ_=>⟨Only.refl _ _,.inl ⟨sC,rfl,rfl⟩⟩⟩
def Dd:Nat->Rp Ex
 | 0=>λ_ _ _ _=>False
 | d+1=>λw F x cs=>∃sl:Sl,cs=tB x.k x.n x.s x.op sl x.a/\aD (Dd d) 6 w F sl x.gp
theorem pI:∀d,(Dd d).Ok
 | 0=>⟨λh _=>h.elim,λh=>h.elim,λh _=>h.elim,λh=>h.elim⟩
 | d+1=>⟨λ⟨sl,h1,h2⟩ hk=>⟨sl,h1,SliceF.keep (pI d) h2 aN hk⟩,λ⟨sl,h1,h2⟩=>⟨sl,h1,SliceF.inHeap (pI d) h2 aN⟩,λ⟨sl,h1,h2⟩ hk=>⟨sl,h1,SliceF.mono (pI d) h2 hk⟩,λ⟨sl,h1,h2⟩=>by
  subst h1;intro v hv;simp only[aV,bp,cm]at hv;rcases hv with rfl | rfl | rfl | rfl | rfl | rfl<;>rfl⟩
theorem L6{α:Type}{r q:Rp α}{size:Nat}{w:ay}{F:aL}{s:Sl}{xs:List α}(h:aD r size w F s xs)(hi:∀x cs,x∈xs->r w F x cs->q w F x cs):aD q size w F s xs:=
 ⟨h.len,h.cap,h.nil0,h.big,λj x hx=>by
  obtain⟨base,cs,h1,h2,h3,h4,h5⟩:=h.at_ j x hx;exact⟨base,cs,h1,h2,h3,h4,hi x cs (bB hx) h5⟩⟩
section
variable {w w':ay} {F:aL} {x y:Ex} {cs ds:aK}
theorem li{d:Nat}(h:Dd d w F x cs)(hO:aA [] w w'):Dd d w' F x cs:=(pI d).only h hO aac
end
theorem mM(l m:aJ):((T l).toList==(T m).toList)=decide (l=m):=YK l m
theorem uj{d:Nat}{w:ay}{F:aL}{x:Ex}{cs:aK}(h:Dd d w F x cs):∃sl:Sl,cs=tB x.k x.n x.s x.op sl x.a:=by
 cases d with
 | zero=>exact h.elim
 | succ d=>obtain⟨l,oP,_⟩:=h;exact⟨l,oP⟩
def Bb:Nat->Ex->Prop
 | 0,_=>True
 | d+1,x=>x.s.length<4611686018427387903/\∀y,y∈x.gp->Bb d y
def uC(f:Ex->Nat):List Ex->Nat
 | []=>0
 | x::xs=>f x+uC f xs
def pJ:Nat->Ex->Nat
 | 0,_=>0
 | d+1,x=>1+uC (pJ d) x.gp
def rT:Nat->Ex->Prop
 | 0,_=>True
 | d+1,x=>rf x.n/\∀y,y∈x.gp->rT d y
def fi(l:aJ):Bool:=decide (l≠[]/\l.length<=24)&&(match l with
 | c::_=>rA c
 | []=>false)&&decide (l.takeWhile iQ=l)&&!tw.contains l
theorem R9{w:ay}(l:aJ)(hl:l.length<9223372036854775807):
  aB au 178 #[ah (T l)] w λe w'=>e=aq (ao (fi l))/\aA [] w w':=by
 refine ret (agQ _ _ _ ?_);intro k0 w0 gU fD cO;have e0:(ar #[])=T []:=rfl;rw[dP,e0,mM];refine⟨λb s i w'=>b=fi l/\aA [] w w',λb s i w' h=>⟨by rw[h.1],h.2⟩,λhc=>?_,λhc=>⟨?_,cO⟩⟩
 ·simp only[aR,da,dv,bL]at hc;obtain⟨h1,h2⟩:=hc;have h2:l.length<=24:=aG
  obtain⟨c,r,rfl⟩:∃c r,l=c::r:=by
   cases l with
   | nil=>exact absurd rfl h1
   | cons c r=>exact⟨c,r,rfl⟩
  have hn:fi (c::r)=(rA c&&decide ((c::r).takeWhile iQ=c::r)&&!tw.contains (c::r)):=by
   unfold fi;rw[bJ ⟨h1,h2⟩,cT]
  refine⟨c,⟨kq _,by rw[yF];rfl⟩,(A1 w0 c).mono ?_⟩;rintro _ w2 ⟨rfl,dk⟩;have pS:=cO.cr dk;refine⟨_,rfl,dk.same aae,λhb hB=>?_,λhb=>⟨by rw[hn,hb];rfl,pS⟩⟩;refine(RZ (i:=0) (r:=[]) hB (bh _) hl).mono ?_;rintro _ w3 ⟨rfl,dz⟩;rw[fx];have xf:aH w3 k0 194 [ah (T (c::r)),O ae 0]:=(dz.block k0 hB.lt aac).trans hB;refine⟨_,rfl,T (c::r),0,xf,?_⟩;rw[mM];refine⟨λhe=>(LV w3).mono ?_,λhe=>⟨?_,pS.cr dz⟩⟩
  ·rintro _ w4 ⟨s,rfl,hs,dK⟩;have sS:aH w4 k0 194 [ah (T (c::r)),O ae 0]:=(dK.block k0 xf.lt aac).trans xf;refine⟨s,rfl,T (c::r),0,sS,(tv (wj hs) (c::r)).mono ?_⟩;rintro _ w5 ⟨rfl,eJ⟩;have xb:aH w5 k0 194 [ah (T (c::r)),O ae 0]:=(eJ.block k0 sS.lt aac).trans sS;exact⟨_,rfl,_,_,xb,by rw[hn,hb,he];rfl,pS.cr (dz.cr (dK.cr eJ))⟩
  rw[hn,hb,he];rfl
 unfold fi;rw[bI]
 ·rfl
 rintro⟨h1,h2⟩;rw[bI h1,bJ aG]at hc;cases hc
def iv(x:Ex):Int:=if x.k=5 then lN x.op else 6
theorem ph{w}{F}{x}{cs}{d}(h:Dd d w F x cs):aB au 258 #[aj cs.toArray] w λe w'=>e=aq (O ae (iv x))/\aA [] w w':=by
 cases d with
 | zero=>exact h.elim
 | succ d=>
  obtain⟨sl,rfl,h⟩:=h;refine ret (amK _ _ _ _ _ _ _ _ ?_);refine⟨λhc k0 w0 _ _ hO=>?_,λhc k1 w1 hk iJ hO=>(JQ w1 x.op).mono ?_⟩
  ·have hc:=aai
   rw[iv,aY hc];exact⟨rfl,hO⟩
  rintro _ w2 ⟨rfl,rfl⟩;rw[iv,bc aai];exact⟨_,rfl,λ_ _=>rfl,rfl,hO⟩
def eqM(n:Int)(s:aJ)(op len:Int)(x:Ex):Bool:=((((x.n==n)&&decide (x.s=s))&&(x.op==op))&&(x.gp.length==len))
def lO(x:Ex):Bool:=
 if x.k=1 then eqM (if 0>x.n then 0 else x.n) [] 0 0 x
 else if x.k=2∨x.k=3 then fi x.s&&eqM 0 x.s 0 0 x
 else if x.k=4 then eqM 0 [] (if x.op=15 then 15 else 14) 1 x
 else if x.k=5 then !(lN x.op==6)&&eqM 0 [] x.op 2 x
 else false
def qp(f:Ex->Bool):List Ex->Bool
 | []=>true
 | x::xs=>f x&&qp f xs
def fG:Nat->Ex->Bool
 | 0,_=>false
 | d+1,x=>lO x&&qp (fG d) x.gp
theorem OG{f}{xs:List Ex}{n}{x}(hx:xs[n]? =some x):qp f (xs.drop n)=(f x&&qp f (xs.drop (n+1))):=by
 rw[fM (aZ.1 hx).1,(aZ.1 hx).2,qp]
abbrev ShD(d:Nat):Prop:=∀{w:ay} {F:aL} {x:Ex} {cs:aK},Bb d x->Dd d w F x cs->aB au 238 #[aj cs.toArray] w λe w'=>e=aq (ao (fG d x))/\aA [] w w'
theorem Sa{d}(hS:ShD d){w}{F}{x}{cs}(hl:Bb d x)(h:Dd d w F x cs):aB au 256 #[aj cs.toArray] w λe w'=>e=aq (ao (!fG d x))/\aA [] w w':=by
 obtain⟨sl,rfl⟩:=uj h;refine ret (amI _ _ _ _ _ _ _ _ ?_);intro k0 w0 hk iJ hO;refine(hS hl (li h hO)).mono ?_;rintro _ w1 ⟨rfl,cG⟩;exact⟨_,rfl,cG.same aae,rfl,hO.cr cG⟩
theorem Sc{d:Nat}(hS:ShD d){w}{F}{l}{xs}(hl:∀y,y∈xs->Bb d y)(h:aD (Dd d) 6 w F l xs):aB au 271 #[l.v,.func (.func 256) #[] #[]] w λe w'=>∃i,e=aq (O ae i)/\decide (i>=0)=!qp (fG d) xs/\aA [] w w':=by
 refine(ag5 l ⟨.func (.func 256) #[] #[],rfl⟩ (λv w'=>∃i,v=O ae i/\decide (i>=0)=!qp (fG d) xs/\aA [] w w') w ?_).mono (by
  rintro e w' ⟨v,rfl,i,rfl,h⟩;exact⟨i,rfl,h⟩)
 have fy:=h.len;have qR:=h.big;have lI:=h.cap;refine⟨λnv i w'=>∃n,n<=xs.length/\i=n/\nv=xs.length-n/\qp (fG d) xs=qp _ (xs.drop n)/\aA [] w w',xs.length,⟨0,bh _,rfl,rfl,rfl,Only.refl _ _⟩,?_⟩;rintro nv _ w0 ⟨n,hn,rfl,rfl,jh,cO⟩;refine⟨λhc=>?_,λhc=>?_⟩
 ·have bT:(n:Int)<l.n:=aP hc;obtain⟨ad,x,cs,g1,g2,g3,g4,g5,g6⟩:=(SliceF.only (pI d) aN h cO aac).get (bD n) bT;rw[aU]at g2;obtain⟨sl,rfl⟩:=uj g6;refine⟨ad,g1,_,_,_,_,_,_,g5,256,[],[],rfl,eU (by kernel_rfl),?_⟩;refine(Sa hS (hl x (bB g2)) g6).mono ?_;rintro _ w1 ⟨rfl,cG⟩;have lH:=OG (f:=fG d) g2;refine⟨_,rfl,λhb=>⟨_,rfl,?_,cO.cr cG⟩,λhb=>⟨xs.length-_,aG,n+1,aG,aad,rfl,?_,cO.cr cG⟩⟩
  ·have hb:fG d x=false:=aaz
   rw[jh,lH,hb,eN,Bool.not_false];exact bJ (bD n)
  have hb:fG d x=true:=aaz
  rw[jh,lH,hb,cT]
 have lz:=aX hc;refine⟨_,rfl,?_,cO⟩;rw[jh,oW aG];rfl
theorem Hr{d}(hS:ShD d){w}{F}{l}{xs}(hl:∀y,y∈xs->Bb d y)(h:aD (Dd d) 6 w F l xs):aB au 255 #[l.v,.func (.func 256) #[] #[]] w λe w'=>e=aq (ao (!qp (fG d) xs))/\aA [] w w':=by
 refine ret (ag4 l ⟨.func _ #[] #[],rfl⟩ _ w ?_);refine(Sc hS hl h).mono ?_;rintro _ w0 ⟨i,rfl,h1,h2⟩;exact⟨_,rfl,by rw[h1],h2⟩
theorem L7:∀d,ShD d
 | 0,_,_,_,_,_,h=>h.elim
 | d+1,w,F,x,cs,⟨ZW,hl⟩,⟨sl,h1,h2⟩=>by
  subst h1;refine ret (amH _ _ _ _ _ _ _ _ ?_);intro k0 k1 w0 gU fD kc jO cO;have hs:∀{b:Bool},lO x=b->fG (d+1) x=_:=λe=>by rw[fG,e]
  have own:∀{w1 w2:ay},aA [] w w1->aA [k1] w1 w2->aA [] w w2:=λh1 h2=>h1.new h2 kc;refine⟨λi0 i1 i2 s0 i3 l0 i4 w1=>∃s,s0=T s/\lO x=eqM i2 s i3 i0 x/\aA [] w w1/\w0.heap.size<=w1.heap.size,?_,λhk w4 dK=>⟨[],rfl,?_,own cO dK,dK.size⟩,λhk=>?_⟩
  ·rintro i0 i1 i2 _ i3 l0 i4 w1 ⟨s,rfl,he,cG,z1⟩;have hc:((((x.n==i2)&&((T x.s).toList==(T s).toList))&&(x.op==i3))&&((sl.n:Int)==i0))=lO x:=by
    rw[he,mM,h2.len];rfl
   rw[hc];refine⟨λb w'=>b=fG _ x/\aA [] w w',?_,λhh=>(Hr (L7 d) hl (SliceF.only (pI d) aN h2 cG aac)).mono ?_,λhh=>⟨by rw[hs hh,eN],cG⟩⟩
   ·rintro _ w2 ⟨rfl,h⟩;exact⟨rfl,h⟩
   rintro _ w3 ⟨rfl,dz⟩;exact⟨_,rfl,dz.same aae,by rw[hs hh,cT,kE],cG.cr dz⟩
  ·have hk:=aas
   rw[lO,bc hk]
  have kc:=aas
  refine⟨λb w'=>b=decide (x.k=2∨x.k=3)/\w'=w0,?_,λvf=>⟨?_,rfl⟩,λvf=>⟨?_,rfl⟩⟩
  ·rintro _ _ ⟨rfl,rfl⟩;refine⟨λhk=>(R9 x.s aG).mono ?_,λhk=>⟨λzY=>⟨λho w8 fX=>⟨[],rfl,?_,own cO fX,fX.size⟩,λho w9 gH=>⟨[],rfl,?_,own cO gH,gH.size⟩⟩,λzY=>⟨λCN=>(JQ _ x.op).mono ?_,λCN=>⟨?_,cO⟩⟩⟩⟩
   ·rintro _ w6 ⟨rfl,eH⟩;have z6:=eH.size;have hk:=aP hk;refine⟨_,rfl,eH.same aae,λhb=>⟨?_,cO.cr eH⟩,λhb w7 fN=>⟨x.s,rfl,?_,own (cO.cr eH) fN,by have:=fN.size;omega⟩⟩
    ·have hb:=aaz
     rw[hs (b:=false) (by rw[lO,aY kc,bc hk,hb,eN]),eN]
    have hb:=aaz
    rw[lO,aY kc,bc hk,hb,cT]
   ·have hk:=aX hk;have zY:=aeG
    have ho:=by simpa using ho
    rw[lO,aY kc,aY hk,bc zY,bc ho]
   ·have hk:=aX hk;have zY:=aeG
    rw[lO,aY kc,aY hk,bc zY,aY (by simpa using ho)]
   ·rintro _ dL ⟨rfl,rfl⟩;have hk:=aX hk;have zY:=aeG
    have CN:=by simpa using CN
    refine⟨_,rfl,λ_ _=>rfl,λhb=>⟨?_,cO⟩,λhb dN dX=>⟨[],rfl,?_,own cO dX,dX.size⟩⟩
    ·rw[hs (b:=false) (by rw[lO,aY kc,aY hk,aY zY,bc CN,hb,Bool.not_true,eN]),eN]
    rw[lO,aY kc,aY hk,aY zY,bc CN,hb,Bool.not_false,cT]
   have zY:=aeG
   have CN:=by simpa using CN
   rw[hs (b:=false) (by rw[lO,aY kc,aY (aX hk),aY zY,aY CN]),eN]
  ·have vf:=by simpa using vf
   rw[vf];rfl
  rw[bW];simp[by simpa using vf]
def Tb(w:ay):Prop:=Lib.TabIs au w "internal/strconv.uint64pow10" .u64 Lib.pow10Tab
theorem tb_num:Tryz.prog.globalNamed "internal/strconv.uint64pow10" =some 1:=by kernel_rfl
theorem Tb.keep{w w'}(h:Tb w)(hk:1<w.heap.size->w'.heap[1]? =w.heap[1]?):Tb w':=by
 unfold Tb Lib.TabIs World.var? at h⊢;rw[tb_num]at h⊢;simp at h⊢;rw[hk]
 ·exact h
 refine cy λhn=>?_;rw[fm aG]at h;cases h
theorem Tb.lt{w}(h:Tb w):1<w.heap.size:=by
 unfold Tb Lib.TabIs World.var? at h;rw[tb_num]at h;simp at h;refine cy λhn=>?_;rw[fm aG]at h;cases h
theorem Tb.only{w w'}(h:Tb w)(hO:aA [] w w'):Tb w':=h.keep λbT=>hO.block _ bT aac
theorem Only.grown w k os:aA [] w (Go.Sort.grow (w.drewN k) os):=⟨rfl,rfl,rfl,aac,λq hq _=>by
 simp[Go.Sort.grow,World.heap_drewN];rw[Array.getElem?_append_left hq]⟩
theorem zN{w} n (hn:rf n) (hT:Tb w):aB au 144 #[O ae n] w λe w'=>e=aq (ah (T (Lib.itoa n)))/\aA [] w w':=by
 refine ret (v1w _ _ _ ?_);refine(Tryz.strconv_Itoa n hn.1 hn.2 w hT).mono ?_;rintro _ w0 ⟨rfl,k,os,rfl⟩;exact⟨_,rfl,rfl,Only.grown _ _ _⟩
def Bf(w:ay)(B:Nat)(s:Sl)(l:aJ):Prop:=
 (s=Sl.nil/\l=[])∨∃g tail,s.a=some ⟨g,0,none⟩/\B<=g/\aH w g 5 (l.map gw++tail)/\tail.length=s.c-s.n/\s.n=l.length/\s.n<=s.c/\s.c<=9223372036854775807/\0<s.c
theorem Bf.len{w:ay}{B:Nat}{s:Sl}{l:aJ}(h:Bf w B s l):s.n=l.length:=by
 rcases h with⟨rfl,rfl⟩ | ⟨g,tail,_,_,_,_,h,_⟩
 ·rfl
 exact h
theorem Bf.lt{w:ay}{B:Nat}{s:Sl}{l:aJ}(h:Bf w B s l){g:Nat}(hg:s.a=some ⟨g,0,none⟩):B<=g/\g<w.heap.size:=by
 rcases h with⟨rfl,rfl⟩ | ⟨g',tail,h1,h2,h3,_⟩
 ·cases hg
 rw[hg]at h1;injection h1 with h1;injection h1 with h1;subst h1;exact⟨h2,h3.lt⟩
theorem Bf.keep{w w':ay}{B:Nat}{s:Sl}{l:aJ}(h:Bf w B s l)(hk:∀g,s.a=some ⟨g,0,none⟩->g<w.heap.size->w'.heap[g]? =w.heap[g]?):Bf w' B s l:=by
 rcases h with h | ⟨g,tail,h1,h2,h3,h4⟩
 ·exact .inl h
 exact .inr ⟨g,tail,h1,h2,(hk g h1 h3.lt).trans h3,h4⟩
theorem ahn(l:aJ):Lib.strCells (T l)=l.map gw:=rfl
theorem Hs:Tryz.prog.underlying 214=some (.slice 5):=by kernel_rfl
theorem abq:Tryz.prog.underlying 9=some .string:=by kernel_rfl
theorem L8:Tryz.prog.info? 5=some Tryz.t5:=by kernel_rfl
theorem L9{w:ay}{B:Nat}{s:Sl}{l:aJ}(h:Bf w B s l)(m:aJ)(hB:B<=w.heap.size)(hm:l.length+m.length<=140737488355328):
  ∃s' w',(Builtin.append_ #[214,9] 214 #[s.v,ah (T m)]).run au w=.ok s'.v w'/\Bf w' B s' (l++m)/\aF (λk=>s.a=some ⟨k,0,none⟩) w w'/\(s'.a=s.a∨s'.a=some ⟨w.heap.size,0,none⟩):=by
 have ht:=Hs;have hu:=abq;have hi:=L8;have vL:Tryz.t5.size=1:=rfl;have pD:Tryz.t5.bytes=1:=rfl;have hz:Tryz.t5.zero=some (.int .u8 0):=rfl;have hsz:(T m).size=m.length:=dP m;have grown:∀(lG Qo:Nat),lG=l.length+m.length->0<l.length+m.length->∀cells:Array az,cells=((l++m).map gw).toArray++Builtin.zeroCells (Value.int .u8 0).cells (grownCap w lG Qo 5-lG)->
   Bf (w.drew.alloc (.cells cells 5)) B ⟨some ⟨w.heap.size,0,none⟩,lG,grownCap w lG Qo 5⟩ (l++m)/\aF (λk=>s.a=some ⟨k,0,none⟩) w (w.drew.alloc (.cells cells 5)):=by
  rintro lG Qo rfl h0 cells rfl;have hO:aA [] w (w.drew.alloc (.cells (((l++m).map gw).toArray++Builtin.zeroCells (Value.int .u8 0).cells (grownCap w (l.length+m.length) Qo 5-(l.length+m.length))) 5)):=(Only.drew w).cr (Only.alloc _ _);refine⟨.inr ⟨w.heap.size,(Builtin.zeroCells (Value.int .u8 0).cells (grownCap w (l.length+m.length) Qo 5-(l.length+m.length))).toList,rfl,hB,?_,?_,aac,grownCap_ge _ _ _ _,grownCap_le_maxLen _ _ _ _ (by simp only[maxLen];omega),cq h0 (grownCap_ge _ _ _ _)⟩,hO.p0⟩
  ·have e:∀(x:aK) (z:Array az),x.toArray++z=(x++z.toList).toArray:=λx z=>aac
   rw[e];exact Blk.alloc w.drew 5 _
  exact(vS w _ (size:=1) rfl).trans (kl _)
 rcases h with⟨rfl,rfl⟩ | ⟨g,tail,h1,h2,h3,h4,h5,h6,h7,h8⟩
 ·cases m with
  | nil=>
   refine⟨Sl.nil,w,?_,.inl ⟨rfl,rfl⟩,OnlyP.refl _ _,.inl rfl⟩;have hf:=Lib.run_firstCells_string (P:=au) w 1 (T []);have h0:(T []).size=0:=rfl;rw[h0]at hf;simp[Sl.nil,Sl.v,Builtin.append_,run_underlying ht,run_underlying hu,sizeOf,typeInfo,hi,vL,Builtin.lenOf,h0,hf]
  | cons c m=>
   have hr:=run_append_nil_string (P:=au) w 214 9 214 5 Tryz.t5 (.int .u8 0) ht hu hi hz (T (c::m)) (by rw[hsz];simp) aeL (by rw[hsz,pD];omega);rw[hsz]at hr;obtain⟨g1,g2⟩:=grown (c::m).length 0 aac aac _ rfl;have e1:(T (c::m)).data.map (λb=>Value.int .u8 b.toNat)=(List.map gw ([]++c::m)).toArray:=by
    apply P7.1;rw[Array.toList_map,iG];rfl
   rw[e1]at hr;exact⟨_,_,hr,g1,g2,.inr rfl⟩
 obtain⟨sa,sn,sc⟩:=s;dsimp only at h1 h4 h5 h6 h7 h8;subst h1;by_cases qM:sn+m.length<=sc
 ·have Yh:=h3;unfold aH at h3;have hr:=Lib.run_append_room_string (P:=au) w 214 9 214 5 Tryz.t5 ht hu hi vL g sn sc _ h3 (T m) (by rw[hsz];exact qM) (by
   rw[hsz,eK,aW,bA];omega)
  rw[hsz,ahn]at hr;refine⟨⟨some ⟨g,0,none⟩,sn+m.length,sc⟩,_,hr,.inr ⟨g,tail.drop m.length,rfl,h2,?_,?_,by dsimp only;rw[aW];omega,qM,h7,h8⟩,(Only.setRow w g _).p λx hx=>.inl (by simp only[aO]at hx;rw[hx]),.inl rfl⟩
  ·have:=Yh.setRow ((l++m).map gw++tail.drop m.length);have e:((l.map gw++tail).toArray.toList.take sn++m.map gw++(l.map gw++tail).toArray.toList.drop (sn+m.length))=(l++m).map gw++tail.drop m.length:=by
    rw[iG,QM ab4,bq ab4,List.drop_append,oW ab4,cF,bA,dh,h5,eE]
   rw[e];exact this
  rw[cP];dsimp only;omega
 have Cg:∀j v,(l.map gw)[j]? =some v->w.cell? ((⟨g,0,none⟩:Addr).add j)=some v:=λj v hj=>h3.cells 0 (l.map gw) (λj v hj=>acV) j v hj;have hr:=Lib.run_append_grow_string (P:=au) w 214 9 214 5 Tryz.t5 (.int .u8 0) ht hu hi hz ⟨g,0,none⟩ sn sc (l.map gw) (by rw[vL,bA];omega) Cg (T m) aeL aeL (growslice_fits aeL (by rw[hsz,pD];omega));rw[hsz,ahn]at hr;obtain⟨g1,g2⟩:=grown (sn+m.length) sc aG aG _ rfl;refine⟨_,_,hr.trans ?_,g1,g2,.inr rfl⟩;simp[dh]
theorem Zb(w:ay)(F:aL):∀l:aJ,lV jF 1 w F l (l.map λb=>[gw b])
 | []=>trivial
 | c::l=>⟨⟨rfl,rfl⟩,Zb w F l⟩
theorem Se:∀l:aJ,(l.map λb=>[gw b]).flatten=l.map gw
 | []=>rfl
 | c::l=>by rw[bH,dy,Se l];rfl
theorem Ht{w:ay}{F:aL}:∀{l:aJ} {css:List (aK)},lV jF 1 w F l css->css.flatten=l.map gw
 | [],[],_=>rfl
 | c::l,d::css,h=>by
  obtain⟨⟨_,h1⟩,h2⟩:=h;unfold jF at h1;subst h1;rw[dy,Ht h2];rfl
theorem Bf.own{w:ay}{B:Nat}{s:Sl}{l:aJ}(h:Bf w B s l)(F:aL):Own jF 1 5 B w F s l:=by
 rcases h with h | ⟨g,tail,h1,h2,h3,h4,h5,h6,h7,_⟩
 ·exact .inl h
 exact .inr ⟨g,l.map λb=>[gw b],tail,h1,h2,by rw[Se];exact h3,by rw[kl];exact h4,h5,h6,h7,Zb _ _ _⟩
theorem Bf.of{w:ay}{B:Nat}{s:Sl}{l:aJ}{F:aL}(h:Own jF 1 5 B w F s l)(h0:0<l.length):Bf w B s l:=by
 rcases h with h | ⟨g,css,tail,h1,h2,h3,h4,h5,h6,h7,h8⟩
 ·exact .inl h
 exact .inr ⟨g,tail,h1,h2,by rw[<-Ht h8];exact h3,by rw[h4,kl],h5,h6,h7,aG⟩
structure Pg (G:aL) (w:ay) (b:Nat) (sl sn:Sl) (l:aJ):Prop where
 blk:∃q:Option Addr,(q=none∨q=some ⟨b,0,none⟩)/\aH w b 307 [ai q,sl.v,sn.v]
 buf:Bf w (b+1) sl l
 sig:aD lD 1 w G sn CD
 hG:∀k,G k->k<b
def uD(b:Nat)(sl:Sl)(w:ay)(pW:Sl)(w':ay):Prop:=aF (λk=>k=b∨sl.a=some ⟨k,0,none⟩) w w'/\∀k,pW.a=some ⟨k,0,none⟩->sl.a=some ⟨k,0,none⟩∨w.heap.size<=k
theorem uD.trans{b:Nat}{sl pW ai0:Sl}{w w' tT:ay}(h:uD b sl w pW w')(k:uD b pW w' ai0 tT):uD b sl w ai0 tT:=by
 have z:=h.1.size;refine⟨h.1.trans k.1 λx hx=>?_,λx hx=>?_⟩
 ·rcases hx with hx | hx
  ·exact .inl (.inl hx)
  rcases h.2 x hx with e | e
  ·exact .inl (.inr e)
  exact .inr e
 rcases k.2 x hx with e | e
 ·exact h.2 x e
 exact .inr aG
theorem uD.only{b:Nat}{sl:Sl}{w w':ay}(h:aA [] w w'):uD b sl w sl w':=⟨h.p0,λ_ h=>.inl h⟩
theorem uD.same{b:Nat}{sl pW:Sl}{w w':ay}(h:uD b sl w pW w'){k:Nat}(hk:k≠b)(hs:sl.a≠some ⟨k,0,none⟩)(hl:k<w.heap.size):ci [k] w w':=h.1.same (by
 intro x hx;simp only[aO]at hx;subst hx;exact⟨hl,λe=>e.elim hk hs⟩)
theorem Pg.only{G:aL}{w w':ay}{b:Nat}{sl sn:Sl}{l:aJ}(h:Pg G w b sl sn l)(hO:aA [] w w'):Pg G w' b sl sn l:=by
 obtain⟨q,hq,hB⟩:=h.blk;exact⟨⟨q,hq,hO.blk hB aac⟩,h.buf.keep λg _ hl=>hO.block g hl aac,SliceF.only dJ aN h.sig hO aac,h.hG⟩
theorem Pg.lb{G:aL}{w:ay}{b:Nat}{sl sn:Sl}{l:aJ}(h:Pg G w b sl sn l):b<w.heap.size:=by
 obtain⟨q,hq,hB⟩:=h.blk;exact hB.lt
theorem Zc(v:az)(w:ay):(Ol 215 #[v]).run au w=.ok v w:=by
 unfold Ol;rw[Sem.run_bind,run_callFunc_extern Tryz.func215 (by kernel_rfl) (by kernel_rfl) (by kernel_rfl) (e:=Extern.AbiNoEscape.same) (by kernel_rfl)];rw[Lib.run_noEscape];rfl
theorem Ma{w:ay}{b:Nat}{q:Option Addr}{sl sn:Sl}(hq:q=none∨q=some ⟨b,0,none⟩)(h:aH w b 307 [ai q,sl.v,sn.v]):
  aB au 199 #[ai (some ⟨b,0,none⟩)] w λe w'=>e=aq (ak #[])/\aA [b] w w'/\aH w' b 307 [ai (some ⟨b,0,none⟩),sl.v,sn.v]:=by
 refine ret (Y7 _ _ _ ?_);have Jc:w.shape? b=some (307,3):=by
  unfold World.shape?;unfold aH at h;rw[h];rfl
 refine⟨q,Blk.eh h 0 rfl,λhn=>?_,λhn=>⟨q,Blk.eh h 0 rfl,?_⟩⟩
 ·have NW:=Lib.run_to_unsafe (P:=au) (src:=213) (dst:=281) w ⟨b,0,none⟩ (t:=216) (j:=Tryz.t216) (by kernel_rfl) (by kernel_rfl) (by kernel_rfl) aN Jc (by decide:(0:Nat)<3);have KR:=Lib.run_from_unsafe (P:=au) (src:=281) (dst:=213) w ⟨b,0,none⟩ (u:=216) (j:=Tryz.t216) (by kernel_rfl) (by kernel_rfl) (by kernel_rfl) Jc (by kernel_rfl);exact⟨⟨ai (some ⟨b,0,none⟩),rfl⟩,w,NW,⟨ai (some ⟨b,0,none⟩),rfl⟩,w,Zc _ w,some ⟨b,0,none⟩,w,KR,b,0,_,_,rfl,h,aac,λw3 hO hB=>⟨rfl,hO,hB⟩⟩
 rcases hq with rfl | rfl
 ·cases hn
 exact⟨false,w,Lib.run_neq_ptr_same w _ (te:=216) (j:=Tryz.t216) (by kernel_rfl) (by kernel_rfl),λe=>aeF,λ_=>⟨rfl,Only.refl _ _,h⟩⟩
section
variable {G:aL} {w:ay} {b:Nat} {sl sn:Sl} {l:aJ}
theorem abr(h:Pg G w b sl sn l):aB au 184 #[ai (some ⟨b,0,none⟩)] w λe w'=>e=aq (O ae (l.length:Int))/\w'=w:=by
 refine ret (Y5 _ _ _ ?_);obtain⟨q,hq,hB⟩:=h.blk;exact⟨sl,Blk.eh hB 1 rfl,by rw[h.buf.len],rfl⟩
theorem pK(h:Pg G w b sl sn l)(m:aJ)(hm:l.length+m.length<=140737488355328):aB au 175 #[ai (some ⟨b,0,none⟩),ah (T m)] w λe w'=>
  ∃pW,e=aq (ak #[O ae (m.length:Int),.nilIface])/\Pg G w' b pW sn (l++m)/\uD b sl w pW w':=by
 refine(Y6 ⟨b,0,none⟩ (T m) (λv w'=>∃pW,v=ak #[O ae (m.length:Int),.nilIface]/\Pg G w' b pW sn (l++m)/\uD b sl w pW w') w ?_).mono (by
  rintro e w' ⟨v,rfl,s,rfl,h⟩;exact⟨s,rfl,h⟩)
 obtain⟨q,hq,hB⟩:=h.blk;refine(Ma hq hB).mono ?_;rintro _ w0 ⟨rfl,cO,sF⟩;have z0:=cO.size;have hb:=hB.lt;have xn:Bf w0 (b+1) sl l:=h.buf.keep λg hg hl=>cO.block g hl (by have:=(h.buf.lt hg).1;simp;omega);obtain⟨s',w1,k1,k2,k3,k4⟩:=L9 xn m aG hm;have z1:=k3.size;have u7:aH w1 b 307 [ai (some ⟨b,0,none⟩),sl.v,sn.v]:=k3.blk sF λe=>aec
 have xd:∀g,s'.a=some ⟨g,0,none⟩->b<g:=λg hg=>by
  rcases k4 with e | e
  ·rw[e]at hg;exact(xn.lt hg).1
  rw[e]at hg;injection hg with hg;injection hg with hg;omega
 refine⟨rfl,sl,Blk.eh sF 1 rfl,s',w1,k1,b,1,_,_,rfl,u7,aac,λw2 dk pF=>⟨s',by rw[dP],⟨⟨_,.inr rfl,pF⟩,k2.keep λg hg hl=>dk.block g hl adY,?_,h.hG⟩,?_,?_⟩⟩
 ·have h0:=SliceF.only dJ aN h.sig cO λk hk _ hm=>aaZ
  have h1:=SliceF.nP dJ aN h0 k3 λk hk _ hm=>by have:=h.hG k hk;have:=(xn.lt hm).1;omega
  exact SliceF.only dJ aN h1 dk λk hk _ hm=>aaZ
 ·refine((cO.p (F:=λk=>k=b∨sl.a=some ⟨k,0,none⟩) λx hx=>.inl (.inl aa3)).trans k3 λk hk=>.inl (.inr hk)).trans (dk.p (F:=λk=>k=b) λx hx=>.inl aa3) λk hk=>.inl (.inl hk)
 intro k hk;rcases k4 with e | e
 ·rw[e]at hk;exact .inl hk
 rw[e]at hk;injection hk with hk;injection hk with hk;exact .inr aG
theorem Zd(h:Pg G w b sl sn l)(c:UInt8)(hm:l.length+1<=140737488355328):LR ⟨b,0,none⟩ (c.toNat:Int) (λv w'=>∃pW,v=.nilIface/\Pg G w' b pW sn (l++[c])/\uD b sl w pW w') w:=by
 unfold LR;obtain⟨q,hq,hB⟩:=h.blk;refine(Ma hq hB).mono ?_;rintro _ w0 ⟨rfl,cO,sF⟩;have z0:=cO.size;have hb:=hB.lt;have xn:Bf w0 (b+1) sl l:=h.buf.keep λg hg hl=>cO.block g hl (by have:=(h.buf.lt hg).1;simp;omega);obtain⟨y,w1,k1,k2,k3,_⟩:=xM w0 [c] (n:=1) (parts:=#[(0,.int .u8 (c.toNat:Int))]) rfl rfl aN aN;have z1:=k3.size;have ai1:Bf w1 (b+1) sl l:=xn.keep λg hg hl=>k3.block g hl aac;obtain⟨s',w2,m1,m2,gs,m3,m4,m5⟩:=vT (P:=au) (t:=214) (ty:=214) (e:=5) (i:=Tryz.t5) (bytes:=1) (size:=1) (r:=jF) Hs L8 rfl rfl rfl rfl vU (ai1.own λ_=>True) ((C7 k2).mono vU λk hk=>⟨trivial,λe=>by have:=(xn.lt e).2;have:=hk.1;omega⟩) aG (by rw[bK];omega) aN;have z2:=m3.size;have dk:aF (λk=>sl.a=some ⟨k,0,none⟩) w1 w2:=m3.p λx hx=>.inl (m4 x hx).1;have pF:aH w2 b 307 [ai (some ⟨b,0,none⟩),sl.v,sn.v]:=dk.blk (k3.blk sF aac) λe=>aec
 have xd:∀g,s'.a=some ⟨g,0,none⟩->b<g:=λg hg=>by
  rcases m5 with e | e
  ·rw[e]at hg;exact(xn.lt hg).1
  rw[e]at hg;injection hg with hg;injection hg with hg;omega
 refine⟨rfl,sl,Blk.eh sF 1 rfl,y,w1,k1,s',w2,m1,b,1,_,_,rfl,pF,aac,λw3 dz xf=>⟨s',rfl,⟨⟨_,.inr rfl,xf⟩,(Bf.of m2 aac).keep λg hg hl=>dz.block g hl adY,?_,h.hG⟩,?_,?_⟩⟩
 ·have h0:=SliceF.only dJ aN h.sig (cO.cr k3) λk hk _ hm=>aaZ
  have h1:=SliceF.nP dJ aN h0 dk λk hk _ hm=>by have:=h.hG k hk;have:=(xn.lt hm).1;omega
  exact SliceF.only dJ aN h1 dz λk hk _ hm=>aaZ
 ·refine(((cO.cr k3).p (F:=λk=>k=b∨sl.a=some ⟨k,0,none⟩) λx hx=>.inl (.inl aa3)).trans dk λk hk=>.inl (.inr hk)).trans (dz.p (F:=λk=>k=b) λx hx=>.inl aa3) λk hk=>.inl (.inl hk)
 intro k hk;rcases m5 with e | e
 ·rw[e]at hk;exact .inl hk
 rw[e]at hk;injection hk with hk;injection hk with hk;exact .inr aG
theorem WA(h:Pg G w b sl sn l)(c:UInt8)(hm:l.length+1<=140737488355328):aB au 257 #[ai (some ⟨b,0,none⟩),.int .u8 (c.toNat:Int)] w λe w'=>
 ∃pW,e=aq .nilIface/\Pg G w' b pW sn (l++[c])/\uD b sl w pW w':=(ag6 _ _ _ w (Zd h c hm)).mono (by
 rintro e w' ⟨v,rfl,s,rfl,h⟩;exact⟨s,rfl,h⟩)
theorem WB(h:Pg G w b sl sn l)(c:UInt8)(hm:l.length+1<=140737488355328):kP au 257 #[ai (some ⟨b,0,none⟩),.int .u8 (c.toNat:Int)] w λv w'=>
 ∃pW,v=.nilIface/\Pg G w' b pW sn (l++[c])/\uD b sl w pW w':=mS _ _ _ w (Zd h c hm)
structure Pt (w:ay) (b:Nat) (sl:Sl) (l:aJ):Prop where
 blk:∃q sn:az,aH w b 307 [q,sl.v,sn]
 len:sl.n=l.length
 some:l≠[]->∃g,sl.a=.some ⟨g,0,none⟩/\b<g/\sl.c≠0/\(∃n,w.shape? g=.some (5,n)/\l.length<=n)/\aE w ⟨g,0,none⟩ (l.map gw)
 cap:sl.a=none∨sl.c≠0
 big:l.length<=9223372036854775807
theorem Bc{w w':ay}{g:Nat}(h:w'.heap[g]? =w.heap[g]?):w'.shape? g=w.shape? g:=by
 unfold World.shape?;rw[h]
theorem Pt.only{w':ay}(h:Pt w b sl l)(hO:aA [] w w'):Pt w' b sl l:=by
 obtain⟨⟨q,sn,h1⟩,h2,h3,h4,h5⟩:=h;refine⟨⟨q,sn,hO.blk h1 aac⟩,h2,λhl=>?_,h4,h5⟩;obtain⟨g,a1,a2,a3,⟨n,a4,a5⟩,a6⟩:=h3 hl;have hg:g<w.heap.size:=by
  refine cy λhn=>?_;unfold World.shape? at a4;rw[fm aG]at a4;cases a4
 have hk:=hO.block g hg aac;exact⟨g,a1,a2,a3,⟨n,(Bc hk).trans a4,a5⟩,a6.keep hk⟩
theorem Pg.pt(h:Pg G w b sl sn l):Pt w b sl l:=by
 obtain⟨q,hq,hB⟩:=h.blk;refine⟨⟨_,_,hB⟩,h.buf.len,λhl=>?_,?_,?_⟩
 ·rcases h.buf with⟨_,e⟩ | ⟨g,tail,h1,h2,h3,h4,h5,h6,h7,h8⟩
  ·exact absurd e hl
  have h0:l.length≠0:=λe=>hl (bR e);refine⟨g,h1,h2,aG,⟨_,by unfold World.shape?;unfold aH at h3;rw[h3],aac⟩,h3.cells 0 (l.map gw) λj v hj=>acV⟩
 ·rcases h.buf with⟨e,_⟩ | ⟨g,tail,h1,h2,h3,h4,h5,h6,h7,h8⟩
  ·exact .inl (by rw[e])
  exact .inr aG
 rcases h.buf with⟨_,e⟩ | ⟨g,tail,h1,h2,h3,h4,h5,h6,h7⟩
 ·subst e;simp
 omega
end
theorem wq(w:ay)(p:Addr)(n:Nat)(a:Nat):(w.freeze p n).shape? a=w.shape? a:=by
 unfold World.freeze;split
 ·rfl
 unfold World.shape?;simp only[gQ];by_cases VI:p.block=a
 ·rw[bc VI];cases h:w.heap[a]? with
  | none=>rfl
  | some o=>
   cases o with
   | cells c e f=>obtain⟨lo,hi⟩:=f;rfl
   | _=>rfl
 rw[aY VI]
section
variable {w:ay} {b:Nat} {sl:Sl} {l:aJ}
theorem Sf(h:Pt w b sl l):aB au 147 #[ai (some ⟨b,0,none⟩)] w λe w'=>e=aq (ah (T l))/\Pt w' b sl l/\aF (λk=>b<k/\sl.a=some ⟨k,0,none⟩) w w':=by
 refine ret (Y8 _ _ _ ?_);intro w0 cO;have h0:=h.only cO;obtain⟨⟨q,sn,hB⟩,fy,IU,lI,qR⟩:=h0;refine⟨λk=>k=b,sl,Blk.eh hB 1 rfl,rfl,sl,Blk.eh hB 1 rfl,sl.a,w0,?_,λk _ _=>rfl,?_⟩
 ·obtain⟨sa,sn',sc⟩:=sl;cases sa with
  | none=>exact Lib.run_unsafeSliceData_nil _ _ _ _ _
  | some a=>
   rcases lI with e | e
   ·cases e
   exact Lib.run_unsafeSliceData_row _ _ _ _ _ _ e
 by_cases hl:l=[]
 ·subst hl;have hn:sl.n=0:=fy;refine⟨T [],w0,?_,λk _ _=>rfl,rfl,⟨⟨q,sn,hB⟩,fy,IU,lI,qR⟩,cO.p0⟩;rw[hn];exact Lib.run_unsafeString_none _ _ _ _ _
 obtain⟨g,ha,Jd,hc,⟨m,Jc,hm⟩,vH⟩:=IU hl;have hF:=tA w0 ⟨g,0,none⟩ l.length;have DY:b<w0.heap.size:=hB.lt;refine⟨T l,w0.freeze ⟨g,0,none⟩ l.length,?_,λk hk bT=>hF.block k bT aaw,rfl,⟨⟨q,sn,hF.blk hB aaw⟩,fy,λ_=>⟨g,ha,Jd,hc,⟨m,(wq _ _ _ _).trans Jc,hm⟩,λj v hj=>by rw[tz];exact vH j v hj⟩,lI,qR⟩,cO.mZ (hF.mono λk _ hk=>by dsimp only at hk;subst hk;exact⟨Jd,ha⟩)⟩;rw[ha,fy];exact Lib.run_unsafeString_row _ _ _ _ 5 (by kernel_rfl) (by kernel_rfl) g m Jc l hl hm qR λj x hj=>vH j (gw x) (by rw[ch,hj];rfl)
end
def vJ(wr:Bool)(l:aJ):aJ:=if wr then l++[40]else l
def Ze(wr:Bool)(l:aJ):aJ:=if wr then l++[41]else l
def vK:Nat->Ex->Bool->aJ->aJ
 | 0,_,_,l=>l
 | d+1,x,wr,l=>if 16384<l.length then l else Ze wr (
  if x.k=1 then vJ wr l++Lib.itoa x.n
  else if x.k=2 then vJ wr l++x.s
  else if x.k=3 then vJ wr l++([105,110,40]++x.s++[41])
  else if x.k=4 then(match x.gp with
   | [y]=>vK d y (decide (iv y<6)) (vJ wr l++mf x.op.toNat)
   | _=>l)
  else(match x.gp with
   | [y,z]=>vK d z (decide (iv z<=iv x)) (vK d y (decide (iv y<iv x)) (vJ wr l)++([32]++mf x.op.toNat++[32]))
   | _=>l))
section
variable {x:Ex}
theorem Zf{n}{s}{op len}(h:eqM n s op len x=true):x.n=n/\x.s=s/\x.op=op/\x.gp.length=len:=by
 simp[eqM,aR,dq,bL]at h;exact⟨h.1.1.1,h.1.1.2,h.1.2,h.2⟩
theorem pL(h:lO x=true)(hk:x.k=2∨x.k=3):fi x.s=true:=by
 have h1:x.k≠1:=aG
 rw[lO,aY h1,bc hk,aR]at h;exact h.1
theorem Sg(h:lO x=true)(hk:x.k=4):∃y,x.gp=[y]/\(x.op=14∨x.op=15):=by
 rw[lO,aY aG,aY aG,bc hk]at h;obtain⟨_,_,h3,h4⟩:=Zf h;obtain⟨y,hy⟩:=List.length_eq_one_iff.1 (show x.gp.length=1 by omega);refine⟨y,hy,?_⟩;by_cases QC:x.op=15
 ·exact .inr QC
 rw[aY QC]at h3;exact .inl h3
theorem Sh(h:lO x=true)(h1:x.k≠1)(h2:x.k≠2)(h3:x.k≠3)(h4:x.k≠4):x.k=5/\∃y z,x.gp=[y,z]/\1<=x.op/\x.op<=13:=by
 rw[lO,aY h1,aY aG,aY h4]at h;split at h
 ·rename_i h5;rw[aR]at h;obtain⟨h6,h7⟩:=h;obtain _:=Zf h7;have h6:=by simpa using h6
  have h2l:x.gp.length=2:=aG
  obtain⟨y,z,hy⟩:∃y z,x.gp=[y,z]:=by
   match hm:x.gp,h2l with
   | [y,z],_=>exact⟨y,z,rfl⟩
  refine⟨h5,y,z,hy,?_⟩;unfold lN at h6;refine cy λhn=>h6 ?_;rw[aY aG,aY aG,aY aG,aY aG,aY aG,aY aG]
 cases h
theorem kw{s}(h:fi s=true):s.length<=24:=by
 unfold fi at h;simp only[aR]at h;exact(aP h.1.1.1).2
theorem qs n:(mf n).length<=2:=by
 rcases Nat.lt_or_ge n 16 with h | h
 ·have:∀q,q<16->(mf q).length<=2:=aN
  exact this n h
 unfold mf;rw[cN (h)];decide
theorem Mb wr l:(vJ wr l).length<=l.length+1:=by
 unfold vJ;cases wr<;>simp
theorem WC wr l:(Ze wr l).length<=l.length+1:=by
 unfold Ze;cases wr<;>simp
theorem rC:∀d {x:Ex} wr l,fG d x=true->rT d x->(vK d x wr l).length<=l.length+40*pJ d x
 | 0,x,wr,l,h,_=>aal
 | d+1,x,wr,l,h,⟨hn,hs⟩=>by
  rw[fG,aR]at h;obtain⟨hh,ha⟩:=h;have h1:=Mb wr l;rw[vK,pJ];split
  ·omega
  refine bf (WC _ _) ?_;split
  ·rw[aW];have:=Lib.itoa_length_le x.n hn.1 hn.2;omega
  split
  ·rename_i hk;rw[aW];have:=kw (pL hh (.inl hk));omega
  split
  ·rename_i hk;rw[aW,aW,aW];have:=kw (pL hh (.inr hk));simp;omega
  split
  ·rename_i hk;obtain⟨y,hy,_⟩:=Sg hh hk;rw[hy]at ha hs⊢;dsimp only;simp[qp,nB,uC]at ha⊢;have:=rC d (decide (iv y<6)) (vJ wr l++mf x.op.toNat) ha (hs y aac);rw[aW]at this;have:=qs x.op.toNat;omega
  rename_i k1 k2 k3 k4;obtain⟨hk,y,z,hy,_⟩:=Sh hh k1 k2 k3 k4;rw[hy]at ha hs⊢;dsimp only;simp only[qp,nB,uC,aR]at ha⊢;have a1:=rC d (decide (iv y<iv x)) (vJ wr l) ha.1 (hs y aac);have a2:=rC d (decide (iv z<=iv x)) (vK d y (decide (iv y<iv x)) (vJ wr l)++([32]++mf x.op.toNat++[32])) ha.2 (hs z aac);rw[aW,aW,aW]at a2;have:=qs x.op.toNat;simp only[bn,cZ]at a2;omega
end
structure Pz (d:Nat) (F G:aL) (k0 b:Nat) (sub sn:Sl) (subs:List Ex) (w:ay) (sl:Sl) (l:aJ):Prop where
 pg:Pg G w b sl sn l
 tb:Tb w
 own:k0≠b/\sl.a≠some ⟨k0,0,none⟩/\k0<w.heap.size
 sb:aD (Dd d) 6 w F sub subs
 hF:∀k,F k->k<b
 hT:1<b
section
variable {d:Nat} {F G:aL} {k0 b:Nat} {sx sn sl pW:Sl} {subs:List Ex} {w w' tT:ay} {l l':aJ}
theorem Pg.out(h:Pg G w b sl sn l){k}(hk:k<b):¬(k=b∨sl.a=some ⟨k,0,none⟩):=by
 rintro(e | e)
 ·omega
 have:=(h.buf.lt e).1;omega
theorem Pz.only(h:Pz d F G k0 b sx sn subs w sl l)(hO:aA [] w w'):Pz d F G k0 b sx sn subs w' sl l:=by
 have z:=hO.size;exact⟨h.pg.only hO,h.tb.only hO,⟨h.own.1,h.own.2.1,by have:=h.own.2.2;omega⟩,SliceF.only (pI d) aN h.sb hO aac,h.hF,h.hT⟩
theorem Pz.mv(h:Pz d F G k0 b sx sn subs w sl l)(hp:Pg G w' b pW sn l')(hm:uD b sl w pW w'):Pz d F G k0 b sx sn subs w' pW l'/\ci [k0] w w'/\bS (λk=>k<b∨k=k0) w w':=by
 have z:=hm.1.size;obtain⟨o1,o2,o3⟩:=h.own;refine⟨⟨hp,h.tb.keep λbT=>hm.1.block _ bT (h.pg.out h.hT),⟨o1,λe=>?_,aG⟩,SliceF.nP (pI d) aN h.sb hm.1 λk hk _=>h.pg.out (h.hF k hk),h.hF,h.hT⟩,hm.same o1 o2 o3,λk hk bT=>hm.1.block k bT ?_⟩
 ·rcases hm.2 k0 e with e | e
  ·exact o2 e
  omega
 rcases hk with hk | rfl
 ·exact h.pg.out hk
 rintro(e | e)
 ·exact o1 e
 exact o2 e
theorem uD.after(h:uD b sl w' pW tT)(hO:aA [] w w'):uD b sl w pW tT:=(uD.only hO).trans h
theorem Pz.same(h:Pz d F G k0 b sx sn subs w sl l)(hO:aA [] w w'):ci [k0] w w':=hO.same (by have:=h.own.2.2;simp;omega)
theorem Pz.sig(h:Pz d F G k0 b sx sn subs w sl l){op}(h0:0<=op)(h1:op<16):∃ad,dE sn op 1 ad/\aE w ad [ah (T (mf op.toNat))]:=by
 have hn:=h.pg.sig.len;have hol:CD.length=16:=rfl;obtain⟨ad,x,cs,g1,g2,g3,g4,g5,g6⟩:=h.pg.sig.get h0 aG;subst g6;have hx:mf op.toNat=x:=by unfold mf;rw[g2];rfl
 subst hx;exact⟨ad,g1,g5⟩
theorem Pz.sub(h:Pz d F G k0 b sx sn subs w sl l){i:Nat}{y}(hy:subs[i]? =some y):∃ad sy,dE sx i 6 ad/\ad.block<b/\aE w ad (tB y.k y.n y.s y.op sy y.a)/\Dd d w F y (tB y.k y.n y.s y.op sy y.a):=by
 have hn:=h.sb.len;have bT:=(aZ.1 hy).1;obtain⟨ad,x,cs,g1,g2,g3,g4,g5,g6⟩:=h.sb.get (bD i) aG;rw[aU,hy]at g2;injection g2 with g2;subst g2;obtain⟨sy,rfl⟩:=uj g6;exact⟨ad,sy,g1,h.hF _ g3,g5,g6⟩
end
abbrev PgC(d:Nat):Prop:=∀{G F:aL} {w:ay} {b:Nat} {sl sn:Sl} {l:aJ} {x:Ex} {cs:aK} wr,fG d x=true->rT d x->Dd d w F x cs->(∀k,F k->k<b)->Tb w->1<b->Pg G w b sl sn l->l.length+40*pJ d x<=70368744177664->
 aB au 239 #[ai (some ⟨b,0,none⟩),aj cs.toArray,ao wr] w λe w'=>∃pW,e=aq (ak #[])/\Pg G w' b pW sn (vK d x wr l)/\uD b sl w pW w'
theorem inb s:ar #[105,110,40]++T s++ar #[41]=T ([105,110,40]++s++[41]):=by
 rw[show ar #[105,110,40]=T [105,110,40]from rfl,show ar #[41]=T [41]from rfl,lM,lM]
theorem blb s:ar #[32]++T s++ar #[32]=T ([32]++s++[32]):=by
 rw[show ar #[32]=T [32]from rfl,lM,lM]
theorem inz c s:(c++T s).size=c.size+s.length:=by
 rw[show c=T c.data.toList from Ar c,lM,dP,dP,aW]
theorem kP.mono{P}{f}{a}{w}{Q Q'}(h:kP P f a w Q)(hq:∀v w',Q v w'->Q' v w'):kP P f a w Q':=λc cs hc=>by
 obtain⟨e,u',w',fr,⟨h1,v,h2,h3⟩,h4⟩:=h c cs hc;exact⟨e,u',w',fr,⟨h1,v,h2,hq _ _ h3⟩,h4⟩
theorem vu:∀d,PgC d
 | 0,_,_,_,_,_,_,_,_,_,_,_,_,h,_,_,_,_,_=>h.elim
 | d+1,G,F,w,b,sl,sG,l,x,cs,wr,Jc,⟨hni,hns⟩,⟨xs,h1,h2⟩,hF,hT,hTb,hP,fy=>by
  subst h1;refine(amJ ⟨b,0,none⟩ x.k x.n (T x.s) x.op xs x.a wr (λv w'=>∃pW,v=ak #[]/\Pg G w' b pW sG (vK (d+1) x wr l)/\uD b sl w pW w') w ?_).mono (by
   rintro e w' ⟨v,rfl,s,rfl,h⟩;exact⟨s,rfl,h⟩)
  have hx:Dd (d+1) w F x (tB x.k x.n x.s x.op xs x.a):=⟨xs,rfl,h2⟩
  rw[fG,aR]at Jc;obtain⟨hh,ha⟩:=Jc;rw[pJ]at fy;intro k0 w0 gU fD cO;have hb:=hP.lb;have X2:Pz d F G k0 b xs sG x.gp w0 sl l:=⟨hP.only cO,hT.only cO,⟨aG,λe=>by have:=(hP.buf.lt e).2;omega,fD⟩,SliceF.only (pI d) aN h2 cO aac,hF,hTb⟩
  refine(abr X2.pg).mono ?_;rintro _ w1 ⟨rfl,rfl⟩;refine⟨_,rfl,λ_ _=>rfl,λhc=>⟨sl,rfl,?_,(uD.only cO)⟩,λhc=>?_⟩
  ·rw[vK,bc abp];exact X2.pg
  have hc:¬16384<l.length:=aby
  have PX:vK (d+1) x wr l=Ze wr (
  if x.k=1 then vJ wr l++Lib.itoa x.n
  else if x.k=2 then vJ wr l++x.s
  else if x.k=3 then vJ wr l++([105,110,40]++x.s++[41])
  else if x.k=4 then(match x.gp with
   | [y]=>vK d y (decide (iv y<6)) (vJ wr l++mf x.op.toNat)
   | _=>l)
  else(match x.gp with
   | [y,z]=>vK d z (decide (iv z<=iv x)) (vK d y (decide (iv y<iv x)) (vJ wr l)++([32]++mf x.op.toNat++[32]))
   | _=>l)):=by rw[vK,aY hc]
  have hol:=Mb wr l;refine⟨λhw=>(WA X2.pg 40 aG).mono ?_,λhw=>?_⟩
  ·rintro _ w2 ⟨sl2,rfl,hp2,PF⟩;obtain⟨D2,hs2,_⟩:=X2.mv hp2 PF;have adk:l++[40]=vJ wr l:=by unfold vJ;rw[bc hw]
   rw[adk]at D2;refine⟨⟨.nilIface,rfl⟩,rfl,hs2,?_⟩;have fin:∀{NX:Sl} {w5:ay} {m:aJ},Pz d F G k0 b xs sG x.gp w5 NX m->uD b sl2 w2 NX w5->vK (d+1) x wr l=Ze wr m->m.length<=l.length+40*(1+uC (pJ d) x.gp)->kP au 257 #[ai (some ((⟨b,0,none⟩:Addr).add 0)),.int .u8 41] w5 λ_ w'=>∃pW,(Value.tuple #[])=ak #[]/\Pg G w' b pW sG (vK (d+1) x wr l)/\uD b sl w pW w':=by
    intro NX w5 m KS CO he Cs;have hd:=WB KS.pg 41 aG;refine kP.mono hd ?_;rintro v w' ⟨pW,hv,hp',yW⟩;refine⟨pW,rfl,?_,((PF.after cO).trans CO).trans yW⟩;rw[he];unfold Ze;rw[bc hw];exact hp'
   refine⟨λhk w3 dz=>?_,λk1=>⟨λhk w7 fN=>?_,λk2=>⟨λhk=>⟨?_,?_,λdL dW=>?_⟩,λk3=>⟨λhk fI ez=>?_,λk4=>(ph (show Dd (d+1) _ F x (tB x.k x.n x.s x.op xs x.a)from⟨xs,rfl,D2.sb⟩)).mono ?_⟩⟩⟩⟩
   ·have hk:x.k=1:=aas
    have hz3:=D2.only dz;refine(zN x.n hni hz3.tb).mono ?_;rintro _ w4 ⟨rfl,dK⟩;have hz4:=hz3.only dK;have hl:=Lib.itoa_length_le x.n hni.1 hni.2;refine⟨_,rfl,hz3.same dK,(pK hz4.pg (Lib.itoa x.n) aG).mono ?_⟩;rintro _ w5 ⟨NX,rfl,UE,CO⟩;obtain⟨KS,NY,_⟩:=hz4.mv UE CO;exact⟨_,⟨.nilIface,rfl⟩,rfl,NY,fin KS ((CO.after dK).after dz) (by rw[PX,bc hk]) abA⟩
   ·have hk:x.k=2:=aas
    have k1:x.k≠1:=aG
    have hz7:=D2.only fN;have hl:=kw (pL hh (.inl hk));refine(pK hz7.pg x.s aG).mono ?_;rintro _ w8 ⟨NX,rfl,UE,CO⟩;obtain⟨KS,NY,_⟩:=hz7.mv UE CO;exact⟨_,⟨.nilIface,rfl⟩,rfl,NY,fin KS (CO.after fN) (by rw[PX,aY k1,bc hk]) abA⟩
   ·have hk:x.k=3:=aas
    have hl:=kw (pL hh (.inr hk));rw[dP];omega
   ·have hk:x.k=3:=aas
    have hl:=kw (pL hh (.inr hk));rw[inz];have:(ar #[105,110,40]).size=3:=rfl;omega
   ·have hk:x.k=3:=aas
    have hl:=kw (pL hh (.inr hk));have UF:=D2.only dW;have KK:([105,110,40]++x.s++[41]:aJ).length=x.s.length+4:=by
     rw[aW,aW];simp only[bn,cZ];omega
    rw[inb];refine(pK UF.pg _ aG).mono ?_;rintro _ dN ⟨NX,rfl,UE,CO⟩;obtain⟨KS,NY,_⟩:=UF.mv UE CO;exact⟨_,⟨.nilIface,rfl⟩,rfl,NY,fin KS (CO.after dW) (by rw[PX,aY aG,aY aG,bc hk]) abA⟩
   ·have hk:x.k=4:=aas
    obtain⟨y,hy,F1⟩:=Sg hh hk;have adm:uC (pJ d) x.gp=pJ d y:=aeA
    have hay:fG d y=true:=acK
    have UG:rT d y:=hns y aee;have adn:=qs x.op.toNat;have F2:=D2.only ez;obtain⟨q,hq,hB⟩:=F2.pg.blk;obtain⟨ad,g1,g2⟩:=F2.sig (op:=x.op) aG aG;refine⟨sG,Blk.eh hB 2 rfl,ad,g1,_,g2,(pK F2.pg (mf x.op.toNat) aG).mono ?_⟩;rintro _ fS ⟨apq,rfl,ado,UH⟩;obtain⟨adp,adq,_⟩:=F2.mv ado UH;refine⟨_,⟨.nilIface,rfl⟩,rfl,adq,λia iY=>?_⟩;have KT:=adp.only iY;obtain⟨p1,sy,e1,e2,e3,e4⟩:=KT.sub (i:=0) (y:=y) aeB;refine⟨λk=>k<b∨k=k0,.inr rfl,p1,e1,.inl e2,_,_,_,_,_,_,e3,p1,e1,_,_,_,_,_,_,e3,(ph e4).mono ?_⟩;rintro _ io ⟨rfl,ic⟩;have KU:=KT.only ic;have NZ:=rC d (decide (iv y<6)) (vJ wr l++mf x.op.toNat) hay UG;rw[aW]at NZ;refine⟨_,rfl,KT.same ic,bS.only ic,(vu d (decide (iv y<6)) hay UG (li e4 ic) hF KU.tb hTb KU.pg abA).mono ?_⟩;rintro _ gn ⟨apr,rfl,adr,UI⟩;obtain⟨ads,adt,adu⟩:=KU.mv adr UI;exact⟨rfl,adt,adu,fin ads ((UH.after ez).trans ((UI.after ic).after iY)) (by rw[PX,aY aG,aY aG,aY aG,bc hk,hy]) aG⟩
   rintro _ j8 ⟨rfl,kj⟩;have k1:x.k≠1:=by simpa using k1
   have k2:x.k≠2:=by simpa using k2
   have k3:x.k≠3:=by simpa using k3
   have k4:x.k≠4:=by simpa using k4
   obtain⟨hk,y,z,hy,ho1,ho2⟩:=Sh hh k1 k2 k3 k4;have adm:uC (pJ d) x.gp=pJ d y+pJ d z:=aeA
   have F3:fG d y=true/\fG d z=true:=acK
   have UG:rT d y:=hns y aee;have hnz:rT d z:=hns z aee;have adn:=qs x.op.toNat;have adw:=D2.only kj;refine⟨_,rfl,D2.same kj,λjM nu=>?_⟩;have KV:=adw.only nu;obtain⟨p1,sy,e1,e2,e3,e4⟩:=KV.sub (i:=0) (y:=y) aeB;refine⟨λk=>k<b∨k=k0,.inr rfl,p1,e1,.inl e2,_,_,_,_,_,_,e3,p1,e1,_,_,_,_,_,_,e3,(ph e4).mono ?_⟩;rintro _ lQ ⟨rfl,kU⟩;have KW:=KV.only kU;have NZ:=rC d (decide (iv y<iv x)) (vJ wr l) F3.1 UG;refine⟨_,rfl,KV.same kU,bS.only kU,(vu d (decide (iv y<iv x)) F3.1 UG (li e4 kU) hF KW.tb hTb KW.pg aG).mono ?_⟩;rintro _ pR ⟨aps,rfl,adx,UJ⟩;obtain⟨ady,adz,adA⟩:=KW.mv adx UJ;refine⟨rfl,adz,adA,λpE lJ=>?_⟩;have F4:=ady.only lJ;obtain⟨q,hq,hB⟩:=F4.pg.blk;obtain⟨ad,g1,g2⟩:=F4.sig (op:=x.op) aG aG;have KK:([32]++mf x.op.toNat++[32]:aJ).length=(mf x.op.toNat).length+2:=by
    rw[aW,aW];simp only[bn,cZ];omega
   have pD:(ar #[32]).size=1:=rfl;refine⟨sG,Blk.eh hB 2 rfl,ad,g1,_,g2,abQ,by rw[inz];omega,?_⟩;rw[blb];refine(pK F4.pg _ aG).mono ?_;rintro _ oQ ⟨apt,rfl,adB,UK⟩;obtain⟨adC,adE,_⟩:=F4.mv adB UK;refine⟨_,⟨.nilIface,rfl⟩,rfl,adE,λob xj=>?_⟩;have KX:=adC.only xj;obtain⟨p2,sz,f1,f2,f3,f4⟩:=KX.sub (i:=1) (y:=z) aeB;refine⟨λk=>k<b∨k=k0,.inr rfl,p2,f1,.inl f2,_,_,_,_,_,_,f3,p2,f1,_,_,_,_,_,_,f3,(ph f4).mono ?_⟩;rintro _ rY ⟨rfl,jU⟩;have KY:=KX.only jU;have adF:=rC d (decide (iv z<=iv x)) (vK d y (decide (iv y<iv x)) (vJ wr l)++([32]++mf x.op.toNat++[32])) F3.2 hnz;rw[aW,KK]at adF;refine⟨_,rfl,KX.same jU,bS.only jU,(vu d (decide (iv z<=iv x)) F3.2 hnz (li f4 jU) hF KY.tb hTb KY.pg (by rw[aW,KK];omega)).mono ?_⟩;rintro _ vM ⟨apu,rfl,adG,UL⟩;obtain⟨adH,adI,adJ⟩:=KY.mv adG UL;exact⟨rfl,adI,adJ,fin adH (((UJ.after kU).after nu).after kj |>.trans ((UK.after lJ).trans ((UL.after jU).after xj))) (by rw[PX,aY k1,aY k2,aY k3,aY k4,hy]) aG⟩
  have adk:l=vJ wr l:=by unfold vJ;rw[hw];rfl
  have D2:Pz d F G k0 b xs sG x.gp w1 sl (vJ wr l):=by rw[<-adk];exact X2
  have fin:∀{NX:Sl} {w5:ay} {m:aJ},Pz d F G k0 b xs sG x.gp w5 NX m->uD b sl w1 NX w5->vK (d+1) x wr l=Ze wr m->m.length<=l.length+40*(1+uC (pJ d) x.gp)->∃pW,(Value.tuple #[])=ak #[]/\Pg G w5 b pW sG (vK (d+1) x wr l)/\uD b sl w pW w5:=by
   intro NX w5 m KS CO he Cs;refine⟨NX,rfl,?_,CO.after cO⟩;rw[he];unfold Ze;rw[hw];exact KS.pg
  refine⟨λhk w3 dz=>?_,λk1=>⟨λhk w7 fN=>?_,λk2=>⟨λhk=>⟨?_,?_,λdL dW=>?_⟩,λk3=>⟨λhk fI ez=>?_,λk4=>(ph (show Dd (d+1) _ F x (tB x.k x.n x.s x.op xs x.a)from⟨xs,rfl,D2.sb⟩)).mono ?_⟩⟩⟩⟩
  ·have hk:x.k=1:=aas
   have hz3:=D2.only dz;refine(zN x.n hni hz3.tb).mono ?_;rintro _ w4 ⟨rfl,dK⟩;have hz4:=hz3.only dK;have hl:=Lib.itoa_length_le x.n hni.1 hni.2;refine⟨_,rfl,hz3.same dK,(pK hz4.pg (Lib.itoa x.n) aG).mono ?_⟩;rintro _ w5 ⟨NX,rfl,UE,CO⟩;obtain⟨KS,NY,_⟩:=hz4.mv UE CO;exact⟨_,⟨.nilIface,rfl⟩,rfl,NY,fin KS ((CO.after dK).after dz) (by rw[PX,bc hk]) abA⟩
  ·have hk:x.k=2:=aas
   have k1:x.k≠1:=aG
   have hz7:=D2.only fN;have hl:=kw (pL hh (.inl hk));refine(pK hz7.pg x.s aG).mono ?_;rintro _ w8 ⟨NX,rfl,UE,CO⟩;obtain⟨KS,NY,_⟩:=hz7.mv UE CO;exact⟨_,⟨.nilIface,rfl⟩,rfl,NY,fin KS (CO.after fN) (by rw[PX,aY k1,bc hk]) abA⟩
  ·have hk:x.k=3:=aas
   have hl:=kw (pL hh (.inr hk));rw[dP];omega
  ·have hk:x.k=3:=aas
   have hl:=kw (pL hh (.inr hk));rw[inz];have:(ar #[105,110,40]).size=3:=rfl;omega
  ·have hk:x.k=3:=aas
   have hl:=kw (pL hh (.inr hk));have UF:=D2.only dW;have KK:([105,110,40]++x.s++[41]:aJ).length=x.s.length+4:=by
    rw[aW,aW];simp only[bn,cZ];omega
   rw[inb];refine(pK UF.pg _ aG).mono ?_;rintro _ dN ⟨NX,rfl,UE,CO⟩;obtain⟨KS,NY,_⟩:=UF.mv UE CO;exact⟨_,⟨.nilIface,rfl⟩,rfl,NY,fin KS (CO.after dW) (by rw[PX,aY aG,aY aG,bc hk]) abA⟩
  ·have hk:x.k=4:=aas
   obtain⟨y,hy,F1⟩:=Sg hh hk;have adm:uC (pJ d) x.gp=pJ d y:=aeA
   have hay:fG d y=true:=acK
   have UG:rT d y:=hns y aee;have adn:=qs x.op.toNat;have F2:=D2.only ez;obtain⟨q,hq,hB⟩:=F2.pg.blk;obtain⟨ad,g1,g2⟩:=F2.sig (op:=x.op) aG aG;refine⟨sG,Blk.eh hB 2 rfl,ad,g1,_,g2,(pK F2.pg (mf x.op.toNat) aG).mono ?_⟩;rintro _ fS ⟨apq,rfl,ado,UH⟩;obtain⟨adp,adq,_⟩:=F2.mv ado UH;refine⟨_,⟨.nilIface,rfl⟩,rfl,adq,λia iY=>?_⟩;have KT:=adp.only iY;obtain⟨p1,sy,e1,e2,e3,e4⟩:=KT.sub (i:=0) (y:=y) aeB;refine⟨λk=>k<b∨k=k0,.inr rfl,p1,e1,.inl e2,_,_,_,_,_,_,e3,p1,e1,_,_,_,_,_,_,e3,(ph e4).mono ?_⟩;rintro _ io ⟨rfl,ic⟩;have KU:=KT.only ic;have NZ:=rC d (decide (iv y<6)) (vJ wr l++mf x.op.toNat) hay UG;rw[aW]at NZ;refine⟨_,rfl,KT.same ic,bS.only ic,(vu d (decide (iv y<6)) hay UG (li e4 ic) hF KU.tb hTb KU.pg abA).mono ?_⟩;rintro _ gn ⟨apr,rfl,adr,UI⟩;obtain⟨ads,adt,adu⟩:=KU.mv adr UI;exact⟨rfl,adt,adu,fin ads ((UH.after ez).trans ((UI.after ic).after iY)) (by rw[PX,aY aG,aY aG,aY aG,bc hk,hy]) aG⟩
  rintro _ j8 ⟨rfl,kj⟩;have k1:x.k≠1:=by simpa using k1
  have k2:x.k≠2:=by simpa using k2
  have k3:x.k≠3:=by simpa using k3
  have k4:x.k≠4:=by simpa using k4
  obtain⟨hk,y,z,hy,ho1,ho2⟩:=Sh hh k1 k2 k3 k4;have adm:uC (pJ d) x.gp=pJ d y+pJ d z:=aeA
  have F3:fG d y=true/\fG d z=true:=acK
  have UG:rT d y:=hns y aee;have hnz:rT d z:=hns z aee;have adn:=qs x.op.toNat;have adw:=D2.only kj;refine⟨_,rfl,D2.same kj,λjM nu=>?_⟩;have KV:=adw.only nu;obtain⟨p1,sy,e1,e2,e3,e4⟩:=KV.sub (i:=0) (y:=y) aeB;refine⟨λk=>k<b∨k=k0,.inr rfl,p1,e1,.inl e2,_,_,_,_,_,_,e3,p1,e1,_,_,_,_,_,_,e3,(ph e4).mono ?_⟩;rintro _ lQ ⟨rfl,kU⟩;have KW:=KV.only kU;have NZ:=rC d (decide (iv y<iv x)) (vJ wr l) F3.1 UG;refine⟨_,rfl,KV.same kU,bS.only kU,(vu d (decide (iv y<iv x)) F3.1 UG (li e4 kU) hF KW.tb hTb KW.pg aG).mono ?_⟩;rintro _ pR ⟨aps,rfl,adx,UJ⟩;obtain⟨ady,adz,adA⟩:=KW.mv adx UJ;refine⟨rfl,adz,adA,λpE lJ=>?_⟩;have F4:=ady.only lJ;obtain⟨q,hq,hB⟩:=F4.pg.blk;obtain⟨ad,g1,g2⟩:=F4.sig (op:=x.op) aG aG;have KK:([32]++mf x.op.toNat++[32]:aJ).length=(mf x.op.toNat).length+2:=by
   rw[aW,aW];simp only[bn,cZ];omega
  have pD:(ar #[32]).size=1:=rfl;refine⟨sG,Blk.eh hB 2 rfl,ad,g1,_,g2,abQ,by rw[inz];omega,?_⟩;rw[blb];refine(pK F4.pg _ aG).mono ?_;rintro _ oQ ⟨apt,rfl,adB,UK⟩;obtain⟨adC,adE,_⟩:=F4.mv adB UK;refine⟨_,⟨.nilIface,rfl⟩,rfl,adE,λob xj=>?_⟩;have KX:=adC.only xj;obtain⟨p2,sz,f1,f2,f3,f4⟩:=KX.sub (i:=1) (y:=z) aeB;refine⟨λk=>k<b∨k=k0,.inr rfl,p2,f1,.inl f2,_,_,_,_,_,_,f3,p2,f1,_,_,_,_,_,_,f3,(ph f4).mono ?_⟩;rintro _ rY ⟨rfl,jU⟩;have KY:=KX.only jU;have adF:=rC d (decide (iv z<=iv x)) (vK d y (decide (iv y<iv x)) (vJ wr l)++([32]++mf x.op.toNat++[32])) F3.2 hnz;rw[aW,KK]at adF;refine⟨_,rfl,KX.same jU,bS.only jU,(vu d (decide (iv z<=iv x)) F3.2 hnz (li f4 jU) hF KY.tb hTb KY.pg (by rw[aW,KK];omega)).mono ?_⟩;rintro _ vM ⟨apu,rfl,adG,UL⟩;obtain⟨adH,adI,adJ⟩:=KY.mv adG UL;exact⟨rfl,adI,adJ,fin adH (((UJ.after kU).after nu).after kj |>.trans ((UK.after lJ).trans ((UL.after jU).after xj))) (by rw[PX,aY k1,aY k2,aY k3,aY k4,hy]) aG⟩
def uR(d:Nat)(x:Ex):aJ:=if fG d x=true then(if(pf (vK d x false [])).2.1≠0 then[]else vK d x false [])else[]
theorem abt{d:Nat}{w:ay}{F:aL}{x:Ex}{cs:aK}(hx:Dd d w F x cs)(hl:Bb d x)(hn:rT d x)(hE:Er w)(hT:Tb w)(hc:40*pJ d x<=70368744177664):
  aB au 221 #[aj cs.toArray] w λe w'=>e=aq (ah (T (uR d x)))/\aA [] w w':=by
 obtain⟨xs,rfl⟩:=uj hx;refine ret (amG _ _ _ _ _ _ _ _ ?_);intro k0 w0 gU fD cO;have hxi:=(pI d).inHeap hx;refine(L7 d hl (li hx cO)).mono ?_;rintro _ w1 ⟨rfl,cG⟩;have z0:=cO.size;have z1:=cG.size;have j9:=cO.cr cG;refine⟨_,rfl,cG.same aae,λhs=>?_,λhs=>(Za w1).mono ?_⟩
 ·have hs:fG d x=false:=by simpa using hs
  rw[uR,aY (by rw[hs];decide)];exact⟨rfl,j9⟩
 have hs:fG d x=true:=by simpa using hs
 rw[uR,bc hs];rintro _ w2 ⟨l0,rfl,Vw,dk⟩;have z2:=dk.size;refine⟨l0,rfl,dk.same aae,λk1 w3 kc jO dz xf=>?_⟩;have z3:=dz.size;have Ca:aA [] w w3:=(j9.cr dk).cr dz;have PX:Pg (λk=>w1.heap.size<=k/\k<w2.heap.size) w3 k1 Sl.nil l0 []:=⟨⟨none,.inl rfl,xf⟩,.inl ⟨rfl,rfl⟩,SliceF.only dJ aN Vw dz aac,λk hk=>adD⟩
 have hT3:=hT.only Ca;have ux:=hT.lt;refine(vu d false hs hn (li hxi Ca) (λk hk=>adD) hT3 aG PX ad1).mono ?_;rintro _ w4 ⟨sl4,rfl,hp4,hm4⟩;have z4:=hm4.1.size;have dK:aA [] w w4:=(Ca.mZ hm4.1).only λk hk=>by
  rcases hk with rfl | e
  ·omega
  cases e
 obtain⟨q,hq,sS⟩:=hp4.blk;refine⟨rfl,hm4.same aG (λe=>aeF) aG,q,sl4,l0,sS,(Sf hp4.pt).mono ?_⟩;rintro _ w5 ⟨rfl,ht5,eJ⟩;have z5:=eJ.size;have xb:=eJ.blk sS aG;have zw:aA [] w w5:=(dK.mZ eJ).only λk hk=>by have:=hk.1;omega
 refine⟨_,rfl,eJ.same aae,q,sl4,l0,xb,(abo _ (hE.only zw)).mono ?_⟩;rintro _ w6 ⟨cs,rfl,hX,eH⟩;have z6:=eH.size;obtain⟨xl,rfl,_⟩:=hX.cells;have KQ:=eH.blk xb aac;have ai6:=zw.cr eH;refine⟨_,_,_,_,_,_,_,_,rfl,eH.same aae,q,sl4,l0,KQ,λhr k2 k3 w7 _ _ _ _ fN _=>?_,λhr k4 k5 w8 zY CM CN F5 fX ve=>?_⟩
 ·rw[bc ad2];exact⟨rfl,ai6.cr fN⟩
 have z8:=fX.size;refine(Sf ((ht5.only eH).only fX)).mono ?_;rintro _ w9 ⟨rfl,ht9,gH⟩;rw[aY ad2];have gq:∀k,sl4.a=some ⟨k,0,none⟩->k<w4.heap.size:=λk hk=>(hp4.buf.lt hk).2;refine⟨_,rfl,gH.same λk hk=>?_,q,sl4,l0,gH.blk ve aG,rfl,((ai6.cr fX).mZ gH).only λk hk=>by have:=hk.1;omega⟩;simp only[aV,bp,cm]at hk;rcases hk with rfl | rfl | rfl
 ·exact⟨aG,λh=>by have:=h.1;omega⟩
 ·exact⟨CM,λh=>by have:=gq _ h.2;omega⟩
 exact⟨F5,λh=>by have:=gq _ h.2;omega⟩
theorem WD{ts:List Tk}{i:Nat}{e:Int×Int}(h:Wy ts i=.error e):e.1≠0:=by
 unfold Wy at h;split at h
 ·split at h
  ·split at h
   ·cases h
   injection h with h;subst h;exact iR
  injection h with h;subst h;exact iR
 injection h with h;subst h;exact iR
theorem Hu{r:Pr}{g:Ex->Nat->Pr}{e:Int×Int}(h:OA r g=.error e):r=.error e∨∃x j,r=.ok (x,j)/\g x j=.error e:=by
 cases r with
 | error e'=>exact .inl h
 | ok p=>exact .inr ⟨p.1,p.2,rfl,h⟩
theorem De{d:Nat}{a:Int}{r:Pr}{e:Int×Int}(h:rS d a r=.error e):r=.error e∨e.1=21:=by
 unfold rS at h;split at h
 ·injection h with h;subst h;exact .inr rfl
 exact .inl h
theorem Df{ts:List Tk}{E:Nat->Pr}{k:Int}{e:Int×Int}(hE:∀i,E i=.error e->e.1≠0):∀(g:Nat) (x:Ex) (j:Nat),nK ts E k g x j=.error e->e.1≠0
 | 0,x,j,h=>aal
 | g+1,x,j,h=>by
  rw[nK]at h;split at h
  ·cases h
  rcases Hu h with h1 | ⟨y,m,h1,h2⟩
  ·exact hE _ h1
  exact Df hE g _ _ h2
theorem qt{ts:List Tk}{e:Int×Int}:∀(f k d i:Nat),gj ts f k d i=.error e->e.1≠0
 | 0,k,d,i,h=>by
  rw[gj]at h;injection h with h;subst h;decide
 | f+1,k,d,i,h=>by
  rw[gj]at h;split at h
  ·unfold ER at h;split at h
   ·generalize hn:rS d (tk ts i).a (gj ts f 6 (d+1) (i+1))=r at h;cases r with
    | ok q=>cases h
    | error e'=>
     simp only[Wx]at h;injection h with h;subst h;rcases De hn with h1 | h1
     ·exact qt f _ _ _ h1
     rw[h1];decide
   split at h
   ·rcases De h with h1 | h1
    ·cases hr:gj ts f 0 (d+1) (i+1)with
     | error e'=>
      rw[hr]at h1;simp only[CE]at h1;injection h1 with h1;subst h1;exact qt f _ _ _ hr
     | ok q=>
      rw[hr]at h1;simp only[CE]at h1;split at h1
      ·cases h1
      injection h1 with h1;subst h1;exact iR
    rw[h1];decide
   split at h
   ·cases h
   split at h
   ·cases h
   split at h
   ·exact WD h
   injection h with h;subst h;exact iR
  rcases Hu h with h1 | ⟨y,m,h1,h2⟩
  ·exact qt f _ _ _ h1
  exact Df (λi hi=>qt f _ _ _ hi) _ _ _ h2
structure Ac where
 k:Int
 n:aJ
 x:Ex
 a:Int
structure Mv where
 k:Int
 ev:aJ
 wt:Int
 gd:Bool
 g:Ex
 acts:List Ac
 tg:List (aJ)
 a:Int
structure Nb where
 k:Int
 nm:aJ
 ini:aJ
 dft:aJ
 en:List Ac
 lv:List Ac
 mv:List Mv
 a:Int
inductive Nd where
 | mk (b:Nb) (kids:List Nd)
def Nd.b:Nd->Nb | .mk b _=>b
def Nd.kids:Nd->List Nd | .mk _ l=>l
structure Vr where
 n:aJ
 v:Int
 a:Int
structure Ch where
 vars:List Vr
 root:Nd
def nb0:Nb:=⟨0,[],[],[],[],[],[],0⟩
def OH:Nd:=.mk nb0 []
def ch0:Ch:=⟨[],OH⟩
def tkZ:Tk:=⟨0,[],0,0⟩
structure Sx where
 i:Nat
 fc:Int
 fa:Int
 v:Int
 n:Int
 d:Int
 m:Int
 a:Int
section
variable (ts:List Tk)
def iw(s:Sx)(c:Int):Sx:=if s.fc=0 then{s with fc:=c,fa:=(tk ts s.i).a}else s
def lj(s:Sx):Sx:=if(tk ts s.i).k=5 then iw ts (iw ts s 3) 4 else iw ts s 4
def uS(c:aJ):List (aJ)->Nat
 | []=>0
 | x::l=>if c=x then 0 else uS c l+1
def dr(s:Sx)(l:List (aJ)):Nat:=
 if s.fc≠0∨((tk ts s.i).k≠2/\(tk ts s.i).k≠4)then 0 else if uS (tk ts s.i).t l<l.length then uS (tk ts s.i).t l+1 else 0
def dM(s:Sx):Sx:={s with i:=s.i+1}
def eW(s:Sx)(x:aJ):Sx:=if dr ts s [x]=0 then lj ts s else dM s
def ix(s:Sx)(k:Int):Tk×Sx:=if s.fc≠0∨(tk ts s.i).k≠k then(tkZ,lj ts s)else(tk ts s.i,dM s)
def jH(s:Sx):aJ×Sx:=((ix ts s 1).1.t,(ix ts s 1).2)
def qu(s:Sx):Ex×Sx:=
 if s.fc≠0 then(Hq,s)
 else if(dI ts s.i).2.2.1≠0 then((dI ts s.i).1,{s with fc:=(dI ts s.i).2.2.1,fa:=(dI ts s.i).2.2.2})
 else((dI ts s.i).1,{s with i:=(dI ts s.i).2.1.toNat})
def zO(x:Int):Int:=av ae (x-1)
def inc(x:Int):Int:=av ae (x+1)
def vw(s:Sx):Sx:=if s.a=0 then{iw ts s 2 with a:=zO s.a}else{s with a:=zO s.a}
def tC(s:Sx):Sx:=if s.m=0 then{iw ts s 2 with m:=zO s.m}else{s with m:=zO s.m}
def Hv(s:Sx):Sx:=if s.n=0 then{iw ts s 2 with n:=zO s.n}else{s with n:=zO s.n}
def Hw(s:Sx):Sx:=if s.v=0 then{iw ts s 2 with v:=zO s.v}else{s with v:=zO s.v}
def uE:aJ:=[115,101,116]
def lk:aJ:=[114,97,105,115,101]
def nL:aJ:=[101,109,105,116]
def JR:aJ:=[111,110]
def kK:aJ:=[97,108,119,97,121,115]
def kQ:aJ:=[97,102,116,101,114]
def iy:aJ:=[105,110,105,116,105,97,108]
def ke:aJ:=[101,110,116,101,114]
def kf:aJ:=[108,101,97,118,101]
def EW:aJ:=[115,116,97,116,101]
def uk:aJ:=[112,97,114,97,108,108,101,108]
def wu:aJ:=[104,105,115,116,111,114,121]
def Mc:aJ:=[100,101,101,112]
def gZ:aJ:=[99,104,97,114,116]
def Hx:aJ:=[118,97,114]
def OI(s:Sx)(k:Nat)(n:aJ)(a:Int):Ac×Sx:=
 if k=2 then(⟨k,n,Hq,a⟩,eW ts s [59])
 else(⟨k,n,(qu ts (eW ts s [61])).1,a⟩,eW ts (qu ts (eW ts s [61])).2 [59])
def sA(s:Sx):Ac×Sx:=
 if dr ts s [uE,lk,nL]=0 then(⟨0,[],Hq,(tk ts s.i).a⟩,lj ts s)
 else if(vw ts s).fc≠0 then(⟨(dr ts s [uE,lk,nL]),[],Hq,(tk ts s.i).a⟩,vw ts s)
 else OI ts (jH ts (dM (vw ts s))).2 (dr ts s [uE,lk,nL]) (jH ts (dM (vw ts s))).1 (tk ts s.i).a
def tD:Nat->List Ac->Sx->List Ac×Sx
 | 0,acc,s=>(acc,s)
 | f+1,acc,s=>if s.fc≠0 then(acc,s)else if dr ts s [[125]]≠0 then(acc,dM s)else tD f (acc++[(sA ts s).1]) (sA ts s).2
def jz(s:Sx):List Ac×Sx:=tD ts (ts.length+1) [] (eW ts s [123])
def yI:Nat->aJ->List (aJ)->Sx->List (aJ)×Sx
 | 0,_,acc,s=>(acc,s)
 | f+1,x,acc,s=>if dr ts s [x]=0 then(acc,s)else yI f [44] (acc++[(jH ts (dM s)).1]) (jH ts (dM s)).2
def Hy(m:Mv)(s:Sx):Mv×Sx:=
 ({m with tg:=(yI ts (ts.length+1) [45,62] [] s).1},eW ts (yI ts (ts.length+1) [45,62] [] s).2 [59])
def Dg(m:Mv)(s:Sx):Mv×Sx:=
 if dr ts s [[123]]=0 then Hy ts m s else Hy ts {m with acts:=(jz ts s).1} (jz ts s).2
def qv(m:Mv)(s:Sx):Mv×Sx:=
 if dr ts s [[91]]=0 then Dg ts m s else Dg ts {m with gd:=true,g:=(qu ts (dM s)).1} (eW ts (qu ts (dM s)).2 [93])
def Zg(k a:Int):Mv:=⟨k,[],0,false,Hq,[],[],a⟩
def oz(k:Int)(s:Sx):Mv×Sx:=
 if(tC ts s).fc≠0 then(Zg k (tk ts s.i).a,tC ts s)
 else if k=1 then qv ts {Zg k (tk ts s.i).a with ev:=(jH ts (dM (tC ts s))).1} (jH ts (dM (tC ts s))).2
 else if k=3 then qv ts {Zg k (tk ts s.i).a with wt:=(ix ts (dM (tC ts s)) 3).1.n} (ix ts (dM (tC ts s)) 3).2
 else qv ts (Zg k (tk ts s.i).a) (dM (tC ts s))
structure PY where
 i:Bool
 e:Bool
 l:Bool
def fp(n:Nb)(h:PY)(s:Sx):Bool×Nb×PY×Sx:=
 if dr ts s [JR,kK,kQ]≠0 then(true,{n with mv:=n.mv++[(oz ts (dr ts s [JR,kK,kQ]) s).1]},h,(oz ts (dr ts s [JR,kK,kQ]) s).2)
 else match dr ts s [iy,ke,kf]with
  | 0=>(false,n,h,s)
  | 1=>if h.i then(false,n,h,lj ts s)else(true,{n with ini:=(jH ts (dM s)).1},{h with i:=true},eW ts (jH ts (dM s)).2 [59])
  | 2=>if h.e then(false,n,h,lj ts s)else(true,{n with en:=(jz ts (dM s)).1},{h with e:=true},(jz ts (dM s)).2)
  | _=>if h.l then(false,n,h,lj ts s)else(true,{n with lv:=(jz ts (dM s)).1},{h with l:=true},(jz ts (dM s)).2)
def kx:Nat->Nb->PY->Sx->Nb×Sx
 | 0,n,_,s=>(n,s)
 | f+1,n,h,s=>if s.fc≠0 then(n,s)
  else if(fp ts n h s).1 then kx f (fp ts n h s).2.1 (fp ts n h s).2.2.1 (fp ts n h s).2.2.2 else((fp ts n h s).2.1,(fp ts n h s).2.2.2)
def rD:List (aJ):=[EW,uk,wu,Mc]
def wv(N:Int->Sx->Nd×Sx):Nat->List Nd->Sx->List Nd×Sx
 | 0,acc,s=>(acc,s)
 | f+1,acc,s=>if dr ts s rD=0 then(acc,s)else wv N f (acc++[(N (dr ts s rD) (dM s)).1]) (N (dr ts s rD) (dM s)).2
def rU(N:Int->Sx->Nd×Sx)(n:Nb)(s:Sx):Nd×Sx:=
 let c:=kx ts (ts.length+1) n ⟨false,false,false⟩ {s with d:=zO s.d}
 let k:=wv ts N (ts.length+1) [] c.2
 (.mk c.1 k.1,eW ts {k.2 with d:=inc k.2.d} [125])
def rV(s:Sx):Sx:=if(tk ts s.i).k=1 then(if(Hv ts s).d=0 then iw ts (Hv ts s) 21 else Hv ts s)else s
def fu(k:Int)(s:Sx):Nb×Sx:=({nb0 with k:=k,nm:=(ix ts (rV ts s) 1).1.t,a:=(ix ts (rV ts s) 1).1.a},(ix ts (rV ts s) 1).2)
def lm:Nat->Int->Sx->Nd×Sx
 | 0,_,s=>(OH,s)
 | f+1,k,s=>
  if 3<=k then(.mk {(fu ts k s).1 with dft:=(jH ts (eW ts (fu ts k s).2 [45,62])).1} [],eW ts (jH ts (eW ts (fu ts k s).2 [45,62])).2 [59])
  else rU ts (lm f) (fu ts k s).1 (eW ts (fu ts k s).2 [123])
def vA(s:Sx):Vr×Sx:=
 let s1:=if(tk ts s.i).k=1 then Hw ts s else s
 let t:=ix ts s1 1
 let s2:=eW ts t.2 [61]
 let g:=dr ts s2 [[45]]
 let q:=ix ts (if g=0 then s2 else dM s2) 3
 (⟨t.1.t,if g=0 then q.1.n else av ae (-q.1.n),t.1.a⟩,eW ts q.2 [59])
def yJ:Nat->List Vr->Sx->List Vr×Sx
 | 0,acc,s=>(acc,s)
 | f+1,acc,s=>if dr ts s [Hx]=0 then(acc,s)else yJ f (acc++[(vA ts (dM s)).1]) (vA ts (dM s)).2
def I5:Sx:=⟨0,0,0,16,64,12,200,400⟩
def OJ(s:Sx):Sx:=if s.fc=0/\(tk ts s.i).k≠5 then lj ts s else s
def Bd:Ch×Sx:=
 let n:=fu ts 1 (eW ts I5 gZ)
 let v:=yJ ts (ts.length+1) [] (eW ts n.2 [123])
 let b:=rU ts (lm ts 14) n.1 v.2
 (⟨v.1,b.1⟩,OJ ts b.2)
end
def eO(l:aJ):Ch×Int×Int:=
 if(dC l).2.1≠0 then(ch0,(dC l).2.1,(dC l).2.2)
 else if(Bd (dC l).1).2.fc≠0 then(ch0,(Bd (dC l).1).2.fc,(Bd (dC l).1).2.fa)
 else((Bd (dC l).1).1,0,0)
def mu(ts:List Tk)(s:Sx):Nat:=if s.fc=0 then ts.length-s.i else 0
structure On0 (ts:List Tk) (s s':Sx):Prop where
 lt:s.i<ts.length->s'.i<ts.length
 le:s'.fc=0->s.fc=0/\s.i<=s'.i
structure On (ts:List Tk) (s s':Sx):Prop extends On0 ts s s' where
 d:s'.d=s.d
section
variable {ts:List Tk} {s s' s'':Sx}
theorem On0.refl ts s:On0 ts s s:=⟨id,λh=>⟨h,ba _⟩⟩
theorem On.refl ts s:On ts s s:=⟨On0.refl ts s,rfl⟩
theorem On0.trans(h:On0 ts s s')(k:On0 ts s' s''):On0 ts s s'':=⟨λx=>k.lt (h.lt x),λe=>by
 obtain⟨a,b⟩:=k.le e;obtain⟨c,d⟩:=h.le a;exact⟨c,bf d b⟩⟩
theorem On.trans(h:On ts s s')(k:On ts s' s''):On ts s s'':=⟨h.toOn0.trans k.toOn0,k.d.trans h.d⟩
theorem On0.mu(h:On0 ts s s'):mu ts s'<=mu ts s:=by
 unfold Con.mu;by_cases e:s'.fc=0
 ·obtain⟨a,b⟩:=h.le e;rw[bc e,bc a];omega
 rw[aY e];exact bh _
theorem pj c:On ts s (iw ts s c):=by
 unfold iw;by_cases e:s.fc=0
 ·rw[bc e];exact⟨⟨id,λ_=>⟨e,ba _⟩⟩,rfl⟩
 rw[aY e];exact On.refl _ _
theorem Md{c}(hc:c≠0):(iw ts s c).fc≠0:=by
 unfold iw;by_cases e:s.fc=0
 ·rw[bc e];exact hc
 rw[aY e];exact e
theorem EX c:(iw ts s c).i=s.i:=by
 unfold iw;split<;>rfl
theorem qw:(lj ts s).fc≠0:=by
 unfold lj;split<;>exact Md aN
theorem qx:On ts s (lj ts s):=by
 unfold lj;split
 ·exact(pj 3).trans (pj 4)
 exact pj 4
theorem Hz l:dr ts s l<=l.length:=by
 unfold dr;split
 ·exact bh _
 split<;>omega
theorem dA{l}(h:dr ts s l≠0):s.fc=0/\(tk ts s.i).k≠5:=by
 unfold dr at h;split at h
 ·exact absurd rfl h
 rename_i hc;by_cases e:s.fc=0
 ·refine⟨e,λe5=>hc (.inr ?_)⟩;rw[e5];exact⟨aN,aN⟩
 exact absurd (.inl e) hc
theorem lp(hE:xO ts)(h0:s.fc=0)(hk:(tk ts s.i).k≠5):On ts s (dM s):=⟨⟨λh=>hE.next h hk,λ_=>⟨h0,iM _⟩⟩,rfl⟩
theorem iz(hE:xO ts) x:On ts s (eW ts s x):=by
 unfold eW;by_cases h:dr ts s [x]=0
 ·rw[bc h];exact qx
 rw[aY h];exact lp hE (dA h).1 (dA h).2
theorem ww(hE:xO ts){k}(hk:k≠5):On ts s (ix ts s k).2:=by
 unfold ix;by_cases h:s.fc≠0∨(tk ts s.i).k≠k
 ·rw[bc h];exact qx
 rw[aY h];simp at h;exact lp hE h.1 (by rw[h.2];exact hk)
theorem po(hE:xO ts):On ts s (jH ts s).2:=ww hE aN
end
section
variable {ts:List Tk} (hE:xO ts)
include hE
theorem abu{i}{x}{j}(hi:i<ts.length)(hk:(tk ts i).k≠5)(h:Wy ts i=.ok (x,j)):j<ts.length:=by
 unfold Wy at h;split at h
 ·rename_i h1;split at h
  ·rename_i h2;split at h
   ·rename_i h3;have l4:=hE.next (hE.next (hE.next (hE.next hi hk) (EP h1)) (by rw[h2];decide)) (EP h3);simp at h;omega
   cases h
  cases h
 cases h
theorem WE{E0 O9}{d i}{x}{j}(hE0:∀i x j,i<ts.length->E0 i=.ok (x,j)->j<ts.length)(hO:∀i x j,i<ts.length->O9 i=.ok (x,j)->j<ts.length)(hi:i<ts.length)(h:ER ts E0 O9 d i=.ok (x,j)):j<ts.length:=by
 unfold ER at h;split at h
 ·rename_i hs;obtain⟨y,h1,_⟩:=L1 h;refine hO _ _ _ (hE.next hi ?_) (wo h1).1;rcases bU _ _▸hs with hs | hs<;>exact EP hs
 split at h
 ·rename_i hs;obtain⟨j',h1,h2,rfl⟩:=L2 (wo h).1;exact hE.next (hE0 _ _ _ (hE.next hi (EP hs)) h1) (EP h2)
 split at h
 ·rename_i hk;simp at h;have:=hE.next hi (by rw[hk];decide);omega
 split at h
 ·rename_i hk;simp at h;have:=hE.next hi (by rw[hk];decide);omega
 split at h
 ·rename_i hk;exact abu hE hi (by rw[hk.1];decide) h
 cases h
theorem HA{E}{k}(hE':∀i x j,i<ts.length->E i=.ok (x,j)->j<ts.length):∀g x j {x':Ex} {j':Nat},j<ts.length->nK ts E k g x j=.ok (x',j')->j'<ts.length
 | 0,x,j,x',j',hj,h=>by
  simp[nK,jw,jP]at h;omega
 | g+1,x,j,x',j',hj,h=>by
  rw[nK]at h;split at h
  ·simp at h;omega
  rename_i ho;obtain⟨y,m,h1,h2⟩:=zM h;exact HA hE' g _ _ (hE' _ _ _ (hE.next hj (xQ _ _ ho)) h1) h2
theorem tE:∀f k d i {x:Ex} {j:Nat},i<ts.length->gj ts f k d i=.ok (x,j)->j<ts.length
 | 0,_,_,_,_,_,_,h=>aal
 | f+1,k,d,i,x,j,hi,h=>by
  rw[gj]at h;split at h
  ·exact WE hE (λi x j hi h=>tE f _ _ i hi h) (λi x j hi h=>tE f _ _ i hi h) hi h
  obtain⟨y,m,h1,h2⟩:=zM h;exact HA hE (λi x j hi h=>tE f _ _ i hi h) _ _ _ (tE f _ _ _ hi h1) h2
theorem OK{i:Nat}(h0:(dI ts i).2.2.1=0):∃j:Nat,(dI ts i).2.1=j/\i<j/\j<ts.length:=by
 unfold dI at h0⊢;split at h0
 ·rename_i hc;rw[bc hc];have hi:i<ts.length:=by have:=hc.2.1;omega
  rw[aU]at h0⊢;unfold JP at h0⊢;cases he:gj ts _ 0 0 i with
  | error e=>
   rw[he]at h0;exact absurd h0 (qt _ _ _ _ he)
  | ok q=>
   obtain⟨x,j⟩:=q;exact⟨j,rfl,mg _ _ _ _ he,tE hE _ _ _ _ hi he⟩
 cases h0
theorem pq{s s'}(h0:s.fc=0)(hi:s.i<ts.length)(hk:(tk ts s.i).k≠5)(h:On0 ts (dM s) s'):mu ts s'<mu ts s:=by
 have h1:=h.mu;have e1:mu ts s=ts.length-s.i:=by unfold mu;rw[bc h0]
 have e2:mu ts (dM s)=ts.length-(s.i+1):=by unfold mu dM;rw[bc h0]
 omega
set_option linter.unusedSectionVars false in
theorem xR {s s':Sx} (h0:s.fc=0) (hi:s.i<ts.length) (h:s'.fc≠0):mu ts s'<mu ts s:=by
 unfold mu;rw[aY h,bc h0];omega
theorem Me s:On ts s (qu ts s).2:=by
 unfold qu;by_cases h0:s.fc≠0
 ·rw[bc h0];exact On.refl _ _
 rw[aY h0];by_cases h1:(dI ts s.i).2.2.1≠0
 ·rw[bc h1];exact⟨⟨id,λh=>absurd h h1⟩,rfl⟩
 rw[aY h1];obtain⟨j,e,l1,l2⟩:=OK hE (i:=s.i) abB;rw[e,aU];exact⟨⟨λ_=>l2,λh=>⟨h,Nat.le_of_lt l1⟩⟩,rfl⟩
omit hE in
theorem EY (s:Sx):On ts s (vw ts s):=by
 unfold vw;split
 ·have h:=pj (ts:=ts) (s:=s) 2;exact⟨⟨h.lt,h.le⟩,h.d⟩
 exact⟨⟨id,λh=>⟨h,ba _⟩⟩,rfl⟩
omit hE in
theorem EZ (s:Sx):On ts s (tC ts s):=by
 unfold tC;split
 ·have h:=pj (ts:=ts) (s:=s) 2;exact⟨⟨h.lt,h.le⟩,h.d⟩
 exact⟨⟨id,λh=>⟨h,ba _⟩⟩,rfl⟩
omit hE in
theorem E1 (s:Sx):On ts s (Hv ts s):=by
 unfold Hv;split
 ·have h:=pj (ts:=ts) (s:=s) 2;exact⟨⟨h.lt,h.le⟩,h.d⟩
 exact⟨⟨id,λh=>⟨h,ba _⟩⟩,rfl⟩
omit hE in
theorem WG (s:Sx):On ts s (Hw ts s):=by
 unfold Hw;split
 ·have h:=pj (ts:=ts) (s:=s) 2;exact⟨⟨h.lt,h.le⟩,h.d⟩
 exact⟨⟨id,λh=>⟨h,ba _⟩⟩,rfl⟩
omit hE in
theorem E2 (s:Sx):(vw ts s).i=s.i:=by
 unfold vw;split
 ·exact EX 2
 rfl
omit hE in
theorem E3 (s:Sx):(tC ts s).i=s.i:=by
 unfold tC;split
 ·exact EX 2
 rfl
theorem Mf s k n a:On ts s (OI ts s k n a).2:=by
 unfold OI;split
 ·exact iz hE _
 exact((iz hE _).trans (Me hE _)).trans (iz hE _)
theorem Si s u (hu:On ts s u) (hi:u.i=s.i) (h0:u.fc=0) (hk:(tk ts s.i).k≠5):On ts s (dM u):=hu.trans (lp hE h0 (by rw[hi];exact hk))
theorem abv s:On ts s (sA ts s).2:=by
 unfold sA;split
 ·exact qx
 rename_i h;split
 ·exact EY s
 rename_i h0;exact(Si hE s _ (EY s) (E2 s) (by simpa using h0) (dA h).2).trans ((po hE).trans (Mf hE _ _ _ _))
theorem abw{s}(h0:s.fc=0)(hi:s.i<ts.length):mu ts (sA ts s).2<mu ts s:=by
 unfold sA;split
 ·exact xR hE h0 hi qw
 rename_i h;split
 ·rename_i h1;exact xR hE h0 hi h1
 rename_i h1;have e:=E2 (ts:=ts) s;exact cq (pq hE abB (by rw[e];exact hi) (by rw[e];exact(dA h).2) ((po hE).trans (Mf hE _ _ _ _)).toOn0) (EY (ts:=ts) s).mu
theorem Mg:∀f acc s,On ts s (tD ts f acc s).2
 | 0,_,s=>On.refl _ _
 | f+1,acc,s=>by
  rw[tD];split
  ·exact On.refl _ _
  split
  ·rename_i h;exact lp hE (dA h).1 (dA h).2
  exact(abv hE s).trans (Mg f _ _)
theorem tF s:On ts s (jz ts s).2:=(iz hE _).trans (Mg hE _ _ _)
theorem Mh:∀f x acc s,On ts s (yI ts f x acc s).2
 | 0,_,_,s=>On.refl _ _
 | f+1,x,acc,s=>by
  rw[yI];split
  ·exact On.refl _ _
  rename_i h;exact((lp hE (dA h).1 (dA h).2).trans (po hE)).trans (Mh f _ _ _)
theorem HB m s:On ts s (Hy ts m s).2:=(Mh hE _ _ _ _).trans (iz hE _)
theorem HC m s:On ts s (Dg ts m s).2:=by
 unfold Dg;split
 ·exact HB hE _ _
 exact(tF hE _).trans (HB hE _ _)
theorem Be m s:On ts s (qv ts m s).2:=by
 unfold qv;split
 ·exact HC hE _ _
 rename_i h;exact(((lp hE (dA h).1 (dA h).2).trans (Me hE _)).trans (iz hE _)).trans (HC hE _ _)
theorem HD(k:Int)(s u:Sx) m:On ts u (if k=1 then qv ts {m with ev:=(jH ts u).1} (jH ts u).2 else if k=3 then qv ts {m with wt:=(ix ts u 3).1.n} (ix ts u 3).2 else qv ts m u).2:=by
 split
 ·exact(po hE).trans (Be hE _ _)
 split
 ·exact(ww hE aN).trans (Be hE _ _)
 exact Be hE _ _
theorem WH k s (hk:(tk ts s.i).k≠5):On ts s (oz ts k s).2:=by
 unfold oz;split
 ·exact EZ s
 rename_i h1;exact(Si hE s _ (EZ s) (E3 s) abB hk).trans (HD hE k s _ _)
theorem WI k {s} (h0:s.fc=0) (hi:s.i<ts.length) (hk:(tk ts s.i).k≠5):mu ts (oz ts k s).2<mu ts s:=by
 unfold oz;split
 ·rename_i h1;exact xR hE h0 hi h1
 rename_i h1;have e:=E3 (ts:=ts) s;exact cq (pq hE abB (by rw[e];exact hi) (by rw[e];exact hk) (HD hE k s _ _).toOn0) (EZ (ts:=ts) s).mu
theorem Dh n h s:On ts s (fp ts n h s).2.2.2:=by
 unfold fp;split
 ·rename_i hw;exact WH hE _ s (dA hw).2
 split
 ·exact On.refl _ _
 ·rename_i hw;have hw:dr ts s [iy,ke,kf]≠0:=aeM
  split
  ·exact qx
  exact((lp hE (dA hw).1 (dA hw).2).trans (po hE)).trans (iz hE _)
 ·rename_i hw;have hw:dr ts s [iy,ke,kf]≠0:=aeM
  split
  ·exact qx
  exact(lp hE (dA hw).1 (dA hw).2).trans (tF hE _)
 rename_i h0 h1 h2;have hw:=h0;split
 ·exact qx
 exact(lp hE (dA hw).1 (dA hw).2).trans (tF hE _)
theorem OL n h {s} (h0:s.fc=0) (hi:s.i<ts.length) (ht:(fp ts n h s).1=true):mu ts (fp ts n h s).2.2.2<mu ts s:=by
 unfold fp at ht⊢;split
 ·rename_i hw;exact WI hE _ h0 hi (dA hw).2
 rename_i hw0;rw[aY hw0]at ht;split
 ·rename_i hw;rw[hw]at ht;cases ht
 ·rename_i hw;have hw:dr ts s [iy,ke,kf]≠0:=aeM
  split
  ·exact xR hE h0 hi qw
  exact pq hE h0 hi (dA hw).2 ((po hE).trans (iz hE _)).toOn0
 ·rename_i hw;have hw:dr ts s [iy,ke,kf]≠0:=aeM
  split
  ·exact xR hE h0 hi qw
  exact pq hE h0 hi (dA hw).2 (tF hE _).toOn0
 rename_i h1 _ _;split
 ·exact xR hE h0 hi qw
 exact pq hE h0 hi (dA h1).2 (tF hE _).toOn0
theorem vB:∀f n h s,On ts s (kx ts f n h s).2
 | 0,_,_,s=>On.refl _ _
 | f+1,n,h,s=>by
  rw[kx];split
  ·exact On.refl _ _
  split
  ·exact(Dh hE n h s).trans (vB f _ _ _)
  exact Dh hE n h s
theorem Mi{N} d (hN:∀k s,s.d=d->s.fc=0->On ts s (N k s).2):∀f acc s,s.d=d->On ts s (wv ts N f acc s).2
 | 0,_,s,_=>On.refl _ _
 | f+1,acc,s,hd=>by
  rw[wv];split
  ·exact On.refl _ _
  rename_i h;have h1:=(lp hE (dA h).1 (dA h).2).trans (hN (dr ts s rD) _ hd (dA h).1);exact h1.trans (Mi d hN f _ _ (h1.d.trans hd))
theorem WJ{N}{n}{s}(hd:rf s.d)(hN:∀k u,u.d=zO s.d->u.fc=0->On ts u (N k u).2):On ts s (rU ts N n s).2:=by
 unfold rU;have h1:=vB hE (ts.length+1) n ⟨false,false,false⟩ {s with d:=zO s.d};have h3:=h1.trans (Mi hE _ hN (ts.length+1) [] _ h1.d);have h4:=iz hE [125] (s:={(wv ts N (ts.length+1) [] (kx ts (ts.length+1) n ⟨false,false,false⟩ {s with d:=zO s.d}).2).2 with d:=inc (wv ts N (ts.length+1) [] (kx ts (ts.length+1) n ⟨false,false,false⟩ {s with d:=zO s.d}).2).2.d});refine⟨⟨λh=>h4.lt (h3.lt h),λe=>?_⟩,h4.d.trans ?_⟩
 ·obtain⟨a,b⟩:=h4.le e;obtain⟨c,d⟩:=h3.le a;exact⟨c,bf d b⟩
 rw[h3.d];unfold inc zO;have:=hd.1;have:=hd.2;simp[IntKind.wrap_i64];omega
omit hE in
theorem WK (s:Sx):On ts s (rV ts s):=by
 unfold rV;split
 ·split
  ·exact(E1 s).trans (pj _)
  exact E1 s
 exact On.refl _ _
theorem Bg k s:On ts s (fu ts k s).2:=(WK s).trans (ww hE aN)
omit hE in
theorem WL {k:Int} {s:Sx} (h:(fu ts k s).2.fc=0):s.d≠0:=λe=>by
 revert h;unfold fu ix;dsimp only;by_cases h1:(tk ts s.i).k=1
 ·have hf:(rV ts s).fc≠0:=by
   unfold rV;rw[bc h1,bc ((E1 s).d.trans e)];exact Md aN
  rw[bc (.inl hf)];exact qw
 have e2:rV ts s=s:=by unfold rV;rw[aY h1]
 rw[e2,bc (.inr h1)];exact qw
theorem Mj:∀(f:Nat) (k:Int) (s:Sx),rf s.d->On ts s (lm ts f k s).2
 | 0,_,s,_=>On.refl _ _
 | f+1,k,s,hd=>by
  rw[lm];have h1:=Bg hE k s;split
  ·exact((h1.trans (iz hE _)).trans (po hE)).trans (iz hE _)
  have h2:=h1.trans (iz hE [123]);refine h2.trans (WJ hE (by rw[h2.d];exact hd) λk u hu _=>Mj f k u ?_);rw[hu];exact Q2 _
theorem Sj(s:Sx):On ts s (vA ts s).2:=by
 unfold vA;dsimp only;have h1:On ts s (if(tk ts s.i).k=1 then Hw ts s else s):=by
  split
  ·exact WG s
  exact On.refl _ _
 have h2:∀u:Sx,On ts u (if dr ts u [[45]]=0 then u else dM u):=λu=>by
  split
  ·exact On.refl _ _
  rename_i h;exact lp hE (dA h).1 (dA h).2
 exact((((h1.trans (ww hE aN)).trans (iz hE _)).trans (h2 _)).trans (ww hE aN)).trans (iz hE _)
end
def Mk(w:ay)(F:aL)(e:TypeId)(size:Nat)(s:Sl):Prop:=s.n=0∨∃g cs,s.a=some ⟨g,0,none⟩/\F g/\aH w g e cs/\s.n*size<=cs.length
def j5{α:Type}(t:Bool)(r:Rp α)(size:Nat)(e:TypeId)(w:ay)(F:aL)(s:Sl)(xs:List α):Prop:=aD r size w F s xs/\(t=true->Mk w F e size s)
section
variable {α:Type} {t:Bool} {r q:Rp α} {size:Nat} {e:TypeId} {w w':ay} {F G:aL} {s:Sl} {xs:List α} {B:Nat}
theorem Mk.keep(h:Mk w F e size s)(hk:∀k,F k->k<w.heap.size->w'.heap[k]? =w.heap[k]?):Mk w' F e size s:=by
 rcases h with h | ⟨g,cs,h1,h2,h3,h4⟩
 ·exact .inl h
 exact .inr ⟨g,cs,h1,h2,(hk g h2 h3.lt).trans h3,h4⟩
theorem Mk.mono(h:Mk w F e size s)(hk:∀k,F k->k<w.heap.size->G k):Mk w G e size s:=by
 rcases h with h | ⟨g,cs,h1,h2,h3,h4⟩
 ·exact .inl h
 exact .inr ⟨g,cs,h1,hk g h2 h3.lt,h3,h4⟩
theorem j5.keep(hr:r.Ok)(h:j5 t r size e w F s xs)(hs:0<size)(hk:∀k,F k->k<w.heap.size->w'.heap[k]? =w.heap[k]?):j5 t r size e w' F s xs:=⟨h.1.keep hr hs hk,λx=>(h.2 x).keep hk⟩
theorem j5.inHeap(hr:r.Ok)(h:j5 t r size e w F s xs)(hs:0<size):j5 t r size e w (λk=>F k/\k<w.heap.size) s xs:=⟨h.1.inHeap hr hs,λx=>(h.2 x).mono λk a b=>⟨a,b⟩⟩
theorem j5.mono(hr:r.Ok)(h:j5 t r size e w F s xs)(hk:∀k,F k->G k):j5 t r size e w G s xs:=⟨h.1.mono hr hk,λx=>(h.2 x).mono λk a _=>hk k a⟩
theorem j5.nil(t:Bool)(r:Rp α)(size:Nat)(e:TypeId)(w:ay)(F:aL):j5 t r size e w F Sl.nil []:=⟨SliceF.nil _ _ _ _,λ_=>.inl rfl⟩
theorem j5.imp(h:j5 t r size e w F s xs)(hi:∀x cs,x∈xs->r w F x cs->q w F x cs):j5 t q size e w F s xs:=⟨L6 h.1 hi,h.2⟩
theorem j5.off(h:j5 t r size e w F s xs)(hi:∀x cs,x∈xs->r w F x cs->q w F x cs):j5 false q size e w F s xs:=⟨L6 h.1 hi,λh=>aal⟩
theorem _root_.Go.Kt.Own.sl(hr:r.Ok)(h:Own r size e B w F s xs)(hF:∀k,B<=k->F k):j5 true r size e w F s xs:=by
 refine⟨(h.slice hr).mono hr λk hk=>hk.elim id λx=>hF k x.1,λ_=>?_⟩;rcases h with⟨rfl,rfl⟩ | ⟨g,css,tail,h1,h2,h4,h5,h6,h7,h9,h8⟩
 ·exact .inl rfl
 exact .inr ⟨g,_,h1,hF g h2,h4,by rw[aW,lV.Ky h8,<-h6];omega⟩
end
def Ml(t:Bool):Nat->Rp Ex
 | 0=>λ_ _ _ _=>False
 | d+1=>λw F x cs=>∃sl:Sl,cs=tB x.k x.n x.s x.op sl x.a/\j5 t (Ml t d) 6 131 w F sl x.gp
theorem kR(t:Bool):∀d,(Ml t d).Ok
 | 0=>⟨λh _=>h.elim,λh=>h.elim,λh _=>h.elim,λh=>h.elim⟩
 | d+1=>⟨λ⟨sl,h1,h2⟩ hk=>⟨sl,h1,j5.keep (kR t d) h2 aN hk⟩,λ⟨sl,h1,h2⟩=>⟨sl,h1,j5.inHeap (kR t d) h2 aN⟩,λ⟨sl,h1,h2⟩ hk=>⟨sl,h1,j5.mono (kR t d) h2 hk⟩,λ⟨sl,h1,h2⟩=>by
  subst h1;intro v hv;simp only[aV,bp,cm]at hv;rcases hv with rfl | rfl | rfl | rfl | rfl | rfl<;>rfl⟩
theorem Sk{t:Bool}{w:ay}{F:aL}:∀{d:Nat} {x:Ex} {cs:aK},Ml t d w F x cs->Ml t (d+1) w F x cs
 | 0,_,_,h=>h.elim
 | d+1,x,cs,⟨sl,h1,h2⟩=>⟨sl,h1,h2.imp λx cs _ h=>Sk h⟩
theorem JS{t:Bool}{w:ay}{F:aL}{d e:Nat}{x:Ex}{cs:aK}(h:d<=e)(hx:Ml t d w F x cs):Ml t e w F x cs:=by
 induction e with
 | zero=>have:d=0:=aG;subst this;exact hx
 | succ e ih=>
  by_cases he:d=e+1
  ·subst he;exact hx
  exact Sk (ih aG)
theorem JU{t:Bool}{w:ay}{F:aL}:∀{d:Nat} {x:Ex} {cs:aK},Ml t d w F x cs->Dd d w F x cs
 | 0,_,_,h=>h.elim
 | d+1,x,cs,⟨sl,h1,h2⟩=>⟨sl,h1,L6 h2.1 λx cs _ h=>JU h⟩
theorem Sm{w:ay}{F:aL}:∀{d:Nat} {x:Ex} {cs:aK},Dd d w F x cs->Ml false d w F x cs
 | 0,_,_,h=>h.elim
 | d+1,x,cs,⟨sl,h1,h2⟩=>⟨sl,h1,L6 h2 λx cs _ h=>Sm h,λh=>aal⟩
theorem RXN.xg{w:ay}{x:Ex}{cs:aK}{N:aL}{lo hi:Nat}(h:RXN w N lo hi x cs):∃d,Ml true d w (λk=>lo<=k/\k<hi) x cs:=by
 induction h with
 | leaf lo hi k n s op a=>exact⟨1,Sl.nil,rfl,j5.nil _ _ _ _ _ _⟩
 | one lo m g hi k n s op a x cs h1 h2 h3 h4 hn h5 ih=>
  obtain⟨d,ih⟩:=ih;obtain⟨sl,oP,_⟩:=h1.cells;refine⟨d+1,_,rfl,⟨rfl,ba _,λh=>aal,(by decide:(1:Nat)<=9223372036854775807),λj y hj=>?_⟩,λ_=>.inr ⟨g,cs,rfl,⟨h2,h4⟩,h5,by rw[oP];exact ba _⟩⟩;have Yp:j=0:=by
   have:=(aZ.1 hj).1;simp only[Ex.gp,bK]at this;omega
  subst Yp;simp only[Ex.gp,cR,be]at hj;subst hj;exact⟨⟨g,0,none⟩,cs,rfl,⟨h2,h4⟩,by rw[oP];rfl,by rw[zD];exact h5.cells 0 cs λj v hv=>by rw[bO];exact hv,(kR true d).mono ih λk hk=>⟨hk.1,aG⟩⟩
 | two lo m m' m2 g hi k n s op a x y cs ds h1 h2 h3 h4 h5 h6 h7 h8 hn h9 QA VJ=>
  obtain⟨d1,QA⟩:=QA;obtain⟨d2,VJ⟩:=VJ;obtain⟨sl,oP,_⟩:=h1.cells;obtain⟨sl2,hds,_⟩:=h3.cells;have e1:cs.length=6:=by rw[oP];rfl
  have e2:ds.length=6:=by rw[hds];rfl
  refine⟨max d1 d2+1,_,rfl,⟨rfl,ba _,λh=>aal,(by decide:(2:Nat)<=9223372036854775807),λj y hj=>?_⟩,λ_=>.inr ⟨g,cs++ds,rfl,⟨aG,h8⟩,h9,by rw[aW,e1,e2];exact ba _⟩⟩;rcases j with _ | _ | j
  ·simp only[Ex.gp,cR,be]at hj;subst hj;exact⟨⟨g,0,none⟩,cs,rfl,⟨aaw,h8⟩,e1,by rw[zD];exact h9.cells 0 cs λj v hv=>by rw[bO,bM (aZ.1 hv).1];exact hv,(kR true _).mono (JS (Vg _ _) QA) λk hk=>⟨hk.1,aG⟩⟩
  ·simp only[Ex.gp,du,cR,be]at hj;subst hj;exact⟨⟨g,0,none⟩,ds,rfl,⟨aaw,h8⟩,e2,by
    rw[fP];exact h9.cells 6 ds λj v hv=>by rw[bZ aG,e1,eE];exact hv,(kR true _).mono (JS (P8 _ _) VJ) λk hk=>⟨aG,aG⟩⟩
  simp[Ex.gp]at hj
def rE(t:Bool):Rp Ex:=λw F x cs=>∃d,Ml t d w F x cs
theorem jm(t:Bool):(rE t).Ok:=⟨λ⟨d,h⟩ hk=>⟨d,(kR t d).keep h hk⟩,λ⟨d,h⟩=>⟨d,(kR t d).inHeap h⟩,λ⟨d,h⟩ hk=>⟨d,(kR t d).mono h hk⟩,λ⟨d,h⟩=>(kR t d).one h⟩
theorem jo{t:Bool}{w:ay}{F:aL}{x:Ex}{cs:aK}(h:rE t w F x cs):∃sl,cs=tB x.k x.n x.s x.op sl x.a:=by
 obtain⟨d,h⟩:=h;cases d with
 | zero=>exact h.elim
 | succ d=>obtain⟨sl,h,_⟩:=h;exact⟨sl,h⟩
theorem Sn{t:Bool}{w:ay}{F:aL}{x:Ex}{cs:aK}(h:rE t w F x cs):rE false w F x cs:=by
 obtain⟨d,h⟩:=h;exact⟨d,Sm (JU h)⟩
theorem rE0(t:Bool)(w:ay)(F:aL):rE t w F Hq (tB 0 0 [] 0 Sl.nil 0):=⟨1,Sl.nil,rfl,j5.nil _ _ _ _ _ _⟩
def acv(k:Int)(n:aJ)(xc:aK)(a:Int):aK:=O ae k::ah (T n)::(xc++[O ae a])
def uT(t:Bool):Rp Ac:=λw F x cs=>∃xc,cs=acv x.k x.n xc x.a/\rE t w F x.x xc
theorem dT(t:Bool):(uT t).Ok:=⟨λ⟨c,h1,h2⟩ hk=>⟨c,h1,(jm t).keep h2 hk⟩,λ⟨c,h1,h2⟩=>⟨c,h1,(jm t).inHeap h2⟩,λ⟨c,h1,h2⟩ hk=>⟨c,h1,(jm t).mono h2 hk⟩,λ⟨c,h1,h2⟩=>by
 subst h1;intro v hv;simp only[acv,aV,bN,bp,cm]at hv;rcases hv with rfl | rfl | h | rfl
 ·rfl
 ·rfl
 ·exact(jm t).one h2 v h
 rfl⟩
def mvv(k:Int)(ev:aJ)(wt:Int)(gd:Bool)(gc:aK)(uK tg:Sl)(a:Int):aK:=O ae k::ah (T ev)::O ae wt::ao gd::(gc++[uK.v,tg.v,O ae a])
def Mm(t:Bool):Rp Mv:=λw F x cs=>∃gc uK tg,cs=mvv x.k x.ev x.wt x.gd gc uK tg x.a/\rE t w F x.g gc/\j5 t (uT t) 9 211 w F uK x.acts/\j5 t lD 1 9 w F tg x.tg
theorem ni(t:Bool):(Mm t).Ok:=⟨λ⟨c,uK,tg,h1,h2,h3,h4⟩ hk=>⟨c,uK,tg,h1,(jm t).keep h2 hk,h3.keep (dT t) aN hk,h4.keep dJ aN hk⟩,
 λ⟨c,uK,tg,h1,h2,h3,h4⟩=>⟨c,uK,tg,h1,(jm t).inHeap h2,h3.inHeap (dT t) aN,h4.inHeap dJ aN⟩,
 λ⟨c,uK,tg,h1,h2,h3,h4⟩ hk=>⟨c,uK,tg,h1,(jm t).mono h2 hk,h3.mono (dT t) hk,h4.mono dJ hk⟩,
 λ⟨c,uK,tg,h1,h2,h3,h4⟩=>by
  subst h1;intro v hv;simp only[mvv,aV,bN,bp,cm]at hv;rcases hv with rfl | rfl | rfl | rfl | h | rfl | rfl | rfl
  ·rfl
  ·rfl
  ·rfl
  ·rfl
  ·exact(jm t).one h2 v h
  ·rfl
  ·rfl
  rfl⟩
def Vl:Rp Vr:=λ_ _ x cs=>cs=[ah (T x.n),O ae x.v,O ae x.a]
theorem gC:Vl.Ok:=⟨λh _=>h,λh=>h,λh _=>h,λh=>by
 unfold Vl at h;subst h;intro v hv;simp only[aV,bp,cm]at hv;rcases hv with rfl | rfl | rfl<;>rfl⟩
abbrev oL(k:Int)(nm ini dft:aJ)(en lv mv kids:Sl)(a:Int):aK:=[O ae k,ah (T nm),ah (T ini),ah (T dft),en.v,lv.v,mv.v,kids.v,O ae a]
def E4(t:Bool)(w:ay)(F:aL)(x:Nb)(en lv mv:Sl):Prop:=j5 t (uT t) 9 211 w F en x.en/\j5 t (uT t) 9 211 w F lv x.lv/\j5 t (Mm t) 13 134 w F mv x.mv
def pM(t:Bool):Nat->Rp Nd
 | 0=>λ_ _ _ _=>False
 | d+1=>λw F x cs=>∃en lv mv kids:Sl,cs=oL x.b.k x.b.nm x.b.ini x.b.dft en lv mv kids x.b.a/\E4 t w F x.b en lv mv/\j5 t (pM t d) 9 27 w F kids x.kids
section
variable {t:Bool} {w w':ay} {F G:aL} {x:Nb} {en lv mv:Sl}
theorem E4.keep(h:E4 t w F x en lv mv)(hk:∀k,F k->k<w.heap.size->w'.heap[k]? =w.heap[k]?):E4 t w' F x en lv mv:=⟨h.1.keep (dT t) aN hk,h.2.1.keep (dT t) aN hk,h.2.2.keep (ni t) aN hk⟩
theorem E4.inHeap(h:E4 t w F x en lv mv):E4 t w (λk=>F k/\k<w.heap.size) x en lv mv:=⟨h.1.inHeap (dT t) aN,h.2.1.inHeap (dT t) aN,h.2.2.inHeap (ni t) aN⟩
theorem E4.mono(h:E4 t w F x en lv mv)(hk:∀k,F k->G k):E4 t w G x en lv mv:=⟨h.1.mono (dT t) hk,h.2.1.mono (dT t) hk,h.2.2.mono (ni t) hk⟩
end
theorem cX(t:Bool):∀d,(pM t d).Ok
 | 0=>⟨λh _=>h.elim,λh=>h.elim,λh _=>h.elim,λh=>h.elim⟩
 | d+1=>⟨λ⟨en,lv,mv,kids,h1,h2,h3⟩ hk=>⟨en,lv,mv,kids,h1,h2.keep hk,j5.keep (cX t d) h3 aN hk⟩,
  λ⟨en,lv,mv,kids,h1,h2,h3⟩=>⟨en,lv,mv,kids,h1,h2.inHeap,j5.inHeap (cX t d) h3 aN⟩,
  λ⟨en,lv,mv,kids,h1,h2,h3⟩ hk=>⟨en,lv,mv,kids,h1,h2.mono hk,j5.mono (cX t d) h3 hk⟩,λ⟨en,lv,mv,kids,h1,h2,h3⟩=>by
  subst h1;intro v hv;simp only[aV,bp,cm]at hv;rcases hv with rfl | rfl | rfl | rfl | rfl | rfl | rfl | rfl | rfl<;>rfl⟩
theorem Sp{t:Bool}{w:ay}{F:aL}:∀{d:Nat} {x:Nd} {cs:aK},pM t d w F x cs->pM t (d+1) w F x cs
 | 0,_,_,h=>h.elim
 | d+1,x,cs,⟨en,lv,mv,kids,h1,h2,h3⟩=>⟨en,lv,mv,kids,h1,h2,h3.imp λx cs _ h=>Sp h⟩
theorem abx{t:Bool}{w:ay}{F:aL}{d e:Nat}{x:Nd}{cs:aK}(h:d<=e)(hx:pM t d w F x cs):pM t e w F x cs:=by
 induction e with
 | zero=>have:d=0:=aG;subst this;exact hx
 | succ e ih=>
  by_cases he:d=e+1
  ·subst he;exact hx
  exact Sp (ih aG)
theorem E5{t:Bool}{w:ay}{F:aL}{x:Ac}{cs:aK}(h:uT t w F x cs):uT false w F x cs:=by
 obtain⟨c,h1,h2⟩:=h;exact⟨c,h1,Sn h2⟩
theorem WM{t:Bool}{w:ay}{F:aL}{x:Mv}{cs:aK}(h:Mm t w F x cs):Mm false w F x cs:=by
 obtain⟨c,uK,tg,h1,h2,h3,h4⟩:=h;exact⟨c,uK,tg,h1,Sn h2,h3.off λ_ _ _ h=>E5 h,h4.off λ_ _ _ h=>h⟩
theorem E4.off{t:Bool}{w:ay}{F:aL}{x:Nb}{en lv mv:Sl}(h:E4 t w F x en lv mv):E4 false w F x en lv mv:=⟨h.1.off λ_ _ _ h=>E5 h,h.2.1.off λ_ _ _ h=>E5 h,h.2.2.off λ_ _ _ h=>WM h⟩
theorem Mn{t:Bool}{w:ay}{F:aL}:∀{d:Nat} {x:Nd} {cs:aK},pM t d w F x cs->pM false d w F x cs
 | 0,_,_,h=>h.elim
 | d+1,x,cs,⟨en,lv,mv,kids,h1,h2,h3⟩=>⟨en,lv,mv,kids,h1,h2.off,h3.off λx cs _ h=>Mn h⟩
structure ChR (t:Bool) (d:Nat) (w:ay) (F:aL) (c:Ch) (vs:Sl) (cs:aK):Prop where
 vars:j5 t Vl 3 119 w F vs c.vars
 root:pM t d w F c.root cs
abbrev Fr(B:Nat):aL:=λk=>B<=k
section
variable {α:Type} {r:Rp α} {size:Nat} {e:TypeId} {w w':ay} {s:Sl} {xs:List α} {B:Nat}
theorem _root_.Go.Kt.Own.stay(hr:r.Ok)(h:Own r size e B w (Fr B) s xs){bs:List Nat}(hO:aA bs w w')(hb:∀x,x∈bs->x<B∨w.heap.size<=x):Own r size e B w' (Fr B) s xs:=by
 refine((h.inHeap hr).keep hr λk hk bT=>hO.block k bT λhm=>?_).mono hr λk hk=>hk.1;have iJ:B<=k/\k<w.heap.size:=by
  rcases hk with hk | hk
  ·exact hk
  exact⟨hk.1,bT⟩
 rcases hb k hm with h | h<;>omega
theorem _root_.Go.Kt.Own.new(h:Own r size e B w (Fr B) s xs){k:Nat}(hk:w.heap.size<=k):s.a≠some ⟨k,0,none⟩:=λe=>by
 have:=(h.blk e).2;dsimp only at this;omega
end
mutual
def Gl:Ex->Nat
 | .mk _ _ _ _ l _=>Zh l+1
def Zh:List Ex->Nat
 | []=>0
 | x::l=>max (Gl x) (Zh l)
end
mutual
def E6:Ex->Nat
 | .mk _ _ s _ l _=>Vm l+(s.length+1)
def Vm:List Ex->Nat
 | []=>0
 | x::l=>E6 x+Vm l
end
theorem E7(x:Ex):Gl x=Zh x.gp+1:=by cases x;rw[Gl];rfl
theorem JV(x:Ex):E6 x=Vm x.gp+(x.s.length+1):=by cases x;rw[E6];rfl
theorem zP{y:Ex}:∀{l:List Ex},y∈l->Gl y<=Zh l
 | [],h=>aaB
 | x::l,h=>by
  rw[Zh];rcases aV.1 h with rfl | h
  ·exact Vg _ _
  exact bf (zP h) (P8 _ _)
theorem Mo{y:Ex}:∀{l:List Ex},y∈l->E6 y<=Vm l
 | [],h=>aaB
 | x::l,h=>by
  rw[Vm];rcases aV.1 h with rfl | h
  ·omega
  have:=Mo h;omega
theorem Sq{d:Nat}:∀{l:List Ex},(∀y,y∈l->Gl y<=d)->Zh l<=d
 | [],_=>by rw[Zh];omega
 | x::l,h=>by
  rw[Zh];exact Nat.max_le.2 ⟨h x aac,Sq λy hy=>h y (by simp[hy])⟩
theorem E8(x:Ex):1<=Gl x:=by rw[E7];omega
theorem Ss{w:ay}{F:aL}:∀{d:Nat} {x:Ex} {cs:aK},Dd d w F x cs->Gl x<=d
 | 0,_,_,h=>h.elim
 | d+1,x,cs,⟨sl,h1,h2⟩=>by
  rw[E7];refine P9 (Sq λy hy=>?_);obtain⟨j,hj⟩:=fh hy;obtain⟨_,cs,_,_,_,_,h⟩:=h2.at_ j y hj;exact Ss h
theorem Bh{f g:Ex->Bool}:∀{l:List Ex},(∀y,y∈l->f y=g y)->qp f l=qp g l
 | [],_=>rfl
 | x::l,h=>by rw[qp,qp,h x aac,Bh λy hy=>h y (by simp[hy])]
theorem HE:∀(d e:Nat) (x:Ex),Gl x<=d->Gl x<=e->fG d x=fG e x
 | 0,_,x,h,_=>aew
 | _,0,x,_,h=>aew
 | d+1,e+1,x,h,k=>by
  rw[E7]at h k;rw[fG,fG,Bh λy hy=>HE d e y (by have:=zP hy;omega) (by have:=zP hy;omega)]
theorem Mp:∀(d e:Nat) (x:Ex) (wr:Bool) (l:aJ),Gl x<=d->Gl x<=e->vK d x wr l=vK e x wr l
 | 0,_,x,_,_,h,_=>aew
 | _,0,x,_,_,_,h=>aew
 | d+1,e+1,x,wr,l,h,k=>by
  rw[E7]at h k;have hm:∀y,y∈x.gp->Gl y<=d/\Gl y<=e:=λy hy=>by have:=zP hy;omega
  rw[vK,vK];cases hx:x.gp with
  | nil=>rfl
  | cons y m=>
   cases m with
   | nil=>
    have hy:=hm y (by rw[hx];simp);dsimp only;rw[Mp d e y _ _ hy.1 hy.2]
   | cons z m=>
    cases m with
    | nil=>
     have hy:=hm y (by rw[hx];simp);have hz:=hm z (by rw[hx];simp);dsimp only;rw[Mp d e y _ _ hy.1 hy.2,Mp d e z _ _ hz.1 hz.2]
    | cons _ _=>rfl
theorem Su:∀(d:Nat) (x:Ex),pJ d x<=E6 x
 | 0,x=>bh _
 | d+1,x=>by
  rw[pJ,JV];have:∀l:List Ex,uC (pJ d) l<=Vm l:=λl=>by
   induction l with
   | nil=>exact bh _
   | cons y l ih=>rw[uC,Vm];exact lC (Su d y) ih
  have:=this x.gp;omega
theorem Sv:∀(d:Nat) (x:Ex),E6 x<4611686018427387903->Bb d x
 | 0,x,_=>trivial
 | d+1,x,h=>by
  rw[JV]at h;exact⟨aG,λy hy=>Sv d y (by have:=Mo hy;omega)⟩
def okN(x:Ex):Prop:=∀d,rT d x
def Di(x:Ex):aJ:=uR (Gl x) x
theorem WN{d:Nat}{x:Ex}(h:Gl x<=d):uR d x=Di x:=by
 unfold Di uR;rw[HE d (Gl x) x h (ba _),Mp d (Gl x) x false [] h (ba _)]
theorem Sw{d:Nat}{x:Ex}(h:uR d x≠[]):fG d x=true/\uR d x=vK d x false []/\(pf (vK d x false [])).2.1=0:=by
 unfold uR at h⊢;by_cases hs:fG d x=true
 ·rw[bc hs]at h⊢;by_cases hr:(pf (vK d x false [])).2.1≠0
  ·rw[bc hr]at h;exact absurd rfl h
  rw[aY hr];exact⟨hs,rfl,ad2⟩
 rw[aY hs]at h;exact absurd rfl h
theorem WO{w:ay}{F:aL}{x:Ex}{cs:aK}(hx:rE false w F x cs)(hn:okN x)(hs:E6 x<=1759218604441)(hE:Er w)(hT:Tb w):
  aB au 221 #[aj cs.toArray] w λe w'=>e=aq (ah (T (Di x)))/\aA [] w w':=by
 obtain⟨d,h⟩:=hx;have h:=JU h;rw[<-WN (Ss h)];exact abt h (Sv d x aG) (hn d) hE hT (by have:=Su d x;omega)
def yK(x:Ex):Bool:=(((x.k==0&&x.n==0)&&decide (x.s=[]))&&x.op==0)&&((x.gp.length:Int)==0)
def Bi(x:Ex):Bool:=decide (Di x≠[])
def nj(a:Ac):Bool:=decide (1<=a.k/\a.k<=3)&&fi a.n&&(if a.k=2 then yK a.x else Bi a.x)
def Bj(m:Mv):Bool:=
 decide (1<=m.k/\m.k<=3)&&(if m.k=1 then fi m.ev else decide (m.ev=[]))&&(if m.gd then Bi m.g else yK m.g)&&m.acts.all nj&&m.tg.all fi&&decide (m.wt=0∨m.k=3/\0<m.wt)
def fU(k:Int):Bool:=decide (k=3∨k=4)
def Bk(b:Nb)(kids:Nat):Bool:=
 fi b.nm&&(if fU b.k then fi b.dft&&decide (b.ini=[]/\b.en=[]/\b.lv=[]/\b.mv.length=0/\kids=0)
  else decide ((b.k=1∨b.k=2)/\b.dft=[])&&(decide (b.ini=[])||fi b.ini)&&b.en.all nj&&b.lv.all nj&&b.mv.all Bj)
mutual
def qy:Nat->Nd->Bool
 | d,.mk b l=>decide (d<12)&&Bk b l.length&&nM (d+1) l
def nM:Nat->List Nd->Bool
 | _,[]=>true
 | d,x::l=>qy d x&&nM d l
end
def Zj(b:Nb):Nat:=b.en.length+b.lv.length+(b.mv.map λm=>m.acts.length).sum
mutual
def jk:Nd->Nat
 | .mk _ l=>ff l+1
def ff:List Nd->Nat
 | []=>0
 | x::l=>jk x+ff l
end
mutual
def Co:Nd->Nat
 | .mk b l=>b.mv.length+xS l
def xS:List Nd->Nat
 | []=>0
 | x::l=>Co x+xS l
end
mutual
def Dk:Nd->Nat
 | .mk b l=>Zj b+vC l
def vC:List Nd->Nat
 | []=>0
 | x::l=>Dk x+vC l
end
def HF(c:Ch):Bool:=
 (c.vars.all λv=>fi v.n&&decide (v.v≠ -9223372036854775808))&&qy 0 c.root&&decide (c.root.b.k=1/\c.vars.length<=16/\jk c.root<=64/\Co c.root<=200/\Dk c.root<=400)
def Qg(a:Ac):aJ:=
 if a.k=2 then lk++32::(a.n++[59])else(if a.k=1 then uE else nL)++32::(a.n++32::61::32::(Di a.x++[59]))
def WQ:List Ac->aJ
 | []=>[]
 | a::l=>32::(Qg a++WQ l)
def GW(l:List Ac):aJ:=123::(WQ l++[32,125])
def tgT:List (aJ)->aJ
 | []=>[]
 | s::l=>44::32::(s++tgT l)
def hdT(m:Mv):aJ:=if m.k=1 then JR++32::m.ev else if m.k=3 then kQ++32::Lib.itoa m.wt else kK
def gdT(m:Mv):aJ:=if m.gd then 32::91::(Di m.g++[93])else[]
def Vn(m:Mv):aJ:=
 hdT m++(gdT m++((if m.acts=[]then[]else 32::GW m.acts)++((match m.tg with
  | []=>[]
  | s::l=>32::45::62::32::(s++tgT l))++[59])))
def kW(k:Int):aJ:=if k=1 then EW else if k=2 then uk else if k=3 then wu else Mc
abbrev Ln:=Nat×aJ
def WR(d:Nat)(b:Nb):List Ln:=if b.ini=[]then[]else[(d,iy++32::(b.ini++[59]))]
def enL(d:Nat)(b:Nb):List Ln:=if b.en=[]then[]else[(d,ke++32::GW b.en)]
def lvL(d:Nat)(b:Nb):List Ln:=if b.lv=[]then[]else[(d,kf++32::GW b.lv)]
def mvL(d:Nat)(b:Nb):List Ln:=b.mv.map λm=>(d,Vn m)
def nbL(d:Nat)(b:Nb):List Ln:=WR d b++(enL d b++(lvL d b++mvL d b))
mutual
def ndL:Nat->Nd->List Ln
 | d,.mk b l=>
  if fU b.k then[(d,kW b.k++32::(b.nm++32::45::62::32::(b.dft++[59])))]
  else(d,kW b.k++32::(b.nm++[32,123]))::(nbL (d+1) b++(ze (d+1) l++[(d,[125])]))
def ze:Nat->List Nd->List Ln
 | _,[]=>[]
 | d,x::l=>ndL d x++ze d l
end
def vrT(v:Vr):aJ:=Hx++32::(v.n++32::61::32::(Lib.itoa v.v++[59]))
def Zk(c:Ch):List Ln:=
 (0,gZ++32::(c.root.b.nm++[32,123]))::((c.vars.map λv=>(1,vrT v))++(nbL 1 c.root.b++(ze 1 c.root.kids++[(0,[125])])))
def OM:Nat->aJ
 | 0=>[]
 | d+1=>32::32::OM d
def lnT(p:Ln):aJ:=OM p.1++(p.2++[10])
def qz(b:aJ)(p:Ln):aJ:=if 16384<b.length then b else b++lnT p
def iT(b:aJ)(L:List Ln):aJ:=L.foldl qz b
theorem j6(b:aJ)(L M:List Ln):iT b (L++M)=iT (iT b L) M:=kZ
def Zl(a:Ac):Prop:=okN a.x
structure mvN (m:Mv):Prop where
 g:okN m.g
 a:∀x,x∈m.acts->Zl x
 w:rf m.wt
structure nbN (b:Nb):Prop where
 en:∀a,a∈b.en->Zl a
 lv:∀a,a∈b.lv->Zl a
 mv:∀m,m∈b.mv->mvN m
mutual
def Mq:Nd->Prop
 | .mk b l=>nbN b/\Bl l
def Bl:List Nd->Prop
 | []=>True
 | x::l=>Mq x/\Bl l
end
structure Yq (c:Ch):Prop where
 v:∀v,v∈c.vars->rf v.v
 r:Mq c.root
structure cM where
 k:Int
 nm:aJ
 pa:Int
 dp:Int
 en:Int
mutual
def E9(a:Nat)(pa dp:Int):Nd->List cM
 | .mk b l=>⟨b.k,b.nm,pa,dp,((a+1+ff l:Nat):Int)⟩::qA (a+1) a (dp+1) l
def qA(a:Nat)(pa dp:Int):List Nd->List cM
 | []=>[]
 | x::l=>E9 a pa dp x++qA (a+jk x) pa dp l
end
mutual
theorem mE(a:Nat)(pa dp:Int):∀x,(E9 a pa dp x).length=jk x
 | .mk b l=>by rw[E9,jk,bn,ul]
theorem ul(a:Nat)(pa dp:Int):∀l,(qA a pa dp l).length=ff l
 | []=>by rw[qA,ff];rfl
 | x::l=>by rw[qA,ff,aW,mE,ul]
end
theorem Bm:∀l m:List Nd,ff (l++m)=ff l+ff m
 | [],m=>by rw[ff,cF,bO]
 | x::l,m=>by rw[cp,ff,ff,Bm l m,eY]
theorem Mr(pa dp:Int):∀(l m:List Nd) (a:Nat),qA a pa dp (l++m)=qA a pa dp l++qA (a+ff l) pa dp m
 | [],m,a=>by rw[cF,qA,cF,ff,fJ]
 | x::l,m,a=>by rw[cp,qA,qA,Mr pa dp l m,ff,bP,eY]
theorem Ms:∀x,1<=jk x
 | .mk b l=>by rw[jk];omega
theorem qB{y:Nd}:∀{l:List Nd} {j:Nat},l[j]? =some y->ff (l.take j)+jk y<=ff l
 | [],_,h=>aaB
 | x::l,0,h=>by
  rw[cR,be]at h;subst h;rw[de,ff,ff];omega
 | x::l,j+1,h=>by
  have:=qB (l:=l) (j:=j) (by rwa[du]at h);rw[eF,ff,ff];omega
theorem tG:∀l:List Nd,l.length<=ff l
 | []=>bh _
 | a::l=>by
  have:=tG l;have:=Ms a;rw[ff,bn];omega
def Bn(L:List cM)(a i:Nat)(s:cM):Prop:=∃p t,p<i/\L[p]? =some t/\s.pa=((a+p:Nat):Int)/\s.dp=t.dp+1/\((a+i:Nat):Int)<t.en/\s.en<=t.en/\∀j u,p<j->j<i->L[j]? =some u->u.en<=((a+i:Nat):Int)
theorem Bn.zX{L M:List cM}{a i:Nat}{s:cM}(h:Bn L a i s)(hi:i<L.length):Bn (L++M) a i s:=by
 obtain⟨p,t,h1,h2,h3,h4,h5,h6,h7⟩:=h;refine⟨p,t,h1,?_,h3,h4,h5,h6,λj u g1 g2 g3=>h7 j u g1 g2 ?_⟩
 ·rw[bM aG];exact h2
 rwa[bM aG]at g3
theorem Bn.shift{L M:List cM}{a i:Nat}{s:cM}(h:Bn M (a+L.length) i s):Bn (L++M) a (L.length+i) s:=by
 obtain⟨p,t,h1,h2,h3,h4,h5,h6,h7⟩:=h;refine⟨L.length+p,t,aG,?_,by rw[h3];omega,h4,aG,h6,λj u g1 g2 g3=>?_⟩
 ·rw[bZ aG,eE];exact h2
 rw[bZ aG]at g3;have:=h7 (j-L.length) u aG aG g3;omega
mutual
theorem Fa(a:Nat)(pa dp:Int):∀(x:Nd) (i:Nat) (s:cM),(E9 a pa dp x)[i]? =some s->((a+i:Nat):Int)<s.en/\s.en<=((a+jk x:Nat):Int)/\(i=0->s.pa=pa/\s.dp=dp/\s.en=((a+jk x:Nat):Int))/\(0<i->Bn (E9 a pa dp x) a i s)
 | .mk b l,i,s,h=>by
  rw[E9]at h⊢;rw[jk];cases i with
  | zero=>
   rw[cR,be]at h;subst h;dsimp only;exact⟨aG,aG,λ_=>⟨rfl,rfl,aG⟩,λh=>aG⟩
  | succ i=>
   rw[du]at h;obtain⟨h1,h2,h3⟩:=Sy (a+1) a (dp+1) l i s h;refine⟨aG,aG,λh=>aG,λ_=>?_⟩;rcases h3 with⟨g1,g2,g3⟩ | g
   ·refine⟨0,_,aG,cR,by rw[g1,fJ],g2,aaw,aaw,λj u k1 k2 k3=>?_⟩;cases j with
    | zero=>omega
    | succ j=>
     rw[du]at k3;have:=g3 j u aG k3;omega
   have:=Bn.shift (L:=[⟨b.k,b.nm,pa,dp,((a+1+ff l:Nat):Int)⟩]) (M:=qA (a+1) a (dp+1) l) (a:=a) (i:=i) (s:=s) g;rw[bK,jE 1 i]at this;exact this
theorem Sy(a:Nat)(pa dp:Int):∀(l:List Nd) (i:Nat) (s:cM),(qA a pa dp l)[i]? =some s->((a+i:Nat):Int)<s.en/\s.en<=((a+ff l:Nat):Int)/\
  ((s.pa=pa/\s.dp=dp/\∀j u,j<i->(qA a pa dp l)[j]? =some u->u.en<=((a+i:Nat):Int))∨Bn (qA a pa dp l) a i s)
 | [],i,s,h=>by rw[qA]at h;simp at h
 | x::l,i,s,h=>by
  rw[qA]at h⊢;rw[ff];have hl:=mE a pa dp x;by_cases hi:i<jk x
  ·rw[bM aG]at h;obtain⟨h1,h2,h3,h4⟩:=Fa a pa dp x i s h;refine⟨h1,aG,?_⟩;by_cases h0:i=0
   ·obtain⟨g1,g2,g3⟩:=h3 h0;exact .inl ⟨g1,g2,λj u hj=>aG⟩
   exact .inr ((h4 aG).zX aG)
  rw[bZ aG,hl]at h;obtain⟨h1,h2,h3⟩:=Sy (a+jk x) pa dp l (i-jk x) s h;refine⟨aG,aG,?_⟩;rcases h3 with⟨g1,g2,g3⟩ | g
  ·refine .inl ⟨g1,g2,λj u hj hu=>?_⟩;by_cases Qn:j<jk x
   ·rw[bM aG]at hu;have:=(Fa a pa dp x j u hu).2.1;omega
   rw[bZ aG,hl]at hu;have:=g3 (j-jk x) u aG hu;omega
  refine .inr ?_;rw[<-hl]at g;have:=Bn.shift (L:=E9 a pa dp x) g;rw[hl]at this;rwa[show jk x+(i-jk x)=i by omega]at this
end
structure Fo (xs:List cM):Prop where
 ne:0<xs.length
 rt:∀s:cM,xs[0]? =some s->s.pa= -1/\s.dp=0/\s.en=(xs.length:Int)
 up:∀(i:Nat) (s:cM),xs[i]? =some s->(i:Int)<s.en/\s.en<=(xs.length:Int)
 pa:∀(i:Nat) (s:cM),0<i->xs[i]? =some s->Bn xs 0 i s
def cx(c:Ch):List cM:=E9 0 (-1) 0 c.root
theorem Fb(c:Ch):Fo (cx c):=by
 unfold cx;have hl:=mE 0 (-1) 0 c.root;have h:=Fa 0 (-1) 0 c.root;refine⟨by have:=Ms c.root;omega,λs hs=>?_,λi s hs=>?_,λi s hi hs=>(h i s hs).2.2.2 hi⟩
 ·obtain⟨h1,h2,h3⟩:=(h 0 s hs).2.2.1 rfl;exact⟨h1,h2,by rw[h3,hl];omega⟩
 obtain⟨h1,h2,_⟩:=h i s hs;exact⟨aG,aG⟩
section
variable {xs:List cM} (F:Fo xs) {i j k p:Nat} {s t u:cM}
include F
theorem Fo.ZM:∀(k:Nat) {i:Nat} {s t:cM},xs[i]? =some s->xs[k]? =some t->i<k->(k:Int)<s.en->t.en<=s.en
 | k,i,s,t,hi,hk,bT,hs=>by
  obtain⟨p,v,h1,h2,h3,h4,h5,h6,h7⟩:=F.pa k t aG hk;by_cases hp:p<i
  ·have:=h7 i s hp bT hi;omega
  by_cases he:p=i
  ·subst he;rw[hi,be]at h2;subst h2;exact h6
  have:=Fo.ZM p hi h2 aG aG;omega
theorem Fo.par(hk:xs[k]? =some t)(h0:0<k):∃(p:Nat) (s:cM),p<k/\t.pa=(p:Int)/\xs[p]? =some s/\t.dp=s.dp+1/\(k:Int)<s.en/\∀(i:Nat) (u:cM),xs[i]? =some u->i<k->(k:Int)<u.en->i<=p:=by
 obtain⟨p,v,h1,h2,h3,h4,h5,h6,h7⟩:=F.pa k t h0 hk;refine⟨p,v,h1,by rw[h3];omega,h2,h4,aG,λi u hu hi iJ=>?_⟩;by_cases hp:p<i
 ·have:=h7 i u hp hi hu;omega
 omega
omit F in
theorem eS {xs:List cM} {i:Nat} {s:cM} (h:xs[i]? =some s):i<xs.length:=(aZ.1 h).1
omit F in
theorem fL {xs:List cM} {i:Nat} (h:i<xs.length):∃s,xs[i]? =some s:=⟨_,aQ h⟩
end
def jp(xs:List cM)(b a:Nat):Prop:=∃s,xs[b]? =some s/\b<=a/\(a:Int)<s.en
section
variable {xs:List cM} (F:Fo xs) {i j k p:Nat}
include F
theorem Fo.pQ(h:jp xs i j):j<xs.length:=by
 obtain⟨s,h1,h2,h3⟩:=h;have:=(F.up i s h1).2;omega
theorem Fo.jT(h:i<xs.length):jp xs i i:=by
 obtain⟨s,hs⟩:=fL h;exact⟨s,hs,ba _,(F.up i s hs).1⟩
theorem Fo.tS(h:i<xs.length):jp xs 0 i:=by
 obtain⟨s,hs⟩:=fL F.ne;exact⟨s,hs,bh _,by rw[(F.rt s hs).2.2];omega⟩
theorem Fo.kg(h:jp xs i j)(g:jp xs j k):jp xs i k:=by
 obtain⟨s,h1,h2,h3⟩:=h;obtain⟨t,g1,g2,g3⟩:=g;refine⟨s,h1,aG,?_⟩;by_cases he:i=j
 ·subst he;rw[h1,be]at g1;subst g1;exact g3
 have:=F.ZM j h1 g1 aG h3;omega
theorem Fo.jB(h:jp xs i k)(g:jp xs j k)(sD:i<=j):jp xs i j:=by
 obtain⟨s,h1,h2,h3⟩:=h;obtain⟨t,g1,g2,g3⟩:=g;exact⟨s,h1,sD,aG⟩
end
inductive Ups (xs:List cM):Int->List Int->Prop
 | stop {i:Int}:i<0->Ups xs i []
 | go {i:Nat} {s:cM} {l:List Int}:xs[i]? =some s->Ups xs s.pa l->Ups xs i ((i:Int)::l)
def Top(xs:List cM)(l:List Int)(r:Int):Prop:=∃m:Nat,r=m/\(∀n:Int,n∈l->∃k:Nat,n=k/\jp xs m k)/\∀j:Nat,(∀n:Int,n∈l->∃k:Nat,n=k/\jp xs j k)->j<=m
def pu(xs:List cM)(n:Int):Prop:=0<=n/\n<xs.length
def Mt(xs:List cM)(l:List Int)(r:Int):Prop:=((l=[]∨∃n,n∈l/\¬pu xs n)/\r= -1)∨((l≠[]/\∀n,n∈l->pu xs n)/\Top xs l r)
theorem Mt.ahU{xs:List cM}{l:List Int}{r:Int}(h:Mt xs l r)(h1:l≠[])(h2:∀n,n∈l->pu xs n):Top xs l r:=by
 rcases h with⟨hb | ⟨n,hn,hh⟩,_⟩ | ⟨_,h⟩
 ·exact absurd hb h1
 ·exact absurd (h2 n hn) hh
 exact h
def fg(xs:List cM)(i n:Nat):List Int:=((List.range n).filter λk=>decide ((xs[k]?).map (λs:cM=>s.pa)=some (i:Int))).map λk:Nat=>(k:Int)
theorem pv(xs:List cM)(i n:Nat):fg xs i (n+1)=fg xs i n++if(xs[n]?).map (λs:cM=>s.pa)=some (i:Int)then[(n:Int)]else[]:=by
 unfold fg;rw[List.range_succ,eC,dh];by_cases h:(xs[n]?).map (λs:cM=>s.pa)=some (i:Int)
 ·rw[bc h,List.filter_cons_of_pos aaA];rfl
 rw[aY h,List.filter_cons_of_neg aaA];rfl
theorem tH{xs:List cM}{i:Nat}:∀(d n:Nat),(∀k,n<=k->k<n+d->(xs[k]?).map (λs:cM=>s.pa)≠some (i:Int))->fg xs i (n+d)=fg xs i n
 | 0,n,_=>rfl
 | d+1,n,h=>by
  rw[<-eY,pv,aY (h (n+d) aG aG),bQ,tH d n λk h1 h2=>h k h1 aG]
section
variable {xs:List cM} (F:Fo xs) {i k:Nat} {s t:cM}
include F
theorem Fo.uX(hk:xs[k]? =some t):t.pa<k:=by
 by_cases h0:0<k
 ·obtain⟨p,s,h1,h2,_⟩:=F.par hk h0;omega
 have:k=0:=aG
 subst this;rw[(F.rt t hk).1];omega
theorem Fo.aol(hi:xs[i]? =some s):fg xs i (i+1)=[]:=by
 have:∀n,n<=i+1->fg xs i n=[]:=by
  intro n
  induction n with
  | zero=>intro _;rfl
  | succ n ih=>
   intro h;rw[pv,ih aG,aY,bQ];intro e;cases hx:xs[n]? with
   | none=>rw[hx]at e;cases e
   | some u=>
    rw[hx,dH,be]at e;have:=F.uX hx;omega
 exact this _ (ba _)
theorem Fo.aco(hi:xs[i]? =some s)(hk:xs[k]? =some t)(hik:i<k)(hs:(k:Int)<s.en)(hb:∀(j:Nat) u,i<j->j<k->xs[j]? =some u->u.en<=(k:Int)):t.pa=(i:Int):=by
 obtain⟨p,v,h1,h2,h3,h4,h5,h6⟩:=F.par hk aG;have e1:=h6 i s hi hik hs;by_cases he:p=i
 ·rw[h2,he]
 have:=hb p v aG h1 h3;omega
theorem Fo.Uc(hk:xs[k]? =some t){n:Nat}(hn:t.en=n)(hb:∀(j:Nat) u,i<j->j<k->xs[j]? =some u->u.en<=(k:Int)):∀(j:Nat) u,i<j->j<n->xs[j]? =some u->u.en<=(n:Int):=by
 intro j u h1 h2 h3;have hkn:=(F.up k t hk).1;by_cases e:j<k
 ·have:=hb j u h1 e h3;omega
 by_cases e':j=k
 ·subst e';rw[hk,be]at h3;subst h3;omega
 have:=F.ZM j hk h3 aG aG;omega
theorem Fo.Ud(hi:xs[i]? =some s)(hk:xs[k]? =some t)(hik:i<k)(hs:(k:Int)<s.en){n:Nat}(hn:t.en=n)(hb:∀(j:Nat) u,i<j->j<k->xs[j]? =some u->u.en<=(k:Int)):fg xs i n=fg xs i k++[(k:Int)]:=by
 have hkn:=(F.up k t hk).1;have:=tH (xs:=xs) (i:=i) (n-(k+1)) (k+1) λj h1 h2 e=>by
  cases hx:xs[j]? with
  | none=>rw[hx]at e;cases e
  | some u=>
   rw[hx,dH,be]at e;obtain⟨p,v,g1,g2,g3,g4,g5,g6⟩:=F.par hx aG;have:=g6 k t hk aG aG;omega
 rw[show k+1+(n-(k+1))=n by omega,pv,bc (by rw[hk,dH,F.aco hi hk hik hs hb])]at this;exact this
theorem Fo.XN(hi:xs[i]? =some s){n:Nat}(hn:s.en=n):fg xs i xs.length=fg xs i n:=by
 have hu:=F.up i s hi;have:=tH (xs:=xs) (i:=i) (xs.length-n) n λj h1 h2 e=>by
  cases hx:xs[j]? with
  | none=>rw[hx]at e;cases e
  | some u=>
   rw[hx,dH,be]at e;obtain⟨p,v,g1,g2,g3,g4,g5,g6⟩:=F.par hx aG;have:p=i:=aG
   subst this;rw[hi,be]at g3;subst g3;omega
 rw[show n+(xs.length-n)=xs.length by omega]at this;exact this
end
theorem yL(xs:List cM)(i:Nat):∀n,List.Pairwise (· <·) (fg xs i n)/\∀k,k∈fg xs i n->k<(n:Int)
 | 0=>⟨List.Pairwise.nil,λk h=>by simp[fg]at h⟩
 | n+1=>by
  obtain⟨h1,h2⟩:=yL xs i n;rw[pv];split
  ·refine⟨gf.2 ⟨h1,yz _ _,λa ha b hb=>?_⟩,λk hk=>?_⟩
   ·simp only[aO]at hb;subst hb;exact h2 a ha
   ·rcases bN.1 hk with hk | hk
    ·have:=h2 k hk;omega
    ·simp only[aO]at hk;subst hk;omega
  ·rw[bQ];exact⟨h1,λk hk=>by have:=h2 k hk;omega⟩
abbrev Ft:=Int×Int
def pT(f:Ft)(L:List Ft):Ft:=L.foldl (λf p=>if f.1=0 then p else f) f
def bad(ok:Bool)(e a:Int):List Ft:=if ok then[]else[(e,a)]
theorem jI(f:Ft)(L M:List Ft):pT f (L++M)=pT (pT f L) M:=kZ
theorem Sz{f:Ft}(h:f.1≠0):∀L,pT f L=f
 | []=>rfl
 | p::L=>by
  show pT (if f.1=0 then p else f) L=f;rw[aY h];exact Sz h L
def Cd(L:List Ft):Prop:=∀p,p∈L->p.1≠0
theorem Cd.nil:Cd []:=λp h=>aaB
theorem Cd.zX{L M:List Ft}(h:Cd L)(g:Cd M):Cd (L++M):=λp hp=>(bN.1 hp).elim (h p) (g p)
theorem Cd.bad{ok:Bool}{e a:Int}(h:e≠0):Cd (bad ok e a):=λp hp=>by
 unfold Con.bad at hp;split at hp
 ·simp at hp
 simp only[aO]at hp;subst hp;exact h
theorem Cd.flat{α:Type}{f:α->List Ft}(h:∀x,Cd (f x))(l:List α):Cd (l.flatMap f):=λp hp=>by
 obtain⟨x,_,hx⟩:=dY.1 hp;exact h x p hx
theorem SA{L:List Ft}(hL:Cd L)(h:(pT (0,0) L).1=0):L=[]:=by
 cases L with
 | nil=>rfl
 | cons p L=>
  have hp:=hL p aac;have e:pT (0,0) (p::L)=pT p L:=rfl;rw[e,Sz hp]at h;exact absurd h hp
theorem um{ok:Bool}{e a:Int}:bad ok e a=[]↔ok=true:=by
 unfold bad;cases ok<;>simp
theorem WS(f:Ft)(ok:Bool)(e a:Int):pT f (bad ok e a)=if(!ok&&f.1==0)=true then(e,a)else f:=by
 unfold bad;cases ok
 ·by_cases h:f.1=0
  ·simp[pT,h]
  simp[pT,h]
 simp[pT]
def gJ(xs:List cM)(s:aJ):Int:=if uS s (xs.map λx:cM=>x.nm)<xs.length then(uS s (xs.map λx:cM=>x.nm):Nat)else -1
def lq(xs:List cM)(n:Int):Int:=match xs[n.toNat]? with
 | some x=>x.k
 | none=>0
def Fc(xs:List cM)(n:Int):Int:=match xs[n.toNat]? with
 | some x=>x.pa
 | none=>0
def stM(xs:List cM)(s:aJ):Bool:=decide (0<=gJ xs s)&&!fU (lq xs (gJ xs s))
def SB(xs:List cM)(b a:Nat):Bool:=match xs[b]? with
 | some s=>decide (b<=a)&&decide ((a:Int)<s.en)
 | none=>false
def oM(xs:List cM)(b a:Int):Bool:=decide (0<=b/\0<=a)&&SB xs b.toNat a.toNat
def jq(xs:List cM)(a b:Int):Bool:=decide (a≠b)&&oM xs b a
def HG(xs:List cM)(a b:Int):Nat->Int
 | 0=> -1
 | m+1=>if(oM xs m a&&oM xs m b)=true then m else HG xs a b m
def Dl(xs:List cM)(a b:Int):Int:=HG xs a b xs.length
def Fe(xs:List cM)(a b:Int):Bool:=decide (Dl xs a b≠a/\Dl xs a b≠b)&&decide (lq xs (Dl xs a b)=2)
def Cp(xs:List cM)(s:aJ):Int:=if fU (lq xs (gJ xs s))then Fc xs (gJ xs s)else gJ xs s
def Qh(xs:List cM):List Int->List (aJ)->Bool
 | _,[]=>true
 | l,s::r=>if gJ xs s<1 then false else if(l.any λo=>!Fe xs (Cp xs s) o)then false else Qh xs (l++[Cp xs s]) r
mutual
def OO:Nd->List (aJ×Int)
 | .mk b l=>(b.nm,b.a)::zf l
def zf:List Nd->List (aJ×Int)
 | []=>[]
 | x::l=>OO x++zf l
end
def yM:List (aJ)->List (aJ×Int)->List Ft
 | _,[]=>[]
 | l,p::r=>bad (!decide (p.1∈l)) 24 p.2++yM (l++[p.1]) r
theorem Ff:∀(p q:List (aJ×Int)) (l:List (aJ)),yM l (p++q)=yM l p++yM (l++p.map λx=>x.1) q
 | [],q,l=>by rw[cF,yM,cF,fV,bQ]
 | x::p,q,l=>by rw[cp,yM,yM,Ff p q,bP,bH,bP];rfl
theorem Mu:∀l m:List Nd,zf (l++m)=zf l++zf m
 | [],m=>by rw[cF,zf,cF]
 | x::l,m=>by rw[cp,zf,zf,Mu l m,bP]
mutual
theorem SC(a:Nat)(pa dp:Int):∀x,(E9 a pa dp x).map (λs:cM=>s.nm)=(OO x).map λp=>p.1
 | .mk b l=>by rw[E9,OO,bH,bH,JW]
theorem JW(a:Nat)(pa dp:Int):∀l,(qA a pa dp l).map (λs:cM=>s.nm)=(zf l).map λp=>p.1
 | []=>by rw[qA,zf];rfl
 | x::l=>by rw[qA,zf,dh,dh,SC,JW]
end
theorem WT(x:List Nd):(zf x).length=ff x:=by
 have:=bm List.length (JW 0 0 0 x);rw[bA,bA,ul]at this;exact this.symm
theorem JX:∀(p:List (aJ×Int)) (l:List (aJ)),Cd (yM l p)
 | [],l=>Cd.nil
 | x::p,l=>Cd.zX (Cd.bad aN) (JX p _)
section
variable (xs:List cM) (vs:List (aJ))
def Vo(k:Int)(s:aJ):Bool:=(decide (k≠2)||decide (s∈vs))&&(decide (k≠3)||stM xs s)
mutual
def Vp:Ex->List Ft
 | .mk k n s op l a=>bad (Vo xs vs k s) 23 a++uF l
def uF:List Ex->List Ft
 | []=>[]
 | x::l=>Vp x++uF l
end
theorem abC(x:Ex):Vp xs vs x=bad (Vo xs vs x.k x.s) 23 x.a++uF xs vs x.gp:=by cases x;rw[Vp];rfl
theorem HH:∀l m:List Ex,uF xs vs (l++m)=uF xs vs l++uF xs vs m
 | [],m=>by rw[cF,uF,cF]
 | x::l,m=>by rw[cp,uF,uF,HH l m,bP]
def acF(a:Ac):List Ft:=bad (decide (a.k≠1)||decide (a.n∈vs)) 23 a.a++Vp xs vs a.x
def uG(l:List Ac):List Ft:=l.flatMap (acF xs vs)
def ahp(m:Mv):Bool:=(m.k !=3)||(decide (m.wt>0)&&decide (m.wt<=1099511627776))
def HI(m:Mv):List Ft:=bad (ahp m) 28 m.a++(Vp xs vs m.g++(uG xs vs m.acts++bad (Qh xs [] m.tg) 27 m.a))
def Mx(l:List Nd):Nat:=(l.filter λx=>!fU x.b.k).length
def HJ(s:aJ)(l:List Nd):Bool:=l.any λx=>decide (x.b.nm=s)
def zQ(b:Nb)(l:List Nd)(at_:Nat):List Ft:=
 if fU b.k then bad (stM xs b.dft&&jq xs (gJ xs b.dft) (Fc xs at_)) 26 b.a
 else if b.k=2 then bad (decide (b.ini=[])&&decide (1<Mx l)) 25 b.a
 else if 0<Mx l then bad (HJ b.ini l) 25 b.a
 else bad (decide (b.ini=[])) 25 b.a++bad (decide (l.length=0)) 26 b.a
mutual
def SD:Nat->Nd->List Ft
 | n,.mk b l=>zQ xs b l n++(uG xs vs (b.en++b.lv)++(b.mv.flatMap (HI xs vs)++rF (n+1) l))
def rF:Nat->List Nd->List Ft
 | _,[]=>[]
 | n,x::l=>SD n x++rF (n+jk x) l
end
theorem HK:∀(l m:List Nd) (n:Nat),rF xs vs n (l++m)=rF xs vs n l++rF xs vs (n+ff l) m
 | [],m,n=>by rw[cF,rF,cF,ff,fJ]
 | x::l,m,n=>by rw[cp,rF,rF,HK l m,bP,ff,eY]
mutual
theorem JY:∀x,Cd (Vp xs vs x)
 | .mk k n s op l a=>by rw[Vp];exact Cd.zX (Cd.bad aN) (My l)
theorem My:∀l,Cd (uF xs vs l)
 | []=>by rw[uF];exact Cd.nil
 | x::l=>by rw[uF];exact Cd.zX (JY x) (My l)
end
theorem abD(a:Ac):Cd (acF xs vs a):=Cd.zX (Cd.bad aN) (JY xs vs a.x)
theorem Mz(l:List Ac):Cd (uG xs vs l):=Cd.flat (abD xs vs) l
theorem abE(m:Mv):Cd (HI xs vs m):=Cd.zX (Cd.bad aN) (Cd.zX (JY xs vs _) (Cd.zX (Mz xs vs _) (Cd.bad aN)))
theorem abF(b:Nb)(l:List Nd)(n:Nat):Cd (zQ xs b l n):=by
 unfold zQ;split
 ·exact Cd.bad aN
 split
 ·exact Cd.bad aN
 split
 ·exact Cd.bad aN
 exact Cd.zX (Cd.bad aN) (Cd.bad aN)
mutual
theorem SE:∀(n:Nat) (x:Nd),Cd (SD xs vs n x)
 | n,.mk b l=>by rw[SD];exact Cd.zX (abF xs b l n) (Cd.zX (Mz xs vs _) (Cd.zX (Cd.flat (abE xs vs) _) (MA (n+1) l)))
theorem MA:∀(n:Nat) (l:List Nd),Cd (rF xs vs n l)
 | n,[]=>by rw[rF];exact Cd.nil
 | n,x::l=>by rw[rF];exact Cd.zX (SE n x) (MA _ l)
end
end
def Gm(c:Ch):List (aJ):=c.vars.map λv=>v.n
def HL(c:Ch):List Ft:=yM [] (OO c.root)++(yM [] (c.vars.map λv=>(v.n,v.a))++SD (cx c) (Gm c) 0 c.root)
theorem SF(c:Ch):Cd (HL c):=Cd.zX (JX _ _) (Cd.zX (JX _ _) (SE _ _ _ _))
theorem MB{s:aJ}:∀{l:List (aJ)},uS s l<l.length->l[uS s l]? =some s
 | [],h=>aaB
 | x::l,h=>by
  rw[uS]at h⊢;split
  ·rename_i e;rw[e];rfl
  rename_i e;rw[aY e,bn]at h;rw[du];exact MB aG
theorem nU{s:aJ}:∀{l:List (aJ)},uS s l<l.length↔s∈l
 | []=>aac
 | x::l=>by
  rw[uS,aV,bn];split
  ·rename_i e;exact⟨λ_=>.inl e,λ_=>aG⟩
  rename_i e;have:=nU (s:=s) (l:=l);exact⟨λh=>.inr (this.1 aG),λh=>by have:=this.2 (h.resolve_left e);omega⟩
theorem MC{s:aJ}(m:List (aJ)):∀{l:List (aJ)},s∈l->uS s (l++m)=uS s l
 | [],h=>aaB
 | x::l,h=>by
  rw[cp,uS,uS];split
  ·rfl
  rename_i e;rw[MC m ((aV.1 h).resolve_left e)]
theorem Fg{s:aJ}(m:List (aJ)):∀{l:List (aJ)},s∉l->uS s (l++s::m)=l.length
 | [],_=>by rw[cF,uS,bc rfl];rfl
 | x::l,h=>by
  rw[cp,uS,aY (λe=>h (by rw[e];simp)),Fg m (λhm=>h (dj _ hm))];rfl
section
variable {xs:List cM} {s:aJ}
theorem mU(xs:List cM)(s:aJ):(gJ xs s= -1/\∀x∈xs,x.nm≠s)∨∃(n:Nat) (x:cM),gJ xs s=n/\xs[n]? =some x/\x.nm=s:=by
 unfold gJ;split
 ·rename_i h;right;have:=MB (l:=xs.map λx:cM=>x.nm) (s:=s) (by rw[bA];exact h);rw[ch,gv]at this;obtain⟨x,hx,e⟩:=this;exact⟨_,x,rfl,hx,e⟩
 rename_i h;refine .inl ⟨rfl,λx hx e=>h ?_⟩;have:=(nU (s:=s) (l:=xs.map λx:cM=>x.nm)).2 (cQ.2 ⟨x,hx,e⟩);rwa[bA]at this
theorem fZ{n:Nat}{x:cM}(h:xs[n]? =some x):lq xs n=x.k:=by unfold lq;rw[aU,h]
theorem jr{n:Nat}{x:cM}(h:xs[n]? =some x):Fc xs n=x.pa:=by unfold Fc;rw[aU,h]
theorem SG{b a:Nat}:SB xs b a=true↔jp xs b a:=by
 unfold SB jp;cases h:xs[b]? with
 | none=>simp
 | some s=>simp
theorem oA{b a:Int}:oM xs b a=true↔∃i j:Nat,b=i/\a=j/\jp xs i j:=by
 unfold oM;rw[aR,bX,SG];constructor
 ·rintro⟨⟨h1,h2⟩,h⟩;exact⟨_,_,(jV h1).symm,(jV h2).symm,h⟩
 rintro⟨i,j,rfl,rfl,h⟩;rw[aU,aU];exact⟨⟨aG,aG⟩,h⟩
theorem lr{a b:Int}:jq xs a b=true↔∃i j:Nat,b=i/\a=j/\i<j/\jp xs i j:=by
 unfold jq;rw[aR,bX,oA];constructor
 ·rintro⟨hn,i,j,rfl,rfl,h⟩;have:=h;obtain⟨_,_,kA,_⟩:=this;exact⟨i,j,rfl,rfl,aG,h⟩
 rintro⟨i,j,rfl,rfl,h,hc⟩;exact⟨aG,i,j,rfl,rfl,hc⟩
theorem xT(a b:Int):∀n:Nat,(HG xs a b n= -1/\∀m,m<n->(oM xs m a&&oM xs m b)=false)∨∃m:Nat,HG xs a b n=m/\m<n/\(oM xs m a&&oM xs m b)=true/\∀j,m<j->j<n->(oM xs j a&&oM xs j b)=false
 | 0=>.inl ⟨rfl,λm h=>aG⟩
 | n+1=>by
  rw[HG];split
  ·rename_i h;exact .inr ⟨n,rfl,aG,h,λj h1 h2=>aG⟩
  rename_i h;rw[qW]at h;rcases xT a b n with⟨h1,h2⟩ | ⟨m,h1,h2,h3,h4⟩
  ·exact .inl ⟨h1,λm hm=>if e:m=n then by rw[e];exact h else h2 m aG⟩
  exact .inr ⟨m,h1,aG,h3,λj g1 g2=>if e:j=n then by rw[e];exact h else h4 j g1 aG⟩
theorem Fo.XO(F:Fo xs){a b r:Int}(h:Mt xs [a,b] r)(ha:pu xs a)(hb:pu xs b):r=Dl xs a b:=by
 have hg:∀n,n∈[a,b]->pu xs n:=λn hn=>by
  simp only[aV,bp,cm]at hn;rcases hn with rfl | rfl
  ·exact ha
  exact hb
 obtain⟨m,rfl,t1,t2⟩:=h.ahU aac hg;have both:∀j:Nat,(oM xs j a&&oM xs j b)=true↔∀n:Int,n∈[a,b]->∃k:Nat,n=k/\jp xs j k:=λj=>by
  rw[aR,oA,oA];constructor
  ·rintro⟨⟨i,k,e,rfl,h1⟩,⟨i',k',e',rfl,h2⟩⟩ n hn;simp only[aV,bp,cm]at hn;have ei:j=i:=aG
   have ei':j=i':=aG
   subst ei ei';rcases hn with rfl | rfl
   ·exact⟨k,rfl,h1⟩
   exact⟨k',rfl,h2⟩
  intro h;obtain⟨k,e,h1⟩:=h a aac;obtain⟨k',e',h2⟩:=h b aac;exact⟨⟨j,k,rfl,e,h1⟩,⟨j,k',rfl,e',h2⟩⟩
 have hm:=(both m).2 t1;have Cs:m<xs.length:=by
  obtain⟨k,_,s,hs,_⟩:=t1 a aac;exact eS hs
 unfold Dl;rcases xT (xs:=xs) a b xs.length with⟨_,h2⟩ | ⟨q,h1,h2,h3,h4⟩
 ·rw[h2 m Cs]at hm;cases hm
 have:=t2 q ((both q).1 h3);by_cases e:q=m
 ·rw[h1,e]
 rw[h4 m aG Cs]at hm;cases hm
end
def ne(l:aJ):Bool:=!decide (l=[])
def fW(ws:List (aJ)):aJ:=Lib.join (ws.filter ne) [32]
theorem Only.below{w w':ay}(h:Below w.heap.size w w'):aA [] w w':=⟨h.os,h.tape,h.output,h.size,λk hk _=>h.block k hk⟩
theorem JZ{w:ay}{F:aL}:∀{l:List (aJ)} {css:List (aK)},lV lD 1 w F l css->css.flatten=l.map λx=>ah (T x)
 | [],[],_=>rfl
 | c::l,d::css,h=>by
  obtain⟨⟨_,h1⟩,h2⟩:=h;unfold lD at h1;subst h1;rw[dy,JZ h2];rfl
theorem Dm(l:aJ)(w:ay):aB au 204 #[ah (T l)] w λe w'=>e=aq (ao (decide (l=[])))/\w'=w:=by
 refine ret (agX _ _ _ ?_);exact⟨by rw[show ar #[]=T []from rfl,mM],rfl⟩
section
variable {w:ay} {B:Nat} {F:aL} {s:Sl} {ws:List (aJ)}
theorem SH(h:Own lD 1 9 B w F s ws):aB au 219 #[s.v,.func (.func 204) #[] #[]] w λe w'=>
  ∃i:Int,e=aq (O ae i)/\w'=w/\((i= -1/\ws.filter ne=ws)∨∃n:Nat,i=n/\n<ws.length/\(ws.take (n+1)).filter ne=ws.take n):=by
 refine(agW s ⟨.func (.func 204) #[] #[],rfl⟩ (λv w'=>∃i:Int,v=O ae i/\w'=w/\((i= -1/\ws.filter ne=ws)∨∃n:Nat,i=n/\n<ws.length/\(ws.take (n+1)).filter ne=ws.take n)) w ?_).mono (by
  rintro e w' ⟨v,rfl,i,rfl,h⟩;exact⟨i,rfl,h⟩)
 have hs:=h.slice dJ;have fy:=hs.len;have qR:=hs.big;have lI:=hs.cap;refine⟨λnv i w'=>∃n:Nat,n<=ws.length/\i=(n:Int)/\nv=ws.length-n/\(ws.take n).filter ne=ws.take n/\w'=w,ws.length,⟨0,bh _,rfl,rfl,rfl,rfl⟩,?_⟩;rintro nv _ w0 ⟨n,hn,rfl,rfl,jh,rfl⟩;refine⟨λhc=>?_,λhc=>?_⟩
 ·have bT:(n:Int)<s.n:=aP hc;obtain⟨ad,x,cs,g1,g2,g3,g4,g5,g6⟩:=hs.get (bD n) bT;rw[aU]at g2;unfold lD at g6;subst g6;have ht:ws.take (n+1)=ws.take n++[x]:=by
   rw[bE,g2];rfl
  refine⟨ad,g1,_,g5,204,[],[],rfl,eU (by kernel_rfl),?_⟩;refine(Dm x w0).mono ?_;rintro _ w1 ⟨rfl,rfl⟩;refine⟨_,rfl,λhb=>⟨_,rfl,rfl,.inr ⟨n,rfl,aG,?_⟩⟩,λhb=>⟨ws.length-(n+1),aG,n+1,aG,aad,rfl,?_,rfl⟩⟩
  ·have hb:x=[]:=aP hb;rw[ht,eC,jh,hb];simp[ne]
  have hb:x≠[]:=aX hb;rw[ht,eC,jh];simp[ne,hb]
 have lz:¬(n:Int)<s.n:=aX hc;rw[bq aG]at jh;exact⟨_,rfl,rfl,.inl ⟨rfl,jh⟩⟩
theorem OP(h:Own lD 1 9 B w F s ws):aB au 203 #[s.v,.func (.func 204) #[] #[]] w λe w'=>
  ∃s':Sl,e=aq s'.v/\Own lD 1 9 B w' F s' (ws.filter ne)/\aF (λk=>B<=k) w w':=by
 refine(agV s ⟨.func (.func 204) #[] #[],rfl⟩ (λv w'=>∃s':Sl,v=s'.v/\Own lD 1 9 B w' F s' (ws.filter ne)/\aF (λk=>B<=k) w w') w ?_).mono (by
  rintro e w' ⟨v,rfl,s',rfl,h⟩;exact⟨s',rfl,h⟩)
 have fy:=h.len;have lI:=h.cap;have qR:=(h.slice dJ).big;refine(SH h).mono ?_;rintro _ w0 ⟨i,rfl,rfl,hi⟩;refine⟨i,rfl,λhc=>?_,λhc=>?_⟩
 ·rcases hi with⟨_,hf⟩ | ⟨n,rfl,hn,hf⟩
  ·rw[hf];exact⟨s,rfl,h,OnlyP.refl _ _⟩
  have:(n:Int)= -1:=eq_of_beq hc;omega
 rcases hi with⟨rfl,_⟩ | ⟨n,rfl,hn,hf⟩
 ·exact absurd hc aN
 refine⟨λnv a b w'=>∃(L:List (aJ)) (p q:Nat),a=p/\b=q/\p<q/\q<=ws.length/\nv=ws.length-q/\L.length=ws.length/\L.take p=(ws.take q).filter ne/\L.drop q=ws.drop q/\Own lD 1 9 B w' F s L/\aF (λk=>B<=k) w0 w',
  ws.length-(n+1),⟨ws,n,n+1,rfl,aad,aG,aG,rfl,rfl,hf.symm,rfl,h,OnlyP.refl _ _⟩,?_⟩
 rintro nv _ _ w1 ⟨L,p,q,rfl,rfl,hpq,hq,rfl,hL,ht,hd,hO,hP⟩;refine⟨λhc=>?_,λhc=>?_⟩
 ·have bT:(q:Int)<s.n:=aP hc;have hq':q<ws.length:=aG
  obtain⟨ad,x,cs,g1,g2,g3,g4,g5,g6⟩:=(hO.slice dJ).get (bD q) bT;rw[aU]at g2;unfold lD at g6;subst g6;have hx:ws[q]? =some x:=by
   rw[<-g2];have e1:=bm (λl=>l[0]?) hd;simpa using e1.symm
  have hw:ws.take (q+1)=ws.take q++[x]:=by
   rw[bE,hx];rfl
  have hdn:∀M:List (aJ),(∀j,q+1<=j->M[j]? =L[j]?)->M.drop (q+1)=ws.drop (q+1):=λM hM=>by
   apply gu;intro j;rw[jc,jc,hM _ aG];have e1:=bm (λl=>l[1+j]?) hd;simp only[jc]at e1;rw[show q+1+j=q+(1+j) by omega];exact e1
  refine⟨λj w2=>∃(M:List (aJ)) (p':Nat),j=p'/\p'<q+1/\M.length=ws.length/\M.take p'=(ws.take (q+1)).filter ne/\M.drop (q+1)=ws.drop (q+1)/\Own lD 1 9 B w2 F s M/\aF (λk=>B<=k) w0 w2,?_,ad,g1,_,g5,204,[],[],rfl,eU (by kernel_rfl),?_⟩
  ·rintro _ w2 ⟨M,p',rfl,m1,m2,m3,m4,m5,m6⟩;exact⟨ws.length-(q+1),aG,M,p',q+1,rfl,aad,m1,hq',rfl,m2,m3,m4,m5,m6⟩
  refine(Dm x w1).mono ?_;rintro _ w2 ⟨rfl,rfl⟩;refine⟨_,rfl,λhb=>?_,λhb=>?_⟩
  ·have hb:x≠[]:=aaz
   obtain⟨g,cells,b1,b2,b3,b4,b5⟩:=hO.store dJ (n:=p) aG (x:=x) (vs:=[ah (T x)]) (G:=λ_=>False) rfl rfl (λk hk=>hk.elim) aN;refine⟨⟨g,p*1,none⟩,b2,g,p*1,cells,_,rfl,b3,b4,λw3 dz xf=>⟨L.set p x,p+1,aad,aG,by rw[iB];exact hL,?_,hdn _ λj hj=>by rw[CT aG],b5 w3 dz xf,hP.trans (dz.p (F:=λk=>B<=k) λk hk=>.inl ?_) λk hk=>.inl hk⟩⟩
   ·rw[hw,eC,<-ht,bE,oU aG,Gh aG];simp[ne,hb]
   simp only[aO]at hk;subst hk;rcases hO with⟨rfl,_⟩ | ⟨g',_,_,a1,a2,_⟩
   ·cases b1
   rw[a1]at b1;injection b1 with b1;injection b1 with b1;omega
  have hb:x=[]:=aaz
  refine⟨L,p,rfl,aG,hL,?_,hdn _ λj _=>rfl,hO,hP⟩;rw[hw,eC,<-ht,hb];simp[ne]
 have lz:¬(q:Int)<s.n:=aX hc;have hqe:q=ws.length:=aG
 subst hqe;rw[bq (ba _)]at ht;obtain⟨w2,g,c1,c2,c3,c4⟩:=Own.clear (P:=au) (t:=132) (ty:=0) (i:=p) dJ aN (by kernel_rfl) (λw=>Tryz.zeroValue9 w) (by intro v hv;simp[Value.cells]at hv;subst hv;rfl) rfl hO aG;refine⟨p,⟨rfl,aG,lI⟩,w2,c1,p,⟨rfl,aG⟩,_,rfl,?_,hP.trans (c3.p (F:=λk=>B<=k) λk hk=>.inl ?_) λk hk=>.inl hk⟩
 ·rw[<-ht];exact c4
 simp only[aO]at hk;subst hk;rcases hO with⟨rfl,_⟩ | ⟨g',_,_,a1,a2,_⟩
 ·cases c2
 rw[a1]at c2;injection c2 with c2;injection c2 with c2;omega
theorem Bo(h:Own lD 1 9 B w F s ws)(hl:(fW ws).length<=140737488355328)(hn:ws.length<=140737488355328):aB au 177 #[s.v] w λe w'=>e=aq (ah (T (fW ws)))/\aF (λk=>B<=k) w w':=by
 refine ret (agU _ _ _ ?_);refine(OP h).mono ?_;rintro _ w1 ⟨s',rfl,hO,hP⟩;refine⟨s',rfl,?_⟩;have fy:=hO.len;have kA:=cu ne ws;have Yr:∀{w2:ay},aA [] w1 w2->aF (λk=>B<=k) w w2:=λh=>hP.trans h.p0 λk hk=>.inl hk;rcases hO with⟨rfl,he⟩ | ⟨g,css,tail,a1,a2,a4,a5,a6,a7,a9,a8⟩
 ·refine(Tryz.strings_Join_none none 0 (T [32]) w1).mono ?_;rintro _ w2 ⟨rfl,rfl⟩;refine⟨_,rfl,?_,hP⟩;unfold fW;rw[he];rfl
 obtain⟨sa,sn,sc⟩:=s';dsimp only at a1 a5 a6 a7 a9 fy;subst a1 fy;have KE:=JZ a8;have:=Tryz.strings_Join g 0 sc ((ws.filter ne).map T) (T [32]) w1 (λj x hj=>by
  rw[ch,gv]at hj;obtain⟨y,hy,rfl⟩:=hj;have:=a4.cells 0 ((ws.filter ne).map λx=>Value.string (T x)) (λj v hj=>by rw[bO,KE,bM (aZ.1 hj).1];exact hj) j (ah (T y)) (by rw[ch,hy];rfl);rw[fP]at this;exact this) a4.lt ab4 ab4 (by
  rw[iK];have:((λx:aM=>x.data.toList)∘T)=id:=rfl;rw[this,Qd];exact hl)
 rw[bA]at this;refine this.mono ?_;rintro _ w2 ⟨rfl,hB⟩;refine⟨_,rfl,?_,Yr (Only.below hB)⟩;rw[iK];have:((λx:aM=>x.data.toList)∘T)=id:=rfl;rw[this,Qd];rfl
end
theorem Dp(w:ay)(ws:List (aJ)){n:Nat}{parts:Array (Nat×az)}(hp:parts=(((ws.map λx=>Value.string (T x)).zipIdx 0).map λx=>(x.2,x.1)).toArray)(hn:ws.length=n)(h0:0<n)(CK:n*1<=16777216)(hl:(fW ws).length<=140737488355328):
  ∃(q:Sl) (w0:ay),(aw 132 n parts).run au w=.ok q.v w0/\aA [] w w0/\Own lD 1 9 w.heap.size w0 (λ_=>True) q ws/\aB au 177 #[q.v] w0 λe w'=>e=aq (ah (T (fW ws)))/\aF (λk=>w.heap.size<=k) w0 w':=by
 obtain⟨q,w0,k1,k2,k3⟩:=oy w ws hp hn h0 CK;exact⟨q,w0,k1,k3,k2,Bo k2 hl aG⟩
theorem iU:∀(ws:List (aJ)),(fW ws).length<=(ws.map λl=>l.length+1).sum:=by
 have h1:∀(r:List (aJ)),(Lib.joinTail [32] r).length=(r.map λl=>l.length+1).sum:=λr=>by
  induction r with
  | nil=>rfl
  | cons x r ih=>
   unfold Lib.joinTail at ih⊢;rw[bH,dy,aW,ih,bH,cE];simp
 have h2:∀(r:List (aJ)),(Lib.join r [32]).length<=(r.map λl=>l.length+1).sum:=λr=>by
  cases r with
  | nil=>exact bh _
  | cons x r=>
   rw[Lib.join_cons,aW,h1,bH,cE];omega
 have h3:∀(r:List (aJ)),((r.filter ne).map λl=>l.length+1).sum<=(r.map λl=>l.length+1).sum:=λr=>by
  induction r with
  | nil=>exact ba _
  | cons x r ih=>
   rw[mz,bH,cE];split
   ·rw[bH,cE];omega
   omega
 exact λws=>bf (h2 _) (h3 ws)
end Go.Proofs.YtpbgcbdclnfpnaaGreatDoor.Con
