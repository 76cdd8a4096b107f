import Derived.Test.YtpbgcbdclnfpnaaGreatDoorQr5
set_option linter.unusedSectionVars false
set_option linter.unusedSimpArgs false
set_option linter.unusedVariables false
set_option maxHeartbeats 4000000
open Go.Value renaming int->O,string->ah,pointer->ai,agg->aj,tuple->ak,bool->ao
open Go.IntKind renaming i64->ae,wrap->av
open Go.Ending renaming returned->aq
open _root_.ByteArray renaming mk->ar
open _root_.Go.Proofs.Tryz renaming prog->au
open Go.Instr renaming buildSlice->aw
open Go renaming World->ay,Value->az,Calls->aB
open Go.Kt renaming Only->aA,SliceF->aD,Cells->aE,OnlyP->aF,Blk->aH
namespace Go.Proofs.YtpbgcbdclnfpnaaGreatDoor.Con
open Go Go.RowKit Go.Kt Go.Kt.V Go.Proofs.YtpbgcbdclnfpnaaGreatDoor.Vc
theorem NH(w:ay):∃(s:Sl) (w':ay),(aw 132 16 #[.mk 1 (ah (ar #[43])),.mk 2 (ah (ar #[45])),.mk 3 (ah (ar #[42])),.mk 4 (ah (ar #[47])),.mk 5 (ah (ar #[37])),.mk 6 (ah (ar #[60])),.mk 7 (ah (ar #[60,61])),.mk 8 (ah (ar #[62])),.mk 9 (ah (ar #[62,61])),.mk 10 (ah (ar #[61,61])),.mk 11 (ah (ar #[33,61])),.mk 12 (ah (ar #[38,38])),.mk 13 (ah (ar #[124,124])),.mk 14 (ah (ar #[45])),.mk 15 (ah (ar #[33]))]).run au w=.ok (Sl.v s) w'/\
  aD lz 1 w' (λk=>w.heap.size<=k/\k<w'.heap.size) s BN/\aA [] w w':=by
 have uV:=run_buildSlice (P:=au) w 132 9 16 #[.mk 1 (ah (ar #[43])),.mk 2 (ah (ar #[45])),.mk 3 (ah (ar #[42])),.mk 4 (ah (ar #[47])),.mk 5 (ah (ar #[37])),.mk 6 (ah (ar #[60])),.mk 7 (ah (ar #[60,61])),.mk 8 (ah (ar #[62])),.mk 9 (ah (ar #[62,61])),.mk 10 (ah (ar #[61,61])),.mk 11 (ah (ar #[33,61])),.mk 12 (ah (ar #[38,38])),.mk 13 (ah (ar #[124,124])),.mk 14 (ah (ar #[45])),.mk 15 (ah (ar #[33]))]
  (BN.map λx=>Value.string (T x)).toArray Tryz.t9 _ (by kernel_rfl) (by kernel_rfl) rfl aN aN (by kernel_rfl)
 refine⟨⟨some ⟨w.heap.size,0,none⟩,16,16⟩,_,uV,⟨rfl,ba _,λh=>aaH,(by decide:(16:Nat)<=9223372036854775807),λj x hx=>?_⟩,Only.alloc _ _⟩;have hB:=Blk.alloc w 9 (BN.map λx=>Value.string (T x));have cd:=hB.lt;refine⟨⟨w.heap.size,0,none⟩,[ah (T x)],rfl,⟨ba _,cd⟩,rfl,?_,rfl⟩;rw[ka];exact Blk.eE hB j adO
theorem XK(w:ay):aB au 230 #[] w λe w'=>∃s:Sl,e=aq s.v/\aD lz 1 w' (λk=>w.heap.size<=k/\k<w'.heap.size) s BN/\aA [] w w':=by
 refine(akW (λv w'=>∃s:Sl,v=s.v/\aD lz 1 w' (λk=>w.heap.size<=k/\k<w'.heap.size) s BN/\aA [] w w') w ?_).mono (by
  rintro e w' ⟨v,rfl,s,rfl,h⟩;exact⟨s,rfl,h⟩)
 obtain⟨s,w',h1,h2,h3⟩:=NH w;exact⟨s,w',h1,s,rfl,h2,h3⟩
def mM(ts:List Tk):Nat:=(ts.takeWhile λt=>t.k !=5).length
theorem KZ(ts:List Tk):mM ts<=ts.length:=by
 unfold mM;exact(List.takeWhile_sublist _).length_le
theorem Cs{t:Tk}{ts:List Tk}{i:Nat}:tk (t::ts) (i+1)=tk ts i:=by unfold tk;rw[dl]
theorem Ct{t:Tk}{ts:List Tk}:tk (t::ts) 0=t:=rfl
theorem D4:∀(ts:List Tk) (i:Nat),i<mM ts->(tk ts i).k≠5
 | [],_,h=>by simp[mM]at h
 | t::ts,i,h=>by
  unfold mM at h;rw[eN]at h;split at h
  ·rename_i ht;cases i with
   | zero=>rw[Ct];simpa using ht
   | succ i=>rw[Cs];exact D4 ts i (by simpa[mM]using h)
  simp at h
theorem D5:∀(ts:List Tk),mM ts<ts.length->(tk ts (mM ts)).k=5
 | [],h=>abk
 | t::ts,h=>by
  unfold mM at h⊢;rw[eN]at h⊢;split
  ·rename_i ht;rw[aZ ht]at h;rw[bp,Cs];exact D5 ts (by simpa[mM]using h)
  rename_i ht;rw[di,Ct];simpa using ht
theorem Q2{ts:List Tk}(h:mM ts+1=ts.length):wZ ts:=λi hi=>by
 constructor
 ·intro hk;refine cr λhn=>D4 ts i aG hk
 intro hn;have:i=mM ts:=aG
 rw[this];exact D5 ts aG
theorem Vi(w:ay)(t:Tk):aB au 229 #[t.v] w λe w'=>e=aq (ao (t.k==5))/\aA [] w w':=by
 refine ret (v3w t.k (T t.t) t.n t.a (λv w'=>v=ao (t.k==5)/\aA [] w w') w ?_);exact λk0 w0 _ _ hO=>⟨rfl,hO⟩
theorem Q4{w:ay}{F:aL}{l:Sl}{ts:List Tk}(h:aD NB 4 w F l ts):aB au 228 #[l.v,.func (.func 229) #[] #[]] w λe w'=>e=aq (O ae (if mM ts<ts.length then(mM ts:Int)else -1))/\aA [] w w':=by
 refine ret (afe l ⟨.func (.func 229) #[] #[],rfl⟩ (λv w'=>v=O ae (if mM ts<ts.length then(mM ts:Int)else -1)/\aA [] w w') w ?_);have fl:=h.len;have qF:=h.big;have lC:=h.cap;refine⟨λnv i w'=>∃n:Nat,n<=mM ts/\i=(n:Int)/\nv=ts.length-n/\aA [] w w',ts.length,⟨0,bB _,rfl,rfl,Only.refl _ _⟩,?_⟩;rintro nv _ w0 ⟨n,hn,rfl,rfl,cQ⟩;have kB:=KZ ts;refine⟨λhc=>?_,λhc=>?_⟩
 ·have cd:(n:Int)<l.n:=aP hc;obtain⟨ad,x,cs,g1,g2,g3,g4,g5,g6⟩:=(SliceF.only jH aN h cQ aaa).get (bE n) cd;rw[aV,KV aG]at g2;injection g2 with g2;subst g2;unfold NB at g6;subst g6;refine⟨ad,g1,_,_,_,_,g5,229,[],[],rfl,fC (by kernel_rfl),?_⟩;refine(Vi w0 (tk ts n)).mono ?_;rintro _ w1 ⟨rfl,cJ⟩;refine⟨_,rfl,λhb=>⟨?_,cQ.cy cJ⟩,λhb=>⟨ts.length-(n+1),aG,n+1,?_,aaq,rfl,cQ.cy cJ⟩⟩
  ·have hb:(tk ts n).k=5:=abj
   have:n=mM ts:=by
    refine cr λfX=>D4 ts n aG hb
   rw[aZ aG,this]
  have hb:¬(tk ts n).k=5:=abj
  refine cr λfX=>hb ?_;have:n=mM ts:=aG
  rw[this];exact D5 ts aG
 have mQ:¬(n:Int)<l.n:=aY hc;rw[aX aG];exact⟨rfl,cQ⟩
def Gx:Ex:=.mk 0 0 [] 0 [] 0
def dF(ts:List Tk)(a:Int):Ex×Int×Int×Int:=
 if 0<=a/\a<ts.length/\mM ts+1=ts.length then(match IV ts a.toNat with
  | .error (c,p)=>(Gx,0,c,p)
  | .ok (x,j)=>(x,(j:Int),0,0))
 else(Gx,0,1, -1)
theorem rx0(w:ay)(lo hi:Nat):RX w lo hi Gx [O ae 0,O ae 0,ah (ar #[]),O ae 0,Sl.nil.v,O ae 0]:=.leaf ..
theorem K0{w:ay}{F:aL}{l:Sl}{ts:List Tk}(h:aD NB 4 w F l ts)(a:Int)(ha:InI a):aB au 214 #[l.v,O ae a] w λe w'=>
  ∃cs,e=aq (ak #[aj cs.toArray,O ae (dF ts a).2.1,aj #[O ae (dF ts a).2.2.1,O ae (dF ts a).2.2.2]])/\RX w' w.heap.size w'.heap.size (dF ts a).1 cs/\((dF ts a).2.2.1=0->0<=(dF ts a).2.1/\(dF ts a).2.1<ts.length)/\aA [] w w':=by
 refine(v4w l a (λv w'=>∃cs,v=(ak #[aj cs.toArray,O ae (dF ts a).2.1,aj #[O ae (dF ts a).2.2.1,O ae (dF ts a).2.2.2]])/\RX w' w.heap.size w'.heap.size (dF ts a).1 cs/\((dF ts a).2.2.1=0->0<=(dF ts a).2.1/\(dF ts a).2.1<ts.length)/\aA [] w w') w ?_).mono (by
  rintro e w' ⟨v,rfl,cs,rfl,h⟩;exact⟨cs,rfl,h⟩)
 intro k0 k1 w0 hY fA j9 jW cQ;have fl:=h.len;have lC:=h.cap;have qF:=h.big;have z0:=cQ.size;have h:=(h.inHeap jH aN)
 refine(Q4 (SliceF.only jH aN h cQ aaa)).mono ?_;rintro _ w1 ⟨rfl,cJ⟩;have z1:=cJ.size;have jV:=cQ.cy cJ;have kB:=KZ ts;have hcond:(((decide (a<0))||(decide (a>=(l.n:Int))))||((if mM ts<ts.length then(mM ts:Int)else -1) !=(av ae ((l.n:Int)-1))))=!decide (0<=a/\a<ts.length/\mM ts+1=ts.length):=by
  rw[gF aG aG,fl];by_cases h1:mM ts<ts.length
  ·rw[aZ h1,bT];simp;omega
  rw[aX h1,bT];simp;omega
 refine⟨_,rfl,cJ.same aab,?_⟩;dsimp only;rw[hcond];refine⟨λhc w2 dw=>?_,λhc=>?_⟩
 ·have hc:¬(0<=a/\a<ts.length/\mM ts+1=ts.length):=by
   rw[dj,dq]at hc;exact hc
  rw[dF,aX hc];exact⟨_,rfl,rx0 _ _ _,λh=>aaH,(jV.weaken (bs':=[]) λ_ h=>aaH).trans dw λx hx=>.inr aaJ⟩
 have hc:0<=a/\a<ts.length/\mM ts+1=ts.length:=by
  rw[HY,bJ]at hc;exact hc
 rw[dF,aZ hc];obtain⟨i,rfl⟩:∃i:Nat,a=(i:Int):=⟨a.toNat,aG⟩
 refine(XK w1).mono ?_;rintro _ w3 ⟨sn,rfl,Uh,dE⟩;have z3:=dE.size;refine⟨sn,rfl,dE.same aab,λb w4 hb jC dL uA=>?_⟩;have z4:=dL.size;have Bt:=jV.cy dE;have hR:Rd (λk=>F k/\k<w.heap.size) (λk=>w1.heap.size<=k/\k<w3.heap.size) ts w4 b l sn i 0 0 ((0:Nat):Int):=
  ⟨uA,SliceF.only jH aN h (Bt.cy dL) aaa,SliceF.only dH aN Uh dL aaa,λk hk=>ade,λk hk=>ade,Q2 hc.2.2,aG⟩
 refine((Gw (lA 0 0)).1 0 0 i w4 aN aN (ba _) hR).mono ?_;rintro _ w5 ⟨v,rfl,hD⟩;obtain⟨vk,vn,vs,vo,vl,va,rfl⟩:=hD.Bn;have z5:=hD.1.size;obtain⟨eK,hD⟩:=hD;rw[aV];have hpr:IV ts i=fU ts (lA 0 0) 0 0 i:=rfl;rw[hpr];have fin:∀{j:Nat} {c p:Int},Rd (λk=>F k/\k<w.heap.size) (λk=>w1.heap.size<=k/\k<w3.heap.size) ts w5 b l sn j c p ((0:Nat):Int)->∀w8,aA [] w5 w8->∀w9,aA [k1,k0] w8 w9->aA [] w w9:=λhR w8 fV w9 gy=>(((Bt.cy dL).trans eK λx hx=>.inr aaD).cy fV).trans gy λx hx=>.inr aaJ;refine⟨_,_,_,_,_,_,rfl,eK.same aab,?_⟩;cases hE:fU ts (lA 0 0) 0 0 i with
 | error e=>
  rw[hE]at hD;obtain⟨c,p⟩:=e;obtain⟨a1,a2,j,a3⟩:=hD;refine⟨_,_,_,_,_,_,a3.blk,λk3 w6 zo xN eI M1=>?_⟩;have z6:=eI.size;refine(Cq (a3.only eI)).mono ?_;rintro _ w7 ⟨rfl,fL⟩;have h7:=(a3.only eI).only fL;have fX:(c !=0)=true:=by simpa using a1
  refine⟨_,rfl,fL.same aab,_,_,_,_,_,_,h7.blk,λ_ w8 fV uB n1 n2 n3 n4 n5 n6=>⟨λk=>k=b,rfl,λe=>n2 e,λe=>n4 e,λw9 gy _=>⟨_,rfl,rx0 _ _ _,λh=>absurd h a1,fin a3 w8 (eI.cy (fL.cy fV)) w9 gy⟩⟩,λhc=>by rw[fX]at hc;cases hc⟩
 | ok q=>
  rw[hE]at hD;obtain⟨x,j⟩:=q;obtain⟨cs,a1,a2,a3⟩:=hD;refine⟨_,_,_,_,_,_,a3.blk,λk3 w6 zo xN eI M1=>?_⟩;have z6:=eI.size;refine(Cq (a3.only eI)).mono ?_;rintro _ w7 ⟨rfl,fL⟩;have z7:=fL.size;have h7:=(a3.only eI).only fL;refine⟨_,rfl,fL.same aab,_,_,_,_,_,_,h7.blk,λhc=>(by simp at hc),λ_ dR eO uf n1 n2 n3 n4 n5 n6=>⟨λk=>k=b,rfl,λe=>n2 e,λe=>n4 e,λdS ey _=>?_⟩⟩;have Pu:=eO.size;have Fa:=ey.size;have oI:(sM vk vn vs vo vl va)=cs:=bh Array.toList (Value.agg.inj a1);refine⟨sM vk vn vs vo vl va,rfl,?_,λ_=>⟨bE j,by have:=a3.lt;dsimp only;omega⟩,fin a3 dR (eI.cy (fL.cy eO)) dS ey⟩;rw[oI];exact((a2.only (eI.cy (fL.cy eO)) aaa).only ey λq hq=>.inl (by simp only[aR,bn,cm]at hq;omega)).wide aG aG
def oY(l:aJ):Ex×Int×Int:=
 if(dC l).2.1≠0 then(Gx,(dC l).2.1,(dC l).2.2)
 else if(dF (dC l).1 0).2.2.1≠0 then(Gx,(dF (dC l).1 0).2.2.1,(dF (dC l).1 0).2.2.2)
 else if(tk (dC l).1 (dF (dC l).1 0).2.1.toNat).k≠5 then(Gx,4,(tk (dC l).1 (dF (dC l).1 0).2.1.toNat).a)
 else((dF (dC l).1 0).1,0,(dF (dC l).1 0).2.2.2)
theorem ZZ{w:ay}(l:aJ)(hE:Er w):aB au 240 #[ah (T l)] w λe w'=>
  ∃cs,e=aq (ak #[aj cs.toArray,aj #[O ae (oY l).2.1,O ae (oY l).2.2]])/\RX w' w.heap.size w'.heap.size (oY l).1 cs/\aA [] w w':=by
 refine(v5w (T l) (λv w'=>∃cs,v=(ak #[aj cs.toArray,aj #[O ae (oY l).2.1,O ae (oY l).2.2]])/\RX w' w.heap.size w'.heap.size (oY l).1 cs/\aA [] w w') w ?_).mono (by
  rintro e w' ⟨v,rfl,cs,rfl,h⟩;exact⟨cs,rfl,h⟩)
 intro k0 k1 w0 hY fA j9 jW cQ;have z0:=cQ.size;refine(Gs l (hE.only cQ)).mono ?_;rintro _ w1 ⟨l0,rfl,hT,cJ⟩;have z1:=cJ.size;have jV:=cQ.cy cJ;generalize nI:dC l=tm at*
 obtain⟨ts,c,p⟩:=tm;dsimp only at hT⊢;have hra:oY l=if c≠0 then(Gx,c,p)else if(dF ts 0).2.2.1≠0 then(Gx,(dF ts 0).2.2.1,(dF ts 0).2.2.2)else if(tk ts (dF ts 0).2.1.toNat).k≠5 then(Gx,4,(tk ts (dF ts 0).2.1.toNat).a)else((dF ts 0).1,0,(dF ts 0).2.2.2):=by
  unfold oY;rw[nI]
 refine⟨l0,_,_,rfl,cJ.same aab,λhc k2 w2 uY xM dw n1 n2 n3=>⟨λk=>k=k2,rfl,λe=>n2 e,λe=>n3 e,λw3 dE=>?_⟩,λhc k3 w4 zo xN dL=>?_⟩
 ·have hc:c≠0:=aaw
  rw[hra,aZ hc];exact⟨_,rfl,rx0 _ _ _,((jV.cy dw).trans dE λx hx=>.inr aaJ)⟩
 have hc:c=0:=aaw
 rw[aX (by simp[hc])]at hra;have z4:=dL.size;refine(K0 (hT.only dL).sl 0 ⟨aN,aN⟩).mono ?_;rintro _ w5 ⟨cs,rfl,hX,hj,eK⟩;have z5:=eK.size;generalize Us:dF ts 0=pa at*
 obtain⟨x,j,c',p'⟩:=pa;dsimp only at hX hj hra⊢;obtain⟨xl,rfl,_⟩:=hX.cells;refine⟨_,_,_,_,_,_,_,_,_,rfl,eK.same aab,λk4 w6 zq BZ eI=>?_⟩;have z6:=eI.size;have h6:=((hT.only (dL.cy eK)).keep (w':=w6) λk hk cd=>eI.block k cd (by
  have:=hT.blk hk.2;simp only[aO];dsimp only at this;omega))
 have hl6:=h6.len;have anZ:aA [] w w6:=((jV.cy dL).cy eK).new eI aG;have fin:∀{w8 w9:ay},aA [k3] w6 w8->aA [k1,k0] w8 w9->aA [] w w9:=λh8 h9=>(anZ.new h8 aG).trans h9 λx hx=>.inr aaJ;refine⟨λi9 i10 w7=>aA [k3] w6 w7/\((c'≠0/\i9=c'/\i10=p')∨(c'=0/\(tk ts j.toNat).k≠5/\i9=4/\i10=(tk ts j.toNat).a)∨(c'=0/\(tk ts j.toNat).k=5/\i9=0/\i10=p')),?_,?_⟩
 ·rintro i9 i10 w7 ⟨fL,YM⟩;have z7:=fL.size;refine⟨λhi w8 fV n1 n2 n3 n4 n5 n6=>⟨λk=>k=k3,rfl,?_,?_,λw9 gy=>?_⟩,λhi dR eO n1 n2 n3 n4 n5 n6=>⟨λk=>k=k3,rfl,?_,?_,λdS ey=>?_⟩⟩
  ·intro e;omega
  ·intro e;omega
  ·have hi:i9≠0:=acO
   have hr:oY l=(Gx,i9,i10):=by
    rw[hra];rcases YM with⟨a1,rfl,rfl⟩ | ⟨a1,a2,rfl,rfl⟩ | ⟨a1,a2,rfl,rfl⟩
    ·rw[aZ a1]
    ·rw[aX (by simp[a1]),aZ a2]
    exact absurd rfl hi
   rw[hr];exact⟨_,rfl,rx0 _ _ _,fin (fL.cy fV) gy⟩
  ·intro e;omega
  ·intro e;omega
  have hi:i9=0:=acO
  have hr:oY l=(x,i9,i10):=by
   rw[hra];rcases YM with⟨a1,rfl,rfl⟩ | ⟨a1,a2,rfl,rfl⟩ | ⟨a1,a2,rfl,rfl⟩
   ·exact absurd hi a1
   ·exact absurd hi aN
   rw[aX (by simp[a1]),aX (by simp[a2])]
  rw[hr];have yO:aA [k3,k1,k0] w5 dS:=(((eI.trans fL λx hx=>.inl hx).cy eO).weaken (bs':=[k3,k1,k0]) λx hx=>.inl aaQ).trans ey λx hx=>.inl abD;have Fa:=yO.size;exact⟨_,rfl,(hX.only yO λq hq=>.inl (by simp only[aR,bn,cm]at hq;omega)).wide aG Fa,fin (fL.cy eO) ey⟩
 by_cases rN:c'=0
 ·obtain⟨hj0,Pj⟩:=hj rN;obtain⟨n,rfl⟩:∃n:Nat,j=(n:Int):=⟨j.toNat,aG⟩
  obtain⟨ad,t,cs,g1,g2,g3,g4,g5,g6⟩:=h6.sl.get hj0 aG;rw[aV,KV aG]at g2;injection g2 with g2;subst g2;unfold NB at g6;subst g6;rw[aV];refine⟨ad,λ_=>g1,(tk ts n).k,λ_=>g5.eE 0 _ rfl,λhh=>⟨ad,g1,(tk ts n).a,g5.eE 3 _ rfl,λfp fu=>⟨fu,.inr (.inl ⟨rN,?_,rfl,rfl⟩)⟩⟩,λhh=>⟨Only.refl _ _,.inr (.inr ⟨rN,?_,rN,rfl⟩)⟩⟩
  ·simpa[rN]using hh
  simpa[rN]using hh
 have hb:(c'==0)=false:=by simpa using rN
 refine⟨⟨0,0,none⟩,λhh=>adC,0,λhh=>adC,λhh=>adC,λ_=>⟨Only.refl _ _,.inl ⟨rN,rfl,rfl⟩⟩⟩
def Cu:Nat->Rp Ex
 | 0=>λ_ _ _ _=>False
 | d+1=>λw F x cs=>∃sl:Sl,cs=sM x.k x.n x.s x.op sl x.a/\aD (Cu d) 6 w F sl x.fZ
theorem pw:∀d,(Cu d).Ok
 | 0=>⟨λh _=>h.elim,λh=>h.elim,λh _=>h.elim,λh=>h.elim⟩
 | d+1=>⟨λ⟨sl,h1,h2⟩ hk=>⟨sl,h1,SliceF.keep (pw d) h2 aN hk⟩,λ⟨sl,h1,h2⟩=>⟨sl,h1,SliceF.inHeap (pw d) h2 aN⟩,λ⟨sl,h1,h2⟩ hk=>⟨sl,h1,SliceF.mono (pw d) h2 hk⟩,λ⟨sl,h1,h2⟩=>by
  subst h1;intro v hv;simp only[aR,bn,cm]at hv;rcases hv with rfl | rfl | rfl | rfl | rfl | rfl<;>rfl⟩
theorem K1{α:Type}{r q:Rp α}{size:Nat}{w:ay}{F:aL}{s:Sl}{xs:List α}(h:aD r size w F s xs)(hi:∀x cs,x∈xs->r w F x cs->q w F x cs):aD q size w F s xs:=
 ⟨h.len,h.cap,h.nil0,h.big,λj x hx=>by
  obtain⟨base,cs,h1,h2,h3,h4,h5⟩:=h.at_ j x hx;exact⟨base,cs,h1,h2,h3,h4,hi x cs (bD hx) h5⟩⟩
section
variable {w w':ay} {F:aL} {x y:Ex} {cs ds:aK}
theorem kZ{d:Nat}(h:Cu d w F x cs)(hO:aA [] w w'):Cu d w' F x cs:=(pw d).only h hO aaa
end
theorem mE(l m:aJ):((T l).toList==(T m).toList)=decide (l=m):=Xj l m
theorem tH{d:Nat}{w:ay}{F:aL}{x:Ex}{cs:aK}(h:Cu d w F x cs):∃sl:Sl,cs=sM x.k x.n x.s x.op sl x.a:=by
 cases d with
 | zero=>exact h.elim
 | succ d=>obtain⟨l,oI,_⟩:=h;exact⟨l,oI⟩
def AF:Nat->Ex->Prop
 | 0,_=>True
 | d+1,x=>x.s.length<4611686018427387903/\∀y,y∈x.fZ->AF d y
def tY(f:Ex->Nat):List Ex->Nat
 | []=>0
 | x::xs=>f x+tY f xs
def pz:Nat->Ex->Nat
 | 0,_=>0
 | d+1,x=>1+tY (pz d) x.fZ
def rA:Nat->Ex->Prop
 | 0,_=>True
 | d+1,x=>InI x.n/\∀y,y∈x.fZ->rA d y
def eZ(l:aJ):Bool:=decide (l≠[]/\l.length<=24)&&(match l with
 | c::_=>ra c
 | []=>false)&&decide (l.takeWhile iH=l)&&!sJ.contains l
theorem Q5{w:ay}(l:aJ)(hl:l.length<9223372036854775807):
  aB au 178 #[ah (T l)] w λe w'=>e=aq (ao (eZ l))/\aA [] w w':=by
 refine ret (afo _ _ _ ?_);intro k0 w0 hY fA cQ;have e0:(ar #[])=T []:=rfl;rw[dP,e0,mE];refine⟨λb s i w'=>b=eZ l/\aA [] w w',λb s i w' h=>⟨by rw[h.1],h.2⟩,λhc=>?_,λhc=>⟨?_,cQ⟩⟩
 ·simp only[aU,dj,dq,bJ]at hc;obtain⟨h1,h2⟩:=hc;have h2:l.length<=24:=aG
  obtain⟨c,r,rfl⟩:∃c r,l=c::r:=by
   cases l with
   | nil=>exact absurd rfl h1
   | cons c r=>exact⟨c,r,rfl⟩
  have hn:eZ (c::r)=(ra c&&decide ((c::r).takeWhile iH=c::r)&&!sJ.contains (c::r)):=by
   unfold eZ;rw[bL ⟨h1,h2⟩,db]
  refine⟨c,⟨oa _,by rw[xW];rfl⟩,(Au w0 c).mono ?_⟩;rintro _ w2 ⟨rfl,dw⟩;have pG:=cQ.cy dw;refine⟨_,rfl,dw.same aab,λhb hB=>?_,λhb=>⟨by rw[hn,hb];rfl,pG⟩⟩;refine(QU (i:=0) (r:=[]) hB (bB _) hl).mono ?_;rintro _ w3 ⟨rfl,dE⟩;rw[fi];have wz:aH w3 k0 194 [ah (T (c::r)),O ae 0]:=(dE.block k0 hB.lt aaa).trans hB;refine⟨_,rfl,T (c::r),0,wz,?_⟩;rw[mE];refine⟨λhe=>(KR w3).mono ?_,λhe=>⟨?_,pG.cy dE⟩⟩
  ·rintro _ w4 ⟨s,rfl,hs,dL⟩;have uA:aH w4 k0 194 [ah (T (c::r)),O ae 0]:=(dL.block k0 wz.lt aaa).trans wz;refine⟨s,rfl,T (c::r),0,uA,(sI (vF hs) (c::r)).mono ?_⟩;rintro _ w5 ⟨rfl,eK⟩;have xL:aH w5 k0 194 [ah (T (c::r)),O ae 0]:=(eK.block k0 uA.lt aaa).trans uA;exact⟨_,rfl,_,_,xL,by rw[hn,hb,he];rfl,pG.cy (dE.cy (dL.cy eK))⟩
  rw[hn,hb,he];rfl
 unfold eZ;rw[bH]
 ·rfl
 rintro⟨h1,h2⟩;rw[bH h1,bL aG]at hc;cases hc
def ii(x:Ex):Int:=if x.k=5 then lH x.op else 6
theorem oZ{w}{F}{x}{cs}{d}(h:Cu d w F x cs):aB au 258 #[aj cs.toArray] w λe w'=>e=aq (O ae (ii x))/\aA [] w w':=by
 cases d with
 | zero=>exact h.elim
 | succ d=>
  obtain⟨sl,rfl,h⟩:=h;refine ret (alg _ _ _ _ _ _ _ _ ?_);refine⟨λhc k0 w0 _ _ hO=>?_,λhc k1 w1 hk iy hO=>(IW w1 x.op).mono ?_⟩
  ·have hc:=aaw
   rw[ii,aX hc];exact⟨rfl,hO⟩
  rintro _ w2 ⟨rfl,rfl⟩;rw[ii,aZ aaw];exact⟨_,rfl,λ_ _=>rfl,rfl,hO⟩
def Z0(n:Int)(s:aJ)(op len:Int)(x:Ex):Bool:=((((x.n==n)&&decide (x.s=s))&&(x.op==op))&&(x.fZ.length==len))
def lI(x:Ex):Bool:=
 if x.k=1 then Z0 (if 0>x.n then 0 else x.n) [] 0 0 x
 else if x.k=2∨x.k=3 then eZ x.s&&Z0 0 x.s 0 0 x
 else if x.k=4 then Z0 0 [] (if x.op=15 then 15 else 14) 1 x
 else if x.k=5 then !(lH x.op==6)&&Z0 0 [] x.op 2 x
 else false
def qf(f:Ex->Bool):List Ex->Bool
 | []=>true
 | x::xs=>f x&&qf f xs
def fz:Nat->Ex->Bool
 | 0,_=>false
 | d+1,x=>lI x&&qf (fz d) x.fZ
theorem NI{f}{xs:List Ex}{n}{x}(hx:xs[n]? =some x):qf f (xs.drop n)=(f x&&qf f (xs.drop (n+1))):=by
 rw[gC (be.1 hx).1,(be.1 hx).2,qf]
abbrev ShD(d:Nat):Prop:=∀{w:ay} {F:aL} {x:Ex} {cs:aK},AF d x->Cu d w F x cs->aB au 238 #[aj cs.toArray] w λe w'=>e=aq (ao (fz d x))/\aA [] w w'
theorem Q6{d}(hS:ShD d){w}{F}{x}{cs}(hl:AF d x)(h:Cu d w F x cs):aB au 256 #[aj cs.toArray] w λe w'=>e=aq (ao (!fz d x))/\aA [] w w':=by
 obtain⟨sl,rfl⟩:=tH h;refine ret (ale _ _ _ _ _ _ _ _ ?_);intro k0 w0 hk iy hO;refine(hS hl (kZ h hO)).mono ?_;rintro _ w1 ⟨rfl,cJ⟩;exact⟨_,rfl,cJ.same aab,rfl,hO.cy cJ⟩
theorem Q7{d:Nat}(hS:ShD d){w}{F}{l}{xs}(hl:∀y,y∈xs->AF d y)(h:aD (Cu d) 6 w F l xs):aB au 271 #[l.v,.func (.func 256) #[] #[]] w λe w'=>∃i,e=aq (O ae i)/\decide (i>=0)=!qf (fz d) xs/\aA [] w w':=by
 refine(afw l ⟨.func (.func 256) #[] #[],rfl⟩ (λv w'=>∃i,v=O ae i/\decide (i>=0)=!qf (fz d) xs/\aA [] w w') w ?_).mono (by
  rintro e w' ⟨v,rfl,i,rfl,h⟩;exact⟨i,rfl,h⟩)
 have fl:=h.len;have qF:=h.big;have lC:=h.cap;refine⟨λnv i w'=>∃n,n<=xs.length/\i=n/\nv=xs.length-n/\qf (fz d) xs=qf _ (xs.drop n)/\aA [] w w',xs.length,⟨0,bB _,rfl,rfl,rfl,Only.refl _ _⟩,?_⟩;rintro nv _ w0 ⟨n,hn,rfl,rfl,iW,cQ⟩;refine⟨λhc=>?_,λhc=>?_⟩
 ·have cd:(n:Int)<l.n:=aP hc;obtain⟨ad,x,cs,g1,g2,g3,g4,g5,g6⟩:=(SliceF.only (pw d) aN h cQ aaa).get (bE n) cd;rw[aV]at g2;obtain⟨sl,rfl⟩:=tH g6;refine⟨ad,g1,_,_,_,_,_,_,g5,256,[],[],rfl,fC (by kernel_rfl),?_⟩;refine(Q6 hS (hl x (bD g2)) g6).mono ?_;rintro _ w1 ⟨rfl,cJ⟩;have nS:=NI (f:=fz d) g2;refine⟨_,rfl,λhb=>⟨_,rfl,?_,cQ.cy cJ⟩,λhb=>⟨xs.length-_,aG,n+1,aG,aaq,rfl,?_,cQ.cy cJ⟩⟩
  ·have hb:fz d x=false:=abj
   rw[iW,nS,hb,fj,Bool.not_false];exact bL (bE n)
  have hb:fz d x=true:=abj
  rw[iW,nS,hb,db]
 have mQ:=aY hc;refine⟨_,rfl,?_,cQ⟩;rw[iW,oO aG];rfl
theorem Gy{d}(hS:ShD d){w}{F}{l}{xs}(hl:∀y,y∈xs->AF d y)(h:aD (Cu d) 6 w F l xs):aB au 255 #[l.v,.func (.func 256) #[] #[]] w λe w'=>e=aq (ao (!qf (fz d) xs))/\aA [] w w':=by
 refine ret (afv l ⟨.func _ #[] #[],rfl⟩ _ w ?_);refine(Q7 hS hl h).mono ?_;rintro _ w0 ⟨i,rfl,h1,h2⟩;exact⟨_,rfl,by rw[h1],h2⟩
theorem K2:∀d,ShD d
 | 0,_,_,_,_,_,h=>h.elim
 | d+1,w,F,x,cs,⟨Yv,hl⟩,⟨sl,h1,h2⟩=>by
  subst h1;refine ret (ald _ _ _ _ _ _ _ _ ?_);intro k0 k1 w0 hY fA j9 jW cQ;have hs:∀{b:Bool},lI x=b->fz (d+1) x=_:=λe=>by rw[fz,e]
  have own:∀{w1 w2:ay},aA [] w w1->aA [k1] w1 w2->aA [] w w2:=λh1 h2=>h1.new h2 j9;refine⟨λi0 i1 i2 s0 i3 l0 i4 w1=>∃s,s0=T s/\lI x=Z0 i2 s i3 i0 x/\aA [] w w1/\w0.heap.size<=w1.heap.size,?_,λhk w4 dL=>⟨[],rfl,?_,own cQ dL,dL.size⟩,λhk=>?_⟩
  ·rintro i0 i1 i2 _ i3 l0 i4 w1 ⟨s,rfl,he,cJ,z1⟩;have hc:((((x.n==i2)&&((T x.s).toList==(T s).toList))&&(x.op==i3))&&((sl.n:Int)==i0))=lI x:=by
    rw[he,mE,h2.len];rfl
   rw[hc];refine⟨λb w'=>b=fz _ x/\aA [] w w',?_,λhh=>(Gy (K2 d) hl (SliceF.only (pw d) aN h2 cJ aaa)).mono ?_,λhh=>⟨by rw[hs hh,fj],cJ⟩⟩
   ·rintro _ w2 ⟨rfl,h⟩;exact⟨rfl,h⟩
   rintro _ w3 ⟨rfl,dE⟩;exact⟨_,rfl,dE.same aab,by rw[hs hh,db,ku],cJ.cy dE⟩
  ·have hk:=aa2
   rw[lI,aZ hk]
  have j9:=aa2
  refine⟨λb w'=>b=decide (x.k=2∨x.k=3)/\w'=w0,?_,λuY=>⟨?_,rfl⟩,λuY=>⟨?_,rfl⟩⟩
  ·rintro _ _ ⟨rfl,rfl⟩;refine⟨λhk=>(Q5 x.s aG).mono ?_,λhk=>⟨λzq=>⟨λho w8 fV=>⟨[],rfl,?_,own cQ fV,fV.size⟩,λho w9 gy=>⟨[],rfl,?_,own cQ gy,gy.size⟩⟩,λzq=>⟨λDa=>(IW _ x.op).mono ?_,λDa=>⟨?_,cQ⟩⟩⟩⟩
   ·rintro _ w6 ⟨rfl,eI⟩;have z6:=eI.size;have hk:=aP hk;refine⟨_,rfl,eI.same aab,λhb=>⟨?_,cQ.cy eI⟩,λhb w7 fL=>⟨x.s,rfl,?_,own (cQ.cy eI) fL,by have:=fL.size;omega⟩⟩
    ·have hb:=abj
     rw[hs (b:=false) (by rw[lI,aX j9,aZ hk,hb,fj]),fj]
    have hb:=abj
    rw[lI,aX j9,aZ hk,hb,db]
   ·have hk:=aY hk;have zq:=adK
    have ho:=by simpa using ho
    rw[lI,aX j9,aX hk,aZ zq,aZ ho]
   ·have hk:=aY hk;have zq:=adK
    rw[lI,aX j9,aX hk,aZ zq,aX (by simpa using ho)]
   ·rintro _ dR ⟨rfl,rfl⟩;have hk:=aY hk;have zq:=adK
    have Da:=by simpa using Da
    refine⟨_,rfl,λ_ _=>rfl,λhb=>⟨?_,cQ⟩,λhb dS ey=>⟨[],rfl,?_,own cQ ey,ey.size⟩⟩
    ·rw[hs (b:=false) (by rw[lI,aX j9,aX hk,aX zq,aZ Da,hb,Bool.not_true,fj]),fj]
    rw[lI,aX j9,aX hk,aX zq,aZ Da,hb,Bool.not_false,db]
   have zq:=adK
   have Da:=by simpa using Da
   rw[hs (b:=false) (by rw[lI,aX j9,aX (aY hk),aX zq,aX Da]),fj]
  ·have uY:=by simpa using uY
   rw[uY];rfl
  rw[bT];simp[by simpa using uY]
def Tb(w:ay):Prop:=Lib.TabIs au w "internal/strconv.uint64pow10" .u64 Lib.pow10Tab
theorem tb_num:Tryz.prog.globalNamed "internal/strconv.uint64pow10" =some 1:=by kernel_rfl
theorem Tb.keep{w w'}(h:Tb w)(hk:1<w.heap.size->w'.heap[1]? =w.heap[1]?):Tb w':=by
 unfold Tb Lib.TabIs World.var? at h⊢;rw[tb_num]at h⊢;simp at h⊢;rw[hk]
 ·exact h
 refine cr λhn=>?_;rw[ff aG]at h;cases h
theorem Tb.lt{w}(h:Tb w):1<w.heap.size:=by
 unfold Tb Lib.TabIs World.var? at h;rw[tb_num]at h;simp at h;refine cr λhn=>?_;rw[ff aG]at h;cases h
theorem Tb.only{w w'}(h:Tb w)(hO:aA [] w w'):Tb w':=h.keep λcd=>hO.block _ cd aaa
theorem Only.grown w k os:aA [] w (Go.Sort.grow (w.drewN k) os):=⟨rfl,rfl,rfl,aaa,λq hq _=>by
 simp[Go.Sort.grow,World.heap_drewN];rw[Array.getElem?_append_left hq]⟩
theorem za{w} n (hn:InI n) (hT:Tb w):aB au 144 #[O ae n] w λe w'=>e=aq (ah (T (Lib.itoa n)))/\aA [] w w':=by
 refine ret (v1w _ _ _ ?_);refine(Tryz.strconv_Itoa n hn.1 hn.2 w hT).mono ?_;rintro _ w0 ⟨rfl,k,os,rfl⟩;exact⟨_,rfl,rfl,Only.grown _ _ _⟩
def Bf(w:ay)(B:Nat)(s:Sl)(l:aJ):Prop:=
 (s=Sl.nil/\l=[])∨∃g tail,s.a=some ⟨g,0,none⟩/\B<=g/\aH w g 5 (l.map gn++tail)/\tail.length=s.c-s.n/\s.n=l.length/\s.n<=s.c/\s.c<=9223372036854775807/\0<s.c
theorem Bf.len{w:ay}{B:Nat}{s:Sl}{l:aJ}(h:Bf w B s l):s.n=l.length:=by
 rcases h with⟨rfl,rfl⟩ | ⟨g,tail,_,_,_,_,h,_⟩
 ·rfl
 exact h
theorem Bf.lt{w:ay}{B:Nat}{s:Sl}{l:aJ}(h:Bf w B s l){g:Nat}(hg:s.a=some ⟨g,0,none⟩):B<=g/\g<w.heap.size:=by
 rcases h with⟨rfl,rfl⟩ | ⟨g',tail,h1,h2,h3,_⟩
 ·cases hg
 rw[hg]at h1;injection h1 with h1;injection h1 with h1;subst h1;exact⟨h2,h3.lt⟩
theorem Bf.keep{w w':ay}{B:Nat}{s:Sl}{l:aJ}(h:Bf w B s l)(hk:∀g,s.a=some ⟨g,0,none⟩->g<w.heap.size->w'.heap[g]? =w.heap[g]?):Bf w' B s l:=by
 rcases h with h | ⟨g,tail,h1,h2,h3,h4⟩
 ·exact .inl h
 exact .inr ⟨g,tail,h1,h2,(hk g h1 h3.lt).trans h3,h4⟩
theorem afM(l:aJ):Lib.strCells (T l)=l.map gn:=rfl
theorem Gz:Tryz.prog.underlying 214=some (.slice 5):=by kernel_rfl
theorem Z1:Tryz.prog.underlying 9=some .string:=by kernel_rfl
theorem K3:Tryz.prog.info? 5=some Tryz.t5:=by kernel_rfl
theorem K4{w:ay}{B:Nat}{s:Sl}{l:aJ}(h:Bf w B s l)(m:aJ)(hB:B<=w.heap.size)(hm:l.length+m.length<=140737488355328):
  ∃s' w',(Builtin.append_ #[214,9] 214 #[s.v,ah (T m)]).run au w=.ok s'.v w'/\Bf w' B s' (l++m)/\aF (λk=>s.a=some ⟨k,0,none⟩) w w'/\(s'.a=s.a∨s'.a=some ⟨w.heap.size,0,none⟩):=by
 have ht:=Gz;have hu:=Z1;have hi:=K3;have u7:Tryz.t5.size=1:=rfl;have qC:Tryz.t5.bytes=1:=rfl;have hz:Tryz.t5.zero=some (.int .u8 0):=rfl;have hsz:(T m).size=m.length:=dP m;have grown:∀(lA Pf:Nat),lA=l.length+m.length->0<l.length+m.length->∀cells:Array az,cells=((l++m).map gn).toArray++Builtin.zeroCells (Value.int .u8 0).cells (grownCap w lA Pf 5-lA)->
   Bf (w.drew.alloc (.cells cells 5)) B ⟨some ⟨w.heap.size,0,none⟩,lA,grownCap w lA Pf 5⟩ (l++m)/\aF (λk=>s.a=some ⟨k,0,none⟩) w (w.drew.alloc (.cells cells 5)):=by
  rintro lA Pf rfl h0 cells rfl;have hO:aA [] w (w.drew.alloc (.cells (((l++m).map gn).toArray++Builtin.zeroCells (Value.int .u8 0).cells (grownCap w (l.length+m.length) Pf 5-(l.length+m.length))) 5)):=(Only.drew w).cy (Only.alloc _ _);refine⟨.inr ⟨w.heap.size,(Builtin.zeroCells (Value.int .u8 0).cells (grownCap w (l.length+m.length) Pf 5-(l.length+m.length))).toList,rfl,hB,?_,?_,aaa,grownCap_ge _ _ _ _,grownCap_le_maxLen _ _ _ _ (by simp only[maxLen];omega),cq h0 (grownCap_ge _ _ _ _)⟩,hO.p0⟩
  ·have e:∀(x:aK) (z:Array az),x.toArray++z=(x++z.toList).toArray:=λx z=>aaa
   rw[e];exact Blk.alloc w.drew 5 _
  exact(vf w _ (size:=1) rfl).trans (ka _)
 rcases h with⟨rfl,rfl⟩ | ⟨g,tail,h1,h2,h3,h4,h5,h6,h7,h8⟩
 ·cases m with
  | nil=>
   refine⟨Sl.nil,w,?_,.inl ⟨rfl,rfl⟩,OnlyP.refl _ _,.inl rfl⟩;have hf:=Lib.run_firstCells_string (P:=au) w 1 (T []);have h0:(T []).size=0:=rfl;rw[h0]at hf;simp[Sl.nil,Sl.v,Builtin.append_,run_underlying ht,run_underlying hu,sizeOf,typeInfo,hi,u7,Builtin.lenOf,h0,hf]
  | cons c m=>
   have hr:=run_append_nil_string (P:=au) w 214 9 214 5 Tryz.t5 (.int .u8 0) ht hu hi hz (T (c::m)) (by rw[hsz];simp) adP (by rw[hsz,qC];omega);rw[hsz]at hr;obtain⟨g1,g2⟩:=grown (c::m).length 0 aaa aaa _ rfl;have e1:(T (c::m)).data.map (λb=>Value.int .u8 b.toNat)=(List.map gn ([]++c::m)).toArray:=by
    apply OW.1;rw[Array.toList_map,iw];rfl
   rw[e1]at hr;exact⟨_,_,hr,g1,g2,.inr rfl⟩
 obtain⟨sa,sn,sc⟩:=s;dsimp only at h1 h4 h5 h6 h7 h8;subst h1;by_cases qB:sn+m.length<=sc
 ·have hb3:=h3;unfold aH at h3;have hr:=Lib.run_append_room_string (P:=au) w 214 9 214 5 Tryz.t5 ht hu hi u7 g sn sc _ h3 (T m) (by rw[hsz];exact qB) (by
   rw[hsz,eJ,aW,bA];omega)
  rw[hsz,afM]at hr;refine⟨⟨some ⟨g,0,none⟩,sn+m.length,sc⟩,_,hr,.inr ⟨g,tail.drop m.length,rfl,h2,?_,?_,by dsimp only;rw[aW];omega,qB,h7,h8⟩,(Only.setRow w g _).p λx hx=>.inl (by simp only[aO]at hx;rw[hx]),.inl rfl⟩
  ·have:=hb3.setRow ((l++m).map gn++tail.drop m.length);have e:((l.map gn++tail).toArray.toList.take sn++m.map gn++(l.map gn++tail).toArray.toList.drop (sn+m.length))=(l++m).map gn++tail.drop m.length:=by
    rw[iw,PJ abS,bq abS,List.drop_append,oO abS,cE,bA,dc,h5,ez]
   rw[e];exact this
  rw[cM];dsimp only;omega
 have Bx:∀j v,(l.map gn)[j]? =some v->w.cell? ((⟨g,0,none⟩:Addr).add j)=some v:=λj v hj=>h3.cells 0 (l.map gn) (λj v hj=>acV) j v hj;have hr:=Lib.run_append_grow_string (P:=au) w 214 9 214 5 Tryz.t5 (.int .u8 0) ht hu hi hz ⟨g,0,none⟩ sn sc (l.map gn) (by rw[u7,bA];omega) Bx (T m) adP adP (growslice_fits adP (by rw[hsz,qC];omega));rw[hsz,afM]at hr;obtain⟨g1,g2⟩:=grown (sn+m.length) sc aG aG _ rfl;refine⟨_,_,hr.trans ?_,g1,g2,.inr rfl⟩;simp[dc]
theorem XM(w:ay)(F:aL):∀l:aJ,lO jq 1 w F l (l.map λb=>[gn b])
 | []=>trivial
 | c::l=>⟨⟨rfl,rfl⟩,XM w F l⟩
theorem Q8:∀l:aJ,(l.map λb=>[gn b]).flatten=l.map gn
 | []=>rfl
 | c::l=>by rw[bG,dy,Q8 l];rfl
theorem GA{w:ay}{F:aL}:∀{l:aJ} {css:List (aK)},lO jq 1 w F l css->css.flatten=l.map gn
 | [],[],_=>rfl
 | c::l,d::css,h=>by
  obtain⟨⟨_,h1⟩,h2⟩:=h;unfold jq at h1;subst h1;rw[dy,GA h2];rfl
theorem Bf.own{w:ay}{B:Nat}{s:Sl}{l:aJ}(h:Bf w B s l)(F:aL):Own jq 1 5 B w F s l:=by
 rcases h with h | ⟨g,tail,h1,h2,h3,h4,h5,h6,h7,_⟩
 ·exact .inl h
 exact .inr ⟨g,l.map λb=>[gn b],tail,h1,h2,by rw[Q8];exact h3,by rw[ka];exact h4,h5,h6,h7,XM _ _ _⟩
theorem Bf.of{w:ay}{B:Nat}{s:Sl}{l:aJ}{F:aL}(h:Own jq 1 5 B w F s l)(h0:0<l.length):Bf w B s l:=by
 rcases h with h | ⟨g,css,tail,h1,h2,h3,h4,h5,h6,h7,h8⟩
 ·exact .inl h
 exact .inr ⟨g,tail,h1,h2,by rw[<-GA h8];exact h3,by rw[h4,ka],h5,h6,h7,aG⟩
structure Pg (G:aL) (w:ay) (b:Nat) (sl sn:Sl) (l:aJ):Prop where
 blk:∃q:Option Addr,(q=none∨q=some ⟨b,0,none⟩)/\aH w b 307 [ai q,sl.v,sn.v]
 buf:Bf w (b+1) sl l
 sig:aD lz 1 w G sn BN
 hG:∀k,G k->k<b
def tZ(b:Nat)(sl:Sl)(w:ay)(pM:Sl)(w':ay):Prop:=aF (λk=>k=b∨sl.a=some ⟨k,0,none⟩) w w'/\∀k,pM.a=some ⟨k,0,none⟩->sl.a=some ⟨k,0,none⟩∨w.heap.size<=k
theorem tZ.trans{b:Nat}{sl pM ahr:Sl}{w w' tt:ay}(h:tZ b sl w pM w')(k:tZ b pM w' ahr tt):tZ b sl w ahr tt:=by
 have z:=h.1.size;refine⟨h.1.trans k.1 λx hx=>?_,λx hx=>?_⟩
 ·rcases hx with hx | hx
  ·exact .inl (.inl hx)
  rcases h.2 x hx with e | e
  ·exact .inl (.inr e)
  exact .inr e
 rcases k.2 x hx with e | e
 ·exact h.2 x e
 exact .inr aG
theorem tZ.only{b:Nat}{sl:Sl}{w w':ay}(h:aA [] w w'):tZ b sl w sl w':=⟨h.p0,λ_ h=>.inl h⟩
theorem tZ.same{b:Nat}{sl pM:Sl}{w w':ay}(h:tZ b sl w pM w'){k:Nat}(hk:k≠b)(hs:sl.a≠some ⟨k,0,none⟩)(hl:k<w.heap.size):cj [k] w w':=h.1.same (by
 intro x hx;simp only[aO]at hx;subst hx;exact⟨hl,λe=>e.elim hk hs⟩)
theorem Pg.only{G:aL}{w w':ay}{b:Nat}{sl sn:Sl}{l:aJ}(h:Pg G w b sl sn l)(hO:aA [] w w'):Pg G w' b sl sn l:=by
 obtain⟨q,hq,hB⟩:=h.blk;exact⟨⟨q,hq,hO.blk hB aaa⟩,h.buf.keep λg _ hl=>hO.block g hl aaa,SliceF.only dH aN h.sig hO aaa,h.hG⟩
theorem Pg.lb{G:aL}{w:ay}{b:Nat}{sl sn:Sl}{l:aJ}(h:Pg G w b sl sn l):b<w.heap.size:=by
 obtain⟨q,hq,hB⟩:=h.blk;exact hB.lt
theorem XN(v:az)(w:ay):(Nr 215 #[v]).run au w=.ok v w:=by
 unfold Nr;rw[Sem.run_bind,run_callFunc_extern Tryz.func215 (by kernel_rfl) (by kernel_rfl) (by kernel_rfl) (e:=Extern.AbiNoEscape.same) (by kernel_rfl)];rw[Lib.run_noEscape];rfl
theorem K5{w:ay}{b:Nat}{q:Option Addr}{sl sn:Sl}(hq:q=none∨q=some ⟨b,0,none⟩)(h:aH w b 307 [ai q,sl.v,sn.v]):
  aB au 199 #[ai (some ⟨b,0,none⟩)] w λe w'=>e=aq (ak #[])/\aA [b] w w'/\aH w' b 307 [ai (some ⟨b,0,none⟩),sl.v,sn.v]:=by
 refine ret (XH _ _ _ ?_);have Ic:w.shape? b=some (307,3):=by
  unfold World.shape?;unfold aH at h;rw[h];rfl
 refine⟨q,Blk.eE h 0 rfl,λhn=>?_,λhn=>⟨q,Blk.eE h 0 rfl,?_⟩⟩
 ·have JL:=Lib.run_to_unsafe (P:=au) (src:=213) (dst:=281) w ⟨b,0,none⟩ (t:=216) (j:=Tryz.t216) (by kernel_rfl) (by kernel_rfl) (by kernel_rfl) aN Ic (by decide:(0:Nat)<3);have JM:=Lib.run_from_unsafe (P:=au) (src:=281) (dst:=213) w ⟨b,0,none⟩ (u:=216) (j:=Tryz.t216) (by kernel_rfl) (by kernel_rfl) (by kernel_rfl) Ic (by kernel_rfl);exact⟨⟨ai (some ⟨b,0,none⟩),rfl⟩,w,JL,⟨ai (some ⟨b,0,none⟩),rfl⟩,w,XN _ w,some ⟨b,0,none⟩,w,JM,b,0,_,_,rfl,h,aaa,λw3 hO hB=>⟨rfl,hO,hB⟩⟩
 rcases hq with rfl | rfl
 ·cases hn
 exact⟨false,w,Lib.run_neq_ptr_same w _ (te:=216) (j:=Tryz.t216) (by kernel_rfl) (by kernel_rfl),λe=>adJ,λ_=>⟨rfl,Only.refl _ _,h⟩⟩
section
variable {G:aL} {w:ay} {b:Nat} {sl sn:Sl} {l:aJ}
theorem Z2(h:Pg G w b sl sn l):aB au 184 #[ai (some ⟨b,0,none⟩)] w λe w'=>e=aq (O ae (l.length:Int))/\w'=w:=by
 refine ret (XF _ _ _ ?_);obtain⟨q,hq,hB⟩:=h.blk;exact⟨sl,Blk.eE hB 1 rfl,by rw[h.buf.len],rfl⟩
theorem pA(h:Pg G w b sl sn l)(m:aJ)(hm:l.length+m.length<=140737488355328):aB au 175 #[ai (some ⟨b,0,none⟩),ah (T m)] w λe w'=>
  ∃pM,e=aq (ak #[O ae (m.length:Int),.nilIface])/\Pg G w' b pM sn (l++m)/\tZ b sl w pM w':=by
 refine(XG ⟨b,0,none⟩ (T m) (λv w'=>∃pM,v=ak #[O ae (m.length:Int),.nilIface]/\Pg G w' b pM sn (l++m)/\tZ b sl w pM w') w ?_).mono (by
  rintro e w' ⟨v,rfl,s,rfl,h⟩;exact⟨s,rfl,h⟩)
 obtain⟨q,hq,hB⟩:=h.blk;refine(K5 hq hB).mono ?_;rintro _ w0 ⟨rfl,cQ,rQ⟩;have z0:=cQ.size;have hb:=hB.lt;have wA:Bf w0 (b+1) sl l:=h.buf.keep λg hg hl=>cQ.block g hl (by have:=(h.buf.lt hg).1;simp;omega);obtain⟨s',w1,k1,k2,k3,k4⟩:=K4 wA m aG hm;have z1:=k3.size;have uw:aH w1 b 307 [ai (some ⟨b,0,none⟩),sl.v,sn.v]:=k3.blk rQ λe=>ads
 have wx:∀g,s'.a=some ⟨g,0,none⟩->b<g:=λg hg=>by
  rcases k4 with e | e
  ·rw[e]at hg;exact(wA.lt hg).1
  rw[e]at hg;injection hg with hg;injection hg with hg;omega
 refine⟨rfl,sl,Blk.eE rQ 1 rfl,s',w1,k1,b,1,_,_,rfl,uw,aaa,λw2 dw qG=>⟨s',by rw[dP],⟨⟨_,.inr rfl,qG⟩,k2.keep λg hg hl=>dw.block g hl ado,?_,h.hG⟩,?_,?_⟩⟩
 ·have h0:=SliceF.only dH aN h.sig cQ λk hk _ hm=>abn
  have h1:=SliceF.nH dH aN h0 k3 λk hk _ hm=>by have:=h.hG k hk;have:=(wA.lt hm).1;omega
  exact SliceF.only dH aN h1 dw λk hk _ hm=>abn
 ·refine((cQ.p (F:=λk=>k=b∨sl.a=some ⟨k,0,none⟩) λx hx=>.inl (.inl abq)).trans k3 λk hk=>.inl (.inr hk)).trans (dw.p (F:=λk=>k=b) λx hx=>.inl abq) λk hk=>.inl (.inl hk)
 intro k hk;rcases k4 with e | e
 ·rw[e]at hk;exact .inl hk
 rw[e]at hk;injection hk with hk;injection hk with hk;exact .inr aG
theorem XO(h:Pg G w b sl sn l)(c:UInt8)(hm:l.length+1<=140737488355328):KO ⟨b,0,none⟩ (c.toNat:Int) (λv w'=>∃pM,v=.nilIface/\Pg G w' b pM sn (l++[c])/\tZ b sl w pM w') w:=by
 unfold KO;obtain⟨q,hq,hB⟩:=h.blk;refine(K5 hq hB).mono ?_;rintro _ w0 ⟨rfl,cQ,rQ⟩;have z0:=cQ.size;have hb:=hB.lt;have wA:Bf w0 (b+1) sl l:=h.buf.keep λg hg hl=>cQ.block g hl (by have:=(h.buf.lt hg).1;simp;omega);obtain⟨y,w1,k1,k2,k3,_⟩:=wX w0 [c] (n:=1) (parts:=#[(0,.int .u8 (c.toNat:Int))]) rfl rfl aN aN;have z1:=k3.size;have ahs:Bf w1 (b+1) sl l:=wA.keep λg hg hl=>k3.block g hl aaa;obtain⟨s',w2,m1,m2,gs,m3,m4,m5⟩:=vg (P:=au) (t:=214) (ty:=214) (e:=5) (i:=Tryz.t5) (bytes:=1) (size:=1) (r:=jq) Gz K3 rfl rfl rfl rfl vh (ahs.own λ_=>True) ((Cm k2).mono vh λk hk=>⟨trivial,λe=>by have:=(wA.lt e).2;have:=hk.1;omega⟩) aG (by rw[bO];omega) aN;have z2:=m3.size;have dw:aF (λk=>sl.a=some ⟨k,0,none⟩) w1 w2:=m3.p λx hx=>.inl (m4 x hx).1;have qG:aH w2 b 307 [ai (some ⟨b,0,none⟩),sl.v,sn.v]:=dw.blk (k3.blk rQ aaa) λe=>ads
 have wx:∀g,s'.a=some ⟨g,0,none⟩->b<g:=λg hg=>by
  rcases m5 with e | e
  ·rw[e]at hg;exact(wA.lt hg).1
  rw[e]at hg;injection hg with hg;injection hg with hg;omega
 refine⟨rfl,sl,Blk.eE rQ 1 rfl,y,w1,k1,s',w2,m1,b,1,_,_,rfl,qG,aaa,λw3 dE wz=>⟨s',rfl,⟨⟨_,.inr rfl,wz⟩,(Bf.of m2 aaa).keep λg hg hl=>dE.block g hl ado,?_,h.hG⟩,?_,?_⟩⟩
 ·have h0:=SliceF.only dH aN h.sig (cQ.cy k3) λk hk _ hm=>abn
  have h1:=SliceF.nH dH aN h0 dw λk hk _ hm=>by have:=h.hG k hk;have:=(wA.lt hm).1;omega
  exact SliceF.only dH aN h1 dE λk hk _ hm=>abn
 ·refine(((cQ.cy k3).p (F:=λk=>k=b∨sl.a=some ⟨k,0,none⟩) λx hx=>.inl (.inl abq)).trans dw λk hk=>.inl (.inr hk)).trans (dE.p (F:=λk=>k=b) λx hx=>.inl abq) λk hk=>.inl (.inl hk)
 intro k hk;rcases m5 with e | e
 ·rw[e]at hk;exact .inl hk
 rw[e]at hk;injection hk with hk;injection hk with hk;exact .inr aG
theorem Vj(h:Pg G w b sl sn l)(c:UInt8)(hm:l.length+1<=140737488355328):aB au 257 #[ai (some ⟨b,0,none⟩),.int .u8 (c.toNat:Int)] w λe w'=>
 ∃pM,e=aq .nilIface/\Pg G w' b pM sn (l++[c])/\tZ b sl w pM w':=(afx _ _ _ w (XO h c hm)).mono (by
 rintro e w' ⟨v,rfl,s,rfl,h⟩;exact⟨s,rfl,h⟩)
theorem Vk(h:Pg G w b sl sn l)(c:UInt8)(hm:l.length+1<=140737488355328):kE au 257 #[ai (some ⟨b,0,none⟩),.int .u8 (c.toNat:Int)] w λv w'=>
 ∃pM,v=.nilIface/\Pg G w' b pM sn (l++[c])/\tZ b sl w pM w':=mL _ _ _ w (XO h c hm)
structure Pt (w:ay) (b:Nat) (sl:Sl) (l:aJ):Prop where
 blk:∃q sn:az,aH w b 307 [q,sl.v,sn]
 len:sl.n=l.length
 some:l≠[]->∃g,sl.a=.some ⟨g,0,none⟩/\b<g/\sl.c≠0/\(∃n,w.shape? g=.some (5,n)/\l.length<=n)/\aE w ⟨g,0,none⟩ (l.map gn)
 cap:sl.a=none∨sl.c≠0
 big:l.length<=9223372036854775807
theorem AG{w w':ay}{g:Nat}(h:w'.heap[g]? =w.heap[g]?):w'.shape? g=w.shape? g:=by
 unfold World.shape?;rw[h]
theorem Pt.only{w':ay}(h:Pt w b sl l)(hO:aA [] w w'):Pt w' b sl l:=by
 obtain⟨⟨q,sn,h1⟩,h2,h3,h4,h5⟩:=h;refine⟨⟨q,sn,hO.blk h1 aaa⟩,h2,λhl=>?_,h4,h5⟩;obtain⟨g,a1,a2,a3,⟨n,a4,a5⟩,a6⟩:=h3 hl;have hg:g<w.heap.size:=by
  refine cr λhn=>?_;unfold World.shape? at a4;rw[ff aG]at a4;cases a4
 have hk:=hO.block g hg aaa;exact⟨g,a1,a2,a3,⟨n,(AG hk).trans a4,a5⟩,a6.keep hk⟩
theorem Pg.pt(h:Pg G w b sl sn l):Pt w b sl l:=by
 obtain⟨q,hq,hB⟩:=h.blk;refine⟨⟨_,_,hB⟩,h.buf.len,λhl=>?_,?_,?_⟩
 ·rcases h.buf with⟨_,e⟩ | ⟨g,tail,h1,h2,h3,h4,h5,h6,h7,h8⟩
  ·exact absurd e hl
  have h0:l.length≠0:=λe=>hl (bQ e);refine⟨g,h1,h2,aG,⟨_,by unfold World.shape?;unfold aH at h3;rw[h3],aaa⟩,h3.cells 0 (l.map gn) λj v hj=>acV⟩
 ·rcases h.buf with⟨e,_⟩ | ⟨g,tail,h1,h2,h3,h4,h5,h6,h7,h8⟩
  ·exact .inl (by rw[e])
  exact .inr aG
 rcases h.buf with⟨_,e⟩ | ⟨g,tail,h1,h2,h3,h4,h5,h6,h7⟩
 ·subst e;simp
 omega
end
theorem vK(w:ay)(p:Addr)(n:Nat)(a:Nat):(w.freeze p n).shape? a=w.shape? a:=by
 unfold World.freeze;split
 ·rfl
 unfold World.shape?;simp only[gJ];by_cases Us:p.block=a
 ·rw[aZ Us];cases h:w.heap[a]? with
  | none=>rfl
  | some o=>
   cases o with
   | cells c e f=>obtain⟨lo,hi⟩:=f;rfl
   | _=>rfl
 rw[aX Us]
section
variable {w:ay} {b:Nat} {sl:Sl} {l:aJ}
theorem Q9(h:Pt w b sl l):aB au 147 #[ai (some ⟨b,0,none⟩)] w λe w'=>e=aq (ah (T l))/\Pt w' b sl l/\aF (λk=>b<k/\sl.a=some ⟨k,0,none⟩) w w':=by
 refine ret (XI _ _ _ ?_);intro w0 cQ;have h0:=h.only cQ;obtain⟨⟨q,sn,hB⟩,fl,HT,lC,qF⟩:=h0;refine⟨λk=>k=b,sl,Blk.eE hB 1 rfl,rfl,sl,Blk.eE hB 1 rfl,sl.a,w0,?_,λk _ _=>rfl,?_⟩
 ·obtain⟨sa,sn',sc⟩:=sl;cases sa with
  | none=>exact Lib.run_unsafeSliceData_nil _ _ _ _ _
  | some a=>
   rcases lC with e | e
   ·cases e
   exact Lib.run_unsafeSliceData_row _ _ _ _ _ _ e
 by_cases hl:l=[]
 ·subst hl;have hn:sl.n=0:=fl;refine⟨T [],w0,?_,λk _ _=>rfl,rfl,⟨⟨q,sn,hB⟩,fl,HT,lC,qF⟩,cQ.p0⟩;rw[hn];exact Lib.run_unsafeString_none _ _ _ _ _
 obtain⟨g,ha,MY,hc,⟨m,Ic,hm⟩,uX⟩:=HT hl;have hF:=sL w0 ⟨g,0,none⟩ l.length;have C8:b<w0.heap.size:=hB.lt;refine⟨T l,w0.freeze ⟨g,0,none⟩ l.length,?_,λk hk cd=>hF.block k cd abh,rfl,⟨⟨q,sn,hF.blk hB abh⟩,fl,λ_=>⟨g,ha,MY,hc,⟨m,(vK _ _ _ _).trans Ic,hm⟩,λj v hj=>by rw[sK];exact uX j v hj⟩,lC,qF⟩,cQ.oH (hF.mono λk _ hk=>by dsimp only at hk;subst hk;exact⟨MY,ha⟩)⟩;rw[ha,fl];exact Lib.run_unsafeString_row _ _ _ _ 5 (by kernel_rfl) (by kernel_rfl) g m Ic l hl hm qF λj x hj=>uX j (gn x) (by rw[bW,hj];rfl)
end
def uZ(wr:Bool)(l:aJ):aJ:=if wr then l++[40]else l
def XP(wr:Bool)(l:aJ):aJ:=if wr then l++[41]else l
def u5:Nat->Ex->Bool->aJ->aJ
 | 0,_,_,l=>l
 | d+1,x,wr,l=>if 16384<l.length then l else XP wr (
  if x.k=1 then uZ wr l++Lib.itoa x.n
  else if x.k=2 then uZ wr l++x.s
  else if x.k=3 then uZ wr l++([105,110,40]++x.s++[41])
  else if x.k=4 then(match x.fZ with
   | [y]=>u5 d y (decide (ii y<6)) (uZ wr l++lX x.op.toNat)
   | _=>l)
  else(match x.fZ with
   | [y,z]=>u5 d z (decide (ii z<=ii x)) (u5 d y (decide (ii y<ii x)) (uZ wr l)++([32]++lX x.op.toNat++[32]))
   | _=>l))
section
variable {x:Ex}
theorem XQ{n}{s}{op len}(h:Z0 n s op len x=true):x.n=n/\x.s=s/\x.op=op/\x.fZ.length=len:=by
 simp[Z0,aU,de,bJ]at h;exact⟨h.1.1.1,h.1.1.2,h.1.2,h.2⟩
theorem pB(h:lI x=true)(hk:x.k=2∨x.k=3):eZ x.s=true:=by
 have h1:x.k≠1:=aG
 rw[lI,aX h1,aZ hk,aU]at h;exact h.1
theorem Ra(h:lI x=true)(hk:x.k=4):∃y,x.fZ=[y]/\(x.op=14∨x.op=15):=by
 rw[lI,aX aG,aX aG,aZ hk]at h;obtain⟨_,_,h3,h4⟩:=XQ h;obtain⟨y,hy⟩:=List.length_eq_one_iff.1 (show x.fZ.length=1 by omega);refine⟨y,hy,?_⟩;by_cases PA:x.op=15
 ·exact .inr PA
 rw[aX PA]at h3;exact .inl h3
theorem Rb(h:lI x=true)(h1:x.k≠1)(h2:x.k≠2)(h3:x.k≠3)(h4:x.k≠4):x.k=5/\∃y z,x.fZ=[y,z]/\1<=x.op/\x.op<=13:=by
 rw[lI,aX h1,aX aG,aX h4]at h;split at h
 ·rename_i h5;rw[aU]at h;obtain⟨h6,h7⟩:=h;obtain _:=XQ h7;have h6:=by simpa using h6
  have h2l:x.fZ.length=2:=aG
  obtain⟨y,z,hy⟩:∃y z,x.fZ=[y,z]:=by
   match hm:x.fZ,h2l with
   | [y,z],_=>exact⟨y,z,rfl⟩
  refine⟨h5,y,z,hy,?_⟩;unfold lH at h6;refine cr λhn=>h6 ?_;rw[aX aG,aX aG,aX aG,aX aG,aX aG,aX aG]
 cases h
theorem ke{s}(h:eZ s=true):s.length<=24:=by
 unfold eZ at h;simp only[aU]at h;exact(aP h.1.1.1).2
theorem qg n:(lX n).length<=2:=by
 rcases Nat.lt_or_ge n 16 with h | h
 ·have:∀q,q<16->(lX q).length<=2:=aN
  exact this n h
 unfold lX;rw[cF (h)];decide
theorem K6 wr l:(uZ wr l).length<=l.length+1:=by
 unfold uZ;cases wr<;>simp
theorem Vl wr l:(XP wr l).length<=l.length+1:=by
 unfold XP;cases wr<;>simp
theorem re:∀d {x:Ex} wr l,fz d x=true->rA d x->(u5 d x wr l).length<=l.length+40*pz d x
 | 0,x,wr,l,h,_=>aaH
 | d+1,x,wr,l,h,⟨hn,hs⟩=>by
  rw[fz,aU]at h;obtain⟨hh,ha⟩:=h;have h1:=K6 wr l;rw[u5,pz];split
  ·omega
  refine bf (Vl _ _) ?_;split
  ·rw[aW];have:=Lib.itoa_length_le x.n hn.1 hn.2;omega
  split
  ·rename_i hk;rw[aW];have:=ke (pB hh (.inl hk));omega
  split
  ·rename_i hk;rw[aW,aW,aW];have:=ke (pB hh (.inr hk));simp;omega
  split
  ·rename_i hk;obtain⟨y,hy,_⟩:=Ra hh hk;rw[hy]at ha hs⊢;dsimp only;simp[qf,ni,tY]at ha⊢;have:=re d (decide (ii y<6)) (uZ wr l++lX x.op.toNat) ha (hs y aaa);rw[aW]at this;have:=qg x.op.toNat;omega
  rename_i k1 k2 k3 k4;obtain⟨hk,y,z,hy,_⟩:=Rb hh k1 k2 k3 k4;rw[hy]at ha hs⊢;dsimp only;simp only[qf,ni,tY,aU]at ha⊢;have a1:=re d (decide (ii y<ii x)) (uZ wr l) ha.1 (hs y aaa);have a2:=re d (decide (ii z<=ii x)) (u5 d y (decide (ii y<ii x)) (uZ wr l)++([32]++lX x.op.toNat++[32])) ha.2 (hs z aaa);rw[aW,aW,aW]at a2;have:=qg x.op.toNat;simp only[bp,di]at a2;omega
end
structure Pz (d:Nat) (F G:aL) (k0 b:Nat) (sub sn:Sl) (subs:List Ex) (w:ay) (sl:Sl) (l:aJ):Prop where
 pg:Pg G w b sl sn l
 tb:Tb w
 own:k0≠b/\sl.a≠some ⟨k0,0,none⟩/\k0<w.heap.size
 sb:aD (Cu d) 6 w F sub subs
 hF:∀k,F k->k<b
 hT:1<b
section
variable {d:Nat} {F G:aL} {k0 b:Nat} {sx sn sl pM:Sl} {subs:List Ex} {w w' tt:ay} {l l':aJ}
theorem Pg.out(h:Pg G w b sl sn l){k}(hk:k<b):¬(k=b∨sl.a=some ⟨k,0,none⟩):=by
 rintro(e | e)
 ·omega
 have:=(h.buf.lt e).1;omega
theorem Pz.only(h:Pz d F G k0 b sx sn subs w sl l)(hO:aA [] w w'):Pz d F G k0 b sx sn subs w' sl l:=by
 have z:=hO.size;exact⟨h.pg.only hO,h.tb.only hO,⟨h.own.1,h.own.2.1,by have:=h.own.2.2;omega⟩,SliceF.only (pw d) aN h.sb hO aaa,h.hF,h.hT⟩
theorem Pz.mv(h:Pz d F G k0 b sx sn subs w sl l)(hp:Pg G w' b pM sn l')(hm:tZ b sl w pM w'):Pz d F G k0 b sx sn subs w' pM l'/\cj [k0] w w'/\bP (λk=>k<b∨k=k0) w w':=by
 have z:=hm.1.size;obtain⟨o1,o2,o3⟩:=h.own;refine⟨⟨hp,h.tb.keep λcd=>hm.1.block _ cd (h.pg.out h.hT),⟨o1,λe=>?_,aG⟩,SliceF.nH (pw d) aN h.sb hm.1 λk hk _=>h.pg.out (h.hF k hk),h.hF,h.hT⟩,hm.same o1 o2 o3,λk hk cd=>hm.1.block k cd ?_⟩
 ·rcases hm.2 k0 e with e | e
  ·exact o2 e
  omega
 rcases hk with hk | rfl
 ·exact h.pg.out hk
 rintro(e | e)
 ·exact o1 e
 exact o2 e
theorem tZ.after(h:tZ b sl w' pM tt)(hO:aA [] w w'):tZ b sl w pM tt:=(tZ.only hO).trans h
theorem Pz.same(h:Pz d F G k0 b sx sn subs w sl l)(hO:aA [] w w'):cj [k0] w w':=hO.same (by have:=h.own.2.2;simp;omega)
theorem Pz.sig(h:Pz d F G k0 b sx sn subs w sl l){op}(h0:0<=op)(h1:op<16):∃ad,dI sn op 1 ad/\aE w ad [ah (T (lX op.toNat))]:=by
 have hn:=h.pg.sig.len;have hol:BN.length=16:=rfl;obtain⟨ad,x,cs,g1,g2,g3,g4,g5,g6⟩:=h.pg.sig.get h0 aG;subst g6;have hx:lX op.toNat=x:=by unfold lX;rw[g2];rfl
 subst hx;exact⟨ad,g1,g5⟩
theorem Pz.sub(h:Pz d F G k0 b sx sn subs w sl l){i:Nat}{y}(hy:subs[i]? =some y):∃ad sy,dI sx i 6 ad/\ad.block<b/\aE w ad (sM y.k y.n y.s y.op sy y.a)/\Cu d w F y (sM y.k y.n y.s y.op sy y.a):=by
 have hn:=h.sb.len;have cd:=(be.1 hy).1;obtain⟨ad,x,cs,g1,g2,g3,g4,g5,g6⟩:=h.sb.get (bE i) aG;rw[aV,hy]at g2;injection g2 with g2;subst g2;obtain⟨sy,rfl⟩:=tH g6;exact⟨ad,sy,g1,h.hF _ g3,g5,g6⟩
end
abbrev PgC(d:Nat):Prop:=∀{G F:aL} {w:ay} {b:Nat} {sl sn:Sl} {l:aJ} {x:Ex} {cs:aK} wr,fz d x=true->rA d x->Cu d w F x cs->(∀k,F k->k<b)->Tb w->1<b->Pg G w b sl sn l->l.length+40*pz d x<=70368744177664->
 aB au 239 #[ai (some ⟨b,0,none⟩),aj cs.toArray,ao wr] w λe w'=>∃pM,e=aq (ak #[])/\Pg G w' b pM sn (u5 d x wr l)/\tZ b sl w pM w'
theorem inb s:ar #[105,110,40]++T s++ar #[41]=T ([105,110,40]++s++[41]):=by
 rw[show ar #[105,110,40]=T [105,110,40]from rfl,show ar #[41]=T [41]from rfl,lG,lG]
theorem blb s:ar #[32]++T s++ar #[32]=T ([32]++s++[32]):=by
 rw[show ar #[32]=T [32]from rfl,lG,lG]
theorem inz c s:(c++T s).size=c.size+s.length:=by
 rw[show c=T c.data.toList from zL c,lG,dP,dP,aW]
theorem kE.mono{P}{f}{a}{w}{Q Q'}(h:kE P f a w Q)(hq:∀v w',Q v w'->Q' v w'):kE P f a w Q':=λc cs hc=>by
 obtain⟨e,u',w',fr,⟨h1,v,h2,h3⟩,h4⟩:=h c cs hc;exact⟨e,u',w',fr,⟨h1,v,h2,hq _ _ h3⟩,h4⟩
theorem uK:∀d,PgC d
 | 0,_,_,_,_,_,_,_,_,_,_,_,_,h,_,_,_,_,_=>h.elim
 | d+1,G,F,w,b,sl,sG,l,x,cs,wr,Ic,⟨hni,YN⟩,⟨xs,h1,h2⟩,hF,hT,hTb,hP,fl=>by
  subst h1;refine(alf ⟨b,0,none⟩ x.k x.n (T x.s) x.op xs x.a wr (λv w'=>∃pM,v=ak #[]/\Pg G w' b pM sG (u5 (d+1) x wr l)/\tZ b sl w pM w') w ?_).mono (by
   rintro e w' ⟨v,rfl,s,rfl,h⟩;exact⟨s,rfl,h⟩)
  have hx:Cu (d+1) w F x (sM x.k x.n x.s x.op xs x.a):=⟨xs,rfl,h2⟩
  rw[fz,aU]at Ic;obtain⟨hh,ha⟩:=Ic;rw[pz]at fl;intro k0 w0 hY fA cQ;have hb:=hP.lb;have Ww:Pz d F G k0 b xs sG x.fZ w0 sl l:=⟨hP.only cQ,hT.only cQ,⟨aG,λe=>by have:=(hP.buf.lt e).2;omega,fA⟩,SliceF.only (pw d) aN h2 cQ aaa,hF,hTb⟩
  refine(Z2 Ww.pg).mono ?_;rintro _ w1 ⟨rfl,rfl⟩;refine⟨_,rfl,λ_ _=>rfl,λhc=>⟨sl,rfl,?_,(tZ.only cQ)⟩,λhc=>?_⟩
  ·rw[u5,aZ abt];exact Ww.pg
  have hc:¬16384<l.length:=abN
  have OH:u5 (d+1) x wr l=XP wr (
  if x.k=1 then uZ wr l++Lib.itoa x.n
  else if x.k=2 then uZ wr l++x.s
  else if x.k=3 then uZ wr l++([105,110,40]++x.s++[41])
  else if x.k=4 then(match x.fZ with
   | [y]=>u5 d y (decide (ii y<6)) (uZ wr l++lX x.op.toNat)
   | _=>l)
  else(match x.fZ with
   | [y,z]=>u5 d z (decide (ii z<=ii x)) (u5 d y (decide (ii y<ii x)) (uZ wr l)++([32]++lX x.op.toNat++[32]))
   | _=>l)):=by rw[u5,aX hc]
  have hol:=K6 wr l;refine⟨λhw=>(Vj Ww.pg 40 aG).mono ?_,λhw=>?_⟩
  ·rintro _ w2 ⟨sl2,rfl,hp2,Po⟩;obtain⟨Db,hs2,_⟩:=Ww.mv hp2 Po;have abP:l++[40]=uZ wr l:=by unfold uZ;rw[aZ hw]
   rw[abP]at Db;refine⟨⟨.nilIface,rfl⟩,rfl,hs2,?_⟩;have fin:∀{M2:Sl} {w5:ay} {m:aJ},Pz d F G k0 b xs sG x.fZ w5 M2 m->tZ b sl2 w2 M2 w5->u5 (d+1) x wr l=XP wr m->m.length<=l.length+40*(1+tY (pz d) x.fZ)->kE au 257 #[ai (some ((⟨b,0,none⟩:Addr).add 0)),.int .u8 41] w5 λ_ w'=>∃pM,(Value.tuple #[])=ak #[]/\Pg G w' b pM sG (u5 (d+1) x wr l)/\tZ b sl w pM w':=by
    intro M2 w5 m JN B0 he Dc;have hd:=Vk JN.pg 41 aG;refine kE.mono hd ?_;rintro v w' ⟨pM,hv,YJ,yw⟩;refine⟨pM,rfl,?_,((Po.after cQ).trans B0).trans yw⟩;rw[he];unfold XP;rw[aZ hw];exact YJ
   refine⟨λhk w3 dE=>?_,λk1=>⟨λhk w7 fL=>?_,λk2=>⟨λhk=>⟨?_,?_,λdR eO=>?_⟩,λk3=>⟨λhk fD eL=>?_,λk4=>(oZ (show Cu (d+1) _ F x (sM x.k x.n x.s x.op xs x.a)from⟨xs,rfl,Db.sb⟩)).mono ?_⟩⟩⟩⟩
   ·have hk:x.k=1:=aa2
    have hz3:=Db.only dE;refine(za x.n hni hz3.tb).mono ?_;rintro _ w4 ⟨rfl,dL⟩;have hz4:=hz3.only dL;have hl:=Lib.itoa_length_le x.n hni.1 hni.2;refine⟨_,rfl,hz3.same dL,(pA hz4.pg (Lib.itoa x.n) aG).mono ?_⟩;rintro _ w5 ⟨M2,rfl,Tz,B0⟩;obtain⟨JN,M3,_⟩:=hz4.mv Tz B0;exact⟨_,⟨.nilIface,rfl⟩,rfl,M3,fin JN ((B0.after dL).after dE) (by rw[OH,aZ hk]) abJ⟩
   ·have hk:x.k=2:=aa2
    have k1:x.k≠1:=aG
    have hz7:=Db.only fL;have hl:=ke (pB hh (.inl hk));refine(pA hz7.pg x.s aG).mono ?_;rintro _ w8 ⟨M2,rfl,Tz,B0⟩;obtain⟨JN,M3,_⟩:=hz7.mv Tz B0;exact⟨_,⟨.nilIface,rfl⟩,rfl,M3,fin JN (B0.after fL) (by rw[OH,aX k1,aZ hk]) abJ⟩
   ·have hk:x.k=3:=aa2
    have hl:=ke (pB hh (.inr hk));rw[dP];omega
   ·have hk:x.k=3:=aa2
    have hl:=ke (pB hh (.inr hk));rw[inz];have:(ar #[105,110,40]).size=3:=rfl;omega
   ·have hk:x.k=3:=aa2
    have hl:=ke (pB hh (.inr hk));have TA:=Db.only eO;have Ti:([105,110,40]++x.s++[41]:aJ).length=x.s.length+4:=by
     rw[aW,aW];simp only[bp,di];omega
    rw[inb];refine(pA TA.pg _ aG).mono ?_;rintro _ dS ⟨M2,rfl,Tz,B0⟩;obtain⟨JN,M3,_⟩:=TA.mv Tz B0;exact⟨_,⟨.nilIface,rfl⟩,rfl,M3,fin JN (B0.after eO) (by rw[OH,aX aG,aX aG,aZ hk]) abJ⟩
   ·have hk:x.k=4:=aa2
    obtain⟨y,hy,E9⟩:=Ra hh hk;have abR:tY (pz d) x.fZ=pz d y:=adD
    have hay:fz d y=true:=acu
    have TB:rA d y:=YN y adu;have abT:=qg x.op.toNat;have Fb:=Db.only eL;obtain⟨q,hq,hB⟩:=Fb.pg.blk;obtain⟨ad,g1,g2⟩:=Fb.sig (op:=x.op) aG aG;refine⟨sG,Blk.eE hB 2 rfl,ad,g1,_,g2,(pA Fb.pg (lX x.op.toNat) aG).mono ?_⟩;rintro _ fP ⟨an0,rfl,abU,TC⟩;obtain⟨abV,abW,_⟩:=Fb.mv abU TC;refine⟨_,⟨.nilIface,rfl⟩,rfl,abW,λiP iX=>?_⟩;have JO:=abV.only iX;obtain⟨p1,sy,e1,e2,e3,e4⟩:=JO.sub (i:=0) (y:=y) adE;refine⟨λk=>k<b∨k=k0,.inr rfl,p1,e1,.inl e2,_,_,_,_,_,_,e3,p1,e1,_,_,_,_,_,_,e3,(oZ e4).mono ?_⟩;rintro _ jl ⟨rfl,je⟩;have JP:=JO.only je;have M4:=re d (decide (ii y<6)) (uZ wr l++lX x.op.toNat) hay TB;rw[aW]at M4;refine⟨_,rfl,JO.same je,bP.only je,(uK d (decide (ii y<6)) hay TB (kZ e4 je) hF JP.tb hTb JP.pg abJ).mono ?_⟩;rintro _ gN ⟨an1,rfl,abX,TD⟩;obtain⟨abY,abZ,ab0⟩:=JP.mv abX TD;exact⟨rfl,abZ,ab0,fin abY ((TC.after eL).trans ((TD.after je).after iX)) (by rw[OH,aX aG,aX aG,aX aG,aZ hk,hy]) aG⟩
   rintro _ jU ⟨rfl,jD⟩;have k1:x.k≠1:=by simpa using k1
   have k2:x.k≠2:=by simpa using k2
   have k3:x.k≠3:=by simpa using k3
   have k4:x.k≠4:=by simpa using k4
   obtain⟨hk,y,z,hy,ho1,ho2⟩:=Rb hh k1 k2 k3 k4;have abR:tY (pz d) x.fZ=pz d y+pz d z:=adD
   have Fc:fz d y=true/\fz d z=true:=acu
   have TB:rA d y:=YN y adu;have hnz:rA d z:=YN z adu;have abT:=qg x.op.toNat;have ab2:=Db.only jD;refine⟨_,rfl,Db.same jD,λjm kU=>?_⟩;have JQ:=ab2.only kU;obtain⟨p1,sy,e1,e2,e3,e4⟩:=JQ.sub (i:=0) (y:=y) adE;refine⟨λk=>k<b∨k=k0,.inr rfl,p1,e1,.inl e2,_,_,_,_,_,_,e3,p1,e1,_,_,_,_,_,_,e3,(oZ e4).mono ?_⟩;rintro _ lm ⟨rfl,kK⟩;have JR:=JQ.only kK;have M4:=re d (decide (ii y<ii x)) (uZ wr l) Fc.1 TB;refine⟨_,rfl,JQ.same kK,bP.only kK,(uK d (decide (ii y<ii x)) Fc.1 TB (kZ e4 kK) hF JR.tb hTb JR.pg aG).mono ?_⟩;rintro _ oA ⟨an2,rfl,ab3,TE⟩;obtain⟨ab4,ab5,ab6⟩:=JR.mv ab3 TE;refine⟨rfl,ab5,ab6,λoB kl=>?_⟩;have Fe:=ab4.only kl;obtain⟨q,hq,hB⟩:=Fe.pg.blk;obtain⟨ad,g1,g2⟩:=Fe.sig (op:=x.op) aG aG;have Ti:([32]++lX x.op.toNat++[32]:aJ).length=(lX x.op.toNat).length+2:=by
    rw[aW,aW];simp only[bp,di];omega
   have qC:(ar #[32]).size=1:=rfl;refine⟨sG,Blk.eE hB 2 rfl,ad,g1,_,g2,abC,by rw[inz];omega,?_⟩;rw[blb];refine(pA Fe.pg _ aG).mono ?_;rintro _ nT ⟨an3,rfl,ab7,TF⟩;obtain⟨ab8,ab9,_⟩:=Fe.mv ab7 TF;refine⟨_,⟨.nilIface,rfl⟩,rfl,ab9,λmh qH=>?_⟩;have JS:=ab8.only qH;obtain⟨p2,sz,f1,f2,f3,f4⟩:=JS.sub (i:=1) (y:=z) adE;refine⟨λk=>k<b∨k=k0,.inr rfl,p2,f1,.inl f2,_,_,_,_,_,_,f3,p2,f1,_,_,_,_,_,_,f3,(oZ f4).mono ?_⟩;rintro _ pq ⟨rfl,iz⟩;have JU:=JS.only iz;have aca:=re d (decide (ii z<=ii x)) (u5 d y (decide (ii y<ii x)) (uZ wr l)++([32]++lX x.op.toNat++[32])) Fc.2 hnz;rw[aW,Ti]at aca;refine⟨_,rfl,JS.same iz,bP.only iz,(uK d (decide (ii z<=ii x)) Fc.2 hnz (kZ f4 iz) hF JU.tb hTb JU.pg (by rw[aW,Ti];omega)).mono ?_⟩;rintro _ tU ⟨an4,rfl,acb,TG⟩;obtain⟨acd,ace,acf⟩:=JU.mv acb TG;exact⟨rfl,ace,acf,fin acd (((TE.after kK).after kU).after jD |>.trans ((TF.after kl).trans ((TG.after iz).after qH))) (by rw[OH,aX k1,aX k2,aX k3,aX k4,hy]) aG⟩
  have abP:l=uZ wr l:=by unfold uZ;rw[hw];rfl
  have Db:Pz d F G k0 b xs sG x.fZ w1 sl (uZ wr l):=by rw[<-abP];exact Ww
  have fin:∀{M2:Sl} {w5:ay} {m:aJ},Pz d F G k0 b xs sG x.fZ w5 M2 m->tZ b sl w1 M2 w5->u5 (d+1) x wr l=XP wr m->m.length<=l.length+40*(1+tY (pz d) x.fZ)->∃pM,(Value.tuple #[])=ak #[]/\Pg G w5 b pM sG (u5 (d+1) x wr l)/\tZ b sl w pM w5:=by
   intro M2 w5 m JN B0 he Dc;refine⟨M2,rfl,?_,B0.after cQ⟩;rw[he];unfold XP;rw[hw];exact JN.pg
  refine⟨λhk w3 dE=>?_,λk1=>⟨λhk w7 fL=>?_,λk2=>⟨λhk=>⟨?_,?_,λdR eO=>?_⟩,λk3=>⟨λhk fD eL=>?_,λk4=>(oZ (show Cu (d+1) _ F x (sM x.k x.n x.s x.op xs x.a)from⟨xs,rfl,Db.sb⟩)).mono ?_⟩⟩⟩⟩
  ·have hk:x.k=1:=aa2
   have hz3:=Db.only dE;refine(za x.n hni hz3.tb).mono ?_;rintro _ w4 ⟨rfl,dL⟩;have hz4:=hz3.only dL;have hl:=Lib.itoa_length_le x.n hni.1 hni.2;refine⟨_,rfl,hz3.same dL,(pA hz4.pg (Lib.itoa x.n) aG).mono ?_⟩;rintro _ w5 ⟨M2,rfl,Tz,B0⟩;obtain⟨JN,M3,_⟩:=hz4.mv Tz B0;exact⟨_,⟨.nilIface,rfl⟩,rfl,M3,fin JN ((B0.after dL).after dE) (by rw[OH,aZ hk]) abJ⟩
  ·have hk:x.k=2:=aa2
   have k1:x.k≠1:=aG
   have hz7:=Db.only fL;have hl:=ke (pB hh (.inl hk));refine(pA hz7.pg x.s aG).mono ?_;rintro _ w8 ⟨M2,rfl,Tz,B0⟩;obtain⟨JN,M3,_⟩:=hz7.mv Tz B0;exact⟨_,⟨.nilIface,rfl⟩,rfl,M3,fin JN (B0.after fL) (by rw[OH,aX k1,aZ hk]) abJ⟩
  ·have hk:x.k=3:=aa2
   have hl:=ke (pB hh (.inr hk));rw[dP];omega
  ·have hk:x.k=3:=aa2
   have hl:=ke (pB hh (.inr hk));rw[inz];have:(ar #[105,110,40]).size=3:=rfl;omega
  ·have hk:x.k=3:=aa2
   have hl:=ke (pB hh (.inr hk));have TA:=Db.only eO;have Ti:([105,110,40]++x.s++[41]:aJ).length=x.s.length+4:=by
    rw[aW,aW];simp only[bp,di];omega
   rw[inb];refine(pA TA.pg _ aG).mono ?_;rintro _ dS ⟨M2,rfl,Tz,B0⟩;obtain⟨JN,M3,_⟩:=TA.mv Tz B0;exact⟨_,⟨.nilIface,rfl⟩,rfl,M3,fin JN (B0.after eO) (by rw[OH,aX aG,aX aG,aZ hk]) abJ⟩
  ·have hk:x.k=4:=aa2
   obtain⟨y,hy,E9⟩:=Ra hh hk;have abR:tY (pz d) x.fZ=pz d y:=adD
   have hay:fz d y=true:=acu
   have TB:rA d y:=YN y adu;have abT:=qg x.op.toNat;have Fb:=Db.only eL;obtain⟨q,hq,hB⟩:=Fb.pg.blk;obtain⟨ad,g1,g2⟩:=Fb.sig (op:=x.op) aG aG;refine⟨sG,Blk.eE hB 2 rfl,ad,g1,_,g2,(pA Fb.pg (lX x.op.toNat) aG).mono ?_⟩;rintro _ fP ⟨an0,rfl,abU,TC⟩;obtain⟨abV,abW,_⟩:=Fb.mv abU TC;refine⟨_,⟨.nilIface,rfl⟩,rfl,abW,λiP iX=>?_⟩;have JO:=abV.only iX;obtain⟨p1,sy,e1,e2,e3,e4⟩:=JO.sub (i:=0) (y:=y) adE;refine⟨λk=>k<b∨k=k0,.inr rfl,p1,e1,.inl e2,_,_,_,_,_,_,e3,p1,e1,_,_,_,_,_,_,e3,(oZ e4).mono ?_⟩;rintro _ jl ⟨rfl,je⟩;have JP:=JO.only je;have M4:=re d (decide (ii y<6)) (uZ wr l++lX x.op.toNat) hay TB;rw[aW]at M4;refine⟨_,rfl,JO.same je,bP.only je,(uK d (decide (ii y<6)) hay TB (kZ e4 je) hF JP.tb hTb JP.pg abJ).mono ?_⟩;rintro _ gN ⟨an1,rfl,abX,TD⟩;obtain⟨abY,abZ,ab0⟩:=JP.mv abX TD;exact⟨rfl,abZ,ab0,fin abY ((TC.after eL).trans ((TD.after je).after iX)) (by rw[OH,aX aG,aX aG,aX aG,aZ hk,hy]) aG⟩
  rintro _ jU ⟨rfl,jD⟩;have k1:x.k≠1:=by simpa using k1
  have k2:x.k≠2:=by simpa using k2
  have k3:x.k≠3:=by simpa using k3
  have k4:x.k≠4:=by simpa using k4
  obtain⟨hk,y,z,hy,ho1,ho2⟩:=Rb hh k1 k2 k3 k4;have abR:tY (pz d) x.fZ=pz d y+pz d z:=adD
  have Fc:fz d y=true/\fz d z=true:=acu
  have TB:rA d y:=YN y adu;have hnz:rA d z:=YN z adu;have abT:=qg x.op.toNat;have ab2:=Db.only jD;refine⟨_,rfl,Db.same jD,λjm kU=>?_⟩;have JQ:=ab2.only kU;obtain⟨p1,sy,e1,e2,e3,e4⟩:=JQ.sub (i:=0) (y:=y) adE;refine⟨λk=>k<b∨k=k0,.inr rfl,p1,e1,.inl e2,_,_,_,_,_,_,e3,p1,e1,_,_,_,_,_,_,e3,(oZ e4).mono ?_⟩;rintro _ lm ⟨rfl,kK⟩;have JR:=JQ.only kK;have M4:=re d (decide (ii y<ii x)) (uZ wr l) Fc.1 TB;refine⟨_,rfl,JQ.same kK,bP.only kK,(uK d (decide (ii y<ii x)) Fc.1 TB (kZ e4 kK) hF JR.tb hTb JR.pg aG).mono ?_⟩;rintro _ oA ⟨an2,rfl,ab3,TE⟩;obtain⟨ab4,ab5,ab6⟩:=JR.mv ab3 TE;refine⟨rfl,ab5,ab6,λoB kl=>?_⟩;have Fe:=ab4.only kl;obtain⟨q,hq,hB⟩:=Fe.pg.blk;obtain⟨ad,g1,g2⟩:=Fe.sig (op:=x.op) aG aG;have Ti:([32]++lX x.op.toNat++[32]:aJ).length=(lX x.op.toNat).length+2:=by
   rw[aW,aW];simp only[bp,di];omega
  have qC:(ar #[32]).size=1:=rfl;refine⟨sG,Blk.eE hB 2 rfl,ad,g1,_,g2,abC,by rw[inz];omega,?_⟩;rw[blb];refine(pA Fe.pg _ aG).mono ?_;rintro _ nT ⟨an3,rfl,ab7,TF⟩;obtain⟨ab8,ab9,_⟩:=Fe.mv ab7 TF;refine⟨_,⟨.nilIface,rfl⟩,rfl,ab9,λmh qH=>?_⟩;have JS:=ab8.only qH;obtain⟨p2,sz,f1,f2,f3,f4⟩:=JS.sub (i:=1) (y:=z) adE;refine⟨λk=>k<b∨k=k0,.inr rfl,p2,f1,.inl f2,_,_,_,_,_,_,f3,p2,f1,_,_,_,_,_,_,f3,(oZ f4).mono ?_⟩;rintro _ pq ⟨rfl,iz⟩;have JU:=JS.only iz;have aca:=re d (decide (ii z<=ii x)) (u5 d y (decide (ii y<ii x)) (uZ wr l)++([32]++lX x.op.toNat++[32])) Fc.2 hnz;rw[aW,Ti]at aca;refine⟨_,rfl,JS.same iz,bP.only iz,(uK d (decide (ii z<=ii x)) Fc.2 hnz (kZ f4 iz) hF JU.tb hTb JU.pg (by rw[aW,Ti];omega)).mono ?_⟩;rintro _ tU ⟨an4,rfl,acb,TG⟩;obtain⟨acd,ace,acf⟩:=JU.mv acb TG;exact⟨rfl,ace,acf,fin acd (((TE.after kK).after kU).after jD |>.trans ((TF.after kl).trans ((TG.after iz).after qH))) (by rw[OH,aX k1,aX k2,aX k3,aX k4,hy]) aG⟩
def um(d:Nat)(x:Ex):aJ:=if fz d x=true then(if(oY (u5 d x false [])).2.1≠0 then[]else u5 d x false [])else[]
theorem Z3{d:Nat}{w:ay}{F:aL}{x:Ex}{cs:aK}(hx:Cu d w F x cs)(hl:AF d x)(hn:rA d x)(hE:Er w)(hT:Tb w)(hc:40*pz d x<=70368744177664):
  aB au 221 #[aj cs.toArray] w λe w'=>e=aq (ah (T (um d x)))/\aA [] w w':=by
 obtain⟨xs,rfl⟩:=tH hx;refine ret (v6w _ _ _ _ _ _ _ _ ?_);intro k0 w0 hY fA cQ;have hxi:=(pw d).inHeap hx;refine(K2 d hl (kZ hx cQ)).mono ?_;rintro _ w1 ⟨rfl,cJ⟩;have z0:=cQ.size;have z1:=cJ.size;have jV:=cQ.cy cJ;refine⟨_,rfl,cJ.same aab,λhs=>?_,λhs=>(XK w1).mono ?_⟩
 ·have hs:fz d x=false:=by simpa using hs
  rw[um,aX (by rw[hs];decide)];exact⟨rfl,jV⟩
 have hs:fz d x=true:=by simpa using hs
 rw[um,aZ hs];rintro _ w2 ⟨l0,rfl,Uh,dw⟩;have z2:=dw.size;refine⟨l0,rfl,dw.same aab,λk1 w3 j9 jW dE wz=>?_⟩;have z3:=dE.size;have Bt:aA [] w w3:=(jV.cy dw).cy dE;have OH:Pg (λk=>w1.heap.size<=k/\k<w2.heap.size) w3 k1 Sl.nil l0 []:=⟨⟨none,.inl rfl,wz⟩,.inl ⟨rfl,rfl⟩,SliceF.only dH aN Uh dE aaa,λk hk=>ade⟩
 have hT3:=hT.only Bt;have tT:=hT.lt;refine(uK d false hs hn (kZ hxi Bt) (λk hk=>ade) hT3 aG OH adF).mono ?_;rintro _ w4 ⟨sl4,rfl,hp4,hm4⟩;have z4:=hm4.1.size;have dL:aA [] w w4:=(Bt.oH hm4.1).only λk hk=>by
  rcases hk with rfl | e
  ·omega
  cases e
 obtain⟨q,hq,uA⟩:=hp4.blk;refine⟨rfl,hm4.same aG (λe=>adJ) aG,q,sl4,l0,uA,(Q9 hp4.pt).mono ?_⟩;rintro _ w5 ⟨rfl,ht5,eK⟩;have z5:=eK.size;have xL:=eK.blk uA aG;have yO:aA [] w w5:=(dL.oH eK).only λk hk=>by have:=hk.1;omega
 refine⟨_,rfl,eK.same aab,q,sl4,l0,xL,(ZZ _ (hE.only yO)).mono ?_⟩;rintro _ w6 ⟨cs,rfl,hX,eI⟩;have z6:=eI.size;obtain⟨xl,rfl,_⟩:=hX.cells;have M1:=eI.blk xL aaa;have ahx:=yO.cy eI;refine⟨_,_,_,_,_,_,_,_,rfl,eI.same aab,q,sl4,l0,M1,λhr k2 k3 w7 _ _ _ _ fL _=>?_,λhr k4 k5 w8 zq BZ Da HU fV uB=>?_⟩
 ·rw[aZ adq];exact⟨rfl,ahx.cy fL⟩
 have z8:=fV.size;refine(Q9 ((ht5.only eI).only fV)).mono ?_;rintro _ w9 ⟨rfl,ht9,gy⟩;rw[aX adq];have fX:∀k,sl4.a=some ⟨k,0,none⟩->k<w4.heap.size:=λk hk=>(hp4.buf.lt hk).2;refine⟨_,rfl,gy.same λk hk=>?_,q,sl4,l0,gy.blk uB aG,rfl,((ahx.cy fV).oH gy).only λk hk=>by have:=hk.1;omega⟩;simp only[aR,bn,cm]at hk;rcases hk with rfl | rfl | rfl
 ·exact⟨aG,λh=>by have:=h.1;omega⟩
 ·exact⟨BZ,λh=>by have:=fX _ h.2;omega⟩
 exact⟨HU,λh=>by have:=fX _ h.2;omega⟩
theorem Vm{ts:List Tk}{i:Nat}{e:Int×Int}(h:Vh ts i=.error e):e.1≠0:=by
 unfold Vh at h;split at h
 ·split at h
  ·split at h
   ·cases h
   injection h with h;subst h;exact iI
  injection h with h;subst h;exact iI
 injection h with h;subst h;exact iI
theorem GB{r:Pr}{g:Ex->Nat->Pr}{e:Int×Int}(h:ND r g=.error e):r=.error e∨∃x j,r=.ok (x,j)/\g x j=.error e:=by
 cases r with
 | error e'=>exact .inl h
 | ok p=>exact .inr ⟨p.1,p.2,rfl,h⟩
theorem Cv{d:Nat}{a:Int}{r:Pr}{e:Int×Int}(h:rz d a r=.error e):r=.error e∨e.1=21:=by
 unfold rz at h;split at h
 ·injection h with h;subst h;exact .inr rfl
 exact .inl h
theorem Cw{ts:List Tk}{E:Nat->Pr}{k:Int}{e:Int×Int}(hE:∀i,E i=.error e->e.1≠0):∀(g:Nat) (x:Ex) (j:Nat),nC ts E k g x j=.error e->e.1≠0
 | 0,x,j,h=>aaH
 | g+1,x,j,h=>by
  rw[nC]at h;split at h
  ·cases h
  rcases GB h with h1 | ⟨y,m,h1,h2⟩
  ·exact hE _ h1
  exact Cw hE g _ _ h2
theorem qh{ts:List Tk}{e:Int×Int}:∀(f k d i:Nat),fU ts f k d i=.error e->e.1≠0
 | 0,k,d,i,h=>by
  rw[fU]at h;injection h with h;subst h;decide
 | f+1,k,d,i,h=>by
  rw[fU]at h;split at h
  ·unfold D1 at h;split at h
   ·generalize hn:rz d (tk ts i).a (fU ts f 6 (d+1) (i+1))=r at h;cases r with
    | ok q=>cases h
    | error e'=>
     simp only[Vg]at h;injection h with h;subst h;rcases Cv hn with h1 | h1
     ·exact qh f _ _ _ h1
     rw[h1];decide
   split at h
   ·rcases Cv h with h1 | h1
    ·cases hr:fU ts f 0 (d+1) (i+1)with
     | error e'=>
      rw[hr]at h1;simp only[BO]at h1;injection h1 with h1;subst h1;exact qh f _ _ _ hr
     | ok q=>
      rw[hr]at h1;simp only[BO]at h1;split at h1
      ·cases h1
      injection h1 with h1;subst h1;exact iI
    rw[h1];decide
   split at h
   ·cases h
   split at h
   ·cases h
   split at h
   ·exact Vm h
   injection h with h;subst h;exact iI
  rcases GB h with h1 | ⟨y,m,h1,h2⟩
  ·exact qh f _ _ _ h1
  exact Cw (λi hi=>qh f _ _ _ hi) _ _ _ h2
structure Ac where
 k:Int
 n:aJ
 x:Ex
 a:Int
structure Mv where
 k:Int
 ev:aJ
 wt:Int
 gd:Bool
 g:Ex
 acts:List Ac
 tg:List (aJ)
 a:Int
structure Nb where
 k:Int
 nm:aJ
 ini:aJ
 dft:aJ
 en:List Ac
 lv:List Ac
 mv:List Mv
 a:Int
inductive Nd where
 | mk (b:Nb) (kids:List Nd)
def Nd.b:Nd->Nb | .mk b _=>b
def Nd.kids:Nd->List Nd | .mk _ l=>l
structure Vr where
 n:aJ
 v:Int
 a:Int
structure Ch where
 vars:List Vr
 root:Nd
def nb0:Nb:=⟨0,[],[],[],[],[],[],0⟩
def NJ:Nd:=.mk nb0 []
def ch0:Ch:=⟨[],NJ⟩
def tkZ:Tk:=⟨0,[],0,0⟩
structure Sx where
 i:Nat
 fc:Int
 fa:Int
 v:Int
 n:Int
 d:Int
 m:Int
 a:Int
section
variable (ts:List Tk)
def ij(s:Sx)(c:Int):Sx:=if s.fc=0 then{s with fc:=c,fa:=(tk ts s.i).a}else s
def lc(s:Sx):Sx:=if(tk ts s.i).k=5 then ij ts (ij ts s 3) 4 else ij ts s 4
def uo(c:aJ):List (aJ)->Nat
 | []=>0
 | x::l=>if c=x then 0 else uo c l+1
def dk(s:Sx)(l:List (aJ)):Nat:=
 if s.fc≠0∨((tk ts s.i).k≠2/\(tk ts s.i).k≠4)then 0 else if uo (tk ts s.i).t l<l.length then uo (tk ts s.i).t l+1 else 0
def dJ(s:Sx):Sx:={s with i:=s.i+1}
def eP(s:Sx)(x:aJ):Sx:=if dk ts s [x]=0 then lc ts s else dJ s
def ik(s:Sx)(k:Int):Tk×Sx:=if s.fc≠0∨(tk ts s.i).k≠k then(tkZ,lc ts s)else(tk ts s.i,dJ s)
def ju(s:Sx):aJ×Sx:=((ik ts s 1).1.t,(ik ts s 1).2)
def qj(s:Sx):Ex×Sx:=
 if s.fc≠0 then(Gx,s)
 else if(dF ts s.i).2.2.1≠0 then((dF ts s.i).1,{s with fc:=(dF ts s.i).2.2.1,fa:=(dF ts s.i).2.2.2})
 else((dF ts s.i).1,{s with i:=(dF ts s.i).2.1.toNat})
def zd(x:Int):Int:=av ae (x-1)
def inc(x:Int):Int:=av ae (x+1)
def uL(s:Sx):Sx:=if s.a=0 then{ij ts s 2 with a:=zd s.a}else{s with a:=zd s.a}
def sO(s:Sx):Sx:=if s.m=0 then{ij ts s 2 with m:=zd s.m}else{s with m:=zd s.m}
def GC(s:Sx):Sx:=if s.n=0 then{ij ts s 2 with n:=zd s.n}else{s with n:=zd s.n}
def GD(s:Sx):Sx:=if s.v=0 then{ij ts s 2 with v:=zd s.v}else{s with v:=zd s.v}
def ua:aJ:=[115,101,116]
def lf:aJ:=[114,97,105,115,101]
def nD:aJ:=[101,109,105,116]
def IX:aJ:=[111,110]
def kA:aJ:=[97,108,119,97,121,115]
def kF:aJ:=[97,102,116,101,114]
def im:aJ:=[105,110,105,116,105,97,108]
def j6:aJ:=[101,110,116,101,114]
def j7:aJ:=[108,101,97,118,101]
def D6:aJ:=[115,116,97,116,101]
def tI:aJ:=[112,97,114,97,108,108,101,108]
def vL:aJ:=[104,105,115,116,111,114,121]
def K7:aJ:=[100,101,101,112]
def gR:aJ:=[99,104,97,114,116]
def GF:aJ:=[118,97,114]
def NK(s:Sx)(k:Nat)(n:aJ)(a:Int):Ac×Sx:=
 if k=2 then(⟨k,n,Gx,a⟩,eP ts s [59])
 else(⟨k,n,(qj ts (eP ts s [61])).1,a⟩,eP ts (qj ts (eP ts s [61])).2 [59])
def rL(s:Sx):Ac×Sx:=
 if dk ts s [ua,lf,nD]=0 then(⟨0,[],Gx,(tk ts s.i).a⟩,lc ts s)
 else if(uL ts s).fc≠0 then(⟨(dk ts s [ua,lf,nD]),[],Gx,(tk ts s.i).a⟩,uL ts s)
 else NK ts (ju ts (dJ (uL ts s))).2 (dk ts s [ua,lf,nD]) (ju ts (dJ (uL ts s))).1 (tk ts s.i).a
def sP:Nat->List Ac->Sx->List Ac×Sx
 | 0,acc,s=>(acc,s)
 | f+1,acc,s=>if s.fc≠0 then(acc,s)else if dk ts s [[125]]≠0 then(acc,dJ s)else sP f (acc++[(rL ts s).1]) (rL ts s).2
def ji(s:Sx):List Ac×Sx:=sP ts (ts.length+1) [] (eP ts s [123])
def xZ:Nat->aJ->List (aJ)->Sx->List (aJ)×Sx
 | 0,_,acc,s=>(acc,s)
 | f+1,x,acc,s=>if dk ts s [x]=0 then(acc,s)else xZ f [44] (acc++[(ju ts (dJ s)).1]) (ju ts (dJ s)).2
def GH(m:Mv)(s:Sx):Mv×Sx:=
 ({m with tg:=(xZ ts (ts.length+1) [45,62] [] s).1},eP ts (xZ ts (ts.length+1) [45,62] [] s).2 [59])
def Cx(m:Mv)(s:Sx):Mv×Sx:=
 if dk ts s [[123]]=0 then GH ts m s else GH ts {m with acts:=(ji ts s).1} (ji ts s).2
def qk(m:Mv)(s:Sx):Mv×Sx:=
 if dk ts s [[91]]=0 then Cx ts m s else Cx ts {m with gd:=true,g:=(qj ts (dJ s)).1} (eP ts (qj ts (dJ s)).2 [93])
def XR(k a:Int):Mv:=⟨k,[],0,false,Gx,[],[],a⟩
def oh(k:Int)(s:Sx):Mv×Sx:=
 if(sO ts s).fc≠0 then(XR k (tk ts s.i).a,sO ts s)
 else if k=1 then qk ts {XR k (tk ts s.i).a with ev:=(ju ts (dJ (sO ts s))).1} (ju ts (dJ (sO ts s))).2
 else if k=3 then qk ts {XR k (tk ts s.i).a with wt:=(ik ts (dJ (sO ts s)) 3).1.n} (ik ts (dJ (sO ts s)) 3).2
 else qk ts (XR k (tk ts s.i).a) (dJ (sO ts s))
structure OI where
 i:Bool
 e:Bool
 l:Bool
def fg(n:Nb)(h:OI)(s:Sx):Bool×Nb×OI×Sx:=
 if dk ts s [IX,kA,kF]≠0 then(true,{n with mv:=n.mv++[(oh ts (dk ts s [IX,kA,kF]) s).1]},h,(oh ts (dk ts s [IX,kA,kF]) s).2)
 else match dk ts s [im,j6,j7]with
  | 0=>(false,n,h,s)
  | 1=>if h.i then(false,n,h,lc ts s)else(true,{n with ini:=(ju ts (dJ s)).1},{h with i:=true},eP ts (ju ts (dJ s)).2 [59])
  | 2=>if h.e then(false,n,h,lc ts s)else(true,{n with en:=(ji ts (dJ s)).1},{h with e:=true},(ji ts (dJ s)).2)
  | _=>if h.l then(false,n,h,lc ts s)else(true,{n with lv:=(ji ts (dJ s)).1},{h with l:=true},(ji ts (dJ s)).2)
def kf:Nat->Nb->OI->Sx->Nb×Sx
 | 0,n,_,s=>(n,s)
 | f+1,n,h,s=>if s.fc≠0 then(n,s)
  else if(fg ts n h s).1 then kf f (fg ts n h s).2.1 (fg ts n h s).2.2.1 (fg ts n h s).2.2.2 else((fg ts n h s).2.1,(fg ts n h s).2.2.2)
def rf:List (aJ):=[D6,tI,vL,K7]
def vM(N:Int->Sx->Nd×Sx):Nat->List Nd->Sx->List Nd×Sx
 | 0,acc,s=>(acc,s)
 | f+1,acc,s=>if dk ts s rf=0 then(acc,s)else vM N f (acc++[(N (dk ts s rf) (dJ s)).1]) (N (dk ts s rf) (dJ s)).2
def rB(N:Int->Sx->Nd×Sx)(n:Nb)(s:Sx):Nd×Sx:=
 let c:=kf ts (ts.length+1) n ⟨false,false,false⟩ {s with d:=zd s.d}
 let k:=vM ts N (ts.length+1) [] c.2
 (.mk c.1 k.1,eP ts {k.2 with d:=inc k.2.d} [125])
def rC(s:Sx):Sx:=if(tk ts s.i).k=1 then(if(GC ts s).d=0 then ij ts (GC ts s) 21 else GC ts s)else s
def fh(k:Int)(s:Sx):Nb×Sx:=({nb0 with k:=k,nm:=(ik ts (rC ts s) 1).1.t,a:=(ik ts (rC ts s) 1).1.a},(ik ts (rC ts s) 1).2)
def lg:Nat->Int->Sx->Nd×Sx
 | 0,_,s=>(NJ,s)
 | f+1,k,s=>
  if 3<=k then(.mk {(fh ts k s).1 with dft:=(ju ts (eP ts (fh ts k s).2 [45,62])).1} [],eP ts (ju ts (eP ts (fh ts k s).2 [45,62])).2 [59])
  else rB ts (lg f) (fh ts k s).1 (eP ts (fh ts k s).2 [123])
def uM(s:Sx):Vr×Sx:=
 let s1:=if(tk ts s.i).k=1 then GD ts s else s
 let t:=ik ts s1 1
 let s2:=eP ts t.2 [61]
 let g:=dk ts s2 [[45]]
 let q:=ik ts (if g=0 then s2 else dJ s2) 3
 (⟨t.1.t,if g=0 then q.1.n else av ae (-q.1.n),t.1.a⟩,eP ts q.2 [59])
def yd:Nat->List Vr->Sx->List Vr×Sx
 | 0,acc,s=>(acc,s)
 | f+1,acc,s=>if dk ts s [GF]=0 then(acc,s)else yd f (acc++[(uM ts (dJ s)).1]) (uM ts (dJ s)).2
def H5:Sx:=⟨0,0,0,16,64,12,200,400⟩
def NL(s:Sx):Sx:=if s.fc=0/\(tk ts s.i).k≠5 then lc ts s else s
def AH:Ch×Sx:=
 let n:=fh ts 1 (eP ts H5 gR)
 let v:=yd ts (ts.length+1) [] (eP ts n.2 [123])
 let b:=rB ts (lg ts 14) n.1 v.2
 (⟨v.1,b.1⟩,NL ts b.2)
end
def dK(l:aJ):Ch×Int×Int:=
 if(dC l).2.1≠0 then(ch0,(dC l).2.1,(dC l).2.2)
 else if(AH (dC l).1).2.fc≠0 then(ch0,(AH (dC l).1).2.fc,(AH (dC l).1).2.fa)
 else((AH (dC l).1).1,0,0)
def mu(ts:List Tk)(s:Sx):Nat:=if s.fc=0 then ts.length-s.i else 0
structure On0 (ts:List Tk) (s s':Sx):Prop where
 lt:s.i<ts.length->s'.i<ts.length
 le:s'.fc=0->s.fc=0/\s.i<=s'.i
structure On (ts:List Tk) (s s':Sx):Prop extends On0 ts s s' where
 d:s'.d=s.d
section
variable {ts:List Tk} {s s' s'':Sx}
theorem On0.refl ts s:On0 ts s s:=⟨id,λh=>⟨h,ba _⟩⟩
theorem On.refl ts s:On ts s s:=⟨On0.refl ts s,rfl⟩
theorem On0.trans(h:On0 ts s s')(k:On0 ts s' s''):On0 ts s s'':=⟨λx=>k.lt (h.lt x),λe=>by
 obtain⟨a,b⟩:=k.le e;obtain⟨c,d⟩:=h.le a;exact⟨c,bf d b⟩⟩
theorem On.trans(h:On ts s s')(k:On ts s' s''):On ts s s'':=⟨h.toOn0.trans k.toOn0,k.d.trans h.d⟩
theorem On0.mu(h:On0 ts s s'):mu ts s'<=mu ts s:=by
 unfold Con.mu;by_cases e:s'.fc=0
 ·obtain⟨a,b⟩:=h.le e;rw[aZ e,aZ a];omega
 rw[aX e];exact bB _
theorem pc c:On ts s (ij ts s c):=by
 unfold ij;by_cases e:s.fc=0
 ·rw[aZ e];exact⟨⟨id,λ_=>⟨e,ba _⟩⟩,rfl⟩
 rw[aX e];exact On.refl _ _
theorem K8{c}(hc:c≠0):(ij ts s c).fc≠0:=by
 unfold ij;by_cases e:s.fc=0
 ·rw[aZ e];exact hc
 rw[aX e];exact e
theorem D7 c:(ij ts s c).i=s.i:=by
 unfold ij;split<;>rfl
theorem ql:(lc ts s).fc≠0:=by
 unfold lc;split<;>exact K8 aN
theorem qm:On ts s (lc ts s):=by
 unfold lc;split
 ·exact(pc 3).trans (pc 4)
 exact pc 4
theorem GI l:dk ts s l<=l.length:=by
 unfold dk;split
 ·exact bB _
 split<;>omega
theorem dB{l}(h:dk ts s l≠0):s.fc=0/\(tk ts s.i).k≠5:=by
 unfold dk at h;split at h
 ·exact absurd rfl h
 rename_i hc;by_cases e:s.fc=0
 ·refine⟨e,λe5=>hc (.inr ?_)⟩;rw[e5];exact⟨aN,aN⟩
 exact absurd (.inl e) hc
theorem lh(hE:wZ ts)(h0:s.fc=0)(hk:(tk ts s.i).k≠5):On ts s (dJ s):=⟨⟨λh=>hE.next h hk,λ_=>⟨h0,iC _⟩⟩,rfl⟩
theorem io(hE:wZ ts) x:On ts s (eP ts s x):=by
 unfold eP;by_cases h:dk ts s [x]=0
 ·rw[aZ h];exact qm
 rw[aX h];exact lh hE (dB h).1 (dB h).2
theorem vN(hE:wZ ts){k}(hk:k≠5):On ts s (ik ts s k).2:=by
 unfold ik;by_cases h:s.fc≠0∨(tk ts s.i).k≠k
 ·rw[aZ h];exact qm
 rw[aX h];simp at h;exact lh hE h.1 (by rw[h.2];exact hk)
theorem pd(hE:wZ ts):On ts s (ju ts s).2:=vN hE aN
end
section
variable {ts:List Tk} (hE:wZ ts)
include hE
theorem Z4{i}{x}{j}(hi:i<ts.length)(hk:(tk ts i).k≠5)(h:Vh ts i=.ok (x,j)):j<ts.length:=by
 unfold Vh at h;split at h
 ·rename_i h1;split at h
  ·rename_i h2;split at h
   ·rename_i h3;have l4:=hE.next (hE.next (hE.next (hE.next hi hk) (DZ h1)) (by rw[h2];decide)) (DZ h3);simp at h;omega
   cases h
  cases h
 cases h
theorem Vn{E0 N8}{d i}{x}{j}(hE0:∀i x j,i<ts.length->E0 i=.ok (x,j)->j<ts.length)(hO:∀i x j,i<ts.length->N8 i=.ok (x,j)->j<ts.length)(hi:i<ts.length)(h:D1 ts E0 N8 d i=.ok (x,j)):j<ts.length:=by
 unfold D1 at h;split at h
 ·rename_i hs;obtain⟨y,h1,_⟩:=KW h;refine hO _ _ _ (hE.next hi ?_) (vJ h1).1;rcases bU _ _▸hs with hs | hs<;>exact DZ hs
 split at h
 ·rename_i hs;obtain⟨j',h1,h2,rfl⟩:=KX (vJ h).1;exact hE.next (hE0 _ _ _ (hE.next hi (DZ hs)) h1) (DZ h2)
 split at h
 ·rename_i hk;simp at h;have:=hE.next hi (by rw[hk];decide);omega
 split at h
 ·rename_i hk;simp at h;have:=hE.next hi (by rw[hk];decide);omega
 split at h
 ·rename_i hk;exact Z4 hE hi (by rw[hk.1];decide) h
 cases h
theorem GJ{E}{k}(hE':∀i x j,i<ts.length->E i=.ok (x,j)->j<ts.length):∀g x j {x':Ex} {j':Nat},j<ts.length->nC ts E k g x j=.ok (x',j')->j'<ts.length
 | 0,x,j,x',j',hj,h=>by
  simp[nC,jg,jE]at h;omega
 | g+1,x,j,x',j',hj,h=>by
  rw[nC]at h;split at h
  ·simp at h;omega
  rename_i ho;obtain⟨y,m,h1,h2⟩:=y9 h;exact GJ hE' g _ _ (hE' _ _ _ (hE.next hj (xb _ _ ho)) h1) h2
theorem sQ:∀f k d i {x:Ex} {j:Nat},i<ts.length->fU ts f k d i=.ok (x,j)->j<ts.length
 | 0,_,_,_,_,_,_,h=>aaH
 | f+1,k,d,i,x,j,hi,h=>by
  rw[fU]at h;split at h
  ·exact Vn hE (λi x j hi h=>sQ f _ _ i hi h) (λi x j hi h=>sQ f _ _ i hi h) hi h
  obtain⟨y,m,h1,h2⟩:=y9 h;exact GJ hE (λi x j hi h=>sQ f _ _ i hi h) _ _ _ (sQ f _ _ _ hi h1) h2
theorem NM{i:Nat}(h0:(dF ts i).2.2.1=0):∃j:Nat,(dF ts i).2.1=j/\i<j/\j<ts.length:=by
 unfold dF at h0⊢;split at h0
 ·rename_i hc;rw[aZ hc];have hi:i<ts.length:=by have:=hc.2.1;omega
  rw[aV]at h0⊢;unfold IV at h0⊢;cases he:fU ts _ 0 0 i with
  | error e=>
   rw[he]at h0;exact absurd h0 (qh _ _ _ _ he)
  | ok q=>
   obtain⟨x,j⟩:=q;exact⟨j,rfl,lY _ _ _ _ he,sQ hE _ _ _ _ hi he⟩
 cases h0
theorem pe{s s'}(h0:s.fc=0)(hi:s.i<ts.length)(hk:(tk ts s.i).k≠5)(h:On0 ts (dJ s) s'):mu ts s'<mu ts s:=by
 have h1:=h.mu;have e1:mu ts s=ts.length-s.i:=by unfold mu;rw[aZ h0]
 have e2:mu ts (dJ s)=ts.length-(s.i+1):=by unfold mu dJ;rw[aZ h0]
 omega
set_option linter.unusedSectionVars false in
theorem xd {s s':Sx} (h0:s.fc=0) (hi:s.i<ts.length) (h:s'.fc≠0):mu ts s'<mu ts s:=by
 unfold mu;rw[aX h,aZ h0];omega
theorem K9 s:On ts s (qj ts s).2:=by
 unfold qj;by_cases h0:s.fc≠0
 ·rw[aZ h0];exact On.refl _ _
 rw[aX h0];by_cases h1:(dF ts s.i).2.2.1≠0
 ·rw[aZ h1];exact⟨⟨id,λh=>absurd h h1⟩,rfl⟩
 rw[aX h1];obtain⟨j,e,l1,l2⟩:=NM hE (i:=s.i) abv;rw[e,aV];exact⟨⟨λ_=>l2,λh=>⟨h,Nat.le_of_lt l1⟩⟩,rfl⟩
omit hE in
theorem D8 (s:Sx):On ts s (uL ts s):=by
 unfold uL;split
 ·have h:=pc (ts:=ts) (s:=s) 2;exact⟨⟨h.lt,h.le⟩,h.d⟩
 exact⟨⟨id,λh=>⟨h,ba _⟩⟩,rfl⟩
omit hE in
theorem D9 (s:Sx):On ts s (sO ts s):=by
 unfold sO;split
 ·have h:=pc (ts:=ts) (s:=s) 2;exact⟨⟨h.lt,h.le⟩,h.d⟩
 exact⟨⟨id,λh=>⟨h,ba _⟩⟩,rfl⟩
omit hE in
theorem Ea (s:Sx):On ts s (GC ts s):=by
 unfold GC;split
 ·have h:=pc (ts:=ts) (s:=s) 2;exact⟨⟨h.lt,h.le⟩,h.d⟩
 exact⟨⟨id,λh=>⟨h,ba _⟩⟩,rfl⟩
omit hE in
theorem Vo (s:Sx):On ts s (GD ts s):=by
 unfold GD;split
 ·have h:=pc (ts:=ts) (s:=s) 2;exact⟨⟨h.lt,h.le⟩,h.d⟩
 exact⟨⟨id,λh=>⟨h,ba _⟩⟩,rfl⟩
omit hE in
theorem Eb (s:Sx):(uL ts s).i=s.i:=by
 unfold uL;split
 ·exact D7 2
 rfl
omit hE in
theorem Ec (s:Sx):(sO ts s).i=s.i:=by
 unfold sO;split
 ·exact D7 2
 rfl
theorem Lc s k n a:On ts s (NK ts s k n a).2:=by
 unfold NK;split
 ·exact io hE _
 exact((io hE _).trans (K9 hE _)).trans (io hE _)
theorem Rc s u (hu:On ts s u) (hi:u.i=s.i) (h0:u.fc=0) (hk:(tk ts s.i).k≠5):On ts s (dJ u):=hu.trans (lh hE h0 (by rw[hi];exact hk))
theorem Z5 s:On ts s (rL ts s).2:=by
 unfold rL;split
 ·exact qm
 rename_i h;split
 ·exact D8 s
 rename_i h0;exact(Rc hE s _ (D8 s) (Eb s) (by simpa using h0) (dB h).2).trans ((pd hE).trans (Lc hE _ _ _ _))
theorem Z6{s}(h0:s.fc=0)(hi:s.i<ts.length):mu ts (rL ts s).2<mu ts s:=by
 unfold rL;split
 ·exact xd hE h0 hi ql
 rename_i h;split
 ·rename_i h1;exact xd hE h0 hi h1
 rename_i h1;have e:=Eb (ts:=ts) s;exact cq (pe hE abv (by rw[e];exact hi) (by rw[e];exact(dB h).2) ((pd hE).trans (Lc hE _ _ _ _)).toOn0) (D8 (ts:=ts) s).mu
theorem Ld:∀f acc s,On ts s (sP ts f acc s).2
 | 0,_,s=>On.refl _ _
 | f+1,acc,s=>by
  rw[sP];split
  ·exact On.refl _ _
  split
  ·rename_i h;exact lh hE (dB h).1 (dB h).2
  exact(Z5 hE s).trans (Ld f _ _)
theorem sR s:On ts s (ji ts s).2:=(io hE _).trans (Ld hE _ _ _)
theorem Lh:∀f x acc s,On ts s (xZ ts f x acc s).2
 | 0,_,_,s=>On.refl _ _
 | f+1,x,acc,s=>by
  rw[xZ];split
  ·exact On.refl _ _
  rename_i h;exact((lh hE (dB h).1 (dB h).2).trans (pd hE)).trans (Lh f _ _ _)
theorem GK m s:On ts s (GH ts m s).2:=(Lh hE _ _ _ _).trans (io hE _)
theorem GL m s:On ts s (Cx ts m s).2:=by
 unfold Cx;split
 ·exact GK hE _ _
 exact(sR hE _).trans (GK hE _ _)
theorem AI m s:On ts s (qk ts m s).2:=by
 unfold qk;split
 ·exact GL hE _ _
 rename_i h;exact(((lh hE (dB h).1 (dB h).2).trans (K9 hE _)).trans (io hE _)).trans (GL hE _ _)
theorem GM(k:Int)(s u:Sx) m:On ts u (if k=1 then qk ts {m with ev:=(ju ts u).1} (ju ts u).2 else if k=3 then qk ts {m with wt:=(ik ts u 3).1.n} (ik ts u 3).2 else qk ts m u).2:=by
 split
 ·exact(pd hE).trans (AI hE _ _)
 split
 ·exact(vN hE aN).trans (AI hE _ _)
 exact AI hE _ _
theorem Vp k s (hk:(tk ts s.i).k≠5):On ts s (oh ts k s).2:=by
 unfold oh;split
 ·exact D9 s
 rename_i h1;exact(Rc hE s _ (D9 s) (Ec s) abv hk).trans (GM hE k s _ _)
theorem Vq k {s} (h0:s.fc=0) (hi:s.i<ts.length) (hk:(tk ts s.i).k≠5):mu ts (oh ts k s).2<mu ts s:=by
 unfold oh;split
 ·rename_i h1;exact xd hE h0 hi h1
 rename_i h1;have e:=Ec (ts:=ts) s;exact cq (pe hE abv (by rw[e];exact hi) (by rw[e];exact hk) (GM hE k s _ _).toOn0) (D9 (ts:=ts) s).mu
theorem Cy n h s:On ts s (fg ts n h s).2.2.2:=by
 unfold fg;split
 ·rename_i hw;exact Vp hE _ s (dB hw).2
 split
 ·exact On.refl _ _
 ·rename_i hw;have hw:dk ts s [im,j6,j7]≠0:=adQ
  split
  ·exact qm
  exact((lh hE (dB hw).1 (dB hw).2).trans (pd hE)).trans (io hE _)
 ·rename_i hw;have hw:dk ts s [im,j6,j7]≠0:=adQ
  split
  ·exact qm
  exact(lh hE (dB hw).1 (dB hw).2).trans (sR hE _)
 rename_i h0 h1 h2;have hw:=h0;split
 ·exact qm
 exact(lh hE (dB hw).1 (dB hw).2).trans (sR hE _)
theorem NN n h {s} (h0:s.fc=0) (hi:s.i<ts.length) (ht:(fg ts n h s).1=true):mu ts (fg ts n h s).2.2.2<mu ts s:=by
 unfold fg at ht⊢;split
 ·rename_i hw;exact Vq hE _ h0 hi (dB hw).2
 rename_i hw0;rw[aX hw0]at ht;split
 ·rename_i hw;rw[hw]at ht;cases ht
 ·rename_i hw;have hw:dk ts s [im,j6,j7]≠0:=adQ
  split
  ·exact xd hE h0 hi ql
  exact pe hE h0 hi (dB hw).2 ((pd hE).trans (io hE _)).toOn0
 ·rename_i hw;have hw:dk ts s [im,j6,j7]≠0:=adQ
  split
  ·exact xd hE h0 hi ql
  exact pe hE h0 hi (dB hw).2 (sR hE _).toOn0
 rename_i h1 _ _;split
 ·exact xd hE h0 hi ql
 exact pe hE h0 hi (dB h1).2 (sR hE _).toOn0
theorem uN:∀f n h s,On ts s (kf ts f n h s).2
 | 0,_,_,s=>On.refl _ _
 | f+1,n,h,s=>by
  rw[kf];split
  ·exact On.refl _ _
  split
  ·exact(Cy hE n h s).trans (uN f _ _ _)
  exact Cy hE n h s
theorem Li{N} d (hN:∀k s,s.d=d->s.fc=0->On ts s (N k s).2):∀f acc s,s.d=d->On ts s (vM ts N f acc s).2
 | 0,_,s,_=>On.refl _ _
 | f+1,acc,s,hd=>by
  rw[vM];split
  ·exact On.refl _ _
  rename_i h;have h1:=(lh hE (dB h).1 (dB h).2).trans (hN (dk ts s rf) _ hd (dB h).1);exact h1.trans (Li d hN f _ _ (h1.d.trans hd))
theorem Vt{N}{n}{s}(hd:InI s.d)(hN:∀k u,u.d=zd s.d->u.fc=0->On ts u (N k u).2):On ts s (rB ts N n s).2:=by
 unfold rB;have h1:=uN hE (ts.length+1) n ⟨false,false,false⟩ {s with d:=zd s.d};have h3:=h1.trans (Li hE _ hN (ts.length+1) [] _ h1.d);have h4:=io hE [125] (s:={(vM ts N (ts.length+1) [] (kf ts (ts.length+1) n ⟨false,false,false⟩ {s with d:=zd s.d}).2).2 with d:=inc (vM ts N (ts.length+1) [] (kf ts (ts.length+1) n ⟨false,false,false⟩ {s with d:=zd s.d}).2).2.d});refine⟨⟨λh=>h4.lt (h3.lt h),λe=>?_⟩,h4.d.trans ?_⟩
 ·obtain⟨a,b⟩:=h4.le e;obtain⟨c,d⟩:=h3.le a;exact⟨c,bf d b⟩
 rw[h3.d];unfold inc zd;have:=hd.1;have:=hd.2;simp[IntKind.wrap_i64];omega
omit hE in
theorem Vu (s:Sx):On ts s (rC ts s):=by
 unfold rC;split
 ·split
  ·exact(Ea s).trans (pc _)
  exact Ea s
 exact On.refl _ _
theorem AJ k s:On ts s (fh ts k s).2:=(Vu s).trans (vN hE aN)
omit hE in
theorem Vv {k:Int} {s:Sx} (h:(fh ts k s).2.fc=0):s.d≠0:=λe=>by
 revert h;unfold fh ik;dsimp only;by_cases h1:(tk ts s.i).k=1
 ·have hf:(rC ts s).fc≠0:=by
   unfold rC;rw[aZ h1,aZ ((Ea s).d.trans e)];exact K8 aN
  rw[aZ (.inl hf)];exact ql
 have e2:rC ts s=s:=by unfold rC;rw[aX h1]
 rw[e2,aZ (.inr h1)];exact ql
theorem Lj:∀(f:Nat) (k:Int) (s:Sx),InI s.d->On ts s (lg ts f k s).2
 | 0,_,s,_=>On.refl _ _
 | f+1,k,s,hd=>by
  rw[lg];have h1:=AJ hE k s;split
  ·exact((h1.trans (io hE _)).trans (pd hE)).trans (io hE _)
  have h2:=h1.trans (io hE [123]);refine h2.trans (Vt hE (by rw[h2.d];exact hd) λk u hu _=>Lj f k u ?_);rw[hu];exact PZ _
theorem Re(s:Sx):On ts s (uM ts s).2:=by
 unfold uM;dsimp only;have h1:On ts s (if(tk ts s.i).k=1 then GD ts s else s):=by
  split
  ·exact Vo s
  exact On.refl _ _
 have h2:∀u:Sx,On ts u (if dk ts u [[45]]=0 then u else dJ u):=λu=>by
  split
  ·exact On.refl _ _
  rename_i h;exact lh hE (dB h).1 (dB h).2
 exact((((h1.trans (vN hE aN)).trans (io hE _)).trans (h2 _)).trans (vN hE aN)).trans (io hE _)
end
def Mk(w:ay)(F:aL)(e:TypeId)(size:Nat)(s:Sl):Prop:=s.n=0∨∃g cs,s.a=some ⟨g,0,none⟩/\F g/\aH w g e cs/\s.n*size<=cs.length
def jR{α:Type}(t:Bool)(r:Rp α)(size:Nat)(e:TypeId)(w:ay)(F:aL)(s:Sl)(xs:List α):Prop:=aD r size w F s xs/\(t=true->Mk w F e size s)
section
variable {α:Type} {t:Bool} {r q:Rp α} {size:Nat} {e:TypeId} {w w':ay} {F G:aL} {s:Sl} {xs:List α} {B:Nat}
theorem Mk.keep(h:Mk w F e size s)(hk:∀k,F k->k<w.heap.size->w'.heap[k]? =w.heap[k]?):Mk w' F e size s:=by
 rcases h with h | ⟨g,cs,h1,h2,h3,h4⟩
 ·exact .inl h
 exact .inr ⟨g,cs,h1,h2,(hk g h2 h3.lt).trans h3,h4⟩
theorem Mk.mono(h:Mk w F e size s)(hk:∀k,F k->k<w.heap.size->G k):Mk w G e size s:=by
 rcases h with h | ⟨g,cs,h1,h2,h3,h4⟩
 ·exact .inl h
 exact .inr ⟨g,cs,h1,hk g h2 h3.lt,h3,h4⟩
theorem jR.keep(hr:r.Ok)(h:jR t r size e w F s xs)(hs:0<size)(hk:∀k,F k->k<w.heap.size->w'.heap[k]? =w.heap[k]?):jR t r size e w' F s xs:=⟨h.1.keep hr hs hk,λx=>(h.2 x).keep hk⟩
theorem jR.inHeap(hr:r.Ok)(h:jR t r size e w F s xs)(hs:0<size):jR t r size e w (λk=>F k/\k<w.heap.size) s xs:=⟨h.1.inHeap hr hs,λx=>(h.2 x).mono λk a b=>⟨a,b⟩⟩
theorem jR.mono(hr:r.Ok)(h:jR t r size e w F s xs)(hk:∀k,F k->G k):jR t r size e w G s xs:=⟨h.1.mono hr hk,λx=>(h.2 x).mono λk a _=>hk k a⟩
theorem jR.nil(t:Bool)(r:Rp α)(size:Nat)(e:TypeId)(w:ay)(F:aL):jR t r size e w F Sl.nil []:=⟨SliceF.nil _ _ _ _,λ_=>.inl rfl⟩
theorem jR.imp(h:jR t r size e w F s xs)(hi:∀x cs,x∈xs->r w F x cs->q w F x cs):jR t q size e w F s xs:=⟨K1 h.1 hi,h.2⟩
theorem jR.off(h:jR t r size e w F s xs)(hi:∀x cs,x∈xs->r w F x cs->q w F x cs):jR false q size e w F s xs:=⟨K1 h.1 hi,λh=>aaH⟩
theorem _root_.Go.Kt.Own.sl(hr:r.Ok)(h:Own r size e B w F s xs)(hF:∀k,B<=k->F k):jR true r size e w F s xs:=by
 refine⟨(h.slice hr).mono hr λk hk=>hk.elim id λx=>hF k x.1,λ_=>?_⟩;rcases h with⟨rfl,rfl⟩ | ⟨g,css,tail,h1,h2,h4,h5,h6,h7,h9,h8⟩
 ·exact .inl rfl
 exact .inr ⟨g,_,h1,hF g h2,h4,by rw[aW,lO.Ju h8,<-h6];omega⟩
end
def Lk(t:Bool):Nat->Rp Ex
 | 0=>λ_ _ _ _=>False
 | d+1=>λw F x cs=>∃sl:Sl,cs=sM x.k x.n x.s x.op sl x.a/\jR t (Lk t d) 6 131 w F sl x.fZ
theorem kG(t:Bool):∀d,(Lk t d).Ok
 | 0=>⟨λh _=>h.elim,λh=>h.elim,λh _=>h.elim,λh=>h.elim⟩
 | d+1=>⟨λ⟨sl,h1,h2⟩ hk=>⟨sl,h1,jR.keep (kG t d) h2 aN hk⟩,λ⟨sl,h1,h2⟩=>⟨sl,h1,jR.inHeap (kG t d) h2 aN⟩,λ⟨sl,h1,h2⟩ hk=>⟨sl,h1,jR.mono (kG t d) h2 hk⟩,λ⟨sl,h1,h2⟩=>by
  subst h1;intro v hv;simp only[aR,bn,cm]at hv;rcases hv with rfl | rfl | rfl | rfl | rfl | rfl<;>rfl⟩
theorem Rf{t:Bool}{w:ay}{F:aL}:∀{d:Nat} {x:Ex} {cs:aK},Lk t d w F x cs->Lk t (d+1) w F x cs
 | 0,_,_,h=>h.elim
 | d+1,x,cs,⟨sl,h1,h2⟩=>⟨sl,h1,h2.imp λx cs _ h=>Rf h⟩
theorem IY{t:Bool}{w:ay}{F:aL}{d e:Nat}{x:Ex}{cs:aK}(h:d<=e)(hx:Lk t d w F x cs):Lk t e w F x cs:=by
 induction e with
 | zero=>have:d=0:=aG;subst this;exact hx
 | succ e ih=>
  by_cases he:d=e+1
  ·subst he;exact hx
  exact Rf (ih aG)
theorem IZ{t:Bool}{w:ay}{F:aL}:∀{d:Nat} {x:Ex} {cs:aK},Lk t d w F x cs->Cu d w F x cs
 | 0,_,_,h=>h.elim
 | d+1,x,cs,⟨sl,h1,h2⟩=>⟨sl,h1,K1 h2.1 λx cs _ h=>IZ h⟩
theorem Rg{w:ay}{F:aL}:∀{d:Nat} {x:Ex} {cs:aK},Cu d w F x cs->Lk false d w F x cs
 | 0,_,_,h=>h.elim
 | d+1,x,cs,⟨sl,h1,h2⟩=>⟨sl,h1,K1 h2 λx cs _ h=>Rg h,λh=>aaH⟩
theorem RXN.xg{w:ay}{x:Ex}{cs:aK}{N:aL}{lo hi:Nat}(h:RXN w N lo hi x cs):∃d,Lk true d w (λk=>lo<=k/\k<hi) x cs:=by
 induction h with
 | leaf lo hi k n s op a=>exact⟨1,Sl.nil,rfl,jR.nil _ _ _ _ _ _⟩
 | one lo m g hi k n s op a x cs h1 h2 h3 h4 hn h5 ih=>
  obtain⟨d,ih⟩:=ih;obtain⟨sl,oI,_⟩:=h1.cells;refine⟨d+1,_,rfl,⟨rfl,ba _,λh=>aaH,(by decide:(1:Nat)<=9223372036854775807),λj y hj=>?_⟩,λ_=>.inr ⟨g,cs,rfl,⟨h2,h4⟩,h5,by rw[oI];exact ba _⟩⟩;have hj0:j=0:=by
   have:=(be.1 hj).1;simp only[Ex.fZ,bO]at this;omega
  subst hj0;simp only[Ex.fZ,cO,bc]at hj;subst hj;exact⟨⟨g,0,none⟩,cs,rfl,⟨h2,h4⟩,by rw[oI];rfl,by rw[yT];exact h5.cells 0 cs λj v hv=>by rw[bM];exact hv,(kG true d).mono ih λk hk=>⟨hk.1,aG⟩⟩
 | two lo m m' m2 g hi k n s op a x y cs ds h1 h2 h3 h4 h5 h6 h7 h8 hn h9 Pw Ut=>
  obtain⟨d1,Pw⟩:=Pw;obtain⟨d2,Ut⟩:=Ut;obtain⟨sl,oI,_⟩:=h1.cells;obtain⟨sl2,hds,_⟩:=h3.cells;have e1:cs.length=6:=by rw[oI];rfl
  have e2:ds.length=6:=by rw[hds];rfl
  refine⟨max d1 d2+1,_,rfl,⟨rfl,ba _,λh=>aaH,(by decide:(2:Nat)<=9223372036854775807),λj y hj=>?_⟩,λ_=>.inr ⟨g,cs++ds,rfl,⟨aG,h8⟩,h9,by rw[aW,e1,e2];exact ba _⟩⟩;rcases j with _ | _ | j
  ·simp only[Ex.fZ,cO,bc]at hj;subst hj;exact⟨⟨g,0,none⟩,cs,rfl,⟨abh,h8⟩,e1,by rw[yT];exact h9.cells 0 cs λj v hv=>by rw[bM,bK (be.1 hv).1];exact hv,(kG true _).mono (IY (T4 _ _) Pw) λk hk=>⟨hk.1,aG⟩⟩
  ·simp only[Ex.fZ,dl,cO,bc]at hj;subst hj;exact⟨⟨g,0,none⟩,ds,rfl,⟨abh,h8⟩,e2,by
    rw[fI];exact h9.cells 6 ds λj v hv=>by rw[bX aG,e1,ez];exact hv,(kG true _).mono (IY (OX _ _) Ut) λk hk=>⟨aG,aG⟩⟩
  simp[Ex.fZ]at hj
def rE(t:Bool):Rp Ex:=λw F x cs=>∃d,Lk t d w F x cs
theorem jb(t:Bool):(rE t).Ok:=⟨λ⟨d,h⟩ hk=>⟨d,(kG t d).keep h hk⟩,λ⟨d,h⟩=>⟨d,(kG t d).inHeap h⟩,λ⟨d,h⟩ hk=>⟨d,(kG t d).mono h hk⟩,λ⟨d,h⟩=>(kG t d).one h⟩
theorem jc{t:Bool}{w:ay}{F:aL}{x:Ex}{cs:aK}(h:rE t w F x cs):∃sl,cs=sM x.k x.n x.s x.op sl x.a:=by
 obtain⟨d,h⟩:=h;cases d with
 | zero=>exact h.elim
 | succ d=>obtain⟨sl,h,_⟩:=h;exact⟨sl,h⟩
theorem Rh{t:Bool}{w:ay}{F:aL}{x:Ex}{cs:aK}(h:rE t w F x cs):rE false w F x cs:=by
 obtain⟨d,h⟩:=h;exact⟨d,Rg (IZ h)⟩
theorem rE0(t:Bool)(w:ay)(F:aL):rE t w F Gx (sM 0 0 [] 0 Sl.nil 0):=⟨1,Sl.nil,rfl,jR.nil _ _ _ _ _ _⟩
def acv(k:Int)(n:aJ)(xc:aK)(a:Int):aK:=O ae k::ah (T n)::(xc++[O ae a])
def uq(t:Bool):Rp Ac:=λw F x cs=>∃xc,cs=acv x.k x.n xc x.a/\rE t w F x.x xc
theorem dV(t:Bool):(uq t).Ok:=⟨λ⟨c,h1,h2⟩ hk=>⟨c,h1,(jb t).keep h2 hk⟩,λ⟨c,h1,h2⟩=>⟨c,h1,(jb t).inHeap h2⟩,λ⟨c,h1,h2⟩ hk=>⟨c,h1,(jb t).mono h2 hk⟩,λ⟨c,h1,h2⟩=>by
 subst h1;intro v hv;simp only[acv,aR,ci,bn,cm]at hv;rcases hv with rfl | rfl | h | rfl
 ·rfl
 ·rfl
 ·exact(jb t).one h2 v h
 rfl⟩
def mvv(k:Int)(ev:aJ)(wt:Int)(gd:Bool)(gc:aK)(uh tg:Sl)(a:Int):aK:=O ae k::ah (T ev)::O ae wt::ao gd::(gc++[uh.v,tg.v,O ae a])
def Ll(t:Bool):Rp Mv:=λw F x cs=>∃gc uh tg,cs=mvv x.k x.ev x.wt x.gd gc uh tg x.a/\rE t w F x.g gc/\jR t (uq t) 9 211 w F uh x.acts/\jR t lz 1 9 w F tg x.tg
theorem mT(t:Bool):(Ll t).Ok:=⟨λ⟨c,uh,tg,h1,h2,h3,h4⟩ hk=>⟨c,uh,tg,h1,(jb t).keep h2 hk,h3.keep (dV t) aN hk,h4.keep dH aN hk⟩,
 λ⟨c,uh,tg,h1,h2,h3,h4⟩=>⟨c,uh,tg,h1,(jb t).inHeap h2,h3.inHeap (dV t) aN,h4.inHeap dH aN⟩,
 λ⟨c,uh,tg,h1,h2,h3,h4⟩ hk=>⟨c,uh,tg,h1,(jb t).mono h2 hk,h3.mono (dV t) hk,h4.mono dH hk⟩,
 λ⟨c,uh,tg,h1,h2,h3,h4⟩=>by
  subst h1;intro v hv;simp only[mvv,aR,ci,bn,cm]at hv;rcases hv with rfl | rfl | rfl | rfl | h | rfl | rfl | rfl
  ·rfl
  ·rfl
  ·rfl
  ·rfl
  ·exact(jb t).one h2 v h
  ·rfl
  ·rfl
  rfl⟩
def T9:Rp Vr:=λ_ _ x cs=>cs=[ah (T x.n),O ae x.v,O ae x.a]
theorem gv:T9.Ok:=⟨λh _=>h,λh=>h,λh _=>h,λh=>by
 unfold T9 at h;subst h;intro v hv;simp only[aR,bn,cm]at hv;rcases hv with rfl | rfl | rfl<;>rfl⟩
abbrev oC(k:Int)(nm ini dft:aJ)(en lv mv kids:Sl)(a:Int):aK:=[O ae k,ah (T nm),ah (T ini),ah (T dft),en.v,lv.v,mv.v,kids.v,O ae a]
def Ed(t:Bool)(w:ay)(F:aL)(x:Nb)(en lv mv:Sl):Prop:=jR t (uq t) 9 211 w F en x.en/\jR t (uq t) 9 211 w F lv x.lv/\jR t (Ll t) 13 134 w F mv x.mv
def pC(t:Bool):Nat->Rp Nd
 | 0=>λ_ _ _ _=>False
 | d+1=>λw F x cs=>∃en lv mv kids:Sl,cs=oC x.b.k x.b.nm x.b.ini x.b.dft en lv mv kids x.b.a/\Ed t w F x.b en lv mv/\jR t (pC t d) 9 27 w F kids x.kids
section
variable {t:Bool} {w w':ay} {F G:aL} {x:Nb} {en lv mv:Sl}
theorem Ed.keep(h:Ed t w F x en lv mv)(hk:∀k,F k->k<w.heap.size->w'.heap[k]? =w.heap[k]?):Ed t w' F x en lv mv:=⟨h.1.keep (dV t) aN hk,h.2.1.keep (dV t) aN hk,h.2.2.keep (mT t) aN hk⟩
theorem Ed.inHeap(h:Ed t w F x en lv mv):Ed t w (λk=>F k/\k<w.heap.size) x en lv mv:=⟨h.1.inHeap (dV t) aN,h.2.1.inHeap (dV t) aN,h.2.2.inHeap (mT t) aN⟩
theorem Ed.mono(h:Ed t w F x en lv mv)(hk:∀k,F k->G k):Ed t w G x en lv mv:=⟨h.1.mono (dV t) hk,h.2.1.mono (dV t) hk,h.2.2.mono (mT t) hk⟩
end
theorem cX(t:Bool):∀d,(pC t d).Ok
 | 0=>⟨λh _=>h.elim,λh=>h.elim,λh _=>h.elim,λh=>h.elim⟩
 | d+1=>⟨λ⟨en,lv,mv,kids,h1,h2,h3⟩ hk=>⟨en,lv,mv,kids,h1,h2.keep hk,jR.keep (cX t d) h3 aN hk⟩,
  λ⟨en,lv,mv,kids,h1,h2,h3⟩=>⟨en,lv,mv,kids,h1,h2.inHeap,jR.inHeap (cX t d) h3 aN⟩,
  λ⟨en,lv,mv,kids,h1,h2,h3⟩ hk=>⟨en,lv,mv,kids,h1,h2.mono hk,jR.mono (cX t d) h3 hk⟩,λ⟨en,lv,mv,kids,h1,h2,h3⟩=>by
  subst h1;intro v hv;simp only[aR,bn,cm]at hv;rcases hv with rfl | rfl | rfl | rfl | rfl | rfl | rfl | rfl | rfl<;>rfl⟩
theorem Ri{t:Bool}{w:ay}{F:aL}:∀{d:Nat} {x:Nd} {cs:aK},pC t d w F x cs->pC t (d+1) w F x cs
 | 0,_,_,h=>h.elim
 | d+1,x,cs,⟨en,lv,mv,kids,h1,h2,h3⟩=>⟨en,lv,mv,kids,h1,h2,h3.imp λx cs _ h=>Ri h⟩
theorem Z7{t:Bool}{w:ay}{F:aL}{d e:Nat}{x:Nd}{cs:aK}(h:d<=e)(hx:pC t d w F x cs):pC t e w F x cs:=by
 induction e with
 | zero=>have:d=0:=aG;subst this;exact hx
 | succ e ih=>
  by_cases he:d=e+1
  ·subst he;exact hx
  exact Ri (ih aG)
theorem Ee{t:Bool}{w:ay}{F:aL}{x:Ac}{cs:aK}(h:uq t w F x cs):uq false w F x cs:=by
 obtain⟨c,h1,h2⟩:=h;exact⟨c,h1,Rh h2⟩
theorem Vw{t:Bool}{w:ay}{F:aL}{x:Mv}{cs:aK}(h:Ll t w F x cs):Ll false w F x cs:=by
 obtain⟨c,uh,tg,h1,h2,h3,h4⟩:=h;exact⟨c,uh,tg,h1,Rh h2,h3.off λ_ _ _ h=>Ee h,h4.off λ_ _ _ h=>h⟩
theorem Ed.off{t:Bool}{w:ay}{F:aL}{x:Nb}{en lv mv:Sl}(h:Ed t w F x en lv mv):Ed false w F x en lv mv:=⟨h.1.off λ_ _ _ h=>Ee h,h.2.1.off λ_ _ _ h=>Ee h,h.2.2.off λ_ _ _ h=>Vw h⟩
theorem Lm{t:Bool}{w:ay}{F:aL}:∀{d:Nat} {x:Nd} {cs:aK},pC t d w F x cs->pC false d w F x cs
 | 0,_,_,h=>h.elim
 | d+1,x,cs,⟨en,lv,mv,kids,h1,h2,h3⟩=>⟨en,lv,mv,kids,h1,h2.off,h3.off λx cs _ h=>Lm h⟩
structure ChR (t:Bool) (d:Nat) (w:ay) (F:aL) (c:Ch) (vs:Sl) (cs:aK):Prop where
 vars:jR t T9 3 119 w F vs c.vars
 root:pC t d w F c.root cs
abbrev Fr(B:Nat):aL:=λk=>B<=k
section
variable {α:Type} {r:Rp α} {size:Nat} {e:TypeId} {w w':ay} {s:Sl} {xs:List α} {B:Nat}
theorem _root_.Go.Kt.Own.stay(hr:r.Ok)(h:Own r size e B w (Fr B) s xs){bs:List Nat}(hO:aA bs w w')(hb:∀x,x∈bs->x<B∨w.heap.size<=x):Own r size e B w' (Fr B) s xs:=by
 refine((h.inHeap hr).keep hr λk hk cd=>hO.block k cd λhm=>?_).mono hr λk hk=>hk.1;have iy:B<=k/\k<w.heap.size:=by
  rcases hk with hk | hk
  ·exact hk
  exact⟨hk.1,cd⟩
 rcases hb k hm with h | h<;>omega
theorem _root_.Go.Kt.Own.new(h:Own r size e B w (Fr B) s xs){k:Nat}(hk:w.heap.size<=k):s.a≠some ⟨k,0,none⟩:=λe=>by
 have:=(h.blk e).2;dsimp only at this;omega
end
mutual
def Fu:Ex->Nat
 | .mk _ _ _ _ l _=>XS l+1
def XS:List Ex->Nat
 | []=>0
 | x::l=>max (Fu x) (XS l)
end
mutual
def Ef:Ex->Nat
 | .mk _ _ s _ l _=>Ua l+(s.length+1)
def Ua:List Ex->Nat
 | []=>0
 | x::l=>Ef x+Ua l
end
theorem Eg(x:Ex):Fu x=XS x.fZ+1:=by cases x;rw[Fu];rfl
theorem I0(x:Ex):Ef x=Ua x.fZ+(x.s.length+1):=by cases x;rw[Ef];rfl
theorem ze{y:Ex}:∀{l:List Ex},y∈l->Fu y<=XS l
 | [],h=>abk
 | x::l,h=>by
  rw[XS];rcases aR.1 h with rfl | h
  ·exact T4 _ _
  exact bf (ze h) (OX _ _)
theorem Lp{y:Ex}:∀{l:List Ex},y∈l->Ef y<=Ua l
 | [],h=>abk
 | x::l,h=>by
  rw[Ua];rcases aR.1 h with rfl | h
  ·omega
  have:=Lp h;omega
theorem Rj{d:Nat}:∀{l:List Ex},(∀y,y∈l->Fu y<=d)->XS l<=d
 | [],_=>by rw[XS];omega
 | x::l,h=>by
  rw[XS];exact Nat.max_le.2 ⟨h x aaa,Rj λy hy=>h y (by simp[hy])⟩
theorem Eh(x:Ex):1<=Fu x:=by rw[Eg];omega
theorem Rk{w:ay}{F:aL}:∀{d:Nat} {x:Ex} {cs:aK},Cu d w F x cs->Fu x<=d
 | 0,_,_,h=>h.elim
 | d+1,x,cs,⟨sl,h1,h2⟩=>by
  rw[Eg];refine OY (Rj λy hy=>?_);obtain⟨j,hj⟩:=eY hy;obtain⟨_,cs,_,_,_,_,h⟩:=h2.at_ j y hj;exact Rk h
theorem AK{f g:Ex->Bool}:∀{l:List Ex},(∀y,y∈l->f y=g y)->qf f l=qf g l
 | [],_=>rfl
 | x::l,h=>by rw[qf,qf,h x aaa,AK λy hy=>h y (by simp[hy])]
theorem GN:∀(d e:Nat) (x:Ex),Fu x<=d->Fu x<=e->fz d x=fz e x
 | 0,_,x,h,_=>adz
 | _,0,x,_,h=>adz
 | d+1,e+1,x,h,k=>by
  rw[Eg]at h k;rw[fz,fz,AK λy hy=>GN d e y (by have:=ze hy;omega) (by have:=ze hy;omega)]
theorem Lq:∀(d e:Nat) (x:Ex) (wr:Bool) (l:aJ),Fu x<=d->Fu x<=e->u5 d x wr l=u5 e x wr l
 | 0,_,x,_,_,h,_=>adz
 | _,0,x,_,_,_,h=>adz
 | d+1,e+1,x,wr,l,h,k=>by
  rw[Eg]at h k;have hm:∀y,y∈x.fZ->Fu y<=d/\Fu y<=e:=λy hy=>by have:=ze hy;omega
  rw[u5,u5];cases hx:x.fZ with
  | nil=>rfl
  | cons y m=>
   cases m with
   | nil=>
    have hy:=hm y (by rw[hx];simp);dsimp only;rw[Lq d e y _ _ hy.1 hy.2]
   | cons z m=>
    cases m with
    | nil=>
     have hy:=hm y (by rw[hx];simp);have hz:=hm z (by rw[hx];simp);dsimp only;rw[Lq d e y _ _ hy.1 hy.2,Lq d e z _ _ hz.1 hz.2]
    | cons _ _=>rfl
theorem Rl:∀(d:Nat) (x:Ex),pz d x<=Ef x
 | 0,x=>bB _
 | d+1,x=>by
  rw[pz,I0];have:∀l:List Ex,tY (pz d) l<=Ua l:=λl=>by
   induction l with
   | nil=>exact bB _
   | cons y l ih=>rw[tY,Ua];exact lw (Rl d y) ih
  have:=this x.fZ;omega
theorem Rm:∀(d:Nat) (x:Ex),Ef x<4611686018427387903->AF d x
 | 0,x,_=>trivial
 | d+1,x,h=>by
  rw[I0]at h;exact⟨aG,λy hy=>Rm d y (by have:=Lp hy;omega)⟩
def Z8(x:Ex):Prop:=∀d,rA d x
def Cz(x:Ex):aJ:=um (Fu x) x
theorem Vx{d:Nat}{x:Ex}(h:Fu x<=d):um d x=Cz x:=by
 unfold Cz um;rw[GN d (Fu x) x h (ba _),Lq d (Fu x) x false [] h (ba _)]
theorem Rn{d:Nat}{x:Ex}(h:um d x≠[]):fz d x=true/\um d x=u5 d x false []/\(oY (u5 d x false [])).2.1=0:=by
 unfold um at h⊢;by_cases hs:fz d x=true
 ·rw[aZ hs]at h⊢;by_cases hr:(oY (u5 d x false [])).2.1≠0
  ·rw[aZ hr]at h;exact absurd rfl h
  rw[aX hr];exact⟨hs,rfl,adq⟩
 rw[aX hs]at h;exact absurd rfl h
theorem Vy{w:ay}{F:aL}{x:Ex}{cs:aK}(hx:rE false w F x cs)(hn:Z8 x)(hs:Ef x<=1759218604441)(hE:Er w)(hT:Tb w):
  aB au 221 #[aj cs.toArray] w λe w'=>e=aq (ah (T (Cz x)))/\aA [] w w':=by
 obtain⟨d,h⟩:=hx;have h:=IZ h;rw[<-Vx (Rk h)];exact Z3 h (Rm d x aG) (hn d) hE hT (by have:=Rl d x;omega)
def ye(x:Ex):Bool:=(((x.k==0&&x.n==0)&&decide (x.s=[]))&&x.op==0)&&((x.fZ.length:Int)==0)
def AM(x:Ex):Bool:=decide (Cz x≠[])
def mU(a:Ac):Bool:=decide (1<=a.k/\a.k<=3)&&eZ a.n&&(if a.k=2 then ye a.x else AM a.x)
def AN(m:Mv):Bool:=
 decide (1<=m.k/\m.k<=3)&&(if m.k=1 then eZ m.ev else decide (m.ev=[]))&&(if m.gd then AM m.g else ye m.g)&&m.acts.all mU&&m.tg.all eZ&&decide (m.wt=0∨m.k=3/\0<m.wt)
def fM(k:Int):Bool:=decide (k=3∨k=4)
def AO(b:Nb)(kids:Nat):Bool:=
 eZ b.nm&&(if fM b.k then eZ b.dft&&decide (b.ini=[]/\b.en=[]/\b.lv=[]/\b.mv.length=0/\kids=0)
  else decide ((b.k=1∨b.k=2)/\b.dft=[])&&(decide (b.ini=[])||eZ b.ini)&&b.en.all mU&&b.lv.all mU&&b.mv.all AN)
mutual
def qn:Nat->Nd->Bool
 | d,.mk b l=>decide (d<12)&&AO b l.length&&nE (d+1) l
def nE:Nat->List Nd->Bool
 | _,[]=>true
 | d,x::l=>qn d x&&nE d l
end
def XU(b:Nb):Nat:=b.en.length+b.lv.length+(b.mv.map λm=>m.acts.length).sum
mutual
def jd:Nd->Nat
 | .mk _ l=>fe l+1
def fe:List Nd->Nat
 | []=>0
 | x::l=>jd x+fe l
end
mutual
def BC:Nd->Nat
 | .mk b l=>b.mv.length+xf l
def xf:List Nd->Nat
 | []=>0
 | x::l=>BC x+xf l
end
mutual
def CA:Nd->Nat
 | .mk b l=>XU b+uO l
def uO:List Nd->Nat
 | []=>0
 | x::l=>CA x+uO l
end
def GP(c:Ch):Bool:=
 (c.vars.all λv=>eZ v.n&&decide (v.v≠ -9223372036854775808))&&qn 0 c.root&&decide (c.root.b.k=1/\c.vars.length<=16/\jd c.root<=64/\BC c.root<=200/\CA c.root<=400)
def O5(a:Ac):aJ:=
 if a.k=2 then lf++32::(a.n++[59])else(if a.k=1 then ua else nD)++32::(a.n++32::61::32::(Cz a.x++[59]))
def Vz:List Ac->aJ
 | []=>[]
 | a::l=>32::(O5 a++Vz l)
def FX(l:List Ac):aJ:=123::(Vz l++[32,125])
def Z9:List (aJ)->aJ
 | []=>[]
 | s::l=>44::32::(s++Z9 l)
def hdT(m:Mv):aJ:=if m.k=1 then IX++32::m.ev else if m.k=3 then kF++32::Lib.itoa m.wt else kA
def gdT(m:Mv):aJ:=if m.gd then 32::91::(Cz m.g++[93])else[]
def Ub(m:Mv):aJ:=
 hdT m++(gdT m++((if m.acts=[]then[]else 32::FX m.acts)++((match m.tg with
  | []=>[]
  | s::l=>32::45::62::32::(s++Z9 l))++[59])))
def kW(k:Int):aJ:=if k=1 then D6 else if k=2 then tI else if k=3 then vL else K7
abbrev Ln:=Nat×aJ
def VA(d:Nat)(b:Nb):List Ln:=if b.ini=[]then[]else[(d,im++32::(b.ini++[59]))]
def enL(d:Nat)(b:Nb):List Ln:=if b.en=[]then[]else[(d,j6++32::FX b.en)]
def lvL(d:Nat)(b:Nb):List Ln:=if b.lv=[]then[]else[(d,j7++32::FX b.lv)]
def mvL(d:Nat)(b:Nb):List Ln:=b.mv.map λm=>(d,Ub m)
def nbL(d:Nat)(b:Nb):List Ln:=VA d b++(enL d b++(lvL d b++mvL d b))
mutual
def ndL:Nat->Nd->List Ln
 | d,.mk b l=>
  if fM b.k then[(d,kW b.k++32::(b.nm++32::45::62::32::(b.dft++[59])))]
  else(d,kW b.k++32::(b.nm++[32,123]))::(nbL (d+1) b++(yE (d+1) l++[(d,[125])]))
def yE:Nat->List Nd->List Ln
 | _,[]=>[]
 | d,x::l=>ndL d x++yE d l
end
def vrT(v:Vr):aJ:=GF++32::(v.n++32::61::32::(Lib.itoa v.v++[59]))
def XV(c:Ch):List Ln:=
 (0,gR++32::(c.root.b.nm++[32,123]))::((c.vars.map λv=>(1,vrT v))++(nbL 1 c.root.b++(yE 1 c.root.kids++[(0,[125])])))
def NP:Nat->aJ
 | 0=>[]
 | d+1=>32::32::NP d
def lnT(p:Ln):aJ:=NP p.1++(p.2++[10])
def qo(b:aJ)(p:Ln):aJ:=if 16384<b.length then b else b++lnT p
def iJ(b:aJ)(L:List Ln):aJ:=L.foldl qo b
theorem jS(b:aJ)(L M:List Ln):iJ b (L++M)=iJ (iJ b L) M:=oP
def XW(a:Ac):Prop:=Z8 a.x
structure mvN (m:Mv):Prop where
 g:Z8 m.g
 a:∀x,x∈m.acts->XW x
 w:InI m.wt
structure nbN (b:Nb):Prop where
 en:∀a,a∈b.en->XW a
 lv:∀a,a∈b.lv->XW a
 mv:∀m,m∈b.mv->mvN m
mutual
def Lr:Nd->Prop
 | .mk b l=>nbN b/\AP l
def AP:List Nd->Prop
 | []=>True
 | x::l=>Lr x/\AP l
end
structure WT (c:Ch):Prop where
 v:∀v,v∈c.vars->InI v.v
 r:Lr c.root
structure cR where
 k:Int
 nm:aJ
 pa:Int
 dp:Int
 en:Int
mutual
def Ei(a:Nat)(pa dp:Int):Nd->List cR
 | .mk b l=>⟨b.k,b.nm,pa,dp,((a+1+fe l:Nat):Int)⟩::qp (a+1) a (dp+1) l
def qp(a:Nat)(pa dp:Int):List Nd->List cR
 | []=>[]
 | x::l=>Ei a pa dp x++qp (a+jd x) pa dp l
end
mutual
theorem mw(a:Nat)(pa dp:Int):∀x,(Ei a pa dp x).length=jd x
 | .mk b l=>by rw[Ei,jd,bp,tJ]
theorem tJ(a:Nat)(pa dp:Int):∀l,(qp a pa dp l).length=fe l
 | []=>by rw[qp,fe];rfl
 | x::l=>by rw[qp,fe,aW,mw,tJ]
end
theorem AQ:∀l m:List Nd,fe (l++m)=fe l+fe m
 | [],m=>by rw[fe,cE,bM]
 | x::l,m=>by rw[cp,fe,fe,AQ l m,eU]
theorem Ls(pa dp:Int):∀(l m:List Nd) (a:Nat),qp a pa dp (l++m)=qp a pa dp l++qp (a+fe l) pa dp m
 | [],m,a=>by rw[cE,qp,cE,fe,fE]
 | x::l,m,a=>by rw[cp,qp,qp,Ls pa dp l m,fe,bR,eU]
theorem Lu:∀x,1<=jd x
 | .mk b l=>by rw[jd];omega
theorem qs{y:Nd}:∀{l:List Nd} {j:Nat},l[j]? =some y->fe (l.take j)+jd y<=fe l
 | [],_,h=>abk
 | x::l,0,h=>by
  rw[cO,bc]at h;subst h;rw[da,fe,fe];omega
 | x::l,j+1,h=>by
  have:=qs (l:=l) (j:=j) (by rwa[dl]at h);rw[eB,fe,fe];omega
theorem sS:∀l:List Nd,l.length<=fe l
 | []=>bB _
 | a::l=>by
  have:=sS l;have:=Lu a;rw[fe,bp];omega
def AR(L:List cR)(a i:Nat)(s:cR):Prop:=∃p t,p<i/\L[p]? =some t/\s.pa=((a+p:Nat):Int)/\s.dp=t.dp+1/\((a+i:Nat):Int)<t.en/\s.en<=t.en/\∀j u,p<j->j<i->L[j]? =some u->u.en<=((a+i:Nat):Int)
theorem AR.zm{L M:List cR}{a i:Nat}{s:cR}(h:AR L a i s)(hi:i<L.length):AR (L++M) a i s:=by
 obtain⟨p,t,h1,h2,h3,h4,h5,h6,h7⟩:=h;refine⟨p,t,h1,?_,h3,h4,h5,h6,λj u g1 g2 g3=>h7 j u g1 g2 ?_⟩
 ·rw[bK aG];exact h2
 rwa[bK aG]at g3
theorem AR.shift{L M:List cR}{a i:Nat}{s:cR}(h:AR M (a+L.length) i s):AR (L++M) a (L.length+i) s:=by
 obtain⟨p,t,h1,h2,h3,h4,h5,h6,h7⟩:=h;refine⟨L.length+p,t,aG,?_,by rw[h3];omega,h4,aG,h6,λj u g1 g2 g3=>?_⟩
 ·rw[bX aG,ez];exact h2
 rw[bX aG]at g3;have:=h7 (j-L.length) u aG aG g3;omega
mutual
theorem Ej(a:Nat)(pa dp:Int):∀(x:Nd) (i:Nat) (s:cR),(Ei a pa dp x)[i]? =some s->((a+i:Nat):Int)<s.en/\s.en<=((a+jd x:Nat):Int)/\(i=0->s.pa=pa/\s.dp=dp/\s.en=((a+jd x:Nat):Int))/\(0<i->AR (Ei a pa dp x) a i s)
 | .mk b l,i,s,h=>by
  rw[Ei]at h⊢;rw[jd];cases i with
  | zero=>
   rw[cO,bc]at h;subst h;dsimp only;exact⟨aG,aG,λ_=>⟨rfl,rfl,aG⟩,λh=>aG⟩
  | succ i=>
   rw[dl]at h;obtain⟨h1,h2,h3⟩:=Rq (a+1) a (dp+1) l i s h;refine⟨aG,aG,λh=>aG,λ_=>?_⟩;rcases h3 with⟨g1,g2,g3⟩ | g
   ·refine⟨0,_,aG,cO,by rw[g1,fE],g2,abh,abh,λj u k1 k2 k3=>?_⟩;cases j with
    | zero=>omega
    | succ j=>
     rw[dl]at k3;have:=g3 j u aG k3;omega
   have:=AR.shift (L:=[⟨b.k,b.nm,pa,dp,((a+1+fe l:Nat):Int)⟩]) (M:=qp (a+1) a (dp+1) l) (a:=a) (i:=i) (s:=s) g;rw[bO,jp 1 i]at this;exact this
theorem Rq(a:Nat)(pa dp:Int):∀(l:List Nd) (i:Nat) (s:cR),(qp a pa dp l)[i]? =some s->((a+i:Nat):Int)<s.en/\s.en<=((a+fe l:Nat):Int)/\
  ((s.pa=pa/\s.dp=dp/\∀j u,j<i->(qp a pa dp l)[j]? =some u->u.en<=((a+i:Nat):Int))∨AR (qp a pa dp l) a i s)
 | [],i,s,h=>by rw[qp]at h;simp at h
 | x::l,i,s,h=>by
  rw[qp]at h⊢;rw[fe];have hl:=mw a pa dp x;by_cases hi:i<jd x
  ·rw[bK aG]at h;obtain⟨h1,h2,h3,h4⟩:=Ej a pa dp x i s h;refine⟨h1,aG,?_⟩;by_cases h0:i=0
   ·obtain⟨g1,g2,g3⟩:=h3 h0;exact .inl ⟨g1,g2,λj u hj=>aG⟩
   exact .inr ((h4 aG).zm aG)
  rw[bX aG,hl]at h;obtain⟨h1,h2,h3⟩:=Rq (a+jd x) pa dp l (i-jd x) s h;refine⟨aG,aG,?_⟩;rcases h3 with⟨g1,g2,g3⟩ | g
  ·refine .inl ⟨g1,g2,λj u hj hu=>?_⟩;by_cases Pe:j<jd x
   ·rw[bK aG]at hu;have:=(Ej a pa dp x j u hu).2.1;omega
   rw[bX aG,hl]at hu;have:=g3 (j-jd x) u aG hu;omega
  refine .inr ?_;rw[<-hl]at g;have:=AR.shift (L:=Ei a pa dp x) g;rw[hl]at this;rwa[show jd x+(i-jd x)=i by omega]at this
end
structure Fo (xs:List cR):Prop where
 ne:0<xs.length
 rt:∀s:cR,xs[0]? =some s->s.pa= -1/\s.dp=0/\s.en=(xs.length:Int)
 up:∀(i:Nat) (s:cR),xs[i]? =some s->(i:Int)<s.en/\s.en<=(xs.length:Int)
 pa:∀(i:Nat) (s:cR),0<i->xs[i]? =some s->AR xs 0 i s
def cH(c:Ch):List cR:=Ei 0 (-1) 0 c.root
theorem Ek(c:Ch):Fo (cH c):=by
 unfold cH;have hl:=mw 0 (-1) 0 c.root;have h:=Ej 0 (-1) 0 c.root;refine⟨by have:=Lu c.root;omega,λs hs=>?_,λi s hs=>?_,λi s hi hs=>(h i s hs).2.2.2 hi⟩
 ·obtain⟨h1,h2,h3⟩:=(h 0 s hs).2.2.1 rfl;exact⟨h1,h2,by rw[h3,hl];omega⟩
 obtain⟨h1,h2,_⟩:=h i s hs;exact⟨aG,aG⟩
section
variable {xs:List cR} (F:Fo xs) {i j k p:Nat} {s t u:cR}
include F
theorem Fo.Yk:∀(k:Nat) {i:Nat} {s t:cR},xs[i]? =some s->xs[k]? =some t->i<k->(k:Int)<s.en->t.en<=s.en
 | k,i,s,t,hi,hk,cd,hs=>by
  obtain⟨p,v,h1,h2,h3,h4,h5,h6,h7⟩:=F.pa k t aG hk;by_cases hp:p<i
  ·have:=h7 i s hp cd hi;omega
  by_cases he:p=i
  ·subst he;rw[hi,bc]at h2;subst h2;exact h6
  have:=Fo.Yk p hi h2 aG aG;omega
theorem Fo.par(hk:xs[k]? =some t)(h0:0<k):∃(p:Nat) (s:cR),p<k/\t.pa=(p:Int)/\xs[p]? =some s/\t.dp=s.dp+1/\(k:Int)<s.en/\∀(i:Nat) (u:cR),xs[i]? =some u->i<k->(k:Int)<u.en->i<=p:=by
 obtain⟨p,v,h1,h2,h3,h4,h5,h6,h7⟩:=F.pa k t h0 hk;refine⟨p,v,h1,by rw[h3];omega,h2,h4,aG,λi u hu hi iy=>?_⟩;by_cases hp:p<i
 ·have:=h7 i u hp hi hu;omega
 omega
omit F in
theorem eT {xs:List cR} {i:Nat} {s:cR} (h:xs[i]? =some s):i<xs.length:=(be.1 h).1
omit F in
theorem fQ {xs:List cR} {i:Nat} (h:i<xs.length):∃s,xs[i]? =some s:=⟨_,aQ h⟩
end
def jv(xs:List cR)(b a:Nat):Prop:=∃s,xs[b]? =some s/\b<=a/\(a:Int)<s.en
section
variable {xs:List cR} (F:Fo xs) {i j k p:Nat}
include F
theorem Fo.pF(h:jv xs i j):j<xs.length:=by
 obtain⟨s,h1,h2,h3⟩:=h;have:=(F.up i s h1).2;omega
theorem Fo.kj(h:i<xs.length):jv xs i i:=by
 obtain⟨s,hs⟩:=fQ h;exact⟨s,hs,ba _,(F.up i s hs).1⟩
theorem Fo.tq(h:i<xs.length):jv xs 0 i:=by
 obtain⟨s,hs⟩:=fQ F.ne;exact⟨s,hs,bB _,by rw[(F.rt s hs).2.2];omega⟩
theorem Fo.kH(h:jv xs i j)(g:jv xs j k):jv xs i k:=by
 obtain⟨s,h1,h2,h3⟩:=h;obtain⟨t,g1,g2,g3⟩:=g;refine⟨s,h1,aG,?_⟩;by_cases he:i=j
 ·subst he;rw[h1,bc]at g1;subst g1;exact g3
 have:=F.Yk j h1 g1 aG h3;omega
theorem Fo.jJ(h:jv xs i k)(g:jv xs j k)(rO:i<=j):jv xs i j:=by
 obtain⟨s,h1,h2,h3⟩:=h;obtain⟨t,g1,g2,g3⟩:=g;exact⟨s,h1,rO,aG⟩
end
def Top(xs:List cR)(l:List Int)(r:Int):Prop:=∃m:Nat,r=m/\(∀n:Int,n∈l->∃k:Nat,n=k/\jv xs m k)/\∀j:Nat,(∀n:Int,n∈l->∃k:Nat,n=k/\jv xs j k)->j<=m
def pf(xs:List cR)(n:Int):Prop:=0<=n/\n<xs.length
def Mt(xs:List cR)(l:List Int)(r:Int):Prop:=((l=[]∨∃n,n∈l/\¬pf xs n)/\r= -1)∨((l≠[]/\∀n,n∈l->pf xs n)/\Top xs l r)
theorem Mt.agl{xs:List cR}{l:List Int}{r:Int}(h:Mt xs l r)(h1:l≠[])(h2:∀n,n∈l->pf xs n):Top xs l r:=by
 rcases h with⟨hb | ⟨n,hn,hh⟩,_⟩ | ⟨_,h⟩
 ·exact absurd hb h1
 ·exact absurd (h2 n hn) hh
 exact h
def eX(xs:List cR)(i n:Nat):List Int:=((List.range n).filter λk=>decide ((xs[k]?).map (λs:cR=>s.pa)=some (i:Int))).map λk:Nat=>(k:Int)
theorem ph(xs:List cR)(i n:Nat):eX xs i (n+1)=eX xs i n++if(xs[n]?).map (λs:cR=>s.pa)=some (i:Int)then[(n:Int)]else[]:=by
 unfold eX;rw[List.range_succ,eu,dc];by_cases h:(xs[n]?).map (λs:cR=>s.pa)=some (i:Int)
 ·rw[aZ h,List.filter_cons_of_pos abi];rfl
 rw[aX h,List.filter_cons_of_neg abi];rfl
theorem sU{xs:List cR}{i:Nat}:∀(d n:Nat),(∀k,n<=k->k<n+d->(xs[k]?).map (λs:cR=>s.pa)≠some (i:Int))->eX xs i (n+d)=eX xs i n
 | 0,n,_=>rfl
 | d+1,n,h=>by
  rw[<-eU,ph,aX (h (n+d) aG aG),bS,sU d n λk h1 h2=>h k h1 aG]
section
variable {xs:List cR} (F:Fo xs) {i k:Nat} {s t:cR}
include F
theorem Fo.C3(hk:xs[k]? =some t):t.pa<k:=by
 by_cases h0:0<k
 ·obtain⟨p,s,h1,h2,_⟩:=F.par hk h0;omega
 have:k=0:=aG
 subst this;rw[(F.rt t hk).1];omega
theorem Fo.amP(hi:xs[i]? =some s):eX xs i (i+1)=[]:=by
 have:∀n,n<=i+1->eX xs i n=[]:=by
  intro n
  induction n with
  | zero=>intro _;rfl
  | succ n ih=>
   intro h;rw[ph,ih aG,aX,bS];intro e;cases hx:xs[n]? with
   | none=>rw[hx]at e;cases e
   | some u=>
    rw[hx,dz,bc]at e;have:=F.C3 hx;omega
 exact this _ (ba _)
theorem Fo.aa0(hi:xs[i]? =some s)(hk:xs[k]? =some t)(hik:i<k)(hs:(k:Int)<s.en)(hb:∀(j:Nat) u,i<j->j<k->xs[j]? =some u->u.en<=(k:Int)):t.pa=(i:Int):=by
 obtain⟨p,v,h1,h2,h3,h4,h5,h6⟩:=F.par hk aG;have e1:=h6 i s hi hik hs;by_cases he:p=i
 ·rw[h2,he]
 have:=hb p v aG h1 h3;omega
theorem Fo.S2(hk:xs[k]? =some t){n:Nat}(hn:t.en=n)(hb:∀(j:Nat) u,i<j->j<k->xs[j]? =some u->u.en<=(k:Int)):∀(j:Nat) u,i<j->j<n->xs[j]? =some u->u.en<=(n:Int):=by
 intro j u h1 h2 h3;have hkn:=(F.up k t hk).1;by_cases e:j<k
 ·have:=hb j u h1 e h3;omega
 by_cases e':j=k
 ·subst e';rw[hk,bc]at h3;subst h3;omega
 have:=F.Yk j hk h3 aG aG;omega
theorem Fo.S4(hi:xs[i]? =some s)(hk:xs[k]? =some t)(hik:i<k)(hs:(k:Int)<s.en){n:Nat}(hn:t.en=n)(hb:∀(j:Nat) u,i<j->j<k->xs[j]? =some u->u.en<=(k:Int)):eX xs i n=eX xs i k++[(k:Int)]:=by
 have hkn:=(F.up k t hk).1;have:=sU (xs:=xs) (i:=i) (n-(k+1)) (k+1) λj h1 h2 e=>by
  cases hx:xs[j]? with
  | none=>rw[hx]at e;cases e
  | some u=>
   rw[hx,dz,bc]at e;obtain⟨p,v,g1,g2,g3,g4,g5,g6⟩:=F.par hx aG;have:=g6 k t hk aG aG;omega
 rw[show k+1+(n-(k+1))=n by omega,ph,aZ (by rw[hk,dz,F.aa0 hi hk hik hs hb])]at this;exact this
theorem Fo.Wi(hi:xs[i]? =some s){n:Nat}(hn:s.en=n):eX xs i xs.length=eX xs i n:=by
 have hu:=F.up i s hi;have:=sU (xs:=xs) (i:=i) (xs.length-n) n λj h1 h2 e=>by
  cases hx:xs[j]? with
  | none=>rw[hx]at e;cases e
  | some u=>
   rw[hx,dz,bc]at e;obtain⟨p,v,g1,g2,g3,g4,g5,g6⟩:=F.par hx aG;have:p=i:=aG
   subst this;rw[hi,bc]at g3;subst g3;omega
 rw[show n+(xs.length-n)=xs.length by omega]at this;exact this
end
theorem yf(xs:List cR)(i:Nat):∀n,List.Pairwise (· <·) (eX xs i n)/\∀k,k∈eX xs i n->k<(n:Int)
 | 0=>⟨List.Pairwise.nil,λk h=>by simp[eX]at h⟩
 | n+1=>by
  obtain⟨h1,h2⟩:=yf xs i n;rw[ph];split
  ·refine⟨rv.2 ⟨h1,List.pairwise_singleton _ _,λa ha b hb=>?_⟩,λk hk=>?_⟩
   ·simp only[aO]at hb;subst hb;exact h2 a ha
   ·rcases ci.1 hk with hk | hk
    ·have:=h2 k hk;omega
    ·simp only[aO]at hk;subst hk;omega
  ·rw[bS];exact⟨h1,λk hk=>by have:=h2 k hk;omega⟩
abbrev Ft:=Int×Int
def pI(f:Ft)(L:List Ft):Ft:=L.foldl (λf p=>if f.1=0 then p else f) f
def bad(ok:Bool)(e a:Int):List Ft:=if ok then[]else[(e,a)]
theorem jw(f:Ft)(L M:List Ft):pI f (L++M)=pI (pI f L) M:=oP
theorem Rr{f:Ft}(h:f.1≠0):∀L,pI f L=f
 | []=>rfl
 | p::L=>by
  show pI (if f.1=0 then p else f) L=f;rw[aX h];exact Rr h L
def Cd(L:List Ft):Prop:=∀p,p∈L->p.1≠0
theorem Cd.nil:Cd []:=λp h=>abk
theorem Cd.zm{L M:List Ft}(h:Cd L)(g:Cd M):Cd (L++M):=λp hp=>(ci.1 hp).elim (h p) (g p)
theorem Cd.bad{ok:Bool}{e a:Int}(h:e≠0):Cd (bad ok e a):=λp hp=>by
 unfold Con.bad at hp;split at hp
 ·simp at hp
 simp only[aO]at hp;subst hp;exact h
theorem Cd.flat{α:Type}{f:α->List Ft}(h:∀x,Cd (f x))(l:List α):Cd (l.flatMap f):=λp hp=>by
 obtain⟨x,_,hx⟩:=dr.1 hp;exact h x p hx
theorem Rs{L:List Ft}(hL:Cd L)(h:(pI (0,0) L).1=0):L=[]:=by
 cases L with
 | nil=>rfl
 | cons p L=>
  have hp:=hL p aaa;have e:pI (0,0) (p::L)=pI p L:=rfl;rw[e,Rr hp]at h;exact absurd h hp
theorem tK{ok:Bool}{e a:Int}:bad ok e a=[]↔ok=true:=by
 unfold bad;cases ok<;>simp
theorem VB(f:Ft)(ok:Bool)(e a:Int):pI f (bad ok e a)=if(!ok&&f.1==0)=true then(e,a)else f:=by
 unfold bad;cases ok
 ·by_cases h:f.1=0
  ·simp[pI,h]
  simp[pI,h]
 simp[pI]
def gw(xs:List cR)(s:aJ):Int:=if uo s (xs.map λx:cR=>x.nm)<xs.length then(uo s (xs.map λx:cR=>x.nm):Nat)else -1
def li(xs:List cR)(n:Int):Int:=match xs[n.toNat]? with
 | some x=>x.k
 | none=>0
def GQ(xs:List cR)(n:Int):Int:=match xs[n.toNat]? with
 | some x=>x.pa
 | none=>0
def stM(xs:List cR)(s:aJ):Bool:=decide (0<=gw xs s)&&!fM (li xs (gw xs s))
def Rt(xs:List cR)(b a:Nat):Bool:=match xs[b]? with
 | some s=>decide (b<=a)&&decide ((a:Int)<s.en)
 | none=>false
def oE(xs:List cR)(b a:Int):Bool:=decide (0<=b/\0<=a)&&Rt xs b.toNat a.toNat
def jA(xs:List cR)(a b:Int):Bool:=decide (a≠b)&&oE xs b a
def GR(xs:List cR)(a b:Int):Nat->Int
 | 0=> -1
 | m+1=>if(oE xs m a&&oE xs m b)=true then m else GR xs a b m
def CB(xs:List cR)(a b:Int):Int:=GR xs a b xs.length
def El(xs:List cR)(a b:Int):Bool:=decide (CB xs a b≠a/\CB xs a b≠b)&&decide (li xs (CB xs a b)=2)
def BD(xs:List cR)(s:aJ):Int:=if fM (li xs (gw xs s))then GQ xs (gw xs s)else gw xs s
def O6(xs:List cR):List Int->List (aJ)->Bool
 | _,[]=>true
 | l,s::r=>if gw xs s<1 then false else if(l.any λo=>!El xs (BD xs s) o)then false else O6 xs (l++[BD xs s]) r
mutual
def NQ:Nd->List (aJ×Int)
 | .mk b l=>(b.nm,b.a)::yF l
def yF:List Nd->List (aJ×Int)
 | []=>[]
 | x::l=>NQ x++yF l
end
def yg:List (aJ)->List (aJ×Int)->List Ft
 | _,[]=>[]
 | l,p::r=>bad (!decide (p.1∈l)) 24 p.2++yg (l++[p.1]) r
theorem Em:∀(p q:List (aJ×Int)) (l:List (aJ)),yg l (p++q)=yg l p++yg (l++p.map λx=>x.1) q
 | [],q,l=>by rw[cE,yg,cE,fN,bS]
 | x::p,q,l=>by rw[cp,yg,yg,Em p q,bR,bG,bR];rfl
theorem Lv:∀l m:List Nd,yF (l++m)=yF l++yF m
 | [],m=>by rw[cE,yF,cE]
 | x::l,m=>by rw[cp,yF,yF,Lv l m,bR]
mutual
theorem Ru(a:Nat)(pa dp:Int):∀x,(Ei a pa dp x).map (λs:cR=>s.nm)=(NQ x).map λp=>p.1
 | .mk b l=>by rw[Ei,NQ,bG,bG,I1]
theorem I1(a:Nat)(pa dp:Int):∀l,(qp a pa dp l).map (λs:cR=>s.nm)=(yF l).map λp=>p.1
 | []=>by rw[qp,yF];rfl
 | x::l=>by rw[qp,yF,dc,dc,Ru,I1]
end
theorem VC(x:List Nd):(yF x).length=fe x:=by
 have:=bh List.length (I1 0 0 0 x);rw[bA,bA,tJ]at this;exact this.symm
theorem I2:∀(p:List (aJ×Int)) (l:List (aJ)),Cd (yg l p)
 | [],l=>Cd.nil
 | x::p,l=>Cd.zm (Cd.bad aN) (I2 p _)
section
variable (xs:List cR) (vs:List (aJ))
def Uc(k:Int)(s:aJ):Bool:=(decide (k≠2)||decide (s∈vs))&&(decide (k≠3)||stM xs s)
mutual
def Ud:Ex->List Ft
 | .mk k n s op l a=>bad (Uc xs vs k s) 23 a++ub l
def ub:List Ex->List Ft
 | []=>[]
 | x::l=>Ud x++ub l
end
theorem aac(x:Ex):Ud xs vs x=bad (Uc xs vs x.k x.s) 23 x.a++ub xs vs x.fZ:=by cases x;rw[Ud];rfl
theorem GS:∀l m:List Ex,ub xs vs (l++m)=ub xs vs l++ub xs vs m
 | [],m=>by rw[cE,ub,cE]
 | x::l,m=>by rw[cp,ub,ub,GS l m,bR]
def acF(a:Ac):List Ft:=bad (decide (a.k≠1)||decide (a.n∈vs)) 23 a.a++Ud xs vs a.x
def uc(l:List Ac):List Ft:=l.flatMap (acF xs vs)
def afO(m:Mv):Bool:=(m.k !=3)||(decide (m.wt>0)&&decide (m.wt<=1099511627776))
def GU(m:Mv):List Ft:=bad (afO m) 28 m.a++(Ud xs vs m.g++(uc xs vs m.acts++bad (O6 xs [] m.tg) 27 m.a))
def Lw(l:List Nd):Nat:=(l.filter λx=>!fM x.b.k).length
def GV(s:aJ)(l:List Nd):Bool:=l.any λx=>decide (x.b.nm=s)
def zf(b:Nb)(l:List Nd)(at_:Nat):List Ft:=
 if fM b.k then bad (stM xs b.dft&&jA xs (gw xs b.dft) (GQ xs at_)) 26 b.a
 else if b.k=2 then bad (decide (b.ini=[])&&decide (1<Lw l)) 25 b.a
 else if 0<Lw l then bad (GV b.ini l) 25 b.a
 else bad (decide (b.ini=[])) 25 b.a++bad (decide (l.length=0)) 26 b.a
mutual
def Rv:Nat->Nd->List Ft
 | n,.mk b l=>zf xs b l n++(uc xs vs (b.en++b.lv)++(b.mv.flatMap (GU xs vs)++rh (n+1) l))
def rh:Nat->List Nd->List Ft
 | _,[]=>[]
 | n,x::l=>Rv n x++rh (n+jd x) l
end
theorem GW:∀(l m:List Nd) (n:Nat),rh xs vs n (l++m)=rh xs vs n l++rh xs vs (n+fe l) m
 | [],m,n=>by rw[cE,rh,cE,fe,fE]
 | x::l,m,n=>by rw[cp,rh,rh,GW l m,bR,fe,eU]
mutual
theorem I3:∀x,Cd (Ud xs vs x)
 | .mk k n s op l a=>by rw[Ud];exact Cd.zm (Cd.bad aN) (Ly l)
theorem Ly:∀l,Cd (ub xs vs l)
 | []=>by rw[ub];exact Cd.nil
 | x::l=>by rw[ub];exact Cd.zm (I3 x) (Ly l)
end
theorem aad(a:Ac):Cd (acF xs vs a):=Cd.zm (Cd.bad aN) (I3 xs vs a.x)
theorem Lz(l:List Ac):Cd (uc xs vs l):=Cd.flat (aad xs vs) l
theorem aae(m:Mv):Cd (GU xs vs m):=Cd.zm (Cd.bad aN) (Cd.zm (I3 xs vs _) (Cd.zm (Lz xs vs _) (Cd.bad aN)))
theorem aaf(b:Nb)(l:List Nd)(n:Nat):Cd (zf xs b l n):=by
 unfold zf;split
 ·exact Cd.bad aN
 split
 ·exact Cd.bad aN
 split
 ·exact Cd.bad aN
 exact Cd.zm (Cd.bad aN) (Cd.bad aN)
mutual
theorem Rw:∀(n:Nat) (x:Nd),Cd (Rv xs vs n x)
 | n,.mk b l=>by rw[Rv];exact Cd.zm (aaf xs b l n) (Cd.zm (Lz xs vs _) (Cd.zm (Cd.flat (aae xs vs) _) (LA (n+1) l)))
theorem LA:∀(n:Nat) (l:List Nd),Cd (rh xs vs n l)
 | n,[]=>by rw[rh];exact Cd.nil
 | n,x::l=>by rw[rh];exact Cd.zm (Rw n x) (LA _ l)
end
end
def En(c:Ch):List (aJ):=c.vars.map λv=>v.n
def GX(c:Ch):List Ft:=yg [] (NQ c.root)++(yg [] (c.vars.map λv=>(v.n,v.a))++Rv (cH c) (En c) 0 c.root)
theorem Rx(c:Ch):Cd (GX c):=Cd.zm (I2 _ _) (Cd.zm (I2 _ _) (Rw _ _ _ _))
theorem LB{s:aJ}:∀{l:List (aJ)},uo s l<l.length->l[uo s l]? =some s
 | [],h=>abk
 | x::l,h=>by
  rw[uo]at h⊢;split
  ·rename_i e;rw[e];rfl
  rename_i e;rw[aX e,bp]at h;rw[dl];exact LB aG
theorem nN{s:aJ}:∀{l:List (aJ)},uo s l<l.length↔s∈l
 | []=>aaa
 | x::l=>by
  rw[uo,aR,bp];split
  ·rename_i e;exact⟨λ_=>.inl e,λ_=>aG⟩
  rename_i e;have:=nN (s:=s) (l:=l);exact⟨λh=>.inr (this.1 aG),λh=>by have:=this.2 (h.resolve_left e);omega⟩
theorem LC{s:aJ}(m:List (aJ)):∀{l:List (aJ)},s∈l->uo s (l++m)=uo s l
 | [],h=>abk
 | x::l,h=>by
  rw[cp,uo,uo];split
  ·rfl
  rename_i e;rw[LC m ((aR.1 h).resolve_left e)]
theorem Eo{s:aJ}(m:List (aJ)):∀{l:List (aJ)},s∉l->uo s (l++s::m)=l.length
 | [],_=>by rw[cE,uo,aZ rfl];rfl
 | x::l,h=>by
  rw[cp,uo,aX (λe=>h (by rw[e];simp)),Eo m (λhm=>h (dd _ hm))];rfl
section
variable {xs:List cR} {s:aJ}
theorem mN(xs:List cR)(s:aJ):(gw xs s= -1/\∀x∈xs,x.nm≠s)∨∃(n:Nat) (x:cR),gw xs s=n/\xs[n]? =some x/\x.nm=s:=by
 unfold gw;split
 ·rename_i h;right;have:=LB (l:=xs.map λx:cR=>x.nm) (s:=s) (by rw[bA];exact h);rw[bW,gj]at this;obtain⟨x,hx,e⟩:=this;exact⟨_,x,rfl,hx,e⟩
 rename_i h;refine .inl ⟨rfl,λx hx e=>h ?_⟩;have:=(nN (s:=s) (l:=xs.map λx:cR=>x.nm)).2 (cP.2 ⟨x,hx,e⟩);rwa[bA]at this
theorem fR{n:Nat}{x:cR}(h:xs[n]? =some x):li xs n=x.k:=by unfold li;rw[aV,h]
theorem lj{n:Nat}{x:cR}(h:xs[n]? =some x):GQ xs n=x.pa:=by unfold GQ;rw[aV,h]
theorem Ry{b a:Nat}:Rt xs b a=true↔jv xs b a:=by
 unfold Rt jv;cases h:xs[b]? with
 | none=>simp
 | some s=>simp
theorem ol{b a:Int}:oE xs b a=true↔∃i j:Nat,b=i/\a=j/\jv xs i j:=by
 unfold oE;rw[aU,ch,Ry];constructor
 ·rintro⟨⟨h1,h2⟩,h⟩;exact⟨_,_,(jM h1).symm,(jM h2).symm,h⟩
 rintro⟨i,j,rfl,rfl,h⟩;rw[aV,aV];exact⟨⟨aG,aG⟩,h⟩
theorem om{a b:Int}:jA xs a b=true↔∃i j:Nat,b=i/\a=j/\i<j/\jv xs i j:=by
 unfold jA;rw[aU,ch,ol];constructor
 ·rintro⟨hn,i,j,rfl,rfl,h⟩;have:=h;obtain⟨_,_,kB,_⟩:=this;exact⟨i,j,rfl,rfl,aG,h⟩
 rintro⟨i,j,rfl,rfl,h,hc⟩;exact⟨aG,i,j,rfl,rfl,hc⟩
theorem xh(a b:Int):∀n:Nat,(GR xs a b n= -1/\∀m,m<n->(oE xs m a&&oE xs m b)=false)∨∃m:Nat,GR xs a b n=m/\m<n/\(oE xs m a&&oE xs m b)=true/\∀j,m<j->j<n->(oE xs j a&&oE xs j b)=false
 | 0=>.inl ⟨rfl,λm h=>aG⟩
 | n+1=>by
  rw[GR];split
  ·rename_i h;exact .inr ⟨n,rfl,aG,h,λj h1 h2=>aG⟩
  rename_i h;rw[qM]at h;rcases xh a b n with⟨h1,h2⟩ | ⟨m,h1,h2,h3,h4⟩
  ·exact .inl ⟨h1,λm hm=>if e:m=n then by rw[e];exact h else h2 m aG⟩
  exact .inr ⟨m,h1,aG,h3,λj g1 g2=>if e:j=n then by rw[e];exact h else h4 j g1 aG⟩
theorem Fo.Wj(F:Fo xs){a b r:Int}(h:Mt xs [a,b] r)(ha:pf xs a)(hb:pf xs b):r=CB xs a b:=by
 have hg:∀n,n∈[a,b]->pf xs n:=λn hn=>by
  simp only[aR,bn,cm]at hn;rcases hn with rfl | rfl
  ·exact ha
  exact hb
 obtain⟨m,rfl,t1,t2⟩:=h.agl aaa hg;have both:∀j:Nat,(oE xs j a&&oE xs j b)=true↔∀n:Int,n∈[a,b]->∃k:Nat,n=k/\jv xs j k:=λj=>by
  rw[aU,ol,ol];constructor
  ·rintro⟨⟨i,k,e,rfl,h1⟩,⟨i',k',e',rfl,h2⟩⟩ n hn;simp only[aR,bn,cm]at hn;have ei:j=i:=aG
   have ei':j=i':=aG
   subst ei ei';rcases hn with rfl | rfl
   ·exact⟨k,rfl,h1⟩
   exact⟨k',rfl,h2⟩
  intro h;obtain⟨k,e,h1⟩:=h a aaa;obtain⟨k',e',h2⟩:=h b aaa;exact⟨⟨j,k,rfl,e,h1⟩,⟨j,k',rfl,e',h2⟩⟩
 have hm:=(both m).2 t1;have Dc:m<xs.length:=by
  obtain⟨k,_,s,hs,_⟩:=t1 a aaa;exact eT hs
 unfold CB;rcases xh (xs:=xs) a b xs.length with⟨_,h2⟩ | ⟨q,h1,h2,h3,h4⟩
 ·rw[h2 m Dc]at hm;cases hm
 have:=t2 q ((both q).1 h3);by_cases e:q=m
 ·rw[h1,e]
 rw[h4 m aG Dc]at hm;cases hm
end
def ne(l:aJ):Bool:=!decide (l=[])
def fO(ws:List (aJ)):aJ:=Lib.join (ws.filter ne) [32]
theorem Only.below{w w':ay}(h:Below w.heap.size w w'):aA [] w w':=⟨h.os,h.tape,h.output,h.size,λk hk _=>h.block k hk⟩
theorem I4{w:ay}{F:aL}:∀{l:List (aJ)} {css:List (aK)},lO lz 1 w F l css->css.flatten=l.map λx=>ah (T x)
 | [],[],_=>rfl
 | c::l,d::css,h=>by
  obtain⟨⟨_,h1⟩,h2⟩:=h;unfold lz at h1;subst h1;rw[dy,I4 h2];rfl
theorem CD(l:aJ)(w:ay):aB au 204 #[ah (T l)] w λe w'=>e=aq (ao (decide (l=[])))/\w'=w:=by
 refine ret (ak8 _ _ _ ?_);exact⟨by rw[show ar #[]=T []from rfl,mE],rfl⟩
section
variable {w:ay} {B:Nat} {F:aL} {s:Sl} {ws:List (aJ)}
theorem Rz(h:Own lz 1 9 B w F s ws):aB au 219 #[s.v,.func (.func 204) #[] #[]] w λe w'=>
  ∃i:Int,e=aq (O ae i)/\w'=w/\((i= -1/\ws.filter ne=ws)∨∃n:Nat,i=n/\n<ws.length/\(ws.take (n+1)).filter ne=ws.take n):=by
 refine(afs s ⟨.func (.func 204) #[] #[],rfl⟩ (λv w'=>∃i:Int,v=O ae i/\w'=w/\((i= -1/\ws.filter ne=ws)∨∃n:Nat,i=n/\n<ws.length/\(ws.take (n+1)).filter ne=ws.take n)) w ?_).mono (by
  rintro e w' ⟨v,rfl,i,rfl,h⟩;exact⟨i,rfl,h⟩)
 have hs:=h.slice dH;have fl:=hs.len;have qF:=hs.big;have lC:=hs.cap;refine⟨λnv i w'=>∃n:Nat,n<=ws.length/\i=(n:Int)/\nv=ws.length-n/\(ws.take n).filter ne=ws.take n/\w'=w,ws.length,⟨0,bB _,rfl,rfl,rfl,rfl⟩,?_⟩;rintro nv _ w0 ⟨n,hn,rfl,rfl,iW,rfl⟩;refine⟨λhc=>?_,λhc=>?_⟩
 ·have cd:(n:Int)<s.n:=aP hc;obtain⟨ad,x,cs,g1,g2,g3,g4,g5,g6⟩:=hs.get (bE n) cd;rw[aV]at g2;unfold lz at g6;subst g6;have ht:ws.take (n+1)=ws.take n++[x]:=by
   rw[bF,g2];rfl
  refine⟨ad,g1,_,g5,204,[],[],rfl,fC (by kernel_rfl),?_⟩;refine(CD x w0).mono ?_;rintro _ w1 ⟨rfl,rfl⟩;refine⟨_,rfl,λhb=>⟨_,rfl,rfl,.inr ⟨n,rfl,aG,?_⟩⟩,λhb=>⟨ws.length-(n+1),aG,n+1,aG,aaq,rfl,?_,rfl⟩⟩
  ·have hb:x=[]:=aP hb;rw[ht,eu,iW,hb];simp[ne]
  have hb:x≠[]:=aY hb;rw[ht,eu,iW];simp[ne,hb]
 have mQ:¬(n:Int)<s.n:=aY hc;rw[bq aG]at iW;exact⟨_,rfl,rfl,.inl ⟨rfl,iW⟩⟩
theorem NR(h:Own lz 1 9 B w F s ws):aB au 203 #[s.v,.func (.func 204) #[] #[]] w λe w'=>
  ∃s':Sl,e=aq s'.v/\Own lz 1 9 B w' F s' (ws.filter ne)/\aF (λk=>B<=k) w w':=by
 refine(afr s ⟨.func (.func 204) #[] #[],rfl⟩ (λv w'=>∃s':Sl,v=s'.v/\Own lz 1 9 B w' F s' (ws.filter ne)/\aF (λk=>B<=k) w w') w ?_).mono (by
  rintro e w' ⟨v,rfl,s',rfl,h⟩;exact⟨s',rfl,h⟩)
 have fl:=h.len;have lC:=h.cap;have qF:=(h.slice dH).big;refine(Rz h).mono ?_;rintro _ w0 ⟨i,rfl,rfl,hi⟩;refine⟨i,rfl,λhc=>?_,λhc=>?_⟩
 ·rcases hi with⟨_,hf⟩ | ⟨n,rfl,hn,hf⟩
  ·rw[hf];exact⟨s,rfl,h,OnlyP.refl _ _⟩
  have:(n:Int)= -1:=eq_of_beq hc;omega
 rcases hi with⟨rfl,_⟩ | ⟨n,rfl,hn,hf⟩
 ·exact absurd hc aN
 refine⟨λnv a b w'=>∃(L:List (aJ)) (p q:Nat),a=p/\b=q/\p<q/\q<=ws.length/\nv=ws.length-q/\L.length=ws.length/\L.take p=(ws.take q).filter ne/\L.drop q=ws.drop q/\Own lz 1 9 B w' F s L/\aF (λk=>B<=k) w0 w',
  ws.length-(n+1),⟨ws,n,n+1,rfl,aaq,aG,aG,rfl,rfl,hf.symm,rfl,h,OnlyP.refl _ _⟩,?_⟩
 rintro nv _ _ w1 ⟨L,p,q,rfl,rfl,hpq,hq,rfl,hL,ht,hd,hO,hP⟩;refine⟨λhc=>?_,λhc=>?_⟩
 ·have cd:(q:Int)<s.n:=aP hc;have hq':q<ws.length:=aG
  obtain⟨ad,x,cs,g1,g2,g3,g4,g5,g6⟩:=(hO.slice dH).get (bE q) cd;rw[aV]at g2;unfold lz at g6;subst g6;have hx:ws[q]? =some x:=by
   rw[<-g2];have e1:=bh (λl=>l[0]?) hd;simpa using e1.symm
  have hw:ws.take (q+1)=ws.take q++[x]:=by
   rw[bF,hx];rfl
  have hdn:∀M:List (aJ),(∀j,q+1<=j->M[j]? =L[j]?)->M.drop (q+1)=ws.drop (q+1):=λM hM=>by
   apply gf;intro j;rw[iQ,iQ,hM _ aG];have e1:=bh (λl=>l[1+j]?) hd;simp only[iQ]at e1;rw[show q+1+j=q+(1+j) by omega];exact e1
  refine⟨λj w2=>∃(M:List (aJ)) (p':Nat),j=p'/\p'<q+1/\M.length=ws.length/\M.take p'=(ws.take (q+1)).filter ne/\M.drop (q+1)=ws.drop (q+1)/\Own lz 1 9 B w2 F s M/\aF (λk=>B<=k) w0 w2,?_,ad,g1,_,g5,204,[],[],rfl,fC (by kernel_rfl),?_⟩
  ·rintro _ w2 ⟨M,p',rfl,m1,m2,m3,m4,m5,m6⟩;exact⟨ws.length-(q+1),aG,M,p',q+1,rfl,aaq,m1,hq',rfl,m2,m3,m4,m5,m6⟩
  refine(CD x w1).mono ?_;rintro _ w2 ⟨rfl,rfl⟩;refine⟨_,rfl,λhb=>?_,λhb=>?_⟩
  ·have hb:x≠[]:=abj
   obtain⟨g,cells,b1,b2,b3,b4,b5⟩:=hO.store dH (n:=p) aG (x:=x) (vs:=[ah (T x)]) (G:=λ_=>False) rfl rfl (λk hk=>hk.elim) aN;refine⟨⟨g,p*1,none⟩,b2,g,p*1,cells,_,rfl,b3,b4,λw3 dE wz=>⟨L.set p x,p+1,aaq,aG,by rw[iq];exact hL,?_,hdn _ λj hj=>by rw[B4 aG],b5 w3 dE wz,hP.trans (dE.p (F:=λk=>B<=k) λk hk=>.inl ?_) λk hk=>.inl hk⟩⟩
   ·rw[hw,eu,<-ht,bF,oL aG,Fm aG];simp[ne,hb]
   simp only[aO]at hk;subst hk;rcases hO with⟨rfl,_⟩ | ⟨g',_,_,a1,a2,_⟩
   ·cases b1
   rw[a1]at b1;injection b1 with b1;injection b1 with b1;omega
  have hb:x=[]:=abj
  refine⟨L,p,rfl,aG,hL,?_,hdn _ λj _=>rfl,hO,hP⟩;rw[hw,eu,<-ht,hb];simp[ne]
 have mQ:¬(q:Int)<s.n:=aY hc;have hqe:q=ws.length:=aG
 subst hqe;rw[bq (ba _)]at ht;obtain⟨w2,g,c1,c2,c3,c4⟩:=Own.clear (P:=au) (t:=132) (ty:=0) (i:=p) dH aN (by kernel_rfl) (λw=>Tryz.zeroValue9 w) (by intro v hv;simp[Value.cells]at hv;subst hv;rfl) rfl hO aG;refine⟨p,⟨rfl,aG,lC⟩,w2,c1,p,⟨rfl,aG⟩,_,rfl,?_,hP.trans (c3.p (F:=λk=>B<=k) λk hk=>.inl ?_) λk hk=>.inl hk⟩
 ·rw[<-ht];exact c4
 simp only[aO]at hk;subst hk;rcases hO with⟨rfl,_⟩ | ⟨g',_,_,a1,a2,_⟩
 ·cases c2
 rw[a1]at c2;injection c2 with c2;injection c2 with c2;omega
theorem AU(h:Own lz 1 9 B w F s ws)(hl:(fO ws).length<=140737488355328)(hn:ws.length<=140737488355328):aB au 177 #[s.v] w λe w'=>e=aq (ah (T (fO ws)))/\aF (λk=>B<=k) w w':=by
 refine ret (ak7 _ _ _ ?_);refine(NR h).mono ?_;rintro _ w1 ⟨s',rfl,hO,hP⟩;refine⟨s',rfl,?_⟩;have fl:=hO.len;have kB:=cY ne ws;have WU:∀{w2:ay},aA [] w1 w2->aF (λk=>B<=k) w w2:=λh=>hP.trans h.p0 λk hk=>.inl hk;rcases hO with⟨rfl,he⟩ | ⟨g,css,tail,a1,a2,a4,a5,a6,a7,a9,a8⟩
 ·refine(Tryz.strings_Join_none none 0 (T [32]) w1).mono ?_;rintro _ w2 ⟨rfl,rfl⟩;refine⟨_,rfl,?_,hP⟩;unfold fO;rw[he];rfl
 obtain⟨sa,sn,sc⟩:=s';dsimp only at a1 a5 a6 a7 a9 fl;subst a1 fl;have MQ:=I4 a8;have:=Tryz.strings_Join g 0 sc ((ws.filter ne).map T) (T [32]) w1 (λj x hj=>by
  rw[bW,gj]at hj;obtain⟨y,hy,rfl⟩:=hj;have:=a4.cells 0 ((ws.filter ne).map λx=>Value.string (T x)) (λj v hj=>by rw[bM,MQ,bK (be.1 hj).1];exact hj) j (ah (T y)) (by rw[bW,hy];rfl);rw[fI]at this;exact this) a4.lt abS abS (by
  rw[iA];have:((λx:aM=>x.data.toList)∘T)=id:=rfl;rw[this,O2];exact hl)
 rw[bA]at this;refine this.mono ?_;rintro _ w2 ⟨rfl,hB⟩;refine⟨_,rfl,?_,WU (Only.below hB)⟩;rw[iA];have:((λx:aM=>x.data.toList)∘T)=id:=rfl;rw[this,O2];rfl
end
theorem CE(w:ay)(ws:List (aJ)){n:Nat}{parts:Array (Nat×az)}(hp:parts=(((ws.map λx=>Value.string (T x)).zipIdx 0).map λx=>(x.2,x.1)).toArray)(hn:ws.length=n)(h0:0<n)(BU:n*1<=16777216)(hl:(fO ws).length<=140737488355328):
  ∃(q:Sl) (w0:ay),(aw 132 n parts).run au w=.ok q.v w0/\aA [] w w0/\Own lz 1 9 w.heap.size w0 (λ_=>True) q ws/\aB au 177 #[q.v] w0 λe w'=>e=aq (ah (T (fO ws)))/\aF (λk=>w.heap.size<=k) w0 w':=by
 obtain⟨q,w0,k1,k2,k3⟩:=og w ws hp hn h0 BU;exact⟨q,w0,k1,k3,k2,AU k2 hl aG⟩
theorem iK:∀(ws:List (aJ)),(fO ws).length<=(ws.map λl=>l.length+1).sum:=by
 have h1:∀(r:List (aJ)),(Lib.joinTail [32] r).length=(r.map λl=>l.length+1).sum:=λr=>by
  induction r with
  | nil=>rfl
  | cons x r ih=>
   unfold Lib.joinTail at ih⊢;rw[bG,dy,aW,ih,bG,cD];simp
 have h2:∀(r:List (aJ)),(Lib.join r [32]).length<=(r.map λl=>l.length+1).sum:=λr=>by
  cases r with
  | nil=>exact bB _
  | cons x r=>
   rw[Lib.join_cons,aW,h1,bG,cD];omega
 have h3:∀(r:List (aJ)),((r.filter ne).map λl=>l.length+1).sum<=(r.map λl=>l.length+1).sum:=λr=>by
  induction r with
  | nil=>exact ba _
  | cons x r ih=>
   rw[ml,bG,cD];split
   ·rw[bG,cD];omega
   omega
 exact λws=>bf (h2 _) (h3 ws)
end Go.Proofs.YtpbgcbdclnfpnaaGreatDoor.Con
