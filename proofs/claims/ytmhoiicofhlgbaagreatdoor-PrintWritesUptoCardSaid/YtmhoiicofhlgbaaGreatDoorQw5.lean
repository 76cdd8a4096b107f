import Derived.Test.YtmhoiicofhlgbaaGreatDoorQw4
set_option linter.unusedSectionVars false
namespace Go.Proofs.YtmhoiicofhlgbaaGreatDoor.Con
open Go.Value renaming int->O,string->ab,pointer->ae,agg->ah,tuple->ai,bool->aj
open Go.IntKind renaming i64->U,wrap->ar
open Go.Ending renaming returned->ak
open _root_.ByteArray renaming mk->ao
open _root_.Go.Proofs.Tryz renaming prog->aq
open Go.Instr renaming buildSlice->au
open Go renaming World->av,Value->aw,Calls->az
open Go.Kt renaming Only->ay
open Go Go.RowKit Go.Kt Go.Kt.V Go.Proofs.YtmhoiicofhlgbaaGreatDoor.Vc
set_option linter.unusedSimpArgs false
set_option linter.unusedVariables false
set_option maxHeartbeats 4000000
theorem JB (w:av):∃(s:Sl) (w':av),(au 52 16 #[.mk 1 (ab (ao #[43])),.mk 2 (ab (ao #[45])),.mk 3 (ab (ao #[42])),.mk 4 (ab (ao #[47])),.mk 5 (ab (ao #[37])),.mk 6 (ab (ao #[60])),.mk 7 (ab (ao #[60,61])),.mk 8 (ab (ao #[62])),.mk 9 (ab (ao #[62,61])),.mk 10 (ab (ao #[61,61])),.mk 11 (ab (ao #[33,61])),.mk 12 (ab (ao #[38,38])),.mk 13 (ab (ao #[124,124])),.mk 14 (ab (ao #[45])),.mk 15 (ab (ao #[33]))]).run aq w=.ok (Sl.v s) w'/\
  SliceF iW 1 w' (fun k=>w.heap.size<=k/\k<w'.heap.size) s sA/\ay [] w w':=by
 have rl:=run_buildSlice (P:=aq) w 52 9 16 #[.mk 1 (ab (ao #[43])),.mk 2 (ab (ao #[45])),.mk 3 (ab (ao #[42])),.mk 4 (ab (ao #[47])),.mk 5 (ab (ao #[37])),.mk 6 (ab (ao #[60])),.mk 7 (ab (ao #[60,61])),.mk 8 (ab (ao #[62])),.mk 9 (ab (ao #[62,61])),.mk 10 (ab (ao #[61,61])),.mk 11 (ab (ao #[33,61])),.mk 12 (ab (ao #[38,38])),.mk 13 (ab (ao #[124,124])),.mk 14 (ab (ao #[45])),.mk 15 (ab (ao #[33]))]
  (sA.map fun x=>Value.string (T x)).toArray Tryz.t9 _ (by kernel_rfl) (by kernel_rfl) rfl (by decide) (by decide) (by kernel_rfl)
 refine⟨⟨some ⟨w.heap.size,0,none⟩,16,16⟩,_,rl,⟨rfl,aK _,fun h=>(by cases h),(by decide:(16:Nat)<=9223372036854775807),fun j x hx=>?_⟩,Only.alloc _ _⟩;have hB:=Blk.alloc w 9 (sA.map fun x=>Value.string (T x));have bJ:=hB.lt;refine⟨⟨w.heap.size,0,none⟩,[ab (T x)],rfl,⟨aK _,bJ⟩,rfl,?_,rfl⟩;rw[tL];exact Blk.dI hB j (by rw[cH,hx];rfl)
theorem TA (w:av):az aq 263 #[] w fun e w'=>∃s:Sl,e=ak s.v/\SliceF iW 1 w' (fun k=>w.heap.size<=k/\k<w'.heap.size) s sA/\ay [] w w':=by
 refine(agf (fun v w'=>∃s:Sl,v=s.v/\SliceF iW 1 w' (fun k=>w.heap.size<=k/\k<w'.heap.size) s sA/\ay [] w w') w ?_).mono (by
  rintro e w' ⟨v,rfl,s,rfl,h⟩;exact⟨s,rfl,h⟩)
 unfold Z3;obtain⟨s,w',h1,h2,h3⟩:=JB w;exact⟨s,w',h1,s,rfl,h2,h3⟩
def jl (ts:List Tk):Nat:=(ts.takeWhile fun t=>t.k !=5).length
theorem wU (ts:List Tk):jl ts<=ts.length:=by
 unfold jl;exact(List.takeWhile_sublist _).length_le
theorem zZ {t:Tk} {ts:List Tk} {i:Nat}:tk (t::ts) (i+1)=tk ts i:=by unfold tk;rw[dv]
theorem Aa {t:Tk} {ts:List Tk}:tk (t::ts) 0=t:=rfl
theorem uf:∀(ts:List Tk) (i:Nat),i<jl ts->(tk ts i).k≠5
 | [],_,h=>by simp[jl]at h
 | t::ts,i,h=>by
  unfold jl at h;rw[cI]at h;split at h
  ·rename_i ht;cases i with
   | zero=>rw[Aa];simpa using ht
   | succ i=>rw[zZ];exact uf ts i (by simpa[jl]using h)
  ·simp at h
theorem ug:∀(ts:List Tk),jl ts<ts.length->(tk ts (jl ts)).k=5
 | [],h=>by simp at h
 | t::ts,h=>by
  unfold jl at h⊢;rw[cI]at h⊢;split
  ·rename_i ht;rw[if_pos ht]at h;rw[aH,zZ];exact ug ts (by simpa[jl]using h)
  ·rename_i ht;rw[aN,Aa];simpa using ht
theorem DQ {ts:List Tk} (h:jl ts+1=ts.length):nY ts:=fun i hi=>by
 constructor
 ·intro hk;refine bf fun hn=>uf ts i (by omega) hk
 ·intro hn;have:i=jl ts:=by omega
  rw[this];exact ug ts (by omega)
theorem Md {ts:List Tk} (h:nY ts) (h0:0<ts.length):jl ts+1=ts.length:=by
 have h1:=wU ts;rcases jP (jl ts) ts.length with hl | hl
 ·exact(h _ hl).1 (ug ts hl)
 ·have:=uf ts (ts.length-1) (by omega);exact absurd ((h (ts.length-1) (by omega)).2 (by omega)) this
theorem QL (w:av) (t:Tk):az aq 305 #[t.v] w fun e w'=>e=ak (aj (t.k==5))/\ay [] w w':=by
 refine ret (v3w t.k (T t.t) t.n t.a (fun v w'=>v=aj (t.k==5)/\ay [] w w') w ?_);unfold v3v;exact fun k0 w0 _ _ hO=>⟨rfl,hO⟩
theorem Me {w:av} {F:Nat->Prop} {l:Sl} {ts:List Tk} (h:SliceF zW 4 w F l ts):az aq 304 #[l.v,.func (.func 305) #[] #[]] w fun e w'=>e=ak (O U (if jl ts<ts.length then(jl ts:Int)else -1))/\ay [] w w':=by
 refine ret (Z2 l ⟨.func (.func 305) #[] #[],rfl⟩ (fun v w'=>v=O U (if jl ts<ts.length then(jl ts:Int)else -1)/\ay [] w w') w ?_);unfold Tc;have dN:=h.len;have og:=h.big;have mD:=h.cap;refine⟨fun nv i w'=>∃n:Nat,n<=jl ts/\i=(n:Int)/\nv=ts.length-n/\ay [] w w',ts.length,⟨0,aQ _,rfl,rfl,Only.refl _ _⟩,?_⟩;rintro nv _ w0 ⟨n,hn,rfl,rfl,bT⟩;have IY:=wU ts;refine⟨fun hc=>?_,fun hc=>?_⟩
 ·have bJ:(n:Int)<l.n:=aG hc;obtain⟨ad,x,cs,g1,g2,g3,g4,g5,g6⟩:=(SliceF.only fT (by decide) h bT (by simp)).get (aO n) bJ;rw[aM,x9 (by omega)]at g2;injection g2 with g2;subst g2;unfold zW at g6;subst g6;refine⟨ad,g1,_,_,_,_,g5,305,[],[],rfl,kg (by kernel_rfl),?_⟩;refine(QL w0 (tk ts n)).mono ?_;rintro _ w1 ⟨rfl,bZ⟩;refine⟨_,rfl,fun hb=>⟨?_,bT.bP bZ⟩,fun hb=>⟨ts.length-(n+1),by omega,n+1,?_,by rw[fy (by omega) (by omega)];rfl,rfl,bT.bP bZ⟩⟩
  ·have hb:(tk ts n).k=5:=by simpa using hb
   have:n=jl ts:=by
    refine bf fun gf=>uf ts n (by omega) hb
   rw[if_pos (by omega),this]
  ·have hb:¬(tk ts n).k=5:=by simpa using hb
   refine bf fun gf=>hb ?_;have:n=jl ts:=by omega
   rw[this];exact ug ts (by omega)
 ·have kO:¬(n:Int)<l.n:=aI hc;rw[if_neg (by omega)];exact⟨rfl,bT⟩
def tG:Ex:=.mk 0 0 [] 0 [] 0
def bH (ts:List Tk) (a:Int):Ex×Int×Int×Int:=
 if 0<=a/\a<ts.length/\jl ts+1=ts.length then(match nZ ts a.toNat with
  | .error (c,p)=>(tG,0,c,p)
  | .ok (x,j)=>(x,(j:Int),0,0))
 else(tG,0,1, -1)
theorem QM (w:av) (lo hi:Nat):RX w lo hi tG [O U 0,O U 0,ab (ao #[]),O U 0,Sl.nil.v,O U 0]:=.leaf ..
theorem HB {w:av} {F:Nat->Prop} {l:Sl} {ts:List Tk} (h:SliceF zW 4 w F l ts) (a:Int) (ha:vR a):az aq 288 #[l.v,O U a] w fun e w'=>
  ∃cs,e=ak (ai #[ah cs.toArray,O U (bH ts a).2.1,ah #[O U (bH ts a).2.2.1,O U (bH ts a).2.2.2]])/\RX w' w.heap.size w'.heap.size (bH ts a).1 cs/\((bH ts a).2.2.1=0->0<=(bH ts a).2.1/\(bH ts a).2.1<ts.length)/\ay [] w w':=by
 refine(v4w l a (fun v w'=>∃cs,v=(ai #[ah cs.toArray,O U (bH ts a).2.1,ah #[O U (bH ts a).2.2.1,O U (bH ts a).2.2.2]])/\RX w' w.heap.size w'.heap.size (bH ts a).1 cs/\((bH ts a).2.2.1=0->0<=(bH ts a).2.1/\(bH ts a).2.1<ts.length)/\ay [] w w') w ?_).mono (by
  rintro e w' ⟨v,rfl,cs,rfl,h⟩;exact⟨cs,rfl,h⟩)
 unfold v4v;intro k0 k1 w0 gN dJ jO jb bT;have dN:=h.len;have mD:=h.cap;have og:=h.big;have z0:=bT.size;have h:=(h.inHeap fT (by decide))
 refine(Me (SliceF.only fT (by decide) h bT (by simp))).mono ?_;rintro _ w1 ⟨rfl,bZ⟩;have z1:=bZ.size;have fb:=bT.bP bZ;have IY:=wU ts;have hcond:(((decide (a<0))||(decide (a>=(l.n:Int))))||((if jl ts<ts.length then(jl ts:Int)else -1) !=(ar U ((l.n:Int)-1))))=!decide (0<=a/\a<ts.length/\jl ts+1=ts.length):=by
  rw[fy (by omega) (by omega),dN];by_cases h1:jl ts<ts.length
  ·rw[if_pos h1,bq];simp;omega
  ·rw[if_neg h1,bq];simp;omega
 refine⟨_,rfl,bZ.same (by simp;omega),?_⟩;rw[hcond];refine⟨fun hc w2 cp=>?_,fun hc=>?_⟩
 ·have hc:¬(0<=a/\a<ts.length/\jl ts+1=ts.length):=by
   rw[bX,ft]at hc;exact hc
  rw[bH,if_neg hc];exact⟨_,rfl,QM _ _ _,fun h=>(by cases h),(fb.weaken (bs':=[]) fun _ h=>(by cases h)).trans cp fun x hx=>.inr (by simp only[aL,aU,bM]at hx;omega)⟩
 ·have hc:0<=a/\a<ts.length/\jl ts+1=ts.length:=by
   rw[ga,bd]at hc;exact hc
  rw[bH,if_pos hc];obtain⟨i,rfl⟩:∃i:Nat,a=(i:Int):=⟨a.toNat,by omega⟩
  refine(TA w1).mono ?_;rintro _ w3 ⟨sn,rfl,Wc,cO⟩;have z3:=cO.size;refine⟨sn,rfl,cO.same (by simp;omega),fun b w4 hb ml dm qj=>?_⟩;have z4:=dm.size;have lu:=fb.bP cO;have hR:Rd (fun k=>F k/\k<w.heap.size) (fun k=>w1.heap.size<=k/\k<w3.heap.size) ts w4 b l sn i 0 0 ((0:Nat):Int):=
   ⟨qj,SliceF.only fT (by decide) h (lu.bP dm) (by simp),SliceF.only cG (by decide) Wc dm (by simp),fun k hk=>by have:=hk.2;omega,fun k hk=>by have:=hk.2;omega,DQ hc.2.2,by omega⟩
  refine((DP (eS 0 0)).1 0 0 i w4 (by decide) (by decide) (aK _) hR).mono ?_;rintro _ w5 ⟨v,rfl,hD⟩;obtain⟨vk,vn,vs,vo,vl,va,rfl⟩:=hD.nj;have z5:=hD.1.size;obtain⟨dS,hD⟩:=hD;rw[aM];have Wj:nZ ts i=cx ts (eS 0 0) 0 0 i:=rfl;rw[Wj];have fin:∀{j:Nat} {c p:Int},Rd (fun k=>F k/\k<w.heap.size) (fun k=>w1.heap.size<=k/\k<w3.heap.size) ts w5 b l sn j c p ((0:Nat):Int)->∀w8,ay [] w5 w8->∀w9,ay [k1,k0] w8 w9->ay [] w w9:=fun hR w8 fh w9 fK=>(((lu.bP dm).trans dS fun x hx=>.inr (by simp only[aF]at hx;omega)).bP fh).trans fK fun x hx=>.inr (by simp only[aL,aU,bM]at hx;omega);refine⟨_,_,_,_,_,_,rfl,dS.same (by simp;omega),?_⟩;cases hE:cx ts (eS 0 0) 0 0 i with
  | error e=>
   rw[hE]at hD;obtain⟨c,p⟩:=e;obtain⟨a1,a2,j,a3⟩:=hD;refine⟨_,_,_,_,_,_,a3.blk,fun k3 w6 I5 yX dG KU=>?_⟩;have z6:=dG.size;refine(zX (a3.only dG)).mono ?_;rintro _ w7 ⟨rfl,fz⟩;have h7:=(a3.only dG).only fz;have gf:(c !=0)=true:=by simpa using a1
   refine⟨_,rfl,fz.same (by simp;omega),_,_,_,_,_,_,h7.blk,fun _ w8 fh wm n1 n2 n3 n4 n5 n6=>⟨fun k=>k=b,rfl,fun e=>n2 e,fun e=>n4 e,fun w9 fK _=>⟨_,rfl,QM _ _ _,fun h=>absurd h a1,fin a3 w8 (dG.bP (fz.bP fh)) w9 fK⟩⟩,fun hc=>by rw[gf]at hc;cases hc⟩
  | ok q=>
   rw[hE]at hD;obtain⟨x,j⟩:=q;obtain⟨cs,a1,a2,a3⟩:=hD;refine⟨_,_,_,_,_,_,a3.blk,fun k3 w6 I5 yX dG KU=>?_⟩;have z6:=dG.size;refine(zX (a3.only dG)).mono ?_;rintro _ w7 ⟨rfl,fz⟩;have z7:=fz.size;have h7:=(a3.only dG).only fz;refine⟨_,rfl,fz.same (by simp;omega),_,_,_,_,_,_,h7.blk,fun hc=>(by simp at hc),fun _ cK dy nt n1 n2 n3 n4 n5 n6=>⟨fun k=>k=b,rfl,fun e=>n2 e,fun e=>n4 e,fun cY dP _=>?_⟩⟩;have GI:=dy.size;have E1:=dP.size;have kH:(jy vk vn vs vo vl va)=cs:=bp Array.toList (Value.agg.inj a1);refine⟨jy vk vn vs vo vl va,rfl,?_,fun _=>⟨aO j,by have:=a3.lt;dsimp only;omega⟩,fin a3 cK (dG.bP (fz.bP dy)) cY dP⟩;rw[kH];exact((a2.only (dG.bP (fz.bP dy)) (by simp)).only dP fun q hq=>.inl (by simp only[aL,aU,bM]at hq;omega)).wide (by omega) (by omega)
def eV (l:aB):Ex×Int×Int:=
 if(ca l).2.1≠0 then(tG,(ca l).2.1,(ca l).2.2)
 else if(bH (ca l).1 0).2.2.1≠0 then(tG,(bH (ca l).1 0).2.2.1,(bH (ca l).1 0).2.2.2)
 else if(tk (ca l).1 (bH (ca l).1 0).2.1.toNat).k≠5 then(tG,4,(tk (ca l).1 (bH (ca l).1 0).2.1.toNat).a)
 else((bH (ca l).1 0).1,0,(bH (ca l).1 0).2.2.2)
theorem Vh {w:av} (l:aB) (hE:Er w):az aq 265 #[ab (T l)] w fun e w'=>
  ∃cs,e=ak (ai #[ah cs.toArray,ah #[O U (eV l).2.1,O U (eV l).2.2]])/\RX w' w.heap.size w'.heap.size (eV l).1 cs/\ay [] w w':=by
 refine(v5w (T l) (fun v w'=>∃cs,v=(ai #[ah cs.toArray,ah #[O U (eV l).2.1,O U (eV l).2.2]])/\RX w' w.heap.size w'.heap.size (eV l).1 cs/\ay [] w w') w ?_).mono (by
  rintro e w' ⟨v,rfl,cs,rfl,h⟩;exact⟨cs,rfl,h⟩)
 unfold v5v;intro k0 k1 w0 gN dJ jO jb bT;have z0:=bT.size;refine(DK l (hE.only bT)).mono ?_;rintro _ w1 ⟨l0,rfl,hT,bZ⟩;have z1:=bZ.size;have fb:=bT.bP bZ;generalize od:ca l=tm at*
 obtain⟨ts,c,p⟩:=tm;dsimp only at hT⊢;have I7:eV l=if c≠0 then(tG,c,p)else if(bH ts 0).2.2.1≠0 then(tG,(bH ts 0).2.2.1,(bH ts 0).2.2.2)else if(tk ts (bH ts 0).2.1.toNat).k≠5 then(tG,4,(tk ts (bH ts 0).2.1.toNat).a)else((bH ts 0).1,0,(bH ts 0).2.2.2):=by
  unfold eV;rw[od]
 refine⟨l0,_,_,rfl,bZ.same (by simp;omega),fun hc k2 w2 nW nD cp n1 n2 n3=>⟨fun k=>k=k2,rfl,fun e=>n2 e,fun e=>n3 e,fun w3 cO=>?_⟩,fun hc k3 w4 I5 yX dm=>?_⟩
 ·have hc:c≠0:=by simpa using hc
  rw[I7,if_pos hc];exact⟨_,rfl,QM _ _ _,((fb.bP cp).trans cO fun x hx=>.inr (by simp only[aL,aU,bM]at hx;omega))⟩
 ·have hc:c=0:=by simpa using hc
  rw[if_neg (by simp[hc])]at I7;have z4:=dm.size;refine(HB (hT.only dm).sl 0 ⟨by decide,by decide⟩).mono ?_;rintro _ w5 ⟨cs,rfl,hX,hj,dS⟩;have z5:=dS.size;generalize RQ:bH ts 0=pa at*
  obtain⟨x,j,c',p'⟩:=pa;dsimp only at hX hj I7⊢;obtain⟨xl,rfl,_⟩:=hX.cells;refine⟨_,_,_,_,_,_,_,_,_,rfl,dS.same (by simp;omega),fun k4 w6 sM E3 dG=>?_⟩;have z6:=dG.size;have h6:=((hT.only (dm.bP dS)).keep (w':=w6) fun k hk bJ=>dG.block k bJ (by
   have:=hT.blk hk.2;simp only[aF];dsimp only at this;omega))
  have Yq:=h6.len;have zG:ay [] w w6:=((fb.bP dm).bP dS).new dG (by omega);have fin:∀{w8 w9:av},ay [k3] w6 w8->ay [k1,k0] w8 w9->ay [] w w9:=fun h8 h9=>(zG.new h8 (by omega)).trans h9 fun x hx=>.inr (by simp only[aL,aU,bM]at hx;omega);refine⟨fun i9 i10 w7=>ay [k3] w6 w7/\((c'≠0/\i9=c'/\i10=p')∨(c'=0/\(tk ts j.toNat).k≠5/\i9=4/\i10=(tk ts j.toNat).a)∨(c'=0/\(tk ts j.toNat).k=5/\i9=0/\i10=p')),?_,?_⟩
  ·rintro i9 i10 w7 ⟨fz,Um⟩;have z7:=fz.size;refine⟨fun hi w8 fh n1 n2 n3 n4 n5 n6=>⟨fun k=>k=k3,rfl,?_,?_,fun w9 fK=>?_⟩,fun hi cK dy n1 n2 n3 n4 n5 n6=>⟨fun k=>k=k3,rfl,?_,?_,fun cY dP=>?_⟩⟩
   ·intro e;omega
   ·intro e;omega
   ·have hi:i9≠0:=by simpa using hi
    have hr:eV l=(tG,i9,i10):=by
     rw[I7];rcases Um with⟨a1,rfl,rfl⟩ | ⟨a1,a2,rfl,rfl⟩ | ⟨a1,a2,rfl,rfl⟩
     ·rw[if_pos a1]
     ·rw[if_neg (by simp[a1]),if_pos a2]
     ·exact absurd rfl hi
    rw[hr];exact⟨_,rfl,QM _ _ _,fin (fz.bP fh) fK⟩
   ·intro e;omega
   ·intro e;omega
   ·have hi:i9=0:=by simpa using hi
    have hr:eV l=(x,i9,i10):=by
     rw[I7];rcases Um with⟨a1,rfl,rfl⟩ | ⟨a1,a2,rfl,rfl⟩ | ⟨a1,a2,rfl,rfl⟩
     ·exact absurd hi a1
     ·exact absurd hi (by decide)
     ·rw[if_neg (by simp[a1]),if_neg (by simp[a2])]
    rw[hr];have wJ:ay [k3,k1,k0] w5 cY:=(((dG.trans fz fun x hx=>.inl hx).bP dy).weaken (bs':=[k3,k1,k0]) fun x hx=>.inl (by simp only[aF]at hx;simp[hx])).trans dP fun x hx=>.inl (by simp only[aL,aU,bM]at hx⊢;omega);have E1:=wJ.size;exact⟨_,rfl,(hX.only wJ fun q hq=>.inl (by simp only[aL,aU,bM]at hq;omega)).wide (by omega) E1,fin (fz.bP dy) dP⟩
  ·by_cases xn:c'=0
   ·obtain⟨KV,Fe⟩:=hj xn;obtain⟨n,rfl⟩:∃n:Nat,j=(n:Int):=⟨j.toNat,by omega⟩
    obtain⟨ad,t,cs,g1,g2,g3,g4,g5,g6⟩:=h6.sl.get KV (by omega);rw[aM,x9 (by omega)]at g2;injection g2 with g2;subst g2;unfold zW at g6;subst g6;rw[aM];refine⟨ad,fun _=>g1,(tk ts n).k,fun _=>g5.dI 0 _ rfl,fun hh=>⟨ad,g1,(tk ts n).a,g5.dI 3 _ rfl,fun dz ey=>⟨ey,.inr (.inl ⟨xn,?_,rfl,rfl⟩)⟩⟩,fun hh=>⟨Only.refl _ _,.inr (.inr ⟨xn,?_,xn,rfl⟩)⟩⟩
    ·simpa[xn]using hh
    ·simpa[xn]using hh
   ·have hb:(c'==0)=false:=by simpa using xn
    refine⟨⟨0,0,none⟩,fun hh=>(by rw[hb]at hh;cases hh),0,fun hh=>(by rw[hb]at hh;cases hh),fun hh=>(by rw[hb]at hh;cases hh),fun _=>⟨Only.refl _ _,.inl ⟨xn,rfl,rfl⟩⟩⟩
end Go.Proofs.YtmhoiicofhlgbaaGreatDoor.Con
namespace Go.Proofs.YtmhoiicofhlgbaaGreatDoor.Con
open Go.Value renaming int->O,string->ab,pointer->ae,agg->ah,tuple->ai,bool->aj
open Go.IntKind renaming i64->U,wrap->ar
open Go.Ending renaming returned->ak
open _root_.ByteArray renaming mk->ao
open _root_.Go.Proofs.Tryz renaming prog->aq
open Go.Instr renaming buildSlice->au
open Go renaming World->av,Value->aw,Calls->az
open Go.Kt renaming Only->ay
open Go Go.RowKit Go.Kt Go.Kt.V
set_option linter.unusedSimpArgs false
set_option linter.unusedVariables false
set_option maxHeartbeats 4000000
theorem QN {ts:List Tk} {i:Nat} {e:Int×Int} (h:yf ts i=.error e):e.1≠0:=by
 unfold yf at h;split at h
 ·split at h
  ·split at h
   ·cases h
   ·injection h with h;subst h;exact eJ
  ·injection h with h;subst h;exact eJ
 ·injection h with h;subst h;exact eJ
theorem DR {r:Pr} {g:Ex->Nat->Pr} {e:Int×Int} (h:yd r g=.error e):r=.error e∨∃x j,r=.ok (x,j)/\g x j=.error e:=by
 cases r with
 | error e'=>exact .inl h
 | ok p=>exact .inr ⟨p.1,p.2,rfl,h⟩
theorem Ab {d:Nat} {a:Int} {r:Pr} {e:Int×Int} (h:gU d a r=.error e):r=.error e∨e.1=21:=by
 unfold gU at h;split at h
 ·injection h with h;subst h;exact .inr rfl
 ·exact .inl h
theorem Ad {ts:List Tk} {E:Nat->Pr} {k:Int} {e:Int×Int} (hE:∀i,E i=.error e->e.1≠0):∀(g:Nat) (x:Ex) (j:Nat),gI ts E k g x j=.error e->e.1≠0
 | 0,x,j,h=>by cases h
 | g+1,x,j,h=>by
  rw[gI]at h;split at h
  ·cases h
  ·rcases DR h with h1 | ⟨y,m,h1,h2⟩
   ·exact hE _ h1
   ·exact Ad hE g _ _ h2
theorem lh {ts:List Tk} {e:Int×Int}:∀(f k d i:Nat),cx ts f k d i=.error e->e.1≠0
 | 0,k,d,i,h=>by
  rw[cx]at h;injection h with h;subst h;decide
 | f+1,k,d,i,h=>by
  rw[cx]at h;split at h
  ·unfold mz at h;split at h
   ·generalize hn:gU d (tk ts i).a (cx ts f 6 (d+1) (i+1))=r at h;cases r with
    | ok q=>cases h
    | error e'=>
     simp only[DL]at h;injection h with h;subst h;rcases Ab hn with h1 | h1
     ·exact lh f _ _ _ h1
     ·rw[h1];decide
   ·split at h
    ·rcases Ab h with h1 | h1
     ·cases hr:cx ts f 0 (d+1) (i+1)with
      | error e'=>
       rw[hr]at h1;simp only[pJ]at h1;injection h1 with h1;subst h1;exact lh f _ _ _ hr
      | ok q=>
       rw[hr]at h1;simp only[pJ]at h1;split at h1
       ·cases h1
       ·injection h1 with h1;subst h1;exact eJ
     ·rw[h1];decide
    ·split at h
     ·cases h
     ·split at h
      ·cases h
      ·split at h
       ·exact QN h
       ·injection h with h;subst h;exact eJ
  ·rcases DR h with h1 | ⟨y,m,h1,h2⟩
   ·exact lh f _ _ _ h1
   ·exact Ad (fun i hi=>lh f _ _ _ hi) _ _ _ h2
structure Ac where
 k:Int
 n:aB
 x:Ex
 a:Int
structure Mv where
 k:Int
 ev:aB
 wt:Int
 gd:Bool
 g:Ex
 acts:List Ac
 tg:List (aB)
 a:Int
structure Nb where
 k:Int
 nm:aB
 ini:aB
 dft:aB
 en:List Ac
 lv:List Ac
 mv:List Mv
 a:Int
inductive Nd where
 | mk (b:Nb) (kids:List Nd)
def Nd.b:Nd->Nb | .mk b _=>b
def Nd.kids:Nd->List Nd | .mk _ l=>l
structure Vr where
 n:aB
 v:Int
 a:Int
structure Ch where
 vars:List Vr
 root:Nd
def TB:Nb:=⟨0,[],[],[],[],[],[],0⟩
def JC:Nd:=.mk TB []
def ch0:Ch:=⟨[],JC⟩
def ac0:Ac:=⟨0,[],tG,0⟩
def tkZ:Tk:=⟨0,[],0,0⟩
structure Sx where
 i:Nat
 fc:Int
 fa:Int
 v:Int
 n:Int
 d:Int
 m:Int
 a:Int
section
variable (ts:List Tk)
def gw (s:Sx) (c:Int):Sx:=if s.fc=0 then{s with fc:=c,fa:=(tk ts s.i).a}else s
def iY (s:Sx):Sx:=if(tk ts s.i).k=5 then gw ts (gw ts s 3) 4 else gw ts s 4
def uM (c:aB):List (aB)->Nat
 | []=>0
 | x::l=>if c=x then 0 else uM c l+1
def bU (s:Sx) (l:List (aB)):Nat:=
 if s.fc≠0∨((tk ts s.i).k≠2/\(tk ts s.i).k≠4)then 0 else if uM (tk ts s.i).t l<l.length then uM (tk ts s.i).t l+1 else 0
def cJ (s:Sx):Sx:={s with i:=s.i+1}
def dA (s:Sx) (x:aB):Sx:=if bU ts s [x]=0 then iY ts s else cJ s
def eW (s:Sx) (k:Int):Tk×Sx:=if s.fc≠0∨(tk ts s.i).k≠k then(tkZ,iY ts s)else(tk ts s.i,cJ s)
def gx (s:Sx):aB×Sx:=((eW ts s 1).1.t,(eW ts s 1).2)
def lR (s:Sx):Ex×Sx:=
 if s.fc≠0 then(tG,s)
 else if(bH ts s.i).2.2.1≠0 then((bH ts s.i).1,{s with fc:=(bH ts s.i).2.2.1,fa:=(bH ts s.i).2.2.2})
 else((bH ts s.i).1,{s with i:=(bH ts s.i).2.1.toNat})
def uN (x:Int):Int:=ar U (x-1)
def Vi (x:Int):Int:=ar U (x+1)
def qM (s:Sx):Sx:=if s.a=0 then{gw ts s 2 with a:=uN s.a}else{s with a:=uN s.a}
def pK (s:Sx):Sx:=if s.m=0 then{gw ts s 2 with m:=uN s.m}else{s with m:=uN s.m}
def zv (s:Sx):Sx:=if s.n=0 then{gw ts s 2 with n:=uN s.n}else{s with n:=uN s.n}
def zw (s:Sx):Sx:=if s.v=0 then{gw ts s 2 with v:=uN s.v}else{s with v:=uN s.v}
def nA:aB:=[115,101,116]
def ik:aB:=[114,97,105,115,101]
def jz:aB:=[101,109,105,116]
def wx:aB:=[111,110]
def fA:aB:=[97,108,119,97,121,115]
def fU:aB:=[97,102,116,101,114]
def dE:aB:=[105,110,105,116,105,97,108]
def fD:aB:=[101,110,116,101,114]
def fE:aB:=[108,101,97,118,101]
def yp:aB:=[115,116,97,116,101]
def oM:aB:=[112,97,114,97,108,108,101,108]
def qN:aB:=[104,105,115,116,111,114,121]
def DS:aB:=[100,101,101,112]
def dZ:aB:=[99,104,97,114,116]
def sB:aB:=[118,97,114]
def FT (s:Sx) (k:Nat) (n:aB) (a:Int):Ac×Sx:=
 if k=2 then(⟨k,n,tG,a⟩,dA ts s [59])
 else(⟨k,n,(lR ts (dA ts s [61])).1,a⟩,dA ts (lR ts (dA ts s [61])).2 [59])
def mR (s:Sx):Ac×Sx:=
 if bU ts s [nA,ik,jz]=0 then(⟨0,[],tG,(tk ts s.i).a⟩,iY ts s)
 else if(qM ts s).fc≠0 then(⟨(bU ts s [nA,ik,jz]:Nat),[],tG,(tk ts s.i).a⟩,qM ts s)
 else FT ts (gx ts (cJ (qM ts s))).2 (bU ts s [nA,ik,jz]) (gx ts (cJ (qM ts s))).1 (tk ts s.i).a
def nI:Nat->List Ac->Sx->List Ac×Sx
 | 0,acc,s=>(acc,s)
 | f+1,acc,s=>if s.fc≠0 then(acc,s)else if bU ts s [[125]]≠0 then(acc,cJ s)else nI f (acc++[(mR ts s).1]) (mR ts s).2
def fV (s:Sx):List Ac×Sx:=nI ts (ts.length+1) [] (dA ts s [123])
def oO:Nat->aB->List (aB)->Sx->List (aB)×Sx
 | 0,_,acc,s=>(acc,s)
 | f+1,x,acc,s=>if bU ts s [x]=0 then(acc,s)else oO f [44] (acc++[(gx ts (cJ s)).1]) (gx ts (cJ s)).2
def yq (m:Mv) (s:Sx):Mv×Sx:=
 ({m with tg:=(oO ts (ts.length+1) [45,62] [] s).1},dA ts (oO ts (ts.length+1) [45,62] [] s).2 [59])
def vU (m:Mv) (s:Sx):Mv×Sx:=
 if bU ts s [[123]]=0 then yq ts m s else yq ts {m with acts:=(fV ts s).1} (fV ts s).2
def mS (m:Mv) (s:Sx):Mv×Sx:=
 if bU ts s [[91]]=0 then vU ts m s else vU ts {m with gd:=true,g:=(lR ts (cJ s)).1} (dA ts (lR ts (cJ s)).2 [93])
def Mf (k a:Int):Mv:=⟨k,[],0,false,tG,[],[],a⟩
def kL (k:Int) (s:Sx):Mv×Sx:=
 if(pK ts s).fc≠0 then(Mf k (tk ts s.i).a,pK ts s)
 else if k=1 then mS ts {Mf k (tk ts s.i).a with ev:=(gx ts (cJ (pK ts s))).1} (gx ts (cJ (pK ts s))).2
 else if k=3 then mS ts {Mf k (tk ts s.i).a with wt:=(eW ts (cJ (pK ts s)) 3).1.n} (eW ts (cJ (pK ts s)) 3).2
 else mS ts (Mf k (tk ts s.i).a) (cJ (pK ts s))
structure wK where
 i:Bool
 e:Bool
 l:Bool
def db (n:Nb) (h:wK) (s:Sx):Bool×Nb×wK×Sx:=
 if bU ts s [wx,fA,fU]≠0 then(true,{n with mv:=n.mv++[(kL ts (bU ts s [wx,fA,fU]:Nat) s).1]},h,(kL ts (bU ts s [wx,fA,fU]:Nat) s).2)
 else match bU ts s [dE,fD,fE]with
  | 0=>(false,n,h,s)
  | 1=>if h.i then(false,n,h,iY ts s)else(true,{n with ini:=(gx ts (cJ s)).1},{h with i:=true},dA ts (gx ts (cJ s)).2 [59])
  | 2=>if h.e then(false,n,h,iY ts s)else(true,{n with en:=(fV ts (cJ s)).1},{h with e:=true},(fV ts (cJ s)).2)
  | _=>if h.l then(false,n,h,iY ts s)else(true,{n with lv:=(fV ts (cJ s)).1},{h with l:=true},(fV ts (cJ s)).2)
def fi:Nat->Nb->wK->Sx->Nb×Sx
 | 0,n,_,s=>(n,s)
 | f+1,n,h,s=>if s.fc≠0 then(n,s)
  else if(db ts n h s).1 then fi f (db ts n h s).2.1 (db ts n h s).2.2.1 (db ts n h s).2.2.2 else((db ts n h s).2.1,(db ts n h s).2.2.2)
def mT:List (aB):=[yp,oM,qN,DS]
def qd (N:Int->Sx->Nd×Sx):Nat->List Nd->Sx->List Nd×Sx
 | 0,acc,s=>(acc,s)
 | f+1,acc,s=>if bU ts s mT=0 then(acc,s)else qd N f (acc++[(N (bU ts s mT:Nat) (cJ s)).1]) (N (bU ts s mT:Nat) (cJ s)).2
def nJ (N:Int->Sx->Nd×Sx) (n:Nb) (s:Sx):Nd×Sx:=
 let c:=fi ts (ts.length+1) n ⟨false,false,false⟩ {s with d:=uN s.d}
 let k:=qd ts N (ts.length+1) [] c.2
 (.mk c.1 k.1,dA ts {k.2 with d:=Vi k.2.d} [125])
def nK (s:Sx):Sx:=if(tk ts s.i).k=1 then(if(zv ts s).d=0 then gw ts (zv ts s) 21 else zv ts s)else s
def dR (k:Int) (s:Sx):Nb×Sx:=({TB with k:=k,nm:=(eW ts (nK ts s) 1).1.t,a:=(eW ts (nK ts s) 1).1.a},(eW ts (nK ts s) 1).2)
def jf:Nat->Int->Sx->Nd×Sx
 | 0,_,s=>(JC,s)
 | f+1,k,s=>
  if 3<=k then(.mk {(dR ts k s).1 with dft:=(gx ts (dA ts (dR ts k s).2 [45,62])).1} [],dA ts (gx ts (dA ts (dR ts k s).2 [45,62])).2 [59])
  else nJ ts (jf f) (dR ts k s).1 (dA ts (dR ts k s).2 [123])
def qO (s:Sx):Vr×Sx:=
 let s1:=if(tk ts s.i).k=1 then zw ts s else s
 let t:=eW ts s1 1
 let s2:=dA ts t.2 [61]
 let g:=bU ts s2 [[45]]
 let q:=eW ts (if g=0 then s2 else cJ s2) 3
 (⟨t.1.t,if g=0 then q.1.n else ar U (-q.1.n),t.1.a⟩,dA ts q.2 [59])
def qQ:Nat->List Vr->Sx->List Vr×Sx
 | 0,acc,s=>(acc,s)
 | f+1,acc,s=>if bU ts s [sB]=0 then(acc,s)else qQ f (acc++[(qO ts (cJ s)).1]) (qO ts (cJ s)).2
def sS:Sx:=⟨0,0,0,16,64,12,200,400⟩
def FU (s:Sx):Sx:=if s.fc=0/\(tk ts s.i).k≠5 then iY ts s else s
def qR:Ch×Sx:=
 let n:=dR ts 1 (dA ts sS dZ)
 let v:=qQ ts (ts.length+1) [] (dA ts n.2 [123])
 let b:=nJ ts (jf ts 14) n.1 v.2
 (⟨v.1,b.1⟩,FU ts b.2)
end
def iZ (l:aB):Ch×Int×Int:=
 if(ca l).2.1≠0 then(ch0,(ca l).2.1,(ca l).2.2)
 else if(qR (ca l).1).2.fc≠0 then(ch0,(qR (ca l).1).2.fc,(qR (ca l).1).2.fa)
 else((qR (ca l).1).1,0,0)
def mu (ts:List Tk) (s:Sx):Nat:=if s.fc=0 then ts.length-s.i else 0
structure On0 (ts:List Tk) (s s':Sx):Prop where
 lt:s.i<ts.length->s'.i<ts.length
 le:s'.fc=0->s.fc=0/\s.i<=s'.i
structure On (ts:List Tk) (s s':Sx):Prop extends On0 ts s s' where
 d:s'.d=s.d
section
variable {ts:List Tk} {s s' s'':Sx}
theorem On0.refl (ts:List Tk) (s:Sx):On0 ts s s:=⟨id,fun h=>⟨h,aK _⟩⟩
theorem On.refl (ts:List Tk) (s:Sx):On ts s s:=⟨On0.refl ts s,rfl⟩
theorem On0.trans (h:On0 ts s s') (k:On0 ts s' s''):On0 ts s s'':=⟨fun x=>k.lt (h.lt x),fun e=>by
 obtain⟨a,b⟩:=k.le e;obtain⟨c,d⟩:=h.le a;exact⟨c,aX d b⟩⟩
theorem On.trans (h:On ts s s') (k:On ts s' s''):On ts s s'':=⟨h.toOn0.trans k.toOn0,k.d.trans h.d⟩
theorem On0.mu (h:On0 ts s s'):mu ts s'<=mu ts s:=by
 unfold Con.mu;by_cases e:s'.fc=0
 ·obtain⟨a,b⟩:=h.le e;rw[if_pos e,if_pos a];omega
 ·rw[if_neg e];exact aQ _
theorem nL (c:Int):On ts s (gw ts s c):=by
 unfold gw;by_cases e:s.fc=0
 ·rw[if_pos e];exact⟨⟨id,fun _=>⟨e,aK _⟩⟩,rfl⟩
 ·rw[if_neg e];exact On.refl _ _
theorem HC {c:Int} (hc:c≠0):(gw ts s c).fc≠0:=by
 unfold gw;by_cases e:s.fc=0
 ·rw[if_pos e];exact hc
 ·rw[if_neg e];exact e
theorem BC (c:Int):(gw ts s c).i=s.i:=by
 unfold gw;split<;>rfl
theorem oP:(iY ts s).fc≠0:=by
 unfold iY;split<;>exact HC (by decide)
theorem oQ:On ts s (iY ts s):=by
 unfold iY;split
 ·exact(nL 3).trans (nL 4)
 ·exact nL 4
theorem DT (l:List (aB)):bU ts s l<=l.length:=by
 unfold bU;split
 ·exact aQ _
 ·split<;>omega
theorem cS {l:List (aB)} (h:bU ts s l≠0):s.fc=0/\(tk ts s.i).k≠5:=by
 unfold bU at h;split at h
 ·exact absurd rfl h
 ·rename_i hc;by_cases e:s.fc=0
  ·refine⟨e,fun e5=>hc (.inr ?_)⟩;rw[e5];exact⟨by decide,by decide⟩
  ·exact absurd (.inl e) hc
theorem kn (hE:nY ts) (h0:s.fc=0) (hk:(tk ts s.i).k≠5):On ts s (cJ s):=⟨⟨fun h=>hE.next h hk,fun _=>⟨h0,ic _⟩⟩,rfl⟩
theorem gJ (hE:nY ts) (x:aB):On ts s (dA ts s x):=by
 unfold dA;by_cases h:bU ts s [x]=0
 ·rw[if_pos h];exact oQ
 ·rw[if_neg h];exact kn hE (cS h).1 (cS h).2
theorem uh (hE:nY ts) {k:Int} (hk:k≠5):On ts s (eW ts s k).2:=by
 unfold eW;by_cases h:s.fc≠0∨(tk ts s.i).k≠k
 ·rw[if_pos h];exact oQ
 ·rw[if_neg h];simp only[not_or,tM]at h;exact kn hE h.1 (by rw[h.2];exact hk)
theorem nM (hE:nY ts):On ts s (gx ts s).2:=uh hE (by decide)
end
section
variable {ts:List Tk} (hE:nY ts)
include hE
theorem Vj {i:Nat} {x:Ex} {j:Nat} (hi:i<ts.length) (hk:(tk ts i).k≠5) (h:yf ts i=.ok (x,j)):j<ts.length:=by
 unfold yf at h;split at h
 ·rename_i h1;have l1:=hE.next hi hk;have l2:=hE.next l1 (sw h1);split at h
  ·rename_i h2;have l3:=hE.next l2 (by rw[h2];decide);split at h
   ·rename_i h3;have l4:=hE.next l3 (sw h3);simp only[dj,cW]at h;omega
   ·cases h
  ·cases h
 ·cases h
theorem QO {E0 One:Nat->Pr} {d i:Nat} {x:Ex} {j:Nat} (hE0:∀i x j,i<ts.length->E0 i=.ok (x,j)->j<ts.length) (hO:∀i x j,i<ts.length->One i=.ok (x,j)->j<ts.length) (hi:i<ts.length) (h:mz ts E0 One d i=.ok (x,j)):j<ts.length:=by
 unfold mz at h;split at h
 ·rename_i hs;obtain⟨y,h1,_⟩:=wS h;refine hO _ _ _ (hE.next hi ?_) (oL h1).1;rcases bS _ _▸hs with hs | hs<;>exact sw hs
 ·split at h
  ·rename_i hs;obtain⟨j',h1,h2,rfl⟩:=wT (oL h).1;exact hE.next (hE0 _ _ _ (hE.next hi (sw hs)) h1) (sw h2)
  ·split at h
   ·rename_i hk;simp only[dj,cW]at h;have:=hE.next hi (by rw[hk];decide);omega
   ·split at h
    ·rename_i hk;simp only[dj,cW]at h;have:=hE.next hi (by rw[hk];decide);omega
    ·split at h
     ·rename_i hk;exact Vj hE hi (by rw[hk.1];decide) h
     ·cases h
theorem DU {E:Nat->Pr} {k:Int} (Ue:∀i x j,i<ts.length->E i=.ok (x,j)->j<ts.length):∀(g:Nat) (x:Ex) (j:Nat) {x':Ex} {j':Nat},j<ts.length->gI ts E k g x j=.ok (x',j')->j'<ts.length
 | 0,x,j,x',j',hj,h=>by
  simp only[gI,dj,cW]at h;omega
 | g+1,x,j,x',j',hj,h=>by
  rw[gI]at h;split at h
  ·simp only[dj,cW]at h;omega
  ·rename_i ho;obtain⟨y,m,h1,h2⟩:=ue h;exact DU Ue g _ _ (Ue _ _ _ (hE.next hj (mH _ _ ho)) h1) h2
theorem qS:∀(f k d i:Nat) {x:Ex} {j:Nat},i<ts.length->cx ts f k d i=.ok (x,j)->j<ts.length
 | 0,_,_,_,_,_,_,h=>by cases h
 | f+1,k,d,i,x,j,hi,h=>by
  rw[cx]at h;split at h
  ·exact QO hE (fun i x j hi h=>qS f _ _ i hi h) (fun i x j hi h=>qS f _ _ i hi h) hi h
  ·obtain⟨y,m,h1,h2⟩:=ue h;exact DU hE (fun i x j hi h=>qS f _ _ i hi h) _ _ _ (qS f _ _ _ hi h1) h2
theorem JD {i:Nat} (h0:(bH ts i).2.2.1=0):∃j:Nat,(bH ts i).2.1=(j:Int)/\i<j/\j<ts.length:=by
 unfold bH at h0⊢;split at h0
 ·rename_i hc;rw[if_pos hc];have hi:i<ts.length:=by have:=hc.2.1;omega
  rw[aM]at h0⊢;unfold nZ at h0⊢;cases he:cx ts (eS 0 0) 0 0 i with
  | error e=>
   rw[he]at h0;obtain⟨c,p⟩:=e;exact absurd h0 (lh _ _ _ _ he)
  | ok q=>
   obtain⟨x,j⟩:=q;exact⟨j,rfl,jk _ _ _ _ he,qS hE _ _ _ _ hi he⟩
 ·cases h0
theorem nN {s s':Sx} (h0:s.fc=0) (hi:s.i<ts.length) (hk:(tk ts s.i).k≠5) (h:On0 ts (cJ s) s'):mu ts s'<mu ts s:=by
 have h1:=h.mu;have h2:=hE.next hi hk;have e1:mu ts s=ts.length-s.i:=by unfold mu;rw[if_pos h0]
 have e2:mu ts (cJ s)=ts.length-(s.i+1):=by unfold mu cJ;rw[if_pos h0]
 omega
set_option linter.unusedSectionVars false in
theorem vg {s s':Sx} (h0:s.fc=0) (hi:s.i<ts.length) (h:s'.fc≠0):mu ts s'<mu ts s:=by
 unfold mu;rw[if_neg h,if_pos h0];omega
theorem HD (s:Sx):On ts s (lR ts s).2:=by
 unfold lR;by_cases h0:s.fc≠0
 ·rw[if_pos h0];exact On.refl _ _
 ·rw[if_neg h0];by_cases h1:(bH ts s.i).2.2.1≠0
  ·rw[if_pos h1];exact⟨⟨id,fun h=>absurd h h1⟩,rfl⟩
  ·rw[if_neg h1];obtain⟨j,e,l1,l2⟩:=JD hE (i:=s.i) (by simpa using h1);dsimp only;rw[e,aM];exact⟨⟨fun _=>l2,fun h=>⟨h,Nat.le_of_lt l1⟩⟩,rfl⟩
omit hE in
theorem BD (s:Sx):On ts s (qM ts s):=by
 unfold qM;split
 ·have h:=nL (ts:=ts) (s:=s) 2;exact⟨⟨h.lt,h.le⟩,h.d⟩
 ·exact⟨⟨id,fun h=>⟨h,aK _⟩⟩,rfl⟩
omit hE in
theorem BE (s:Sx):On ts s (pK ts s):=by
 unfold pK;split
 ·have h:=nL (ts:=ts) (s:=s) 2;exact⟨⟨h.lt,h.le⟩,h.d⟩
 ·exact⟨⟨id,fun h=>⟨h,aK _⟩⟩,rfl⟩
omit hE in
theorem BF (s:Sx):On ts s (zv ts s):=by
 unfold zv;split
 ·have h:=nL (ts:=ts) (s:=s) 2;exact⟨⟨h.lt,h.le⟩,h.d⟩
 ·exact⟨⟨id,fun h=>⟨h,aK _⟩⟩,rfl⟩
omit hE in
theorem QP (s:Sx):On ts s (zw ts s):=by
 unfold zw;split
 ·have h:=nL (ts:=ts) (s:=s) 2;exact⟨⟨h.lt,h.le⟩,h.d⟩
 ·exact⟨⟨id,fun h=>⟨h,aK _⟩⟩,rfl⟩
omit hE in
theorem BG (s:Sx):(qM ts s).i=s.i:=by
 unfold qM;split
 ·exact BC 2
 ·rfl
omit hE in
theorem BH (s:Sx):(pK ts s).i=s.i:=by
 unfold pK;split
 ·exact BC 2
 ·rfl
theorem HE (s:Sx) (k:Nat) (n:aB) (a:Int):On ts s (FT ts s k n a).2:=by
 unfold FT;split
 ·exact gJ hE _
 ·exact((gJ hE _).trans (HD hE _)).trans (gJ hE _)
theorem Mg (s u:Sx) (hu:On ts s u) (hi:u.i=s.i) (h0:u.fc=0) (hk:(tk ts s.i).k≠5):On ts s (cJ u):=hu.trans (kn hE h0 (by rw[hi];exact hk))
theorem Vk (s:Sx):On ts s (mR ts s).2:=by
 unfold mR;split
 ·exact oQ
 ·rename_i h;split
  ·exact BD s
  ·rename_i h0;exact(Mg hE s _ (BD s) (BG s) (by simpa using h0) (cS h).2).trans ((nM hE).trans (HE hE _ _ _ _))
theorem Vl {s:Sx} (h0:s.fc=0) (hi:s.i<ts.length):mu ts (mR ts s).2<mu ts s:=by
 unfold mR;split
 ·exact vg hE h0 hi oP
 ·rename_i h;split
  ·rename_i h1;exact vg hE h0 hi h1
  ·rename_i h1;have e:=BG (ts:=ts) s;have hm:=(BD (ts:=ts) s).mu;exact cb (nN hE (by simpa using h1) (by rw[e];exact hi) (by rw[e];exact(cS h).2) ((nM hE).trans (HE hE _ _ _ _)).toOn0) hm
theorem HF:∀(f:Nat) (acc:List Ac) (s:Sx),On ts s (nI ts f acc s).2
 | 0,_,s=>On.refl _ _
 | f+1,acc,s=>by
  rw[nI];split
  ·exact On.refl _ _
  ·split
   ·rename_i h;exact kn hE (cS h).1 (cS h).2
   ·exact(Vk hE s).trans (HF f _ _)
theorem qT (s:Sx):On ts s (fV ts s).2:=(gJ hE _).trans (HF hE _ _ _)
theorem HG:∀(f:Nat) (x:aB) (acc:List (aB)) (s:Sx),On ts s (oO ts f x acc s).2
 | 0,_,_,s=>On.refl _ _
 | f+1,x,acc,s=>by
  rw[oO];split
  ·exact On.refl _ _
  ·rename_i h;exact((kn hE (cS h).1 (cS h).2).trans (nM hE)).trans (HG f _ _ _)
theorem DV (m:Mv) (s:Sx):On ts s (yq ts m s).2:=(HG hE _ _ _ _).trans (gJ hE _)
theorem DW (m:Mv) (s:Sx):On ts s (vU ts m s).2:=by
 unfold vU;split
 ·exact DV hE _ _
 ·exact(qT hE _).trans (DV hE _ _)
theorem yr (m:Mv) (s:Sx):On ts s (mS ts m s).2:=by
 unfold mS;split
 ·exact DW hE _ _
 ·rename_i h;exact(((kn hE (cS h).1 (cS h).2).trans (HD hE _)).trans (gJ hE _)).trans (DW hE _ _)
theorem DX (k:Int) (s u:Sx) (m:Mv):On ts u (if k=1 then mS ts {m with ev:=(gx ts u).1} (gx ts u).2 else if k=3 then mS ts {m with wt:=(eW ts u 3).1.n} (eW ts u 3).2 else mS ts m u).2:=by
 split
 ·exact(nM hE).trans (yr hE _ _)
 ·split
  ·exact(uh hE (by decide)).trans (yr hE _ _)
  ·exact yr hE _ _
theorem QS (k:Int) (s:Sx) (hk:(tk ts s.i).k≠5):On ts s (kL ts k s).2:=by
 unfold kL;split
 ·exact BE s
 ·rename_i h1;exact(Mg hE s _ (BE s) (BH s) (by simpa using h1) hk).trans (DX hE k s _ _)
theorem QT (k:Int) {s:Sx} (h0:s.fc=0) (hi:s.i<ts.length) (hk:(tk ts s.i).k≠5):mu ts (kL ts k s).2<mu ts s:=by
 unfold kL;split
 ·rename_i h1;exact vg hE h0 hi h1
 ·rename_i h1;have e:=BH (ts:=ts) s;have hm:=(BE (ts:=ts) s).mu;exact cb (nN hE (by simpa using h1) (by rw[e];exact hi) (by rw[e];exact hk) (DX hE k s _ _).toOn0) hm
theorem Ae (n:Nb) (h:wK) (s:Sx):On ts s (db ts n h s).2.2.2:=by
 unfold db;split
 ·rename_i hw;exact QS hE _ s (cS hw).2
 ·split
  ·exact On.refl _ _
  ·rename_i hw;have hw:bU ts s [dE,fD,fE]≠0:=by rw[hw];decide
   split
   ·exact oQ
   ·exact((kn hE (cS hw).1 (cS hw).2).trans (nM hE)).trans (gJ hE _)
  ·rename_i hw;have hw:bU ts s [dE,fD,fE]≠0:=by rw[hw];decide
   split
   ·exact oQ
   ·exact(kn hE (cS hw).1 (cS hw).2).trans (qT hE _)
  ·rename_i h0 h1 h2;have hw:bU ts s [dE,fD,fE]≠0:=h0;split
   ·exact oQ
   ·exact(kn hE (cS hw).1 (cS hw).2).trans (qT hE _)
theorem JE (n:Nb) (h:wK) {s:Sx} (h0:s.fc=0) (hi:s.i<ts.length) (ht:(db ts n h s).1=true):mu ts (db ts n h s).2.2.2<mu ts s:=by
 unfold db at ht⊢;split
 ·rename_i hw;exact QT hE _ h0 hi (cS hw).2
 ·rename_i hw0;rw[if_neg hw0]at ht;split
  ·rename_i hw;rw[hw]at ht;cases ht
  ·rename_i hw;rw[hw]at ht;have hw:bU ts s [dE,fD,fE]≠0:=by rw[hw];decide
   split
   ·exact vg hE h0 hi oP
   ·exact nN hE h0 hi (cS hw).2 ((nM hE).trans (gJ hE _)).toOn0
  ·rename_i hw;have hw:bU ts s [dE,fD,fE]≠0:=by rw[hw];decide
   split
   ·exact vg hE h0 hi oP
   ·exact nN hE h0 hi (cS hw).2 (qT hE _).toOn0
  ·rename_i h1 _ _;have hw:bU ts s [dE,fD,fE]≠0:=h1;split
   ·exact vg hE h0 hi oP
   ·exact nN hE h0 hi (cS hw).2 (qT hE _).toOn0
theorem tq:∀(f:Nat) (n:Nb) (h:wK) (s:Sx),On ts s (fi ts f n h s).2
 | 0,_,_,s=>On.refl _ _
 | f+1,n,h,s=>by
  rw[fi];split
  ·exact On.refl _ _
  ·split
   ·exact(Ae hE n h s).trans (tq f _ _ _)
   ·exact Ae hE n h s
theorem HH {N:Int->Sx->Nd×Sx} (d:Int) (hN:∀k s,s.d=d->s.fc=0->On ts s (N k s).2):∀(f:Nat) (acc:List Nd) (s:Sx),s.d=d->On ts s (qd ts N f acc s).2
 | 0,_,s,_=>On.refl _ _
 | f+1,acc,s,hd=>by
  rw[qd];split
  ·exact On.refl _ _
  ·rename_i h;have h1:=(kn hE (cS h).1 (cS h).2).trans (hN (bU ts s mT:Nat) (cJ s) hd (cS h).1);exact h1.trans (HH d hN f _ _ (h1.d.trans hd))
theorem QU {N:Int->Sx->Nd×Sx} {n:Nb} {s:Sx} (hd:vR s.d) (hN:∀k u,u.d=uN s.d->u.fc=0->On ts u (N k u).2):On ts s (nJ ts N n s).2:=by
 unfold nJ;dsimp only;have h1:=tq hE (ts.length+1) n ⟨false,false,false⟩ {s with d:=uN s.d};have h2:=HH hE (uN s.d) hN (ts.length+1) [] _ h1.d;have h3:=h1.trans h2;have h4:=gJ hE [125] (s:={(qd ts N (ts.length+1) [] (fi ts (ts.length+1) n ⟨false,false,false⟩ {s with d:=uN s.d}).2).2 with d:=Vi (qd ts N (ts.length+1) [] (fi ts (ts.length+1) n ⟨false,false,false⟩ {s with d:=uN s.d}).2).2.d});refine⟨⟨fun h=>h4.lt (h3.lt h),fun e=>?_⟩,h4.d.trans ?_⟩
 ·obtain⟨a,b⟩:=h4.le e;obtain⟨c,d⟩:=h3.le a;exact⟨c,aX d b⟩
 ·dsimp only;rw[h3.d];dsimp only;unfold Vi uN;have:=hd.1;have:=hd.2;simp only[IntKind.wrap_i64];omega
omit hE in
theorem QV (s:Sx):On ts s (nK ts s):=by
 unfold nK;split
 ·split
  ·exact(BF s).trans (nL _)
  ·exact BF s
 ·exact On.refl _ _
theorem yt (k:Int) (s:Sx):On ts s (dR ts k s).2:=(QV s).trans (uh hE (by decide))
omit hE in
theorem QW {k:Int} {s:Sx} (h:(dR ts k s).2.fc=0):s.d≠0:=fun e=>by
 revert h;unfold dR eW;dsimp only;by_cases h1:(tk ts s.i).k=1
 ·have hf:(nK ts s).fc≠0:=by
   unfold nK;rw[if_pos h1,if_pos ((BF s).d.trans e)];exact HC (by decide)
  rw[if_pos (.inl hf)];exact oP
 ·have e2:nK ts s=s:=by unfold nK;rw[if_neg h1]
  rw[e2,if_pos (.inr h1)];exact oP
theorem HI:∀(f:Nat) (k:Int) (s:Sx),vR s.d->On ts s (jf ts f k s).2
 | 0,_,s,_=>On.refl _ _
 | f+1,k,s,hd=>by
  rw[jf];have h1:=yt hE k s;split
  ·exact((h1.trans (gJ hE _)).trans (nM hE)).trans (gJ hE _)
  ·have h2:=h1.trans (gJ hE [123]);refine h2.trans (QU hE (by rw[h2.d];exact hd) fun k u hu _=>HI f k u ?_);rw[hu];exact Lb _
theorem Mh (s:Sx):On ts s (qO ts s).2:=by
 unfold qO;dsimp only;have h1:On ts s (if(tk ts s.i).k=1 then zw ts s else s):=by
  split
  ·exact QP s
  ·exact On.refl _ _
 have h2:∀u:Sx,On ts u (if bU ts u [[45]]=0 then u else cJ u):=fun u=>by
  split
  ·exact On.refl _ _
  ·rename_i h;exact kn hE (cS h).1 (cS h).2
 exact((((h1.trans (uh hE (by decide))).trans (gJ hE _)).trans (h2 _)).trans (uh hE (by decide))).trans (gJ hE _)
end
end Go.Proofs.YtmhoiicofhlgbaaGreatDoor.Con
namespace Go.Proofs.YtmhoiicofhlgbaaGreatDoor.Con
open Go.Value renaming int->O,string->ab,pointer->ae,agg->ah,tuple->ai,bool->aj
open Go.IntKind renaming i64->U,wrap->ar
open Go.Ending renaming returned->ak
open _root_.ByteArray renaming mk->ao
open _root_.Go.Proofs.Tryz renaming prog->aq
open Go.Instr renaming buildSlice->au
open Go renaming World->av,Value->aw,Calls->az
open Go.Kt renaming Only->ay
open Go Go.RowKit Go.Kt Go.Kt.V Go.Proofs.YtmhoiicofhlgbaaGreatDoor.Vc
set_option linter.unusedSimpArgs false
set_option linter.unusedVariables false
set_option maxHeartbeats 4000000
def mA:Nat->Rp Ex
 | 0=>fun _ _ _ _=>False
 | d+1=>fun w F x cs=>∃sl:Sl,cs=jy x.k x.n x.s x.op sl x.a/\SliceF (mA d) 6 w F sl x.cR
theorem dD:∀d,(mA d).Ok
 | 0=>⟨fun h _=>h.elim,fun h=>h.elim,fun h _=>h.elim,fun h=>h.elim⟩
 | d+1=>⟨fun⟨sl,h1,h2⟩ hk=>⟨sl,h1,SliceF.keep (dD d) h2 (by decide) hk⟩,fun⟨sl,h1,h2⟩=>⟨sl,h1,SliceF.inHeap (dD d) h2 (by decide)⟩,fun⟨sl,h1,h2⟩ hk=>⟨sl,h1,SliceF.mono (dD d) h2 hk⟩,fun⟨sl,h1,h2⟩=>by
  subst h1;intro v hv;simp only[aL,aU,bM]at hv;rcases hv with rfl | rfl | rfl | rfl | rfl | rfl<;>rfl⟩
theorem yu {α:Type} {r q:Rp α} {size:Nat} {w:av} {F:Nat->Prop} {s:Sl} {xs:List α} (h:SliceF r size w F s xs) (hi:∀x cs,x∈xs->r w F x cs->q w F x cs):SliceF q size w F s xs:=
 ⟨h.len,h.cap,h.nil0,h.big,fun j x hx=>by
  obtain⟨base,cs,h1,h2,h3,h4,h5⟩:=h.at_ j x hx;exact⟨base,cs,h1,h2,h3,h4,hi x cs (be hx) h5⟩⟩
section
variable {w w':av} {F:Nat->Prop} {x y:Ex} {cs ds:List aw}
theorem Mi:∀{d:Nat} {x:Ex} {cs:List aw},mA d w F x cs->mA (d+1) w F x cs
 | 0,_,_,h=>h.elim
 | d+1,x,cs,⟨sl,h1,h2⟩=>⟨sl,h1,yu h2 fun x cs _ h=>Mi h⟩
theorem Mj {d e:Nat} (h:d<=e) (hx:mA d w F x cs):mA e w F x cs:=by
 induction e with
 | zero=>have:d=0:=(by omega);subst this;exact hx
 | succ e ih=>
  by_cases he:d=e+1
  ·subst he;exact hx
  ·exact Mi (ih (by omega))
theorem fj {d:Nat} (h:mA d w F x cs) (hO:ay [] w w'):mA d w' F x cs:=(dD d).only h hO (by simp)
theorem RXN.ex {N:Nat->Prop} {lo hi:Nat} (h:RXN w N lo hi x cs):∃d,mA d w (fun k=>lo<=k/\k<hi) x cs:=by
 induction h with
 | leaf lo hi k n s op a=>exact⟨1,Sl.nil,rfl,SliceF.nil _ _ _ _⟩
 | one lo m g hi k n s op a x cs h1 h2 h3 h4 hn h5 ih=>
  obtain⟨d,ih⟩:=ih;obtain⟨sl,kH,_⟩:=h1.cells;refine⟨d+1,_,rfl,rfl,aK _,fun h=>(by cases h),(by decide:(1:Nat)<=9223372036854775807),fun j y hj=>?_⟩;have KV:j=0:=by
   have:=(aP.1 hj).1;simp only[Ex.cR,aW]at this;omega
  subst KV;simp only[Ex.cR,cj,aJ]at hj;subst hj;exact⟨⟨g,0,none⟩,cs,rfl,⟨h2,h4⟩,by rw[kH];rfl,by rw[ly];exact h5.cells 0 cs fun j v hv=>by rw[bm];exact hv,(dD d).mono ih fun k hk=>⟨hk.1,by omega⟩⟩
 | two lo m m' m2 g hi k n s op a x y cs ds h1 h2 h3 h4 h5 h6 h7 h8 hn h9 zD CS=>
  obtain⟨d1,zD⟩:=zD;obtain⟨d2,CS⟩:=CS;obtain⟨sl,kH,_⟩:=h1.cells;obtain⟨OA,Kp,_⟩:=h3.cells;have e1:cs.length=6:=by rw[kH];rfl
  have e2:ds.length=6:=by rw[Kp];rfl
  refine⟨max d1 d2+1,_,rfl,rfl,aK _,fun h=>(by cases h),(by decide:(2:Nat)<=9223372036854775807),fun j y hj=>?_⟩;rcases j with _ | _ | j
  ·simp only[Ex.cR,cj,aJ]at hj;subst hj;exact⟨⟨g,0,none⟩,cs,rfl,⟨by dsimp only;omega,h8⟩,e1,by rw[ly];exact h9.cells 0 cs fun j v hv=>by rw[bm,bF (aP.1 hv).1];exact hv,(dD _).mono (Mj (xr _ _) zD) fun k hk=>⟨hk.1,by omega⟩⟩
  ·simp only[Ex.cR,dv,cj,aJ]at hj;subst hj;exact⟨⟨g,0,none⟩,ds,rfl,⟨by dsimp only;omega,h8⟩,e2,by
    rw[gC];exact h9.cells 6 ds fun j v hv=>by rw[cQ (by omega),e1,dw];exact hv,(dD _).mono (Mj (vN _ _) CS) fun k hk=>⟨by omega,by omega⟩⟩
  ·simp[Ex.cR]at hj
end
def yv (f:Ex->Ex->Bool):List Ex->List Ex->Bool
 | x::xs,y::ys=>f x y&&yv f xs ys
 | _,_=>true
def yw (t:Bool) (x y:Ex):Bool:=(((((x.k !=y.k)||(x.n !=y.n))||(!decide (x.s=y.s)))||(x.op !=y.op))||(t&&(x.a !=y.a)))||((x.cR.length:Int) !=(y.cR.length:Int))
def kN (t:Bool):Nat->Ex->Ex->Bool
 | 0,_,_=>true
 | d+1,x,y=>if yw t x y then false else yv (kN t d) x.cR y.cR
theorem JF {f:Ex->Ex->Bool} {xs ys:List Ex} {n:Nat} {x y:Ex} (hx:xs[n]? =some x) (hy:ys[n]? =some y):yv f (xs.drop n) (ys.drop n)=(f x y&&yv f (xs.drop (n+1)) (ys.drop (n+1))):=by
 have e:∀{l:List Ex} {z:Ex},l[n]? =some z->l.drop n=z::l.drop (n+1):=fun h=>by
  rw[fR (aP.1 h).1,(aP.1 h).2]
 rw[e hx,e hy,yv]
theorem gV (l m:aB):((T l).toList==(T m).toList)=decide (l=m):=Sh l m
end Go.Proofs.YtmhoiicofhlgbaaGreatDoor.Con
namespace Go.Proofs.YtmhoiicofhlgbaaGreatDoor.Con
open Go.Value renaming int->O,string->ab,pointer->ae,agg->ah,tuple->ai,bool->aj
open Go.IntKind renaming i64->U,wrap->ar
open Go.Ending renaming returned->ak
open _root_.ByteArray renaming mk->ao
open _root_.Go.Proofs.Tryz renaming prog->aq
open Go.Instr renaming buildSlice->au
open Go renaming World->av,Value->aw,Calls->az
open Go.Kt renaming Only->ay
open Go Go.RowKit Go.Kt Go.Kt.V
set_option linter.unusedSimpArgs false
set_option linter.unusedVariables false
set_option maxHeartbeats 4000000
def Mk (w:av) (F:Nat->Prop) (e:TypeId) (size:Nat) (s:Sl):Prop:=s.n=0∨∃g cs,s.a=some ⟨g,0,none⟩/\F g/\Blk w g e cs/\s.n*size<=cs.length
def ja {α:Type} (t:Bool) (r:Rp α) (size:Nat) (e:TypeId) (w:av) (F:Nat->Prop) (s:Sl) (xs:List α):Prop:=SliceF r size w F s xs/\(t=true->Mk w F e size s)
section
variable {α:Type} {t:Bool} {r q:Rp α} {size:Nat} {e:TypeId} {w w':av} {F G:Nat->Prop} {s:Sl} {xs:List α} {B:Nat}
theorem Mk.keep (h:Mk w F e size s) (hk:∀k,F k->k<w.heap.size->w'.heap[k]? =w.heap[k]?):Mk w' F e size s:=by
 rcases h with h | ⟨g,cs,h1,h2,h3,h4⟩
 ·exact .inl h
 ·exact .inr ⟨g,cs,h1,h2,(hk g h2 h3.lt).trans h3,h4⟩
theorem Mk.mono (h:Mk w F e size s) (hk:∀k,F k->k<w.heap.size->G k):Mk w G e size s:=by
 rcases h with h | ⟨g,cs,h1,h2,h3,h4⟩
 ·exact .inl h
 ·exact .inr ⟨g,cs,h1,hk g h2 h3.lt,h3,h4⟩
theorem ja.keep (hr:r.Ok) (h:ja t r size e w F s xs) (hs:0<size) (hk:∀k,F k->k<w.heap.size->w'.heap[k]? =w.heap[k]?):ja t r size e w' F s xs:=⟨h.1.keep hr hs hk,fun x=>(h.2 x).keep hk⟩
theorem ja.inHeap (hr:r.Ok) (h:ja t r size e w F s xs) (hs:0<size):ja t r size e w (fun k=>F k/\k<w.heap.size) s xs:=⟨h.1.inHeap hr hs,fun x=>(h.2 x).mono fun k a b=>⟨a,b⟩⟩
theorem ja.mono (hr:r.Ok) (h:ja t r size e w F s xs) (hk:∀k,F k->G k):ja t r size e w G s xs:=⟨h.1.mono hr hk,fun x=>(h.2 x).mono fun k a _=>hk k a⟩
theorem ja.nil (t:Bool) (r:Rp α) (size:Nat) (e:TypeId) (w:av) (F:Nat->Prop):ja t r size e w F Sl.nil []:=⟨SliceF.nil _ _ _ _,fun _=>.inl rfl⟩
theorem ja.imp (h:ja t r size e w F s xs) (hi:∀x cs,x∈xs->r w F x cs->q w F x cs):ja t q size e w F s xs:=⟨yu h.1 hi,h.2⟩
theorem ja.off (h:ja t r size e w F s xs) (hi:∀x cs,x∈xs->r w F x cs->q w F x cs):ja false q size e w F s xs:=⟨yu h.1 hi,fun h=>(by cases h)⟩
theorem _root_.Go.Kt.Own.sl (hr:r.Ok) (h:Own r size e B w F s xs) (hF:∀k,B<=k->F k):ja true r size e w F s xs:=by
 refine⟨(h.slice hr).mono hr fun k hk=>hk.elim id fun x=>hF k x.1,fun _=>?_⟩;rcases h with⟨rfl,rfl⟩ | ⟨g,css,tail,h1,h2,h4,h5,h6,h7,h9,h8⟩
 ·exact .inl rfl
 ·exact .inr ⟨g,_,h1,hF g h2,h4,by rw[aD,ny.Gv h8,<-h6];omega⟩
end
def KK (t:Bool):Nat->Rp Ex
 | 0=>fun _ _ _ _=>False
 | d+1=>fun w F x cs=>∃sl:Sl,cs=jy x.k x.n x.s x.op sl x.a/\ja t (KK t d) 6 51 w F sl x.cR
theorem n8 (t:Bool):∀d,(KK t d).Ok
 | 0=>⟨fun h _=>h.elim,fun h=>h.elim,fun h _=>h.elim,fun h=>h.elim⟩
 | d+1=>⟨fun⟨sl,h1,h2⟩ hk=>⟨sl,h1,ja.keep (n8 t d) h2 (by decide) hk⟩,fun⟨sl,h1,h2⟩=>⟨sl,h1,ja.inHeap (n8 t d) h2 (by decide)⟩,fun⟨sl,h1,h2⟩ hk=>⟨sl,h1,ja.mono (n8 t d) h2 hk⟩,fun⟨sl,h1,h2⟩=>by
  subst h1;intro v hv;simp only[aL,aU,bM]at hv;rcases hv with rfl | rfl | rfl | rfl | rfl | rfl<;>rfl⟩
theorem Ml {t:Bool} {w:av} {F:Nat->Prop}:∀{d:Nat} {x:Ex} {cs:List aw},KK t d w F x cs->KK t (d+1) w F x cs
 | 0,_,_,h=>h.elim
 | d+1,x,cs,⟨sl,h1,h2⟩=>⟨sl,h1,h2.imp fun x cs _ h=>Ml h⟩
theorem FV {t:Bool} {w:av} {F:Nat->Prop} {d e:Nat} {x:Ex} {cs:List aw} (h:d<=e) (hx:KK t d w F x cs):KK t e w F x cs:=by
 induction e with
 | zero=>have:d=0:=(by omega);subst this;exact hx
 | succ e ih=>
  by_cases he:d=e+1
  ·subst he;exact hx
  ·exact Ml (ih (by omega))
theorem tt {t:Bool} {w:av} {F:Nat->Prop}:∀{d:Nat} {x:Ex} {cs:List aw},KK t d w F x cs->mA d w F x cs
 | 0,_,_,h=>h.elim
 | d+1,x,cs,⟨sl,h1,h2⟩=>⟨sl,h1,yu h2.1 fun x cs _ h=>tt h⟩
theorem FW {w:av} {F:Nat->Prop}:∀{d:Nat} {x:Ex} {cs:List aw},mA d w F x cs->KK false d w F x cs
 | 0,_,_,h=>h.elim
 | d+1,x,cs,⟨sl,h1,h2⟩=>⟨sl,h1,yu h2 fun x cs _ h=>FW h,fun h=>(by cases h)⟩
theorem RXN.xg {w:av} {x:Ex} {cs:List aw} {N:Nat->Prop} {lo hi:Nat} (h:RXN w N lo hi x cs):∃d,KK true d w (fun k=>lo<=k/\k<hi) x cs:=by
 induction h with
 | leaf lo hi k n s op a=>exact⟨1,Sl.nil,rfl,ja.nil _ _ _ _ _ _⟩
 | one lo m g hi k n s op a x cs h1 h2 h3 h4 hn h5 ih=>
  obtain⟨d,ih⟩:=ih;obtain⟨sl,kH,_⟩:=h1.cells;refine⟨d+1,_,rfl,⟨rfl,aK _,fun h=>(by cases h),(by decide:(1:Nat)<=9223372036854775807),fun j y hj=>?_⟩,fun _=>.inr ⟨g,cs,rfl,⟨h2,h4⟩,h5,by rw[kH];exact aK _⟩⟩;have KV:j=0:=by
   have:=(aP.1 hj).1;simp only[Ex.cR,aW]at this;omega
  subst KV;simp only[Ex.cR,cj,aJ]at hj;subst hj;exact⟨⟨g,0,none⟩,cs,rfl,⟨h2,h4⟩,by rw[kH];rfl,by rw[ly];exact h5.cells 0 cs fun j v hv=>by rw[bm];exact hv,(n8 true d).mono ih fun k hk=>⟨hk.1,by omega⟩⟩
 | two lo m m' m2 g hi k n s op a x y cs ds h1 h2 h3 h4 h5 h6 h7 h8 hn h9 zD CS=>
  obtain⟨d1,zD⟩:=zD;obtain⟨d2,CS⟩:=CS;obtain⟨sl,kH,_⟩:=h1.cells;obtain⟨OA,Kp,_⟩:=h3.cells;have e1:cs.length=6:=by rw[kH];rfl
  have e2:ds.length=6:=by rw[Kp];rfl
  refine⟨max d1 d2+1,_,rfl,⟨rfl,aK _,fun h=>(by cases h),(by decide:(2:Nat)<=9223372036854775807),fun j y hj=>?_⟩,fun _=>.inr ⟨g,cs++ds,rfl,⟨by omega,h8⟩,h9,by rw[aD,e1,e2];exact aK _⟩⟩;rcases j with _ | _ | j
  ·simp only[Ex.cR,cj,aJ]at hj;subst hj;exact⟨⟨g,0,none⟩,cs,rfl,⟨by dsimp only;omega,h8⟩,e1,by rw[ly];exact h9.cells 0 cs fun j v hv=>by rw[bm,bF (aP.1 hv).1];exact hv,(n8 true _).mono (FV (xr _ _) zD) fun k hk=>⟨hk.1,by omega⟩⟩
  ·simp only[Ex.cR,dv,cj,aJ]at hj;subst hj;exact⟨⟨g,0,none⟩,ds,rfl,⟨by dsimp only;omega,h8⟩,e2,by
    rw[gC];exact h9.cells 6 ds fun j v hv=>by rw[cQ (by omega),e1,dw];exact hv,(n8 true _).mono (FV (vN _ _) CS) fun k hk=>⟨by omega,by omega⟩⟩
  ·simp[Ex.cR]at hj
def rE (t:Bool):Rp Ex:=fun w F x cs=>∃d,KK t d w F x cs
theorem fO (t:Bool):(rE t).Ok:=⟨fun⟨d,h⟩ hk=>⟨d,(n8 t d).keep h hk⟩,fun⟨d,h⟩=>⟨d,(n8 t d).inHeap h⟩,fun⟨d,h⟩ hk=>⟨d,(n8 t d).mono h hk⟩,fun⟨d,h⟩=>(n8 t d).one h⟩
theorem dU {t:Bool} {w:av} {F:Nat->Prop} {x:Ex} {cs:List aw} (h:rE t w F x cs):∃sl,cs=jy x.k x.n x.s x.op sl x.a:=by
 obtain⟨d,h⟩:=h;cases d with
 | zero=>exact h.elim
 | succ d=>obtain⟨sl,h,_⟩:=h;exact⟨sl,h⟩
theorem Mm {t:Bool} {w:av} {F:Nat->Prop} {x:Ex} {cs:List aw} (h:rE t w F x cs):rE false w F x cs:=by
 obtain⟨d,h⟩:=h;exact⟨d,FW (tt h)⟩
theorem XU (t:Bool) (w:av) (F:Nat->Prop):rE t w F tG (jy 0 0 [] 0 Sl.nil 0):=⟨1,Sl.nil,rfl,ja.nil _ _ _ _ _ _⟩
def TC (k:Int) (n:aB) (xc:List aw) (a:Int):List aw:=O U k::ab (T n)::(xc++[O U a])
def ot (t:Bool):Rp Ac:=fun w F x cs=>∃xc,cs=TC x.k x.n xc x.a/\rE t w F x.x xc
theorem ci (t:Bool):(ot t).Ok:=⟨fun⟨c,h1,h2⟩ hk=>⟨c,h1,(fO t).keep h2 hk⟩,fun⟨c,h1,h2⟩=>⟨c,h1,(fO t).inHeap h2⟩,fun⟨c,h1,h2⟩ hk=>⟨c,h1,(fO t).mono h2 hk⟩,fun⟨c,h1,h2⟩=>by
 subst h1;intro v hv;simp only[TC,aL,cq,aU,bM]at hv;rcases hv with rfl | rfl | h | rfl
 ·rfl
 ·rfl
 ·exact(fO t).one h2 v h
 ·rfl⟩
def mvv (k:Int) (ev:aB) (wt:Int) (gd:Bool) (gc:List aw) (pW tg:Sl) (a:Int):List aw:=O U k::ab (T ev)::O U wt::aj gd::(gc++[pW.v,tg.v,O U a])
def wV (t:Bool):Rp Mv:=fun w F x cs=>∃gc pW tg,cs=mvv x.k x.ev x.wt x.gd gc pW tg x.a/\rE t w F x.g gc/\ja t (ot t) 9 116 w F pW x.acts/\ja t iW 1 9 w F tg x.tg
theorem gp (t:Bool):(wV t).Ok:=⟨fun⟨c,pW,tg,h1,h2,h3,h4⟩ hk=>⟨c,pW,tg,h1,(fO t).keep h2 hk,h3.keep (ci t) (by decide) hk,h4.keep cG (by decide) hk⟩,
 fun⟨c,pW,tg,h1,h2,h3,h4⟩=>⟨c,pW,tg,h1,(fO t).inHeap h2,h3.inHeap (ci t) (by decide),h4.inHeap cG (by decide)⟩,
 fun⟨c,pW,tg,h1,h2,h3,h4⟩ hk=>⟨c,pW,tg,h1,(fO t).mono h2 hk,h3.mono (ci t) hk,h4.mono cG hk⟩,
 fun⟨c,pW,tg,h1,h2,h3,h4⟩=>by
  subst h1;intro v hv;simp only[mvv,aL,cq,aU,bM]at hv;rcases hv with rfl | rfl | rfl | rfl | h | rfl | rfl | rfl
  ·rfl
  ·rfl
  ·rfl
  ·rfl
  ·exact(fO t).one h2 v h
  ·rfl
  ·rfl
  ·rfl⟩
def wW:Rp Vr:=fun _ _ x cs=>cs=[ab (T x.n),O U x.v,O U x.a]
theorem ec:wW.Ok:=⟨fun h _=>h,fun h=>h,fun h _=>h,fun h=>by
 unfold wW at h;subst h;intro v hv;simp only[aL,aU,bM]at hv;rcases hv with rfl | rfl | rfl<;>rfl⟩
abbrev mU (k:Int) (nm ini dft:aB) (en lv mv kids:Sl) (a:Int):List aw:=[O U k,ab (T nm),ab (T ini),ab (T dft),en.v,lv.v,mv.v,kids.v,O U a]
def BI (t:Bool) (w:av) (F:Nat->Prop) (x:Nb) (en lv mv:Sl):Prop:=ja t (ot t) 9 116 w F en x.en/\ja t (ot t) 9 116 w F lv x.lv/\ja t (wV t) 13 54 w F mv x.mv
def li (t:Bool):Nat->Rp Nd
 | 0=>fun _ _ _ _=>False
 | d+1=>fun w F x cs=>∃en lv mv kids:Sl,cs=mU x.b.k x.b.nm x.b.ini x.b.dft en lv mv kids x.b.a/\BI t w F x.b en lv mv/\ja t (li t d) 9 27 w F kids x.kids
section
variable {t:Bool} {w w':av} {F G:Nat->Prop} {x:Nb} {en lv mv:Sl}
theorem BI.keep (h:BI t w F x en lv mv) (hk:∀k,F k->k<w.heap.size->w'.heap[k]? =w.heap[k]?):BI t w' F x en lv mv:=⟨h.1.keep (ci t) (by decide) hk,h.2.1.keep (ci t) (by decide) hk,h.2.2.keep (gp t) (by decide) hk⟩
theorem BI.inHeap (h:BI t w F x en lv mv):BI t w (fun k=>F k/\k<w.heap.size) x en lv mv:=⟨h.1.inHeap (ci t) (by decide),h.2.1.inHeap (ci t) (by decide),h.2.2.inHeap (gp t) (by decide)⟩
theorem BI.mono (h:BI t w F x en lv mv) (hk:∀k,F k->G k):BI t w G x en lv mv:=⟨h.1.mono (ci t) hk,h.2.1.mono (ci t) hk,h.2.2.mono (gp t) hk⟩
end
theorem cf (t:Bool):∀d,(li t d).Ok
 | 0=>⟨fun h _=>h.elim,fun h=>h.elim,fun h _=>h.elim,fun h=>h.elim⟩
 | d+1=>⟨fun⟨en,lv,mv,kids,h1,h2,h3⟩ hk=>⟨en,lv,mv,kids,h1,h2.keep hk,ja.keep (cf t d) h3 (by decide) hk⟩,
  fun⟨en,lv,mv,kids,h1,h2,h3⟩=>⟨en,lv,mv,kids,h1,h2.inHeap,ja.inHeap (cf t d) h3 (by decide)⟩,
  fun⟨en,lv,mv,kids,h1,h2,h3⟩ hk=>⟨en,lv,mv,kids,h1,h2.mono hk,ja.mono (cf t d) h3 hk⟩,fun⟨en,lv,mv,kids,h1,h2,h3⟩=>by
  subst h1;intro v hv;simp only[aL,aU,bM]at hv;rcases hv with rfl | rfl | rfl | rfl | rfl | rfl | rfl | rfl | rfl<;>rfl⟩
theorem Mn {t:Bool} {w:av} {F:Nat->Prop}:∀{d:Nat} {x:Nd} {cs:List aw},li t d w F x cs->li t (d+1) w F x cs
 | 0,_,_,h=>h.elim
 | d+1,x,cs,⟨en,lv,mv,kids,h1,h2,h3⟩=>⟨en,lv,mv,kids,h1,h2,h3.imp fun x cs _ h=>Mn h⟩
theorem Vm {t:Bool} {w:av} {F:Nat->Prop} {d e:Nat} {x:Nd} {cs:List aw} (h:d<=e) (hx:li t d w F x cs):li t e w F x cs:=by
 induction e with
 | zero=>have:d=0:=(by omega);subst this;exact hx
 | succ e ih=>
  by_cases he:d=e+1
  ·subst he;exact hx
  ·exact Mn (ih (by omega))
theorem BJ {t:Bool} {w:av} {F:Nat->Prop} {x:Ac} {cs:List aw} (h:ot t w F x cs):ot false w F x cs:=by
 obtain⟨c,h1,h2⟩:=h;exact⟨c,h1,Mm h2⟩
theorem QX {t:Bool} {w:av} {F:Nat->Prop} {x:Mv} {cs:List aw} (h:wV t w F x cs):wV false w F x cs:=by
 obtain⟨c,pW,tg,h1,h2,h3,h4⟩:=h;exact⟨c,pW,tg,h1,Mm h2,h3.off fun _ _ _ h=>BJ h,h4.off fun _ _ _ h=>h⟩
theorem BI.off {t:Bool} {w:av} {F:Nat->Prop} {x:Nb} {en lv mv:Sl} (h:BI t w F x en lv mv):BI false w F x en lv mv:=⟨h.1.off fun _ _ _ h=>BJ h,h.2.1.off fun _ _ _ h=>BJ h,h.2.2.off fun _ _ _ h=>QX h⟩
theorem HJ {t:Bool} {w:av} {F:Nat->Prop}:∀{d:Nat} {x:Nd} {cs:List aw},li t d w F x cs->li false d w F x cs
 | 0,_,_,h=>h.elim
 | d+1,x,cs,⟨en,lv,mv,kids,h1,h2,h3⟩=>⟨en,lv,mv,kids,h1,h2.off,h3.off fun x cs _ h=>HJ h⟩
structure ChR (t:Bool) (d:Nat) (w:av) (F:Nat->Prop) (c:Ch) (vs:Sl) (cs:List aw):Prop where
 vars:ja t wW 3 79 w F vs c.vars
 root:li t d w F c.root cs
abbrev Fr (B:Nat):Nat->Prop:=fun k=>B<=k
section
variable {α:Type} {r:Rp α} {size:Nat} {e:TypeId} {w w':av} {s:Sl} {xs:List α} {B:Nat}
theorem _root_.Go.Kt.Own.stay (hr:r.Ok) (h:Own r size e B w (Fr B) s xs) {bs:List Nat} (hO:ay bs w w') (hb:∀x,x∈bs->x<B∨w.heap.size<=x):Own r size e B w' (Fr B) s xs:=by
 refine((h.inHeap hr).keep hr fun k hk bJ=>hO.block k bJ fun hm=>?_).mono hr fun k hk=>hk.1;have wI:B<=k/\k<w.heap.size:=by
  rcases hk with hk | hk
  ·exact hk
  ·exact⟨hk.1,bJ⟩
 rcases hb k hm with h | h<;>omega
theorem _root_.Go.Kt.Own.new (h:Own r size e B w (Fr B) s xs) {k:Nat} (hk:w.heap.size<=k):s.a≠some ⟨k,0,none⟩:=fun e=>by
 have:=(h.blk e).2;dsimp only at this;omega
end
end Go.Proofs.YtmhoiicofhlgbaaGreatDoor.Con
namespace Go.Proofs.YtmhoiicofhlgbaaGreatDoor.Con
open Go.Value renaming int->O,string->ab,pointer->ae,agg->ah,tuple->ai,bool->aj
open Go.IntKind renaming i64->U,wrap->ar
open Go.Ending renaming returned->ak
open _root_.ByteArray renaming mk->ao
open _root_.Go.Proofs.Tryz renaming prog->aq
open Go.Instr renaming buildSlice->au
open Go renaming World->av,Value->aw,Calls->az
open Go.Kt renaming Only->ay
open Go Go.RowKit Go.Kt Go.Kt.V Go.Proofs.YtmhoiicofhlgbaaGreatDoor.Vc
set_option linter.unusedSimpArgs false
set_option linter.unusedVariables false
set_option maxHeartbeats 4000000
theorem FX (t:Bool):∀(d:Nat) {e:Nat} {w:av} {F G:Nat->Prop} {x y:Ex} {cs ds:List aw},mA d w F x cs->mA e w G y ds->
  az aq 159 #[ah cs.toArray,ah ds.toArray,aj t] w fun r w'=>r=ak (aj (kN t d x y))/\ay [] w w'
 | 0,_,_,_,_,_,_,_,_,h,_=>h.elim
 | d+1,0,_,_,_,_,_,_,_,_,h=>h.elim
 | d+1,e+1,w,F,G,x,y,cs,ds,⟨sl,h1,h2⟩,⟨fW,h3,h4⟩=>by
  subst h1 h3;refine ret (agJ _ _ _ _ _ _ _ _ _ _ _ _ _ _ _ ?_);unfold aaM;intro k0 k1 w0 gN dJ jO jb bT;have n1:=h2.len;have n2:=h4.len;have c1:=h2.cap;have b1:=h2.big;have hcond:((((((x.k !=y.k)||(x.n !=y.n))||(!((T x.s).toList==(T y.s).toList)))||(x.op !=y.op))||(t&&(x.a !=y.a)))||((sl.n:Int) !=(fW.n:Int)))=yw t x y:=by
   rw[gV,n1,n2];rfl
  rw[hcond];refine⟨fun hc=>⟨by rw[kN,if_pos hc],bT⟩,fun hc=>?_⟩;have dN:x.cR.length=y.cR.length:=by
   unfold yw at hc;rw[dX]at hc;have:=hc.2;simp only[bne_eq_false_iff_eq]at this;omega
  rw[kN,if_neg (by rw[hc];decide)];refine⟨fun nv i w'=>∃n:Nat,n<=x.cR.length/\i=(n:Int)/\nv=x.cR.length-n/\yv (kN t d) x.cR y.cR=yv (kN t d) (x.cR.drop n) (y.cR.drop n)/\ay [] w w'/\w0.heap.size<=w'.heap.size,x.cR.length,⟨0,aQ _,rfl,rfl,rfl,bT,aK _⟩,?_⟩;rintro nv _ w1 ⟨n,hn,rfl,rfl,eU,bZ,z1⟩;refine⟨fun bJ=>?_,fun kO=>?_⟩
  ·have bJ:(n:Int)<(sl.n:Int):=aG bJ;obtain⟨p,x1,cs1,g1,g2,g3,g4,g5,g6⟩:=(SliceF.only (dD d) (by decide) h2 bZ (by simp)).get (aO n) bJ;obtain⟨p',y1,ds1,m1,m2,m3,m4,m5,m6⟩:=(SliceF.only (dD e) (by decide) h4 bZ (by simp)).get (i:=(n:Int)) (aO n) (by omega);rw[aM]at g2 m2;refine⟨p,g1,fun w2 cp=>?_⟩;have hOO:=bZ.bP cp;have Cy:=fj g6 cp;have m6':=fj m6 cp;have tc:∃(k n:Int) (s:aB) (o:Int) (l:Sl) (a:Int),cs1=jy k n s o l a:=by
    cases d with
    | zero=>exact g6.elim
    | succ d=>obtain⟨l,kH,_⟩:=g6;exact⟨_,_,_,_,l,_,kH⟩
   have td:∃(k n:Int) (s:aB) (o:Int) (l:Sl) (a:Int),ds1=jy k n s o l a:=by
    cases e with
    | zero=>exact m6.elim
    | succ e=>obtain⟨l,kH,_⟩:=m6;exact⟨_,_,_,_,l,_,kH⟩
   obtain⟨a1,a2,a3,a4,a5,a6,rfl⟩:=tc;obtain⟨b1,b2,b3,b4,b5,b6,rfl⟩:=td;have g5':=g5.keep (cp.block _ g5.lt (by simp));have m5':=m5.keep (cp.block _ m5.lt (by simp));refine⟨_,_,_,_,_,_,g5',p',m1,_,_,_,_,_,_,m5',(FX t d Cy m6').mono ?_⟩;rintro _ w3 ⟨rfl,cO⟩;have z2:=cp.size;have z3:=cO.size;have kb:=JF (f:=kN t d) g2 m2;refine⟨_,rfl,cO.same (by
    simp;omega),fun hb=>⟨?_,hOO.bP cO⟩,fun hb=>⟨x.cR.length-(n+1),by omega,n+1,by omega,by rw[fy (by omega) (by omega)];rfl,rfl,?_,hOO.bP cO,by omega⟩⟩
   ·rw[eU,kb];have hb:kN t d x1 y1=false:=by simpa using hb
    rw[hb,da]
   ·have hb:kN t d x1 y1=true:=by simpa using hb
    rw[eU,kb,hb,bK]
  ·have kO:¬(n:Int)<(sl.n:Int):=aI kO;have:n=x.cR.length:=by omega
   subst this;rw[eU,cX (aK _)];exact⟨rfl,bZ⟩
theorem jt {d:Nat} {w:av} {F:Nat->Prop} {x:Ex} {cs:List aw} (h:mA d w F x cs):∃sl:Sl,cs=jy x.k x.n x.s x.op sl x.a:=by
 cases d with
 | zero=>exact h.elim
 | succ d=>obtain⟨l,kH,_⟩:=h;exact⟨l,kH⟩
def sT:Nat->Ex->Prop
 | 0,_=>True
 | d+1,x=>x.s.length<4611686018427387903/\∀y,y∈x.cR->sT d y
def mB (f:Ex->Nat):List Ex->Nat
 | []=>0
 | x::xs=>f x+mB f xs
def kq:Nat->Ex->Nat
 | 0,_=>0
 | d+1,x=>1+mB (kq d) x.cR
def jm:Nat->Ex->Prop
 | 0,_=>True
 | d+1,x=>vR x.n/\∀y,y∈x.cR->jm d y
theorem HK {d:Nat}:∀{xs:List Ex},xs.length<=mB (kq (d+1)) xs
 | []=>aK _
 | x::xs=>by
  rw[mB,aH];have:=HK (d:=d) (xs:=xs);rw[kq];omega
theorem Mo {d:Nat}:∀{xs:List Ex} {x:Ex},x∈xs->kq d x<=mB (kq d) xs
 | [],_,h=>by simp at h
 | y::xs,x,h=>by
  rw[mB];rcases aL.1 h with rfl | h
  ·omega
  ·have:=Mo (d:=d) h;omega
theorem JG (t:Bool) (x:Ex):yw t x x=false:=by simp[yw]
theorem Af (t:Bool):∀(d:Nat) (x:Ex),kN t d x x=true
 | 0,_=>rfl
 | d+1,x=>by
  rw[kN,if_neg (by rw[JG];decide)];have:∀l:List Ex,yv (kN t d) l l=true:=fun l=>by
   induction l with
   | nil=>rfl
   | cons y l ih=>rw[yv,Af t d y,ih];rfl
  exact this _
theorem QY {w:av} {F G:Nat->Prop} {s t:Sl} {l m:List (aB)} (h:SliceF iW 1 w F s l) (k:SliceF iW 1 w G t m):
  az aq 31 #[s.v,t.v] w fun e w'=>e=ak (aj (decide (l=m)))/\ay [] w w':=by
 refine ret (agL _ _ _ _ ?_);unfold aaO;have h1:=h.len;have h2:=h.cap;have h3:=h.big;have k1:=k.len;refine⟨fun hc=>?_,fun hc=>?_⟩
 ·have hc:¬(s.n:Int)=(t.n:Int):=by simpa using hc
  rw[aZ (fun e=>hc (by rw[h1,k1,e]))];exact⟨rfl,Only.refl _ _⟩
 ·have hc:(s.n:Int)=(t.n:Int):=by simpa using hc
  have hlm:l.length=m.length:=by omega
  refine⟨fun nv i w'=>∃n:Nat,n<=l.length/\i=(n:Int)/\nv=l.length-n/\l.take n=m.take n/\ay [] w w',l.length,⟨0,aQ _,rfl,rfl,by simp,Only.refl _ _⟩,?_⟩;rintro nv _ w0 ⟨n,hn,rfl,rfl,he,hO⟩;refine⟨fun bJ=>?_,fun kO=>?_⟩
  ·have bJ:(n:Int)<(s.n:Int):=aG bJ;obtain⟨p,x,cs,a1,a2,a3,a4,a5,a6⟩:=(SliceF.only cG (by decide) h hO (by simp)).get (aO n) bJ;obtain⟨q,y,ds,b1,b2,b3,b4,b5,b6⟩:=(SliceF.only cG (by decide) k hO (by simp)).get (i:=(n:Int)) (aO n) (by omega);rw[aM]at a2 b2;unfold iW at a6 b6;subst a6 b6;refine⟨p,a1,_,a5,q,b1,_,b5,?_⟩;rw[gV];refine⟨fun gf w1 bZ=>?_,fun heq w2 cp=>⟨l.length-(n+1),by omega,n+1,by omega,by rw[fy (by omega) (by omega)];rfl,rfl,?_,hO.bP cp⟩⟩
   ·have gf:x≠y:=by simpa using gf
    rw[aZ (fun e=>gf (by rw[e,b2]at a2;exact(Option.some.inj a2).symm))];exact⟨rfl,hO.bP bZ⟩
   ·have heq:x=y:=by simpa using heq
    rw[bn,bn,he,a2,b2,heq]
  ·have kO:¬(n:Int)<(s.n:Int):=aI kO;rw[bB (by omega),bB (by omega)]at he;rw[bh he];exact⟨rfl,hO⟩
def iu {α:Type} (R:α->α->Prop) (xs ys:List α):Prop:=xs.length=ys.length/\∀(i:Nat) (x y:α),xs[i]? =some x->ys[i]? =some y->R x y
theorem iu.refl {α:Type} {R:α->α->Prop} {xs:List α} (h:∀x,x∈xs->R x x):iu R xs xs:=⟨rfl,fun i x y hx hy=>by
 rw[hx]at hy;injection hy with hy;subst hy;exact h x (be hx)⟩
def Pn (t:Bool) (x y:Ex):Prop:=∀d,kN t d x y=true
structure AcE (t:Bool) (x y:Ac):Prop where
 k:x.k=y.k
 n:x.n=y.n
 e:Pn t x.x y.x
 a:t=true->x.a=y.a
structure MvE (t:Bool) (x y:Mv):Prop where
 k:x.k=y.k
 ev:x.ev=y.ev
 wt:x.wt=y.wt
 gd:x.gd=y.gd
 g:Pn t x.g y.g
 acts:iu (AcE t) x.acts y.acts
 tg:x.tg=y.tg
 a:t=true->x.a=y.a
structure NbE (t:Bool) (x y:Nb):Prop where
 k:x.k=y.k
 nm:x.nm=y.nm
 ini:x.ini=y.ini
 dft:x.dft=y.dft
 en:iu (AcE t) x.en y.en
 lv:iu (AcE t) x.lv y.lv
 mv:iu (MvE t) x.mv y.mv
 a:t=true->x.a=y.a
def TD (t:Bool):Nat->Nd->Nd->Prop
 | 0,_,_=>True
 | d+1,x,y=>NbE t x.b y.b/\iu (TD t d) x.kids y.kids
structure VrE (t:Bool) (x y:Vr):Prop where
 n:x.n=y.n
 v:x.v=y.v
 a:t=true->x.a=y.a
structure ChE (t:Bool) (d:Nat) (x y:Ch):Prop where
 vars:iu (VrE t) x.vars y.vars
 root:TD t d x.root y.root
theorem Pn.refl (t:Bool) (x:Ex):Pn t x x:=fun d=>Af t d x
theorem AcE.refl (t:Bool) (x:Ac):AcE t x x:=⟨rfl,rfl,Pn.refl t _,fun _=>rfl⟩
theorem MvE.refl (t:Bool) (x:Mv):MvE t x x:=⟨rfl,rfl,rfl,rfl,Pn.refl t _,iu.refl fun y _=>AcE.refl t y,rfl,fun _=>rfl⟩
theorem NbE.refl (t:Bool) (x:Nb):NbE t x x:=⟨rfl,rfl,rfl,rfl,iu.refl fun y _=>AcE.refl t y,iu.refl fun y _=>AcE.refl t y,iu.refl fun y _=>MvE.refl t y,fun _=>rfl⟩
theorem TD.refl (t:Bool):∀(d:Nat) (x:Nd),TD t d x x
 | 0,_=>trivial
 | d+1,x=>⟨NbE.refl t _,iu.refl fun y _=>TD.refl t d y⟩
theorem ChE.refl (t:Bool) (d:Nat) (x:Ch):ChE t d x x:=⟨iu.refl fun y _=>⟨rfl,rfl,fun _=>rfl⟩,TD.refl t d _⟩
section
variable {w w':av} {F G:Nat->Prop} {t:Bool}
theorem TE {x:Ex} {cs:List aw} (h:rE false w F x cs):∃d,mA d w F x cs:=by
 obtain⟨d,h⟩:=h;exact⟨d,tt h⟩
theorem HL {x y:Ex} {cs ds:List aw} (hx:rE false w F x cs) (hy:rE false w G y ds) (hE:Pn t x y):az aq 159 #[ah cs.toArray,ah ds.toArray,aj t] w fun r w'=>r=ak (aj true)/\ay [] w w':=by
 obtain⟨d,hx⟩:=TE hx;obtain⟨e,hy⟩:=TE hy;refine(FX t d hx hy).mono ?_;rintro _ w1 ⟨rfl,hO⟩;rw[hE d];exact⟨rfl,hO⟩
theorem Mp {k:Int} {n:aB} {xc:List aw} {a:Int} {ad:Addr} (h:Cells w ad (TC k n xc a)):Cells w (ad.add 2) xc:=h.sub 2 fun j v hj=>by
 have hl:=(aP.1 hj).1;rw[jR];show(TC k n xc a)[j+2]? =_;unfold TC;rw[dv,dv,bF hl];exact hj
theorem HM {k:Int} {n:aB} {k' n':Int} {s:aB} {op:Int} {sl:Sl} {a' a:Int} {ad:Addr} (h:Cells w ad (TC k n (jy k' n' s op sl a') a)):Cells w (ad.add 8) [O U a]:=h.dI 8 _ rfl
theorem tu {a b:Sl} {xs ys:List Ac} (ha:SliceF (ot false) 9 w F a xs) (hb:SliceF (ot false) 9 w G b ys) (hE:iu (AcE t) xs ys):az aq 92 #[a.v,b.v,aj t] w fun r w'=>r=ak (aj true)/\ay [] w w':=by
 refine ret (agI _ _ _ _ _ ?_);unfold aaL;have l1:=ha.len;have l2:=hb.len;have l3:=hE.1;have c1:=ha.cap;have c2:=ha.big;refine⟨fun hc=>?_,fun hc=>?_⟩
 ·have:¬(a.n:Int)=(b.n:Int):=by simpa using hc
  omega
 refine⟨fun nv i w'=>∃n:Nat,i=(n:Int)/\n<=xs.length/\nv=xs.length-n/\ay [] w w',xs.length,⟨0,rfl,aQ _,rfl,Only.refl _ _⟩,?_⟩;rintro nv _ w0 ⟨n,rfl,hn,rfl,bT⟩;refine⟨fun bJ=>?_,fun kO=>⟨rfl,bT⟩⟩;have bJ:n<a.n:=by have:=aG bJ;omega
 obtain⟨p,x,cs,g1,g2,g3,g4,_,g6⟩:=ha.get (i:=(n:Int)) (by omega) (by omega);obtain⟨q,y,ds,k1,k2,k3,k4,_,k6⟩:=hb.get (i:=(n:Int)) (by omega) (by omega);rw[aM]at g2 k2;have hxy:=hE.2 n x y g2 k2;refine⟨p,g1,fun w1 bZ=>?_⟩;have fb:=bT.bP bZ;obtain⟨p',x',yV,q1,q2,_,_,g5,g6⟩:=(SliceF.only (ci false) (by decide) ha fb (by simp)).get (i:=(n:Int)) (by omega) (by omega);obtain⟨q',y',ds',q3,q4,_,_,k5,k6⟩:=(SliceF.only (ci false) (by decide) hb fb (by simp)).get (i:=(n:Int)) (by omega) (by omega);rw[aM]at q2 q4;rw[g2]at q2;rw[k2]at q4;injection q2 with q2;injection q4 with q4;subst q2 q4;obtain rfl:=g1.Ci q1;obtain rfl:=k1.Ci q3;obtain⟨xc,rfl,hx⟩:=g6;obtain⟨yc,rfl,hy⟩:=k6;have Cz:=hx;have hy':=hy;obtain⟨sx,rfl⟩:=dU hx;obtain⟨sy,rfl⟩:=dU hy;refine⟨_,_,_,_,sx,_,Mp g5,q,k1,_,_,_,_,sy,_,Mp k5,(HL Cz hy' hxy.e).mono ?_⟩;rintro _ w2 ⟨rfl,cp⟩;have kp:∀{ad:Addr} {vs:List aw} {v:aw} {vt:List aw},vs=v::vt->Cells w1 ad vs->Cells w2 ad vs:=fun vI h=>by
  subst vI;exact h.keep (cp.block _ h.lt (by simp))
 have g5':=kp rfl g5;have k5':=kp rfl k5;have e:(((((!true)||(x.k !=y.k))||(!((T x.n).toList==(T y.n).toList)))||(t&&(x.a !=y.a))))=false:=by
  rw[gV,hxy.k,hxy.n];cases ht:t with
  | false=>simp
  | true=>rw[hxy.a ht];simp
 refine⟨true,rfl,p,fun _=>g1,x.k,fun _=>g5'.dI 0 _ rfl,q,fun _=>k1,y.k,fun _=>k5'.dI 0 _ rfl,p,fun _=>g1,_,fun _=>g5'.dI 1 _ rfl,q,fun _=>k1,_,fun _=>k5'.dI 1 _ rfl,p,fun _ _=>g1,_,fun _ _=>HM g5',q,fun _ _=>k1,_,fun _ _=>HM k5',fun hh=>?_,fun _ w4 dm=>⟨xs.length-(n+1),by omega,n+1,by rw[fy (by omega) (by omega)];rfl,by omega,rfl,(fb.bP cp).bP dm⟩⟩;rw[e]at hh;cases hh
theorem FY {x y:Mv} {cs ds:List aw} (hx:wV false w F x cs) (hy:wV false w G y ds) (hE:MvE t x y):az aq 93 #[ah cs.toArray,ah ds.toArray,aj t] w fun r w'=>r=ak (aj true)/\ay [] w w':=by
 obtain⟨gc,pW,tg,rfl,h1,h2,h3⟩:=hx;obtain⟨gc',WJ,tg',rfl,k1,k2,k3⟩:=hy;have X2:=h1;have k1':=k1;obtain⟨sx,rfl⟩:=dU h1;obtain⟨sy,rfl⟩:=dU k1;refine ret (agK _ _ _ _ _ _ _ _ _ _ _ _ _ _ _ _ _ _ _ _ _ _ _ _ _ _ _ _ _ ?_);unfold aaN;intro k0 k1 w0 gN dJ jO jb bT;refine(HL ((fO false).only X2 bT (by simp)) ((fO false).only k1' bT (by simp)) hE.g).mono ?_;rintro _ w1 ⟨rfl,bZ⟩;have z0:=bT.size;have z1:=bZ.size;have fb:=bT.bP bZ;refine⟨_,rfl,bZ.same (by simp;omega),(tu (SliceF.only (ci false) (by decide) h2.1 fb (by simp)) (SliceF.only (ci false) (by decide) k2.1 fb (by simp)) hE.acts).mono ?_⟩;rintro _ w2 ⟨rfl,cp⟩;have z2:=cp.size;have iO:=fb.bP cp;refine⟨_,rfl,cp.same (by simp;omega),(QY (SliceF.only cG (by decide) h3.1 iO (by simp)) (SliceF.only cG (by decide) k3.1 iO (by simp))).mono ?_⟩;rintro _ w3 ⟨rfl,cO⟩;refine⟨_,rfl,cO.same (by simp;omega),?_,iO.bP cO⟩;rw[gV,bh hE.tg,hE.k,hE.ev,hE.wt,hE.gd];cases ht:t with
 | false=>simp
 | true=>rw[hE.a ht];simp
theorem yx:∀(d:Nat) {w:av} {F G:Nat->Prop} {x y:Nd} {cs ds:List aw},li false d w F x cs->li false d w G y ds->TD t d x y->az aq 44 #[ah cs.toArray,ah ds.toArray,aj t] w fun r w'=>r=ak (aj true)/\ay [] w w'
 | 0,_,_,_,_,_,_,_,h,_,_=>h.elim
 | d+1,w,F,G,x,y,cs,ds,⟨en,lv,mv,kids,kH,h1,h2⟩,⟨uT,uU,pX,jq,Kp,k1,k2⟩,hE=>by
  subst kH Kp;obtain⟨hE,hK⟩:=hE;refine ret (agH _ _ _ _ _ _ _ _ _ _ _ _ _ _ _ _ _ _ _ _ _ ?_);unfold aaK;intro k0 k1' w0 gN dJ jO jb bT;have z0:=bT.size;have m1:=h1.2.2.1.len;have m2:=k1.2.2.1.len;have m3:=hE.mv.1;have m4:=h1.2.2.1.cap;have m5:=h1.2.2.1.big;have n1:=h2.1.len;have n2:=k2.1.len;have n3:=hK.1;have n4:=h2.1.cap;have n5:=h2.1.big;have e:((((((((x.b.k !=y.b.k)||(!((T x.b.nm).toList==(T y.b.nm).toList)))||(!((T x.b.ini).toList==(T y.b.ini).toList)))||(!((T x.b.dft).toList==(T y.b.dft).toList)))||(t&&(x.b.a !=y.b.a)))||((mv.n:Int) !=(pX.n:Int)))||((kids.n:Int) !=(jq.n:Int))))=false:=by
   rw[gV,gV,gV,hE.k,hE.nm,hE.ini,hE.dft,show mv.n=pX.n by omega,show kids.n=jq.n by omega];cases ht:t with
   | false=>simp
   | true=>rw[hE.a ht];simp
  refine⟨fun hh=>(by rw[e]at hh;cases hh),fun _=>(tu (SliceF.only (ci false) (by decide) h1.1.1 bT (by simp)) (SliceF.only (ci false) (by decide) k1.1.1 bT (by simp)) hE.en).mono ?_⟩;rintro _ w1 ⟨rfl,bZ⟩;have z1:=bZ.size;have fb:=bT.bP bZ;refine⟨_,rfl,bZ.same (by simp;omega),(tu (SliceF.only (ci false) (by decide) h1.2.1.1 fb (by simp)) (SliceF.only (ci false) (by decide) k1.2.1.1 fb (by simp)) hE.lv).mono ?_⟩;rintro _ w2 ⟨rfl,cp⟩;have z2:=cp.size;have iO:=fb.bP cp;refine⟨_,rfl,cp.same (by simp;omega),fun hh=>(by cases hh),fun _=>?_⟩;refine⟨fun nv i w'=>∃n:Nat,i=(n:Int)/\n<=mv.n/\nv=mv.n-n/\ay [] w w'/\w2.heap.size<=w'.heap.size,mv.n,⟨0,rfl,aQ _,rfl,iO,aK _⟩,?_⟩;rintro nv _ w3 ⟨n,rfl,hn,rfl,lu,z3⟩;refine⟨fun bJ=>?_,fun kO=>?_⟩
  ·have bJ:n<mv.n:=by have:=aG bJ;omega
   obtain⟨p,xm,ms,g1,g2,_⟩:=h1.2.2.1.get (i:=(n:Int)) (by omega) (by omega);obtain⟨q,ym,ns,q1,q2,_⟩:=k1.2.2.1.get (i:=(n:Int)) (by omega) (by omega);rw[aM]at g2 q2;refine⟨p,g1,fun w4 dm=>?_⟩;have oh:=lu.bP dm;have z4:=dm.size;obtain⟨p',x',yV,a1,a2,_,_,a5,a6⟩:=(SliceF.only (gp false) (by decide) h1.2.2.1 oh (by simp)).get (i:=(n:Int)) (by omega) (by omega);obtain⟨q',y',ds',b1,b2,_,_,b5,b6⟩:=(SliceF.only (gp false) (by decide) k1.2.2.1 oh (by simp)).get (i:=(n:Int)) (by omega) (by omega);rw[aM,g2]at a2;rw[aM,q2]at b2;injection a2 with a2;injection b2 with b2;subst a2 b2;obtain rfl:=g1.Ci a1;obtain rfl:=q1.Ci b1;have a6':=a6;have b6':=b6;obtain⟨gc,pW,tg,rfl,c1,_,_⟩:=a6;obtain⟨gc',WJ,tg',rfl,c2,_,_⟩:=b6;obtain⟨sx,rfl⟩:=dU c1;obtain⟨sy,rfl⟩:=dU c2;refine⟨_,_,_,_,_,_,_,_,sx,_,pW,tg,_,a5,q,q1,_,_,_,_,_,_,_,_,sy,_,WJ,tg',_,b5,(FY a6' b6' (hE.mv.2 n _ _ g2 q2)).mono ?_⟩;rintro _ w5 ⟨rfl,dS⟩;exact⟨true,rfl,dS.same (by simp;omega),fun hh=>(by cases hh),fun _=>⟨mv.n-(n+1),by omega,n+1,by rw[fy (by omega) (by omega)];rfl,by omega,rfl,oh.bP dS,aX (by omega) dS.size⟩⟩
  ·refine⟨fun nv i w'=>∃n:Nat,i=(n:Int)/\n<=kids.n/\nv=kids.n-n/\ay [] w w'/\w2.heap.size<=w'.heap.size,kids.n,⟨0,rfl,aQ _,rfl,lu,z3⟩,?_⟩;clear kO hn z3 lu;rintro nv _ w6 ⟨n,rfl,hn,rfl,zG,z6⟩;refine⟨fun bJ=>?_,fun _=>⟨rfl,zG⟩⟩;have bJ:n<kids.n:=by have:=aG bJ;omega
   obtain⟨p,xm,ms,g1,g2,_⟩:=h2.1.get (i:=(n:Int)) (by omega) (by omega);obtain⟨q,ym,ns,q1,q2,_⟩:=k2.1.get (i:=(n:Int)) (by omega) (by omega);rw[aM]at g2 q2;refine⟨p,g1,fun w7 fz=>?_⟩;have WK:=zG.bP fz;have z7:=fz.size;obtain⟨p',x',yV,a1,a2,_,_,a5,a6⟩:=(SliceF.only (cf false d) (by decide) h2.1 WK (by simp)).get (i:=(n:Int)) (by omega) (by omega);obtain⟨q',y',ds',b1,b2,_,_,b5,b6⟩:=(SliceF.only (cf false d) (by decide) k2.1 WK (by simp)).get (i:=(n:Int)) (by omega) (by omega);rw[aM,g2]at a2;rw[aM,q2]at b2;injection a2 with a2;injection b2 with b2;subst a2 b2;obtain rfl:=g1.Ci a1;obtain rfl:=q1.Ci b1;have Ue:=hK.2 n _ _ g2 q2;cases d with
   | zero=>exact a6.elim
   | succ d=>
    have a6':=a6;have b6':=b6;obtain⟨xe,xl,xm',xk,rfl,_⟩:=a6;obtain⟨ye,yl,ym',yk,rfl,_⟩:=b6;refine⟨_,_,_,_,xe,xl,xm',xk,_,a5,q,q1,_,_,_,_,ye,yl,ym',yk,_,b5,(yx (d+1) a6' b6' Ue).mono ?_⟩;rintro _ w8 ⟨rfl,fh⟩;exact⟨true,rfl,fh.same (by simp;omega),fun hh=>(by cases hh),fun _=>⟨kids.n-(n+1),by omega,n+1,by rw[fy (by omega) (by omega)];rfl,by omega,rfl,WK.bP fh,aX (by omega) fh.size⟩⟩
theorem Mq {d:Nat} {x y:Ch} {vs I8:Sl} {cs ds:List aw} (hx:ChR false d w F x vs cs) (hy:ChR false d w G y I8 ds) (hE:ChE t d x y):az aq 15 #[ah (vs.v::cs).toArray,ah (I8.v::ds).toArray,aj t] w fun r w'=>r=ak (aj true)/\ay [] w w':=by
 have hr:=hx.root;have hr':=hy.root;cases d with
 | zero=>exact hr.elim
 | succ d=>
  obtain⟨en,lv,mv,kids,rfl,_⟩:=hx.root;obtain⟨uT,uU,pX,jq,rfl,_⟩:=hy.root;refine ret (agG _ _ _ _ _ _ _ _ _ _ _ _ _ _ _ _ _ _ _ _ _ _ _ ?_);unfold aaJ;have m1:=hx.vars.1.len;have m2:=hy.vars.1.len;have m3:=hE.vars.1;have m4:=hx.vars.1.cap;have m5:=hx.vars.1.big;refine⟨fun hc=>?_,fun _ k2 k3 w1 nW nD I5 yX bZ=>?_⟩
  ·have:¬(vs.n:Int)=(I8.n:Int):=by simpa using hc
   omega
  have z1:=bZ.size;refine⟨fun nv i w'=>∃n:Nat,i=(n:Int)/\n<=vs.n/\nv=vs.n-n/\ay [] w w'/\w1.heap.size<=w'.heap.size,vs.n,⟨0,rfl,aQ _,rfl,bZ,aK _⟩,?_⟩;rintro nv _ w2 ⟨n,rfl,hn,rfl,cp,z2⟩;refine⟨fun bJ=>?_,fun _=>?_⟩
  ·have bJ:n<vs.n:=by have:=aG bJ;omega
   obtain⟨p,a,ms,g1,g2,_,_,g5,g6⟩:=(SliceF.only ec (by decide) hx.vars.1 cp (by simp)).get (i:=(n:Int)) (by omega) (by omega);obtain⟨q,b,ns,q1,q2,_,_,q5,q6⟩:=(SliceF.only ec (by decide) hy.vars.1 cp (by simp)).get (i:=(n:Int)) (by omega) (by omega);rw[aM]at g2 q2;unfold wW at g6 q6;subst g6 q6;have hv:=hE.vars.2 n _ _ g2 q2;have e:((((!((T a.n).toList==(T b.n).toList))||(a.v !=b.v))||(t&&(a.a !=b.a))))=false:=by
    rw[gV,hv.n,hv.v];cases ht:t with
    | false=>simp
    | true=>rw[hv.a ht];simp
   refine⟨p,g1,_,g5.dI 0 _ rfl,q,q1,_,q5.dI 0 _ rfl,p,fun _=>g1,_,fun _=>g5.dI 1 _ rfl,q,fun _=>q1,_,fun _=>q5.dI 1 _ rfl,p,fun _ _=>g1,_,fun _ _=>g5.dI 2 _ rfl,q,fun _ _=>q1,_,fun _ _=>q5.dI 2 _ rfl,fun hh=>(by rw[e]at hh;cases hh),fun _ w4 dm=>⟨vs.n-(n+1),by omega,n+1,by rw[fy (by omega) (by omega)];rfl,by omega,rfl,cp.bP dm,aX z2 dm.size⟩⟩
  ·refine(yx (d+1) ((cf false _).only hr cp (by simp)) ((cf false _).only hr' cp (by simp)) hE.root).mono ?_;rintro _ w5 ⟨rfl,dS⟩;exact⟨true,rfl,dS.same (by simp;omega),rfl,cp.bP dS⟩
end
theorem DY:∀(d:Nat) {w:av} {F:Nat->Prop} {sl:Sl} {xs:List Ex},SliceF (mA d) 6 w F sl xs->mB (kq d) xs<=1099511627776->
  az aq 144 #[sl.v] w fun e w'=>∃s:Sl,e=ak s.v/\SliceF (mA d) 6 w' (fun k=>w.heap.size<=k/\k<w'.heap.size) s xs/\ay [] w w':=by
 intro d
 induction d with
 | zero=>
  intro w F sl xs h hc;have hx:xs=[]:=by
   cases xs with
   | nil=>rfl
   | cons x xs=>
    obtain⟨base,cs,_,_,_,_,h5⟩:=h.at_ 0 x rfl;exact h5.elim
  subst hx;have hn:sl.n=0:=h.len;refine(aaT sl (fun v w'=>∃s:Sl,v=s.v/\SliceF (mA 0) 6 w' (fun k=>w.heap.size<=k/\k<w'.heap.size) s []/\ay [] w w') w ?_).mono (by
   rintro e w' ⟨v,rfl,s,rfl,h⟩;exact⟨s,rfl,h⟩)
  unfold U8;refine⟨fun nv s i w'=>s=Sl.nil/\i=0/\w'=w,0,⟨rfl,rfl,rfl⟩,?_⟩;rintro nv _ _ _ ⟨rfl,rfl,rfl⟩;exact⟨fun bJ=>absurd (aG bJ) (by omega),fun _=>⟨_,rfl,SliceF.nil _ _ _ _,Only.refl _ _⟩⟩
 | succ d ih=>
  intro w F sl xs h hc;have dN:=h.len;have mD:=h.cap;have og:=h.big;have IZ:=HK (d:=d) (xs:=xs);refine(aaT sl (fun v w'=>∃s:Sl,v=s.v/\SliceF (mA (d+1)) 6 w' (fun k=>w.heap.size<=k/\k<w'.heap.size) s xs/\ay [] w w') w ?_).mono (by
   rintro e w' ⟨v,rfl,s,rfl,h⟩;exact⟨s,rfl,h⟩)
  unfold U8;refine⟨fun nv s i w'=>∃n:Nat,n<=xs.length/\i=(n:Int)/\nv=xs.length-n/\Own (mA (d+1)) 6 51 w.heap.size w' (fun k=>w.heap.size<=k) s (xs.take n)/\ay [] w w',xs.length,⟨0,aQ _,rfl,rfl,Own.nil _ _ _ _ _ _,Only.refl _ _⟩,?_⟩;rintro nv out _ w0 ⟨n,hn,rfl,rfl,me,bT⟩;have z0:=bT.size;refine⟨fun bJ=>?_,fun kO=>?_⟩
  ·have bJ:(n:Int)<(sl.n:Int):=aG bJ;obtain⟨p,x,cs,g1,g2,g3,g4,g5,sx,rfl,g6⟩:=(SliceF.only (dD (d+1)) (by decide) h bT (by simp)).get (aO n) bJ;rw[aM]at g2;have hcx:mB (kq d) x.cR<=1099511627776:=by
    have:=Mo (d:=d+1) (be g2);rw[kq]at this;omega
   refine⟨p,g1,_,_,_,_,_,_,g5,fun k2 w1 nW nD bZ=>(ih (SliceF.only (dD d) (by decide) g6 bZ (by simp)) hcx).mono ?_⟩;rintro _ w2 ⟨l2,rfl,hL2,cp⟩;have z1:=bZ.size;have z2:=cp.size;refine⟨l2,rfl,cp.same (by simp;omega),fun w3 cO=>?_⟩;have z3:=cO.size;obtain⟨w4,k4,qj,dm⟩:=yj w3 [jy x.k x.n x.s x.op l2 x.a] (by simp) (by simp) (by simp) (parts:=#[(0,ah (jy x.k x.n x.s x.op l2 x.a).toArray)]) rfl;rw[cE,KE,br]at qj;have z4:=dm.size;refine⟨⟨some ⟨w3.heap.size,0,none⟩,1,1⟩,w4,k4,dm.same (by simp;omega),?_⟩;have WL:=me.inHeap (dD (d+1));have hg:∀g,out.a=some ⟨g,0,none⟩->g<w0.heap.size:=fun g e=>(me.blk e).2;have adQ:Own (mA (d+1)) 6 51 w.heap.size w4 (fun k=>w.heap.size<=k) out (xs.take n):=by
    refine(WL.keep (dD (d+1)) fun k hk bJ=>?_).mono (dD (d+1)) fun k hk=>hk.1;have gN:k<w0.heap.size:=by
     rcases hk with hk | hk
     ·exact hk.2
     ·exact hg k hk.2
    rw[dm.block k (by omega) (by simp),cO.block k (by omega) (by simp;omega),cp.block k (by omega) (by simp),bZ.block k gN (by simp)]
   have hL4:SliceF (mA d) 6 w4 (fun k=>w1.heap.size<=k/\k<w2.heap.size) l2 x.cR:=SliceF.only (dD d) (by decide) (SliceF.only (dD d) (by decide) hL2 cO fun k hk _ hm=>by simp only[aF]at hm;omega) dm (by simp);have hy:SliceF (mA (d+1)) 6 w4 (fun k=>w.heap.size<=k/\out.a≠some ⟨k,0,none⟩) ⟨some ⟨w3.heap.size,0,none⟩,1,1⟩ [x]:=by
    refine⟨rfl,aK _,fun h=>(by cases h),(by decide:(1:Nat)<=9223372036854775807),fun j y hj=>?_⟩;have KV:j=0:=by
     have:=(aP.1 hj).1;simp only[aW]at this;omega
    subst KV;simp only[cj,aJ]at hj;subst hj;refine⟨⟨w3.heap.size,0,none⟩,jy x.k x.n x.s x.op l2 x.a,rfl,⟨by dsimp only;omega,fun e=>?_⟩,rfl,?_,l2,rfl,SliceF.mono (dD d) hL4 fun k hk=>⟨by omega,fun e=>?_⟩⟩
    ·have:=hg _ e;dsimp only at this;omega
    ·rw[ly];exact qj.cells 0 _ fun j v hv=>by rw[bm];exact hv
    ·have:=hg _ e;omega
   obtain⟨s',w5,m1,m2,gs,m3,m4,_⟩:=pu (P:=aq) (t:=49) (ty:=49) (e:=51) (i:=Tryz.t51) (bytes:=72) (size:=6) (r:=mA (d+1)) (by kernel_rfl) (by kernel_rfl) rfl rfl rfl rfl (dD (d+1)) adQ hy (by omega) (by
    rw[cM,aW];have:min n xs.length<=1099511627776:=by omega
    omega) (by decide)
   refine⟨s',w5,m1,m3.same fun k hk=>?_,xs.length-(n+1),by omega,n+1,by omega,by rw[fy (by omega) (by omega)];rfl,rfl,?_,?_⟩
   ·simp only[aF]at hk;subst hk;refine⟨by omega,fun hm=>?_⟩;have:=hg _ (m4 _ hm).1;omega
   ·rw[bn,g2];exact m2
   ·refine((((bT.bP bZ).bP cp).trans cO fun x hx=>.inr (by simp only[aF]at hx;omega)).bP dm).trans m3 fun x hx=>.inr (m4 x hx).2.1
  ·have kO:¬(n:Int)<(sl.n:Int):=aI kO;have:n=xs.length:=by omega
   subst this;rw[bB (aK _)]at me;refine⟨out,rfl,(SliceF.inHeap (dD (d+1)) (me.slice (dD (d+1))) (by decide)).mono (dD (d+1)) fun k hk=>⟨?_,hk.2⟩,bT⟩;rcases hk.1 with e | e
   ·exact e
   ·exact e.1
def cF (l:aB):Bool:=decide (l≠[]/\l.length<=24)&&(match l with
 | c::_=>dT c
 | []=>false)&&decide (l.takeWhile dC=l)&&!gQ.contains l
theorem Mr {w:av} (l:aB) (hl:l.length<9223372036854775807):
  az aq 85 #[ab (T l)] w fun e w'=>e=ak (aj (cF l))/\ay [] w w':=by
 refine ret (aan _ _ _ ?_);unfold Tl;intro k0 w0 gN dJ bT;have e0:(ao #[])=T []:=rfl;rw[bI,e0,gV];refine⟨fun b s i w'=>b=cF l/\ay [] w w',fun b s i w' h=>⟨by rw[h.1],h.2⟩,fun hc=>?_,fun hc=>⟨?_,bT⟩⟩
 ·simp only[aE,bX,ft,bd]at hc;obtain⟨h1,h2⟩:=hc;have h2:l.length<=24:=by omega
  obtain⟨c,r,rfl⟩:∃c r,l=c::r:=by
   cases l with
   | nil=>exact absurd rfl h1
   | cons c r=>exact⟨c,r,rfl⟩
  have hn:cF (c::r)=(dT c&&decide ((c::r).takeWhile dC=c::r)&&!gQ.contains (c::r)):=by
   unfold cF;rw[bh ⟨h1,h2⟩,bK]
  refine⟨c,⟨ig _,by rw[ke];rfl⟩,(xV w0 c).mono ?_⟩;rintro _ w2 ⟨rfl,cp⟩;have iO:=bT.bP cp;refine⟨_,rfl,cp.same (by simp;omega),fun hb hB=>?_,fun hb=>⟨by rw[hn,hb];rfl,iO⟩⟩;refine(L7 (i:=0) (r:=[]) hB (aQ _) hl).mono ?_;rintro _ w3 ⟨rfl,cO⟩;rw[fg];have sK:Blk w3 k0 195 [ab (T (c::r)),O U 0]:=(cO.block k0 hB.lt (by simp)).trans hB;refine⟨_,rfl,T (c::r),0,sK,?_⟩;rw[gV];refine⟨fun he=>(Hw w3).mono ?_,fun he=>⟨?_,iO.bP cO⟩⟩
  ·rintro _ w4 ⟨s,rfl,hs,dm⟩;have qj:Blk w4 k0 195 [ab (T (c::r)),O U 0]:=(dm.block k0 sK.lt (by simp)).trans sK;refine⟨s,rfl,T (c::r),0,qj,(qJ (qc hs) (c::r)).mono ?_⟩;rintro _ w5 ⟨rfl,dS⟩;have tJ:Blk w5 k0 195 [ab (T (c::r)),O U 0]:=(dS.block k0 qj.lt (by simp)).trans qj;exact⟨_,rfl,_,_,tJ,by rw[hn,hb,he];rfl,iO.bP (cO.bP (dm.bP dS))⟩
  ·rw[hn,hb,he];rfl
 ·unfold cF;rw[aZ]
  ·rfl
  ·rintro⟨h1,h2⟩;rw[aZ h1,bh (by omega)]at hc;cases hc
def bD (x:Ex):Int:=if x.k=5 then dY x.op else 6
theorem nP {w:av} {F:Nat->Prop} {x:Ex} {cs:List aw} {d:Nat} (h:mA d w F x cs):az aq 297 #[ah cs.toArray] w fun e w'=>e=ak (O U (bD x))/\ay [] w w':=by
 cases d with
 | zero=>exact h.elim
 | succ d=>
  obtain⟨sl,rfl,h⟩:=h;refine ret (agE _ _ _ _ _ _ _ _ ?_);unfold aaG;refine⟨fun hc k0 w0 _ _ hO=>?_,fun hc k1 w1 hk wI hO=>(FR w1 x.op).mono ?_⟩
  ·have hc:x.k≠5:=by simpa using hc
   rw[bD,if_neg hc];exact⟨rfl,hO⟩
  ·rintro _ w2 ⟨rfl,rfl⟩;have hc:x.k=5:=by simpa using hc
   rw[bD,if_pos hc];exact⟨_,rfl,fun _ _=>rfl,rfl,hO⟩
def JH (n:Int) (s:aB) (op len:Int) (x:Ex):Bool:=((((x.n==n)&&decide (x.s=s))&&(x.op==op))&&((x.cR.length:Int)==len))
def fF (x:Ex):Bool:=
 if x.k=1 then JH (if 0>x.n then 0 else x.n) [] 0 0 x
 else if x.k=2∨x.k=3 then cF x.s&&JH 0 x.s 0 0 x
 else if x.k=4 then JH 0 [] (if x.op=15 then 15 else 14) 1 x
 else if x.k=5 then !(dY x.op==6)&&JH 0 [] x.op 2 x
 else false
def im (f:Ex->Bool):List Ex->Bool
 | []=>true
 | x::xs=>f x&&im f xs
def bW:Nat->Ex->Bool
 | 0,_=>false
 | d+1,x=>fF x&&im (bW d) x.cR
theorem Ag {f:Ex->Bool} {xs:List Ex} {n:Nat} {x:Ex} (hx:xs[n]? =some x):im f (xs.drop n)=(f x&&im f (xs.drop (n+1))):=by
 rw[fR (aP.1 hx).1,(aP.1 hx).2,im]
abbrev ShD (d:Nat):Prop:=∀{w:av} {F:Nat->Prop} {x:Ex} {cs:List aw},sT d x->mA d w F x cs->az aq 262 #[ah cs.toArray] w fun e w'=>e=ak (aj (bW d x))/\ay [] w w'
theorem Ms {d:Nat} (hS:ShD d) {w:av} {F:Nat->Prop} {x:Ex} {cs:List aw} (hl:sT d x) (h:mA d w F x cs):az aq 295 #[ah cs.toArray] w fun e w'=>e=ak (aj (!bW d x))/\ay [] w w':=by
 obtain⟨sl,rfl⟩:=jt h;refine ret (agC _ _ _ _ _ _ _ _ ?_);unfold aaD;intro k0 w0 hk wI hO;refine(hS hl (fj h hO)).mono ?_;rintro _ w1 ⟨rfl,bZ⟩;exact⟨_,rfl,bZ.same (by simp;omega),rfl,hO.bP bZ⟩
theorem Mt {d:Nat} (hS:ShD d) {w:av} {F:Nat->Prop} {l:Sl} {xs:List Ex} (hl:∀y,y∈xs->sT d y) (h:SliceF (mA d) 6 w F l xs):az aq 310 #[l.v,.func (.func 295) #[] #[]] w fun e w'=>∃i:Int,e=ak (O U i)/\decide (i>=0)=!im (bW d) xs/\ay [] w w':=by
 refine(aaC l ⟨.func (.func 295) #[] #[],rfl⟩ (fun v w'=>∃i:Int,v=O U i/\decide (i>=0)=!im (bW d) xs/\ay [] w w') w ?_).mono (by
  rintro e w' ⟨v,rfl,i,rfl,h⟩;exact⟨i,rfl,h⟩)
 unfold Tw;have dN:=h.len;have og:=h.big;have mD:=h.cap;refine⟨fun nv i w'=>∃n:Nat,n<=xs.length/\i=(n:Int)/\nv=xs.length-n/\im (bW d) xs=im (bW d) (xs.drop n)/\ay [] w w',xs.length,⟨0,aQ _,rfl,rfl,rfl,Only.refl _ _⟩,?_⟩;rintro nv _ w0 ⟨n,hn,rfl,rfl,eU,bT⟩;refine⟨fun hc=>?_,fun hc=>?_⟩
 ·have bJ:(n:Int)<l.n:=aG hc;obtain⟨ad,x,cs,g1,g2,g3,g4,g5,g6⟩:=(SliceF.only (dD d) (by decide) h bT (by simp)).get (aO n) bJ;rw[aM]at g2;obtain⟨sl,rfl⟩:=jt g6;refine⟨ad,g1,_,_,_,_,_,_,g5,295,[],[],rfl,kg (by kernel_rfl),?_⟩;refine(Ms hS (hl x (be g2)) g6).mono ?_;rintro _ w1 ⟨rfl,bZ⟩;have kb:=Ag (f:=bW d) g2;refine⟨_,rfl,fun hb=>⟨_,rfl,?_,bT.bP bZ⟩,fun hb=>⟨xs.length-(n+1),by omega,n+1,by omega,by rw[fy (by omega) (by omega)];rfl,rfl,?_,bT.bP bZ⟩⟩
  ·have hb:bW d x=false:=by simpa using hb
   rw[eU,kb,hb,da,zK];exact bh (aO n)
  ·have hb:bW d x=true:=by simpa using hb
   rw[eU,kb,hb,bK]
 ·have kO:¬(n:Int)<l.n:=aI hc;refine⟨_,rfl,?_,bT⟩;rw[eU,cX (by omega)];rfl
theorem DZ {d:Nat} (hS:ShD d) {w:av} {F:Nat->Prop} {l:Sl} {xs:List Ex} (hl:∀y,y∈xs->sT d y) (h:SliceF (mA d) 6 w F l xs):az aq 294 #[l.v,.func (.func 295) #[] #[]] w fun e w'=>e=ak (aj (!im (bW d) xs))/\ay [] w w':=by
 refine ret (aaB l ⟨.func (.func 295) #[] #[],rfl⟩ (fun v w'=>v=aj (!im (bW d) xs)/\ay [] w w') w ?_);unfold Tv;refine(Mt hS hl h).mono ?_;rintro _ w0 ⟨i,rfl,h1,h2⟩;exact⟨_,rfl,by rw[h1],h2⟩
theorem HN:∀d,ShD d
 | 0,_,_,_,_,_,h=>h.elim
 | d+1,w,F,x,cs,⟨hl0,hl⟩,⟨sl,h1,h2⟩=>by
  subst h1;refine ret (agB _ _ _ _ _ _ _ _ ?_);unfold aaA;intro k0 k1 w0 gN dJ jO jb bT;have z0:=bT.size;have hn:=h2.len;have hs:∀{b:Bool},fF x=b->bW (d+1) x=(b&&im (bW d) x.cR):=fun e=>by rw[bW,e]
  have own:∀{w1 w2:av},ay [] w w1->ay [k1] w1 w2->ay [] w w2:=fun h1 h2=>h1.new h2 jO;refine⟨fun i0 i1 i2 s0 i3 l0 i4 w1=>∃s,s0=T s/\fF x=JH i2 s i3 i0 x/\ay [] w w1/\w0.heap.size<=w1.heap.size,?_,fun hk w4 dm=>⟨[],rfl,?_,own bT dm,dm.size⟩,fun hk=>?_⟩
  ·rintro i0 i1 i2 _ i3 l0 i4 w1 ⟨s,rfl,he,bZ,z1⟩;have hc:((((x.n==i2)&&((T x.s).toList==(T s).toList))&&(x.op==i3))&&((sl.n:Int)==i0))=fF x:=by
    rw[he,gV,hn];rfl
   rw[hc];refine⟨fun b w'=>b=bW (d+1) x/\ay [] w w',?_,fun hh=>(DZ (HN d) hl (SliceF.only (dD d) (by decide) h2 bZ (by simp))).mono ?_,fun hh=>⟨by rw[hs hh,da],bZ⟩⟩
   ·rintro _ w2 ⟨rfl,h⟩;exact⟨rfl,h⟩
   ·rintro _ w3 ⟨rfl,cO⟩;exact⟨_,rfl,cO.same (by simp;omega),by rw[hs hh,bK,Bool.not_not],bZ.bP cO⟩
  ·have hk:x.k=1:=by simpa using hk
   rw[fF,if_pos hk]
  ·have jO:x.k≠1:=by simpa using hk
   refine⟨fun b w'=>b=decide (x.k=2∨x.k=3)/\w'=w0,?_,fun nW=>⟨?_,rfl⟩,fun nW=>⟨?_,rfl⟩⟩
   ·rintro _ _ ⟨rfl,rfl⟩;refine⟨fun hk=>(Mr x.s (by omega)).mono ?_,fun hk=>⟨fun sM=>⟨fun ho w8 fh=>⟨[],rfl,?_,own bT fh,fh.size⟩,fun ho w9 fK=>⟨[],rfl,?_,own bT fK,fK.size⟩⟩,fun sM=>⟨fun ol=>(FR _ x.op).mono ?_,fun ol=>⟨?_,bT⟩⟩⟩⟩
    ·rintro _ w6 ⟨rfl,dG⟩;have z6:=dG.size;have hk:=aG hk;refine⟨_,rfl,dG.same (by simp;omega),fun hb=>⟨?_,bT.bP dG⟩,fun hb w7 fz=>⟨x.s,rfl,?_,own (bT.bP dG) fz,by have:=fz.size;omega⟩⟩
     ·have hb:cF x.s=false:=by simpa using hb
      rw[hs (b:=false) (by rw[fF,if_neg jO,if_pos hk,hb,da]),da]
     ·have hb:cF x.s=true:=by simpa using hb
      rw[fF,if_neg jO,if_pos hk,hb,bK]
    ·have hk:=aI hk;have sM:x.k=4:=by simpa using sM
     have ho:x.op=15:=by simpa using ho
     rw[fF,if_neg jO,if_neg hk,if_pos sM,if_pos ho]
    ·have hk:=aI hk;have sM:x.k=4:=by simpa using sM
     have ho:x.op≠15:=by simpa using ho
     rw[fF,if_neg jO,if_neg hk,if_pos sM,if_neg ho]
    ·rintro _ cK ⟨rfl,rfl⟩;have hk:=aI hk;have sM:x.k≠4:=by simpa using sM
     have ol:x.k=5:=by simpa using ol
     refine⟨_,rfl,fun _ _=>rfl,fun hb=>⟨?_,bT⟩,fun hb cY dP=>⟨[],rfl,?_,own bT dP,dP.size⟩⟩
     ·rw[hs (b:=false) (by rw[fF,if_neg jO,if_neg hk,if_neg sM,if_pos ol,hb,Bool.not_true,da]),da]
     ·rw[fF,if_neg jO,if_neg hk,if_neg sM,if_pos ol,hb,zK,bK]
    ·have hk:=aI hk;have sM:x.k≠4:=by simpa using sM
     have ol:x.k≠5:=by simpa using ol
     rw[hs (b:=false) (by rw[fF,if_neg jO,if_neg hk,if_neg sM,if_neg ol]),da]
   ·have nW:x.k=2:=by simpa using nW
    rw[nW];rfl
   ·have nW:x.k≠2:=by simpa using nW
    rw[bq];simp[nW]
def Tb (w:av):Prop:=Lib.TabIs aq w "internal/strconv.uint64pow10" .u64 Lib.pow10Tab
theorem tb_num:Tryz.prog.globalNamed "internal/strconv.uint64pow10" =some 3:=by kernel_rfl
theorem Tb.keep {w w':av} (h:Tb w) (hk:3<w.heap.size->w'.heap[3]? =w.heap[3]?):Tb w':=by
 unfold Tb Lib.TabIs World.var? at h⊢;rw[tb_num]at h⊢;simp only[lz]at h⊢;rw[hk]
 ·exact h
 ·refine bf fun hn=>?_;rw[eL (by omega)]at h;cases h
theorem Tb.lt {w:av} (h:Tb w):3<w.heap.size:=by
 unfold Tb Lib.TabIs World.var? at h;rw[tb_num]at h;simp only[lz]at h;refine bf fun hn=>?_;rw[eL (by omega)]at h;cases h
theorem Tb.only {w w':av} (h:Tb w) (hO:ay [] w w'):Tb w':=h.keep fun bJ=>hO.block _ bJ (by simp)
theorem Only.grown (w:av) (k:Nat) (os:Array Obj):ay [] w (Go.Sort.grow (w.drewN k) os):=⟨rfl,rfl,rfl,by simp[Go.Sort.grow],fun q hq _=>by
 simp only[Go.Sort.grow,World.heap_drewN];rw[Array.getElem?_append_left hq]⟩
theorem wX {w:av} (n:Int) (hn:vR n) (hT:Tb w):az aq 40 #[O U n] w fun e w'=>e=ak (ab (T (Lib.itoa n)))/\ay [] w w':=by
 refine ret (v1w _ _ _ ?_);unfold v1v;refine(Tryz.strconv_Itoa n hn.1 hn.2 w hT).mono ?_;rintro _ w0 ⟨rfl,k,os,rfl⟩;exact⟨_,rfl,rfl,Only.grown _ _ _⟩
def Bf (w:av) (B:Nat) (s:Sl) (l:aB):Prop:=
 (s=Sl.nil/\l=[])∨∃g tail,s.a=some ⟨g,0,none⟩/\B<=g/\Blk w g 5 (l.map fx++tail)/\tail.length=s.c-s.n/\s.n=l.length/\s.n<=s.c/\s.c<=9223372036854775807/\0<s.c
theorem Bf.len {w:av} {B:Nat} {s:Sl} {l:aB} (h:Bf w B s l):s.n=l.length:=by
 rcases h with⟨rfl,rfl⟩ | ⟨g,tail,_,_,_,_,h,_⟩
 ·rfl
 ·exact h
theorem Bf.lt {w:av} {B:Nat} {s:Sl} {l:aB} (h:Bf w B s l) {g:Nat} (hg:s.a=some ⟨g,0,none⟩):B<=g/\g<w.heap.size:=by
 rcases h with⟨rfl,rfl⟩ | ⟨g',tail,h1,h2,h3,_⟩
 ·cases hg
 ·rw[hg]at h1;injection h1 with h1;injection h1 with h1;subst h1;exact⟨h2,h3.lt⟩
theorem Bf.keep {w w':av} {B:Nat} {s:Sl} {l:aB} (h:Bf w B s l) (hk:∀g,s.a=some ⟨g,0,none⟩->g<w.heap.size->w'.heap[g]? =w.heap[g]?):Bf w' B s l:=by
 rcases h with h | ⟨g,tail,h1,h2,h3,h4⟩
 ·exact .inl h
 ·exact .inr ⟨g,tail,h1,h2,(hk g h1 h3.lt).trans h3,h4⟩
theorem abM (l:aB):Lib.strCells (T l)=l.map fx:=rfl
theorem yy:Tryz.prog.underlying 68=some (.slice 5):=by kernel_rfl
theorem Vn:Tryz.prog.underlying 9=some .string:=by kernel_rfl
theorem BK:Tryz.prog.info? 5=some Tryz.t5:=by kernel_rfl
theorem wY {w:av} {B:Nat} {s:Sl} {l:aB} (h:Bf w B s l) (m:aB) (hB:B<=w.heap.size) (hm:l.length+m.length<=140737488355328):
  ∃s' w',(Builtin.append_ #[68,9] 68 #[s.v,ab (T m)]).run aq w=.ok s'.v w'/\Bf w' B s' (l++m)/\OnlyP (fun k=>s.a=some ⟨k,0,none⟩) w w'/\(s'.a=s.a∨s'.a=some ⟨w.heap.size,0,none⟩):=by
 have ht:=yy;have hu:=Vn;have hi:=BK;have NY:Tryz.t5.size=1:=rfl;have zf:Tryz.t5.bytes=1:=rfl;have hz:Tryz.t5.zero=some (.int .u8 0):=rfl;have hsz:(T m).size=m.length:=bI m;have grown:∀(eS IX:Nat),eS=l.length+m.length->0<l.length+m.length->∀cells:Array aw,cells=((l++m).map fx).toArray++Builtin.zeroCells (Value.int .u8 0).cells (grownCap w eS IX 5-eS)->
   Bf (w.drew.alloc (.cells cells 5)) B ⟨some ⟨w.heap.size,0,none⟩,eS,grownCap w eS IX 5⟩ (l++m)/\OnlyP (fun k=>s.a=some ⟨k,0,none⟩) w (w.drew.alloc (.cells cells 5)):=by
  rintro eS IX rfl h0 cells rfl;have hO:ay [] w (w.drew.alloc (.cells (((l++m).map fx).toArray++Builtin.zeroCells (Value.int .u8 0).cells (grownCap w (l.length+m.length) IX 5-(l.length+m.length))) 5)):=(Only.drew w).bP (Only.alloc _ _);refine⟨.inr ⟨w.heap.size,(Builtin.zeroCells (Value.int .u8 0).cells (grownCap w (l.length+m.length) IX 5-(l.length+m.length))).toList,rfl,hB,?_,?_,by simp,grownCap_ge _ _ _ _,grownCap_le_maxLen _ _ _ _ (by simp only[maxLen];omega),cb h0 (grownCap_ge _ _ _ _)⟩,hO.p0⟩
  ·have e:∀(x:List aw) (z:Array aw),x.toArray++z=(x++z.toList).toArray:=fun x z=>by simp
   rw[e];exact Blk.alloc w.drew 5 _
  ·exact(C6 w _ (size:=1) rfl).trans (tL _)
 rcases h with⟨rfl,rfl⟩ | ⟨g,tail,h1,h2,h3,h4,h5,h6,h7,h8⟩
 ·cases m with
  | nil=>
   refine⟨Sl.nil,w,?_,.inl ⟨rfl,rfl⟩,OnlyP.refl _ _,.inl rfl⟩;have hf:=Lib.run_firstCells_string (P:=aq) w 1 (T []);have h0:(T []).size=0:=rfl;rw[h0]at hf;simp[Sl.nil,Sl.v,Builtin.append_,run_underlying ht,run_underlying hu,sizeOf,typeInfo,hi,NY,Builtin.lenOf,h0,hf]
  | cons c m=>
   have hr:=run_append_nil_string (P:=aq) w 68 9 68 5 Tryz.t5 (.int .u8 0) ht hu hi hz (T (c::m)) (by rw[hsz];simp) (by rw[hsz];omega) (by rw[hsz,zf];omega);rw[hsz]at hr;obtain⟨g1,g2⟩:=grown (c::m).length 0 (by simp) (by simp) _ rfl;have e1:(T (c::m)).data.map (fun b=>Value.int .u8 b.toNat)=(List.map fx ([]++c::m)).toArray:=by
    apply KC.1;rw[Array.toList_map,eX];rfl
   rw[e1]at hr;exact⟨_,_,hr,g1,g2,.inr rfl⟩
 ·obtain⟨sa,sn,sc⟩:=s;dsimp only at h1 h4 h5 h6 h7 h8;subst h1;by_cases oZ:sn+m.length<=sc
  ·have Wx:=h3;unfold Blk at h3;have hr:=Lib.run_append_room_string (P:=aq) w 68 9 68 5 Tryz.t5 ht hu hi NY g sn sc _ h3 (T m) (by rw[hsz];exact oZ) (by
    rw[hsz,kc,aD,bL];omega)
   rw[hsz,abM]at hr;refine⟨⟨some ⟨g,0,none⟩,sn+m.length,sc⟩,_,hr,.inr ⟨g,tail.drop m.length,rfl,h2,?_,?_,by dsimp only;rw[aD];omega,oZ,h7,h8⟩,(Only.setRow w g _).p fun x hx=>.inl (by simp only[aF]at hx;rw[hx]),.inl rfl⟩
   ·have:=Wx.setRow ((l++m).map fx++tail.drop m.length);have e:((l.map fx++tail).toArray.toList.take sn++m.map fx++(l.map fx++tail).toArray.toList.drop (sn+m.length))=(l++m).map fx++tail.drop m.length:=by
     rw[eX,KZ (by rw[bL];omega),bB (by rw[bL];omega),List.drop_append,cX (by rw[bL];omega),cd,bL,di,h5,dw]
    rw[e];exact this
   ·rw[bN];dsimp only;omega
  ·have OB:∀j v,(l.map fx)[j]? =some v->w.cell? ((⟨g,0,none⟩:Addr).add j)=some v:=fun j v hj=>h3.cells 0 (l.map fx) (fun j v hj=>by rw[bm,bF (aP.1 hj).1];exact hj) j v hj;have hr:=Lib.run_append_grow_string (P:=aq) w 68 9 68 5 Tryz.t5 (.int .u8 0) ht hu hi hz ⟨g,0,none⟩ sn sc (l.map fx) (by rw[NY,bL];omega) OB (T m) (by rw[hsz];omega) (by rw[hsz];omega) (growslice_fits (by rw[hsz];omega) (by rw[hsz,zf];omega));rw[hsz,abM]at hr;obtain⟨g1,g2⟩:=grown (sn+m.length) sc (by omega) (by omega) _ rfl;refine⟨_,_,hr.trans ?_,g1,g2,.inr rfl⟩;simp[di]
theorem TF (w:av) (F:Nat->Prop):∀l:aB,ny jE 1 w F l (l.map fun b=>[fx b])
 | []=>trivial
 | c::l=>⟨⟨rfl,rfl⟩,TF w F l⟩
theorem Mu:∀l:aB,(l.map fun b=>[fx b]).flatten=l.map fx
 | []=>rfl
 | c::l=>by rw[bg,cE,Mu l];rfl
theorem D0 {w:av} {F:Nat->Prop}:∀{l:aB} {css:List (List aw)},ny jE 1 w F l css->css.flatten=l.map fx
 | [],[],_=>rfl
 | c::l,d::css,h=>by
  obtain⟨⟨_,h1⟩,h2⟩:=h;unfold jE at h1;subst h1;rw[cE,D0 h2];rfl
theorem Bf.own {w:av} {B:Nat} {s:Sl} {l:aB} (h:Bf w B s l) (F:Nat->Prop):Own jE 1 5 B w F s l:=by
 rcases h with h | ⟨g,tail,h1,h2,h3,h4,h5,h6,h7,_⟩
 ·exact .inl h
 ·exact .inr ⟨g,l.map fun b=>[fx b],tail,h1,h2,by rw[Mu];exact h3,by rw[tL];exact h4,h5,h6,h7,TF _ _ _⟩
theorem Bf.of {w:av} {B:Nat} {s:Sl} {l:aB} {F:Nat->Prop} (h:Own jE 1 5 B w F s l) (h0:0<l.length):Bf w B s l:=by
 rcases h with h | ⟨g,css,tail,h1,h2,h3,h4,h5,h6,h7,h8⟩
 ·exact .inl h
 ·exact .inr ⟨g,tail,h1,h2,by rw[<-D0 h8];exact h3,by rw[h4,tL],h5,h6,h7,by omega⟩
structure Pg (G:Nat->Prop) (w:av) (b:Nat) (sl sn:Sl) (l:aB):Prop where
 blk:∃q:Option Addr,(q=none∨q=some ⟨b,0,none⟩)/\Blk w b 288 [ae q,sl.v,sn.v]
 buf:Bf w (b+1) sl l
 sig:SliceF iW 1 w G sn sA
 hG:∀k,G k->k<b
def ir (b:Nat) (sl:Sl) (w:av) (fW:Sl) (w':av):Prop:=OnlyP (fun k=>k=b∨sl.a=some ⟨k,0,none⟩) w w'/\∀k,fW.a=some ⟨k,0,none⟩->sl.a=some ⟨k,0,none⟩∨w.heap.size<=k
theorem ir.refl (b:Nat) (sl:Sl) (w:av):ir b sl w sl w:=⟨OnlyP.refl _ _,fun _ h=>.inl h⟩
theorem ir.trans {b:Nat} {sl fW Ku:Sl} {w w' se:av} (h:ir b sl w fW w') (k:ir b fW w' Ku se):ir b sl w Ku se:=by
 have z:=h.1.size;refine⟨h.1.trans k.1 fun x hx=>?_,fun x hx=>?_⟩
 ·rcases hx with hx | hx
  ·exact .inl (.inl hx)
  ·rcases h.2 x hx with e | e
   ·exact .inl (.inr e)
   ·exact .inr e
 ·rcases k.2 x hx with e | e
  ·exact h.2 x e
  ·exact .inr (by omega)
theorem ir.only {b:Nat} {sl:Sl} {w w':av} (h:ay [] w w'):ir b sl w sl w':=⟨h.p0,fun _ h=>.inl h⟩
theorem ir.same {b:Nat} {sl fW:Sl} {w w':av} (h:ir b sl w fW w') {k:Nat} (hk:k≠b) (hs:sl.a≠some ⟨k,0,none⟩) (hl:k<w.heap.size):aR [k] w w':=h.1.same (by
 intro x hx;simp only[aF]at hx;subst hx;exact⟨hl,fun e=>e.elim hk hs⟩)
theorem Pg.only {G:Nat->Prop} {w w':av} {b:Nat} {sl sn:Sl} {l:aB} (h:Pg G w b sl sn l) (hO:ay [] w w'):Pg G w' b sl sn l:=by
 obtain⟨q,hq,hB⟩:=h.blk;exact⟨⟨q,hq,hO.blk hB (by simp)⟩,h.buf.keep fun g _ hl=>hO.block g hl (by simp),SliceF.only cG (by decide) h.sig hO (by simp),h.hG⟩
theorem Pg.lb {G:Nat->Prop} {w:av} {b:Nat} {sl sn:Sl} {l:aB} (h:Pg G w b sl sn l):b<w.heap.size:=by
 obtain⟨q,hq,hB⟩:=h.blk;exact hB.lt
theorem TG (v:aw) (w:av):(Jt 211 #[v]).run aq w=.ok v w:=by
 unfold Jt;rw[Sem.run_bind,run_callFunc_extern Tryz.func211 (by kernel_rfl) (by kernel_rfl) (by kernel_rfl) (e:=Extern.AbiNoEscape.same) (by kernel_rfl)];rw[Lib.run_noEscape];rfl
theorem HO {w:av} {b:Nat} {q:Option Addr} {sl sn:Sl} (hq:q=none∨q=some ⟨b,0,none⟩) (h:Blk w b 288 [ae q,sl.v,sn.v]):
  az aq 145 #[ae (some ⟨b,0,none⟩)] w fun e w'=>e=ak (ai #[])/\ay [b] w w'/\Blk w' b 288 [ae (some ⟨b,0,none⟩),sl.v,sn.v]:=by
 refine ret (Tu _ _ _ ?_);unfold L2;have qi:w.shape? b=some (288,3):=by
  unfold World.shape?;unfold Blk at h;rw[h];rfl
 refine⟨q,Blk.dI h 0 rfl,fun hn=>?_,fun hn=>⟨q,Blk.dI h 0 rfl,?_⟩⟩
 ·have hr1:=Lib.run_to_unsafe (P:=aq) (src:=67) (dst:=248) w ⟨b,0,none⟩ (t:=70) (j:=Tryz.t70) (by kernel_rfl) (by kernel_rfl) (by kernel_rfl) (by decide) qi (by decide:(0:Nat)<3);have hr2:=Lib.run_from_unsafe (P:=aq) (src:=248) (dst:=67) w ⟨b,0,none⟩ (u:=70) (j:=Tryz.t70) (by kernel_rfl) (by kernel_rfl) (by kernel_rfl) qi (by kernel_rfl);exact⟨⟨ae (some ⟨b,0,none⟩),rfl⟩,w,hr1,⟨ae (some ⟨b,0,none⟩),rfl⟩,w,TG _ w,some ⟨b,0,none⟩,w,hr2,b,0,_,_,rfl,h,by simp,fun w3 hO hB=>⟨rfl,hO,hB⟩⟩
 ·rcases hq with rfl | rfl
  ·cases hn
  ·exact⟨false,w,Lib.run_neq_ptr_same w _ (te:=70) (j:=Tryz.t70) (by kernel_rfl) (by kernel_rfl),fun e=>(by cases e),fun _=>⟨rfl,Only.refl _ _,h⟩⟩
section
variable {G:Nat->Prop} {w:av} {b:Nat} {sl sn:Sl} {l:aB}
theorem Vo (h:Pg G w b sl sn l):az aq 91 #[ae (some ⟨b,0,none⟩)] w fun e w'=>e=ak (O U (l.length:Int))/\w'=w:=by
 refine ret (Tn _ _ _ ?_);unfold L0;obtain⟨q,hq,hB⟩:=h.blk;exact⟨sl,Blk.dI hB 1 rfl,by rw[h.buf.len],rfl⟩
theorem n9 (h:Pg G w b sl sn l) (m:aB) (hm:l.length+m.length<=140737488355328):az aq 82 #[ae (some ⟨b,0,none⟩),ab (T m)] w fun e w'=>
  ∃fW,e=ak (ai #[O U (m.length:Int),.nilIface])/\Pg G w' b fW sn (l++m)/\ir b sl w fW w':=by
 refine(Tt ⟨b,0,none⟩ (T m) (fun v w'=>∃fW,v=ai #[O U (m.length:Int),.nilIface]/\Pg G w' b fW sn (l++m)/\ir b sl w fW w') w ?_).mono (by
  rintro e w' ⟨v,rfl,s,rfl,h⟩;exact⟨s,rfl,h⟩)
 unfold L1;obtain⟨q,hq,hB⟩:=h.blk;refine(HO hq hB).mono ?_;rintro _ w0 ⟨rfl,bT,AM⟩;have z0:=bT.size;have hb:=hB.lt;have uI:Bf w0 (b+1) sl l:=h.buf.keep fun g hg hl=>bT.block g hl (by have:=(h.buf.lt hg).1;simp;omega);obtain⟨s',w1,k1,k2,k3,k4⟩:=wY uI m (by omega) hm;have z1:=k3.size;have pi:Blk w1 b 288 [ae (some ⟨b,0,none⟩),sl.v,sn.v]:=k3.blk AM fun e=>by have:=(uI.lt e).1;omega
 have AK:∀g,s'.a=some ⟨g,0,none⟩->b<g:=fun g hg=>by
  rcases k4 with e | e
  ·rw[e]at hg;exact(uI.lt hg).1
  ·rw[e]at hg;injection hg with hg;injection hg with hg;omega
 refine⟨rfl,sl,Blk.dI AM 1 rfl,s',w1,k1,b,1,_,_,rfl,pi,by simp,fun w2 cp kC=>⟨s',by rw[bI],⟨⟨_,.inr rfl,kC⟩,k2.keep fun g hg hl=>cp.block g hl (by have:=AK g hg;simp;omega),?_,h.hG⟩,?_,?_⟩⟩
 ·have h0:=SliceF.only cG (by decide) h.sig bT fun k hk _ hm=>by have:=h.hG k hk;simp only[aF]at hm;omega
  have h1:=SliceF.wg cG (by decide) h0 k3 fun k hk _ hm=>by have:=h.hG k hk;have:=(uI.lt hm).1;omega
  exact SliceF.only cG (by decide) h1 cp fun k hk _ hm=>by have:=h.hG k hk;simp only[aF]at hm;omega
 ·refine((bT.p (F:=fun k=>k=b∨sl.a=some ⟨k,0,none⟩) fun x hx=>.inl (.inl (by simpa using hx))).trans k3 fun k hk=>.inl (.inr hk)).trans (cp.p (F:=fun k=>k=b) fun x hx=>.inl (by simpa using hx)) fun k hk=>.inl (.inl hk)
 ·intro k hk;rcases k4 with e | e
  ·rw[e]at hk;exact .inl hk
  ·rw[e]at hk;injection hk with hk;injection hk with hk;exact .inr (by omega)
theorem TH (h:Pg G w b sl sn l) (c:UInt8) (hm:l.length+1<=140737488355328):Ht ⟨b,0,none⟩ (c.toNat:Int) (fun v w'=>∃fW,v=.nilIface/\Pg G w' b fW sn (l++[c])/\ir b sl w fW w') w:=by
 unfold Ht;obtain⟨q,hq,hB⟩:=h.blk;refine(HO hq hB).mono ?_;rintro _ w0 ⟨rfl,bT,AM⟩;have z0:=bT.size;have hb:=hB.lt;have uI:Bf w0 (b+1) sl l:=h.buf.keep fun g hg hl=>bT.block g hl (by have:=(h.buf.lt hg).1;simp;omega);obtain⟨y,w1,k1,k2,k3,_⟩:=pH w0 [c] (n:=1) (parts:=#[(0,.int .u8 (c.toNat:Int))]) rfl rfl (by decide) (by decide);have z1:=k3.size;have adS:Bf w1 (b+1) sl l:=uI.keep fun g hg hl=>k3.block g hl (by simp);obtain⟨s',w2,m1,m2,gs,m3,m4,m5⟩:=pu (P:=aq) (t:=68) (ty:=68) (e:=5) (i:=Tryz.t5) (bytes:=1) (size:=1) (r:=jE) yy BK rfl rfl rfl rfl oz (adS.own fun _=>True) ((uc k2).mono oz fun k hk=>⟨trivial,fun e=>by have:=(uI.lt e).2;have:=hk.1;omega⟩) (by omega) (by rw[aW];omega) (by decide);have z2:=m3.size;have cp:OnlyP (fun k=>sl.a=some ⟨k,0,none⟩) w1 w2:=m3.p fun x hx=>.inl (m4 x hx).1;have kC:Blk w2 b 288 [ae (some ⟨b,0,none⟩),sl.v,sn.v]:=cp.blk (k3.blk AM (by simp)) fun e=>by have:=(uI.lt e).1;omega
 have AK:∀g,s'.a=some ⟨g,0,none⟩->b<g:=fun g hg=>by
  rcases m5 with e | e
  ·rw[e]at hg;exact(uI.lt hg).1
  ·rw[e]at hg;injection hg with hg;injection hg with hg;omega
 refine⟨rfl,sl,Blk.dI AM 1 rfl,y,w1,k1,s',w2,m1,b,1,_,_,rfl,kC,by simp,fun w3 cO sK=>⟨s',rfl,⟨⟨_,.inr rfl,sK⟩,(Bf.of m2 (by simp)).keep fun g hg hl=>cO.block g hl (by have:=AK g hg;simp;omega),?_,h.hG⟩,?_,?_⟩⟩
 ·have h0:=SliceF.only cG (by decide) h.sig (bT.bP k3) fun k hk _ hm=>by have:=h.hG k hk;simp only[aF]at hm;omega
  have h1:=SliceF.wg cG (by decide) h0 cp fun k hk _ hm=>by have:=h.hG k hk;have:=(uI.lt hm).1;omega
  exact SliceF.only cG (by decide) h1 cO fun k hk _ hm=>by have:=h.hG k hk;simp only[aF]at hm;omega
 ·refine(((bT.bP k3).p (F:=fun k=>k=b∨sl.a=some ⟨k,0,none⟩) fun x hx=>.inl (.inl (by simpa using hx))).trans cp fun k hk=>.inl (.inr hk)).trans (cO.p (F:=fun k=>k=b) fun x hx=>.inl (by simpa using hx)) fun k hk=>.inl (.inl hk)
 ·intro k hk;rcases m5 with e | e
  ·rw[e]at hk;exact .inl hk
  ·rw[e]at hk;injection hk with hk;injection hk with hk;exact .inr (by omega)
theorem QZ (h:Pg G w b sl sn l) (c:UInt8) (hm:l.length+1<=140737488355328):az aq 296 #[ae (some ⟨b,0,none⟩),.int .u8 (c.toNat:Int)] w fun e w'=>
 ∃fW,e=ak .nilIface/\Pg G w' b fW sn (l++[c])/\ir b sl w fW w':=(aaF _ _ _ w (TH h c hm)).mono (by
 rintro e w' ⟨v,rfl,s,rfl,h⟩;exact⟨s,rfl,h⟩)
theorem Q0 (h:Pg G w b sl sn l) (c:UInt8) (hm:l.length+1<=140737488355328):jW aq 296 #[ae (some ⟨b,0,none⟩),.int .u8 (c.toNat:Int)] w fun v w'=>
 ∃fW,v=.nilIface/\Pg G w' b fW sn (l++[c])/\ir b sl w fW w':=lP _ _ _ w (TH h c hm)
structure Pt (w:av) (b:Nat) (sl:Sl) (l:aB):Prop where
 blk:∃q sn:aw,Blk w b 288 [q,sl.v,sn]
 len:sl.n=l.length
 some:l≠[]->∃g,sl.a=.some ⟨g,0,none⟩/\b<g/\sl.c≠0/\(∃n,w.shape? g=.some (5,n)/\l.length<=n)/\Cells w ⟨g,0,none⟩ (l.map fx)
 cap:sl.a=none∨sl.c≠0
 big:l.length<=9223372036854775807
theorem yz {w w':av} {g:Nat} (h:w'.heap[g]? =w.heap[g]?):w'.shape? g=w.shape? g:=by
 unfold World.shape?;rw[h]
theorem Pt.only {w':av} (h:Pt w b sl l) (hO:ay [] w w'):Pt w' b sl l:=by
 obtain⟨⟨q,sn,h1⟩,h2,h3,h4,h5⟩:=h;refine⟨⟨q,sn,hO.blk h1 (by simp)⟩,h2,fun hl=>?_,h4,h5⟩;obtain⟨g,a1,a2,a3,⟨n,a4,a5⟩,a6⟩:=h3 hl;have hg:g<w.heap.size:=by
  refine bf fun hn=>?_;unfold World.shape? at a4;rw[eL (by omega)]at a4;cases a4
 have hk:=hO.block g hg (by simp);exact⟨g,a1,a2,a3,⟨n,(yz hk).trans a4,a5⟩,a6.keep hk⟩
theorem Pg.pt (h:Pg G w b sl sn l):Pt w b sl l:=by
 obtain⟨q,hq,hB⟩:=h.blk;refine⟨⟨_,_,hB⟩,h.buf.len,fun hl=>?_,?_,?_⟩
 ·rcases h.buf with⟨_,e⟩ | ⟨g,tail,h1,h2,h3,h4,h5,h6,h7,h8⟩
  ·exact absurd e hl
  ·have h0:l.length≠0:=fun e=>hl (bc e);refine⟨g,h1,h2,by omega,⟨_,by unfold World.shape?;unfold Blk at h3;rw[h3],by simp⟩,h3.cells 0 (l.map fx) fun j v hj=>by rw[bm,bF (aP.1 hj).1];exact hj⟩
 ·rcases h.buf with⟨e,_⟩ | ⟨g,tail,h1,h2,h3,h4,h5,h6,h7,h8⟩
  ·exact .inl (by rw[e])
  ·exact .inr (by omega)
 ·rcases h.buf with⟨_,e⟩ | ⟨g,tail,h1,h2,h3,h4,h5,h6,h7⟩
  ·subst e;simp
  ·omega
end
theorem ui (w:av) (p:Addr) (n:Nat) (a:Nat):(w.freeze p n).shape? a=w.shape? a:=by
 unfold World.freeze;split
 ·rfl
 ·unfold World.shape?;simp only[zd];by_cases RQ:p.block=a
  ·rw[if_pos RQ];cases h:w.heap[a]? with
   | none=>rfl
   | some o=>
    cases o with
    | cells c e f=>obtain⟨lo,hi⟩:=f;rfl
    | _=>rfl
  ·rw[if_neg RQ]
section
variable {w:av} {b:Nat} {sl:Sl} {l:aB}
theorem Mx (h:Pt w b sl l):az aq 43 #[ae (some ⟨b,0,none⟩)] w fun e w'=>e=ak (ab (T l))/\Pt w' b sl l/\OnlyP (fun k=>b<k/\sl.a=some ⟨k,0,none⟩) w w':=by
 refine ret (Tx _ _ _ ?_);unfold L3;intro w0 bT;have h0:=h.only bT;obtain⟨⟨q,sn,hB⟩,dN,E4,mD,og⟩:=h0;refine⟨fun k=>k=b,sl,Blk.dI hB 1 rfl,rfl,sl,Blk.dI hB 1 rfl,sl.a,w0,?_,fun k _ _=>rfl,?_⟩
 ·obtain⟨sa,sn',sc⟩:=sl;cases sa with
  | none=>exact Lib.run_unsafeSliceData_nil _ _ _ _ _
  | some a=>
   rcases mD with e | e
   ·cases e
   ·exact Lib.run_unsafeSliceData_row _ _ _ _ _ _ e
 ·by_cases hl:l=[]
  ·subst hl;have hn:sl.n=0:=dN;refine⟨T [],w0,?_,fun k _ _=>rfl,rfl,⟨⟨q,sn,hB⟩,dN,E4,mD,og⟩,bT.p0⟩;rw[hn];exact Lib.run_unsafeString_none _ _ _ _ _
  ·obtain⟨g,ha,Om,hc,⟨m,qi,hm⟩,tE⟩:=E4 hl;have hF:=qL w0 ⟨g,0,none⟩ l.length;have I1:b<w0.heap.size:=hB.lt;refine⟨T l,w0.freeze ⟨g,0,none⟩ l.length,?_,fun k hk bJ=>hF.block k bJ (by dsimp only;omega),rfl,⟨⟨q,sn,hF.blk hB (by dsimp only;omega)⟩,dN,fun _=>⟨g,ha,Om,hc,⟨m,(ui _ _ _ _).trans qi,hm⟩,fun j v hj=>by rw[qK];exact tE j v hj⟩,mD,og⟩,bT.yT (hF.mono fun k _ hk=>by dsimp only at hk;subst hk;exact⟨Om,ha⟩)⟩;rw[ha,dN];exact Lib.run_unsafeString_row _ _ _ _ 5 (by kernel_rfl) (by kernel_rfl) g m qi l hl hm og fun j x hj=>tE j (fx x) (by rw[cH,hj];rfl)
end
def opn (wr:Bool) (l:aB):aB:=if wr then l++[40]else l
def clo (wr:Bool) (l:aB):aB:=if wr then l++[41]else l
def mJ:Nat->Ex->Bool->aB->aB
 | 0,_,_,l=>l
 | d+1,x,wr,l=>if 16384<l.length then l else clo wr (
  if x.k=1 then opn wr l++Lib.itoa x.n
  else if x.k=2 then opn wr l++x.s
  else if x.k=3 then opn wr l++([105,110,40]++x.s++[41])
  else if x.k=4 then(match x.cR with
   | [y]=>mJ d y (decide (bD y<6)) (opn wr l++dh x.op.toNat)
   | _=>l)
  else(match x.cR with
   | [y,z]=>mJ d z (decide (bD z<=bD x)) (mJ d y (decide (bD y<bD x)) (opn wr l)++([32]++dh x.op.toNat++[32]))
   | _=>l))
section
variable {x:Ex}
theorem sU {n:Int} {s:aB} {op len:Int} (h:JH n s op len x=true):x.n=n/\x.s=s/\x.op=op/\(x.cR.length:Int)=len:=by
 simp only[JH,aE,cZ,bd]at h;exact⟨h.1.1.1,h.1.1.2,h.1.2,h.2⟩
theorem iG (h:fF x=true) (hk:x.k=2∨x.k=3):cF x.s=true:=by
 have h1:x.k≠1:=by omega
 rw[fF,if_neg h1,if_pos hk,aE]at h;exact h.1
theorem qU (h:fF x=true) (hk:x.k=4):∃y,x.cR=[y]/\(x.op=14∨x.op=15):=by
 rw[fF,if_neg (by omega),if_neg (by omega),if_pos hk]at h;obtain⟨_,_,h3,h4⟩:=sU h;obtain⟨y,hy⟩:=List.length_eq_one_iff.1 (show x.cR.length=1 by omega);refine⟨y,hy,?_⟩;by_cases CA:x.op=15
 ·exact .inr CA
 ·rw[if_neg CA]at h3;exact .inl h3
theorem mV (h:fF x=true) (h1:x.k≠1) (h2:x.k≠2) (h3:x.k≠3) (h4:x.k≠4):x.k=5/\∃y z,x.cR=[y,z]/\1<=x.op/\x.op<=13:=by
 rw[fF,if_neg h1,if_neg (by omega),if_neg h4]at h;split at h
 ·rename_i h5;rw[aE]at h;obtain⟨h6,h7⟩:=h;obtain⟨_,_,_,h8⟩:=sU h7;have h6:dY x.op≠6:=by simpa using h6
  have h2l:x.cR.length=2:=by omega
  obtain⟨y,z,hy⟩:∃y z,x.cR=[y,z]:=by
   match hm:x.cR,h2l with
   | [y,z],_=>exact⟨y,z,rfl⟩
  refine⟨h5,y,z,hy,?_⟩;unfold dY at h6;refine bf fun hn=>h6 ?_;rw[if_neg (by omega),if_neg (by omega),if_neg (by omega),if_neg (by omega),if_neg (by omega),if_neg (by omega)]
 ·cases h
theorem fP {s:aB} (h:cF s=true):s.length<=24:=by
 unfold cF at h;simp only[aE]at h;exact(aG h.1.1.1).2
theorem jI (n:Nat):(dh n).length<=2:=by
 rcases jP n 16 with h | h
 ·have:∀q,q<16->(dh q).length<=2:=by decide
  exact this n h
 ·unfold dh;rw[cr (by exact h)];decide
theorem HP (wr:Bool) (l:aB):(opn wr l).length<=l.length+1:=by
 unfold opn;cases wr<;>simp
theorem Q1 (wr:Bool) (l:aB):(clo wr l).length<=l.length+1:=by
 unfold clo;cases wr<;>simp
theorem pL:∀(d:Nat) {x:Ex} (wr:Bool) (l:aB),bW d x=true->jm d x->(mJ d x wr l).length<=l.length+40*kq d x
 | 0,x,wr,l,h,_=>by cases h
 | d+1,x,wr,l,h,⟨hn,hs⟩=>by
  rw[bW,aE]at h;obtain⟨hh,ha⟩:=h;have h1:=HP wr l;rw[mJ,kq];split
  ·omega
  refine aX (Q1 _ _) ?_;split
  ·rw[aD];have:=Lib.itoa_length_le x.n hn.1 hn.2;omega
  ·split
   ·rename_i hk;rw[aD];have:=fP (iG hh (.inl hk));omega
   ·split
    ·rename_i hk;rw[aD,aD,aD];have:=fP (iG hh (.inr hk));simp only[aH,aN];omega
    ·split
     ·rename_i hk;obtain⟨y,hy,_⟩:=qU hh hk;rw[hy]at ha hs⊢;dsimp only;simp only[im,cA,mB]at ha⊢;have:=pL d (decide (bD y<6)) (opn wr l++dh x.op.toNat) ha (hs y (by simp));rw[aD]at this;have:=jI x.op.toNat;omega
     ·rename_i k1 k2 k3 k4;obtain⟨hk,y,z,hy,_⟩:=mV hh k1 k2 k3 k4;rw[hy]at ha hs⊢;dsimp only;simp only[im,cA,mB,aE]at ha⊢;have a1:=pL d (decide (bD y<bD x)) (opn wr l) ha.1 (hs y (by simp));have a2:=pL d (decide (bD z<=bD x)) (mJ d y (decide (bD y<bD x)) (opn wr l)++([32]++dh x.op.toNat++[32])) ha.2 (hs z (by simp));rw[aD,aD,aD]at a2;have:=jI x.op.toNat;simp only[aH,aN]at a2;omega
end
structure Pz (d:Nat) (F G:Nat->Prop) (k0 b:Nat) (sub sn:Sl) (subs:List Ex) (w:av) (sl:Sl) (l:aB):Prop where
 pg:Pg G w b sl sn l
 tb:Tb w
 own:k0≠b/\sl.a≠some ⟨k0,0,none⟩/\k0<w.heap.size
 sb:SliceF (mA d) 6 w F sub subs
 hF:∀k,F k->k<b
 hT:3<b
section
variable {d:Nat} {F G:Nat->Prop} {k0 b:Nat} {sx sn sl fW:Sl} {subs:List Ex} {w w' se:av} {l l':aB}
theorem Pg.out (h:Pg G w b sl sn l) {k:Nat} (hk:k<b):¬(k=b∨sl.a=some ⟨k,0,none⟩):=by
 rintro(e | e)
 ·omega
 ·have:=(h.buf.lt e).1;omega
theorem Pz.only (h:Pz d F G k0 b sx sn subs w sl l) (hO:ay [] w w'):Pz d F G k0 b sx sn subs w' sl l:=by
 have z:=hO.size;exact⟨h.pg.only hO,h.tb.only hO,⟨h.own.1,h.own.2.1,by have:=h.own.2.2;omega⟩,SliceF.only (dD d) (by decide) h.sb hO (by simp),h.hF,h.hT⟩
theorem Pz.mv (h:Pz d F G k0 b sx sn subs w sl l) (hp:Pg G w' b fW sn l') (hm:ir b sl w fW w'):Pz d F G k0 b sx sn subs w' fW l'/\aR [k0] w w'/\bE (fun k=>k<b∨k=k0) w w':=by
 have z:=hm.1.size;obtain⟨o1,o2,o3⟩:=h.own;refine⟨⟨hp,h.tb.keep fun bJ=>hm.1.block _ bJ (h.pg.out h.hT),⟨o1,fun e=>?_,by omega⟩,SliceF.wg (dD d) (by decide) h.sb hm.1 fun k hk _=>h.pg.out (h.hF k hk),h.hF,h.hT⟩,hm.same o1 o2 o3,fun k hk bJ=>hm.1.block k bJ ?_⟩
 ·rcases hm.2 k0 e with e | e
  ·exact o2 e
  ·omega
 ·rcases hk with hk | rfl
  ·exact h.pg.out hk
  ·rintro(e | e)
   ·exact o1 e
   ·exact o2 e
theorem ir.after (h:ir b sl w' fW se) (hO:ay [] w w'):ir b sl w fW se:=(ir.only hO).trans h
theorem Pz.same (h:Pz d F G k0 b sx sn subs w sl l) (hO:ay [] w w'):aR [k0] w w':=hO.same (by have:=h.own.2.2;simp;omega)
theorem Pz.sig (h:Pz d F G k0 b sx sn subs w sl l) {op:Int} (h0:0<=op) (h1:op<16):∃ad,ck sn op 1 ad/\Cells w ad [ab (T (dh op.toNat))]:=by
 have hn:=h.pg.sig.len;have hol:sA.length=16:=rfl;obtain⟨ad,x,cs,g1,g2,g3,g4,g5,g6⟩:=h.pg.sig.get h0 (by omega);unfold iW at g6;subst g6;have hx:dh op.toNat=x:=by unfold dh;rw[g2];rfl
 subst hx;exact⟨ad,g1,g5⟩
theorem Pz.sub (h:Pz d F G k0 b sx sn subs w sl l) {i:Nat} {y:Ex} (hy:subs[i]? =some y):∃ad sy,ck sx (i:Int) 6 ad/\ad.block<b/\Cells w ad (jy y.k y.n y.s y.op sy y.a)/\mA d w F y (jy y.k y.n y.s y.op sy y.a):=by
 have hn:=h.sb.len;have bJ:=(aP.1 hy).1;obtain⟨ad,x,cs,g1,g2,g3,g4,g5,g6⟩:=h.sb.get (aO i) (by omega);rw[aM,hy]at g2;injection g2 with g2;subst g2;obtain⟨sy,rfl⟩:=jt g6;exact⟨ad,sy,g1,h.hF _ g3,g5,g6⟩
end
abbrev PgC (d:Nat):Prop:=∀{G F:Nat->Prop} {w:av} {b:Nat} {sl sn:Sl} {l:aB} {x:Ex} {cs:List aw} (wr:Bool),bW d x=true->jm d x->mA d w F x cs->(∀k,F k->k<b)->Tb w->3<b->Pg G w b sl sn l->l.length+40*kq d x<=70368744177664->
 az aq 264 #[ae (some ⟨b,0,none⟩),ah cs.toArray,aj wr] w fun e w'=>∃fW,e=ak (ai #[])/\Pg G w' b fW sn (mJ d x wr l)/\ir b sl w fW w'
theorem inb (s:aB):ao #[105,110,40]++T s++ao #[41]=T ([105,110,40]++s++[41]):=by
 rw[show ao #[105,110,40]=T [105,110,40]from rfl,show ao #[41]=T [41]from rfl,dH,dH]
theorem blb (s:aB):ao #[32]++T s++ao #[32]=T ([32]++s++[32]):=by
 rw[show ao #[32]=T [32]from rfl,dH,dH]
theorem XV (c:asw) (s:aB):(c++T s).size=c.size+s.length:=by
 rw[show c=T c.data.toList from uX c,dH,bI,bI,aD]
theorem jW.mono {P:Program} {f:FuncId} {a:Array aw} {w:av} {Q Q':aA} (h:jW P f a w Q) (hq:∀v w',Q v w'->Q' v w'):jW P f a w Q':=fun c cs hc=>by
 obtain⟨e,u',w',fr,⟨h1,v,h2,h3⟩,h4⟩:=h c cs hc;exact⟨e,u',w',fr,⟨h1,v,h2,hq _ _ h3⟩,h4⟩
theorem tv:∀d,PgC d
 | 0,_,_,_,_,_,_,_,_,_,_,_,_,h,_,_,_,_,_=>h.elim
 | d+1,G,F,w,b,sl,sG,l,x,cs,wr,qi,⟨PS,PT⟩,⟨xs,h1,h2⟩,hF,hT,WM,hP,dN=>by
  subst h1;refine(agD ⟨b,0,none⟩ x.k x.n (T x.s) x.op xs x.a wr (fun v w'=>∃fW,v=ai #[]/\Pg G w' b fW sG (mJ (d+1) x wr l)/\ir b sl w fW w') w ?_).mono (by
   rintro e w' ⟨v,rfl,s,rfl,h⟩;exact⟨s,rfl,h⟩)
  have hx:mA (d+1) w F x (jy x.k x.n x.s x.op xs x.a):=⟨xs,rfl,h2⟩
  rw[bW,aE]at qi;obtain⟨hh,ha⟩:=qi;rw[kq]at dN;unfold aaE;intro k0 w0 gN dJ bT;have hb:=hP.lb;have We:Pz d F G k0 b xs sG x.cR w0 sl l:=⟨hP.only bT,hT.only bT,⟨by omega,fun e=>by have:=(hP.buf.lt e).2;omega,dJ⟩,SliceF.only (dD d) (by decide) h2 bT (by simp),hF,WM⟩
  refine(Vo We.pg).mono ?_;rintro _ w1 ⟨rfl,rfl⟩;refine⟨_,rfl,fun _ _=>rfl,fun hc=>⟨sl,rfl,?_,(ir.only bT)⟩,fun hc=>?_⟩
  ·rw[mJ,if_pos (by have:=aG hc;omega)];exact We.pg
  have hc:¬16384<l.length:=by have:=aI hc;omega
  have I9:mJ (d+1) x wr l=clo wr (
  if x.k=1 then opn wr l++Lib.itoa x.n
  else if x.k=2 then opn wr l++x.s
  else if x.k=3 then opn wr l++([105,110,40]++x.s++[41])
  else if x.k=4 then(match x.cR with
   | [y]=>mJ d y (decide (bD y<6)) (opn wr l++dh x.op.toNat)
   | _=>l)
  else(match x.cR with
   | [y,z]=>mJ d z (decide (bD z<=bD x)) (mJ d y (decide (bD y<bD x)) (opn wr l)++([32]++dh x.op.toNat++[32]))
   | _=>l)):=by rw[mJ,if_neg hc]
  have hol:=HP wr l;refine⟨fun hw=>(QZ We.pg 40 (by omega)).mono ?_,fun hw=>?_⟩
  ·rintro _ w2 ⟨OA,rfl,Oj,sX⟩;obtain⟨CB,Kr,_⟩:=We.mv Oj sX;have OC:l++[40]=opn wr l:=by unfold opn;rw[if_pos hw]
   rw[OC]at CB;refine⟨⟨.nilIface,rfl⟩,rfl,Kr,?_⟩;have fin:∀{CT:Sl} {w5:av} {m:aB},Pz d F G k0 b xs sG x.cR w5 CT m->ir b OA w2 CT w5->mJ (d+1) x wr l=clo wr m->m.length<=l.length+40*(1+mB (kq d) x.cR)->jW aq 296 #[ae (some ((⟨b,0,none⟩:Addr).add 0)),.int .u8 41] w5 fun _ w'=>∃fW,(Value.tuple #[])=ai #[]/\Pg G w' b fW sG (mJ (d+1) x wr l)/\ir b sl w fW w':=by
    intro CT w5 m GP zH he OD;have hd:=Q0 GP.pg 41 (by omega);refine jW.mono hd ?_;rintro v w' ⟨fW,hv,hp',hm'⟩;refine⟨fW,rfl,?_,((sX.after bT).trans zH).trans hm'⟩;rw[he];unfold clo;rw[if_pos hw];exact hp'
   refine⟨fun hk w3 cO=>?_,fun k1=>⟨fun hk w7 fz=>?_,fun k2=>⟨fun hk=>⟨?_,?_,fun cK dy=>?_⟩,fun k3=>⟨fun hk dF dq=>?_,fun k4=>(nP (show mA (d+1) _ F x (jy x.k x.n x.s x.op xs x.a)from⟨xs,rfl,CB.sb⟩)).mono ?_⟩⟩⟩⟩
   ·have hk:x.k=1:=by simpa using hk
    have WN:=CB.only cO;refine(wX x.n PS WN.tb).mono ?_;rintro _ w4 ⟨rfl,dm⟩;have hz4:=WN.only dm;have hl:=Lib.itoa_length_le x.n PS.1 PS.2;refine⟨_,rfl,WN.same dm,(n9 hz4.pg (Lib.itoa x.n) (by omega)).mono ?_⟩;rintro _ w5 ⟨CT,rfl,OE,zH⟩;obtain⟨GP,Ja,_⟩:=hz4.mv OE zH;exact⟨_,⟨.nilIface,rfl⟩,rfl,Ja,fin GP ((zH.after dm).after cO) (by rw[I9,if_pos hk]) (by rw[aD];omega)⟩
   ·have hk:x.k=2:=by simpa using hk
    have k1:x.k≠1:=by omega
    have hz7:=CB.only fz;have hl:=fP (iG hh (.inl hk));refine(n9 hz7.pg x.s (by omega)).mono ?_;rintro _ w8 ⟨CT,rfl,OE,zH⟩;obtain⟨GP,Ja,_⟩:=hz7.mv OE zH;exact⟨_,⟨.nilIface,rfl⟩,rfl,Ja,fin GP (zH.after fz) (by rw[I9,if_neg k1,if_pos hk]) (by rw[aD];omega)⟩
   ·have hk:x.k=3:=by simpa using hk
    have hl:=fP (iG hh (.inr hk));rw[bI];omega
   ·have hk:x.k=3:=by simpa using hk
    have hl:=fP (iG hh (.inr hk));rw[XV];have:(ao #[105,110,40]).size=3:=rfl;omega
   ·have hk:x.k=3:=by simpa using hk
    have hl:=fP (iG hh (.inr hk));have OG:=CB.only dy;have tH:([105,110,40]++x.s++[41]:aB).length=x.s.length+4:=by
     rw[aD,aD];simp only[aH,aN];omega
    rw[inb];refine(n9 OG.pg _ (by omega)).mono ?_;rintro _ cY ⟨CT,rfl,OE,zH⟩;obtain⟨GP,Ja,_⟩:=OG.mv OE zH;exact⟨_,⟨.nilIface,rfl⟩,rfl,Ja,fin GP (zH.after dy) (by rw[I9,if_neg (by omega),if_neg (by omega),if_pos hk]) (by rw[aD];omega)⟩
   ·have hk:x.k=4:=by simpa using hk
    obtain⟨y,hy,nu⟩:=qU hh hk;have WO:mB (kq d) x.cR=kq d y:=by rw[hy];simp[mB]
    have WQ:bW d y=true:=by rw[hy]at ha;simpa[im]using ha
    have zI:jm d y:=PT y (by rw[hy];simp);have OH:=jI x.op.toNat;have CD:=CB.only dq;obtain⟨q,hq,hB⟩:=CD.pg.blk;obtain⟨ad,g1,g2⟩:=CD.sig (op:=x.op) (by omega) (by omega);refine⟨sG,Blk.dI hB 2 rfl,ad,g1,_,g2,(n9 CD.pg (dh x.op.toNat) (by omega)).mono ?_⟩;rintro _ eI ⟨Kv,rfl,WR,OI⟩;obtain⟨WS,WT,_⟩:=CD.mv WR OI;refine⟨_,⟨.nilIface,rfl⟩,rfl,WT,fun fQ jN=>?_⟩;have GQ:=WS.only jN;obtain⟨p1,sy,e1,e2,e3,e4⟩:=GQ.sub (i:=0) (y:=y) (by rw[hy];rfl);refine⟨fun k=>k<b∨k=k0,.inr rfl,p1,e1,.inl e2,_,_,_,_,_,_,e3,p1,e1,_,_,_,_,_,_,e3,(nP e4).mono ?_⟩;rintro _ gP ⟨rfl,jD⟩;have GR:=GQ.only jD;have Yr:=pL d (decide (bD y<6)) (opn wr l++dh x.op.toNat) WQ zI;rw[aD]at Yr;refine⟨_,rfl,GQ.same jD,bE.only jD,(tv d (decide (bD y<6)) WQ zI (fj e4 jD) hF GR.tb WM GR.pg (by rw[aD];omega)).mono ?_⟩;rintro _ fY ⟨ajg,rfl,WU,OJ⟩;obtain⟨WV,WW,WX⟩:=GR.mv WU OJ;exact⟨rfl,WW,WX,fin WV ((OI.after dq).trans ((OJ.after jD).after jN)) (by rw[I9,if_neg (by omega),if_neg (by omega),if_neg (by omega),if_pos hk,hy]) (by omega)⟩
   ·rintro _ ji ⟨rfl,kJ⟩;have k1:x.k≠1:=by simpa using k1
    have k2:x.k≠2:=by simpa using k2
    have k3:x.k≠3:=by simpa using k3
    have k4:x.k≠4:=by simpa using k4
    obtain⟨hk,y,z,hy,Oi,Fg⟩:=mV hh k1 k2 k3 k4;have WO:mB (kq d) x.cR=kq d y+kq d z:=by rw[hy];simp[mB]
    have vK:bW d y=true/\bW d z=true:=by rw[hy]at ha;simpa[im]using ha
    have zI:jm d y:=PT y (by rw[hy];simp);have PU:jm d z:=PT z (by rw[hy];simp);have OH:=jI x.op.toNat;have WY:=CB.only kJ;refine⟨_,rfl,CB.same kJ,fun iw kB=>?_⟩;have GS:=WY.only kB;obtain⟨p1,sy,e1,e2,e3,e4⟩:=GS.sub (i:=0) (y:=y) (by rw[hy];rfl);refine⟨fun k=>k<b∨k=k0,.inr rfl,p1,e1,.inl e2,_,_,_,_,_,_,e3,p1,e1,_,_,_,_,_,_,e3,(nP e4).mono ?_⟩;rintro _ j9 ⟨rfl,ix⟩;have GU:=GS.only ix;have Yr:=pL d (decide (bD y<bD x)) (opn wr l) vK.1 zI;refine⟨_,rfl,GS.same ix,bE.only ix,(tv d (decide (bD y<bD x)) vK.1 zI (fj e4 ix) hF GU.tb WM GU.pg (by omega)).mono ?_⟩;rintro _ nU ⟨ajh,rfl,WZ,OK⟩;obtain⟨W0,W1,W2⟩:=GU.mv WZ OK;refine⟨rfl,W1,W2,fun pc rz=>?_⟩;have CE:=W0.only rz;obtain⟨q,hq,hB⟩:=CE.pg.blk;obtain⟨ad,g1,g2⟩:=CE.sig (op:=x.op) (by omega) (by omega);have tH:([32]++dh x.op.toNat++[32]:aB).length=(dh x.op.toNat).length+2:=by
     rw[aD,aD];simp only[aH,aN];omega
    have zf:(ao #[32]).size=1:=rfl;refine⟨sG,Blk.dI hB 2 rfl,ad,g1,_,g2,by rw[bI];omega,by rw[XV];omega,?_⟩;rw[blb];refine(n9 CE.pg _ (by omega)).mono ?_;rintro _ qg ⟨aji,rfl,W3,OL⟩;obtain⟨W4,W5,_⟩:=CE.mv W3 OL;refine⟨_,⟨.nilIface,rfl⟩,rfl,W5,fun mL Cw=>?_⟩;have GV:=W4.only Cw;obtain⟨p2,sz,f1,f2,f3,f4⟩:=GV.sub (i:=1) (y:=z) (by rw[hy];rfl);refine⟨fun k=>k<b∨k=k0,.inr rfl,p2,f1,.inl f2,_,_,_,_,_,_,f3,p2,f1,_,_,_,_,_,_,f3,(nP f4).mono ?_⟩;rintro _ oe ⟨rfl,jc⟩;have GW:=GV.only jc;have W6:=pL d (decide (bD z<=bD x)) (mJ d y (decide (bD y<bD x)) (opn wr l)++([32]++dh x.op.toNat++[32])) vK.2 PU;rw[aD,tH]at W6;refine⟨_,rfl,GV.same jc,bE.only jc,(tv d (decide (bD z<=bD x)) vK.2 PU (fj f4 jc) hF GW.tb WM GW.pg (by rw[aD,tH];omega)).mono ?_⟩;rintro _ pT ⟨ajj,rfl,W7,OM⟩;obtain⟨W8,W9,Xa⟩:=GW.mv W7 OM;exact⟨rfl,W9,Xa,fin W8 (((OK.after ix).after kB).after kJ |>.trans ((OL.after rz).trans ((OM.after jc).after Cw))) (by rw[I9,if_neg k1,if_neg k2,if_neg k3,if_neg k4,hy]) (by omega)⟩
  ·have OC:l=opn wr l:=by unfold opn;rw[hw];rfl
   have CB:Pz d F G k0 b xs sG x.cR w1 sl (opn wr l):=by rw[<-OC];exact We
   have fin:∀{CT:Sl} {w5:av} {m:aB},Pz d F G k0 b xs sG x.cR w5 CT m->ir b sl w1 CT w5->mJ (d+1) x wr l=clo wr m->m.length<=l.length+40*(1+mB (kq d) x.cR)->∃fW,(Value.tuple #[])=ai #[]/\Pg G w5 b fW sG (mJ (d+1) x wr l)/\ir b sl w fW w5:=by
    intro CT w5 m GP zH he OD;refine⟨CT,rfl,?_,zH.after bT⟩;rw[he];unfold clo;rw[hw];exact GP.pg
   refine⟨fun hk w3 cO=>?_,fun k1=>⟨fun hk w7 fz=>?_,fun k2=>⟨fun hk=>⟨?_,?_,fun cK dy=>?_⟩,fun k3=>⟨fun hk dF dq=>?_,fun k4=>(nP (show mA (d+1) _ F x (jy x.k x.n x.s x.op xs x.a)from⟨xs,rfl,CB.sb⟩)).mono ?_⟩⟩⟩⟩
   ·have hk:x.k=1:=by simpa using hk
    have WN:=CB.only cO;refine(wX x.n PS WN.tb).mono ?_;rintro _ w4 ⟨rfl,dm⟩;have hz4:=WN.only dm;have hl:=Lib.itoa_length_le x.n PS.1 PS.2;refine⟨_,rfl,WN.same dm,(n9 hz4.pg (Lib.itoa x.n) (by omega)).mono ?_⟩;rintro _ w5 ⟨CT,rfl,OE,zH⟩;obtain⟨GP,Ja,_⟩:=hz4.mv OE zH;exact⟨_,⟨.nilIface,rfl⟩,rfl,Ja,fin GP ((zH.after dm).after cO) (by rw[I9,if_pos hk]) (by rw[aD];omega)⟩
   ·have hk:x.k=2:=by simpa using hk
    have k1:x.k≠1:=by omega
    have hz7:=CB.only fz;have hl:=fP (iG hh (.inl hk));refine(n9 hz7.pg x.s (by omega)).mono ?_;rintro _ w8 ⟨CT,rfl,OE,zH⟩;obtain⟨GP,Ja,_⟩:=hz7.mv OE zH;exact⟨_,⟨.nilIface,rfl⟩,rfl,Ja,fin GP (zH.after fz) (by rw[I9,if_neg k1,if_pos hk]) (by rw[aD];omega)⟩
   ·have hk:x.k=3:=by simpa using hk
    have hl:=fP (iG hh (.inr hk));rw[bI];omega
   ·have hk:x.k=3:=by simpa using hk
    have hl:=fP (iG hh (.inr hk));rw[XV];have:(ao #[105,110,40]).size=3:=rfl;omega
   ·have hk:x.k=3:=by simpa using hk
    have hl:=fP (iG hh (.inr hk));have OG:=CB.only dy;have tH:([105,110,40]++x.s++[41]:aB).length=x.s.length+4:=by
     rw[aD,aD];simp only[aH,aN];omega
    rw[inb];refine(n9 OG.pg _ (by omega)).mono ?_;rintro _ cY ⟨CT,rfl,OE,zH⟩;obtain⟨GP,Ja,_⟩:=OG.mv OE zH;exact⟨_,⟨.nilIface,rfl⟩,rfl,Ja,fin GP (zH.after dy) (by rw[I9,if_neg (by omega),if_neg (by omega),if_pos hk]) (by rw[aD];omega)⟩
   ·have hk:x.k=4:=by simpa using hk
    obtain⟨y,hy,nu⟩:=qU hh hk;have WO:mB (kq d) x.cR=kq d y:=by rw[hy];simp[mB]
    have WQ:bW d y=true:=by rw[hy]at ha;simpa[im]using ha
    have zI:jm d y:=PT y (by rw[hy];simp);have OH:=jI x.op.toNat;have CD:=CB.only dq;obtain⟨q,hq,hB⟩:=CD.pg.blk;obtain⟨ad,g1,g2⟩:=CD.sig (op:=x.op) (by omega) (by omega);refine⟨sG,Blk.dI hB 2 rfl,ad,g1,_,g2,(n9 CD.pg (dh x.op.toNat) (by omega)).mono ?_⟩;rintro _ eI ⟨Kv,rfl,WR,OI⟩;obtain⟨WS,WT,_⟩:=CD.mv WR OI;refine⟨_,⟨.nilIface,rfl⟩,rfl,WT,fun fQ jN=>?_⟩;have GQ:=WS.only jN;obtain⟨p1,sy,e1,e2,e3,e4⟩:=GQ.sub (i:=0) (y:=y) (by rw[hy];rfl);refine⟨fun k=>k<b∨k=k0,.inr rfl,p1,e1,.inl e2,_,_,_,_,_,_,e3,p1,e1,_,_,_,_,_,_,e3,(nP e4).mono ?_⟩;rintro _ gP ⟨rfl,jD⟩;have GR:=GQ.only jD;have Yr:=pL d (decide (bD y<6)) (opn wr l++dh x.op.toNat) WQ zI;rw[aD]at Yr;refine⟨_,rfl,GQ.same jD,bE.only jD,(tv d (decide (bD y<6)) WQ zI (fj e4 jD) hF GR.tb WM GR.pg (by rw[aD];omega)).mono ?_⟩;rintro _ fY ⟨ajg,rfl,WU,OJ⟩;obtain⟨WV,WW,WX⟩:=GR.mv WU OJ;exact⟨rfl,WW,WX,fin WV ((OI.after dq).trans ((OJ.after jD).after jN)) (by rw[I9,if_neg (by omega),if_neg (by omega),if_neg (by omega),if_pos hk,hy]) (by omega)⟩
   ·rintro _ ji ⟨rfl,kJ⟩;have k1:x.k≠1:=by simpa using k1
    have k2:x.k≠2:=by simpa using k2
    have k3:x.k≠3:=by simpa using k3
    have k4:x.k≠4:=by simpa using k4
    obtain⟨hk,y,z,hy,Oi,Fg⟩:=mV hh k1 k2 k3 k4;have WO:mB (kq d) x.cR=kq d y+kq d z:=by rw[hy];simp[mB]
    have vK:bW d y=true/\bW d z=true:=by rw[hy]at ha;simpa[im]using ha
    have zI:jm d y:=PT y (by rw[hy];simp);have PU:jm d z:=PT z (by rw[hy];simp);have OH:=jI x.op.toNat;have WY:=CB.only kJ;refine⟨_,rfl,CB.same kJ,fun iw kB=>?_⟩;have GS:=WY.only kB;obtain⟨p1,sy,e1,e2,e3,e4⟩:=GS.sub (i:=0) (y:=y) (by rw[hy];rfl);refine⟨fun k=>k<b∨k=k0,.inr rfl,p1,e1,.inl e2,_,_,_,_,_,_,e3,p1,e1,_,_,_,_,_,_,e3,(nP e4).mono ?_⟩;rintro _ j9 ⟨rfl,ix⟩;have GU:=GS.only ix;have Yr:=pL d (decide (bD y<bD x)) (opn wr l) vK.1 zI;refine⟨_,rfl,GS.same ix,bE.only ix,(tv d (decide (bD y<bD x)) vK.1 zI (fj e4 ix) hF GU.tb WM GU.pg (by omega)).mono ?_⟩;rintro _ nU ⟨ajh,rfl,WZ,OK⟩;obtain⟨W0,W1,W2⟩:=GU.mv WZ OK;refine⟨rfl,W1,W2,fun pc rz=>?_⟩;have CE:=W0.only rz;obtain⟨q,hq,hB⟩:=CE.pg.blk;obtain⟨ad,g1,g2⟩:=CE.sig (op:=x.op) (by omega) (by omega);have tH:([32]++dh x.op.toNat++[32]:aB).length=(dh x.op.toNat).length+2:=by
     rw[aD,aD];simp only[aH,aN];omega
    have zf:(ao #[32]).size=1:=rfl;refine⟨sG,Blk.dI hB 2 rfl,ad,g1,_,g2,by rw[bI];omega,by rw[XV];omega,?_⟩;rw[blb];refine(n9 CE.pg _ (by omega)).mono ?_;rintro _ qg ⟨aji,rfl,W3,OL⟩;obtain⟨W4,W5,_⟩:=CE.mv W3 OL;refine⟨_,⟨.nilIface,rfl⟩,rfl,W5,fun mL Cw=>?_⟩;have GV:=W4.only Cw;obtain⟨p2,sz,f1,f2,f3,f4⟩:=GV.sub (i:=1) (y:=z) (by rw[hy];rfl);refine⟨fun k=>k<b∨k=k0,.inr rfl,p2,f1,.inl f2,_,_,_,_,_,_,f3,p2,f1,_,_,_,_,_,_,f3,(nP f4).mono ?_⟩;rintro _ oe ⟨rfl,jc⟩;have GW:=GV.only jc;have W6:=pL d (decide (bD z<=bD x)) (mJ d y (decide (bD y<bD x)) (opn wr l)++([32]++dh x.op.toNat++[32])) vK.2 PU;rw[aD,tH]at W6;refine⟨_,rfl,GV.same jc,bE.only jc,(tv d (decide (bD z<=bD x)) vK.2 PU (fj f4 jc) hF GW.tb WM GW.pg (by rw[aD,tH];omega)).mono ?_⟩;rintro _ pT ⟨ajj,rfl,W7,OM⟩;obtain⟨W8,W9,Xa⟩:=GW.mv W7 OM;exact⟨rfl,W9,Xa,fin W8 (((OK.after ix).after kB).after kJ |>.trans ((OL.after rz).trans ((OM.after jc).after Cw))) (by rw[I9,if_neg k1,if_neg k2,if_neg k3,if_neg k4,hy]) (by omega)⟩
def lS (d:Nat) (x:Ex):aB:=if bW d x=true then(if(eV (mJ d x false [])).2.1≠0 then[]else mJ d x false [])else[]
theorem Vp {d:Nat} {w:av} {F:Nat->Prop} {x:Ex} {cs:List aw} (hx:mA d w F x cs) (hl:sT d x) (hn:jm d x) (hE:Er w) (hT:Tb w) (hc:40*kq d x<=70368744177664):
  az aq 218 #[ah cs.toArray] w fun e w'=>e=ak (ab (T (lS d x)))/\ay [] w w':=by
 obtain⟨xs,rfl⟩:=jt hx;refine ret (v6w _ _ _ _ _ _ _ _ ?_);unfold v6v;intro k0 w0 gN dJ bT;have hxi:=(dD d).inHeap hx;refine(HN d hl (fj hx bT)).mono ?_;rintro _ w1 ⟨rfl,bZ⟩;have z0:=bT.size;have z1:=bZ.size;have fb:=bT.bP bZ;refine⟨_,rfl,bZ.same (by simp;omega),fun hs=>?_,fun hs=>(TA w1).mono ?_⟩
 ·have hs:bW d x=false:=by simpa using hs
  rw[lS,if_neg (by rw[hs];decide)];exact⟨rfl,fb⟩
 have hs:bW d x=true:=by simpa using hs
 rw[lS,if_pos hs];rintro _ w2 ⟨l0,rfl,Wc,cp⟩;have z2:=cp.size;refine⟨l0,rfl,cp.same (by simp;omega),fun k1 w3 jO jb cO sK=>?_⟩;have z3:=cO.size;have lu:ay [] w w3:=(fb.bP cp).bP cO;have I9:Pg (fun k=>w1.heap.size<=k/\k<w2.heap.size) w3 k1 Sl.nil l0 []:=⟨⟨none,.inl rfl,sK⟩,.inl ⟨rfl,rfl⟩,SliceF.only cG (by decide) Wc cO (by simp),fun k hk=>by have:=hk.2;omega⟩
 have hT3:=hT.only lu;have KO:=hT.lt;refine(tv d false hs hn (fj hxi lu) (fun k hk=>by have:=hk.2;omega) hT3 (by omega) I9 (by rw[aN];omega)).mono ?_;rintro _ w4 ⟨Xb,rfl,hp4,Ys⟩;have z4:=Ys.1.size;have dm:ay [] w w4:=(lu.yT Ys.1).only fun k hk=>by
  rcases hk with rfl | e
  ·omega
  ·cases e
 obtain⟨q,hq,qj⟩:=hp4.blk;refine⟨rfl,Ys.same (by omega) (fun e=>by cases e) (by omega),q,Xb,l0,qj,(Mx hp4.pt).mono ?_⟩;rintro _ w5 ⟨rfl,ht5,dS⟩;have z5:=dS.size;have tJ:=dS.blk qj (by omega);have wJ:ay [] w w5:=(dm.yT dS).only fun k hk=>by have:=hk.1;omega
 refine⟨_,rfl,dS.same (by simp;omega),q,Xb,l0,tJ,(Vh _ (hE.only wJ)).mono ?_⟩;rintro _ w6 ⟨cs,rfl,hX,dG⟩;have z6:=dG.size;obtain⟨xl,rfl,_⟩:=hX.cells;have KU:=dG.blk tJ (by simp);have adV:=wJ.bP dG;refine⟨_,_,_,_,_,_,_,_,rfl,dG.same (by simp;omega),q,Xb,l0,KU,fun hr k2 k3 w7 _ _ _ _ fz _=>?_,fun hr k4 k5 w8 sM E3 ol GX fh wm=>?_⟩
 ·rw[if_pos (by simpa using hr)];exact⟨rfl,adV.bP fz⟩
 ·have z8:=fh.size;refine(Mx ((ht5.only dG).only fh)).mono ?_;rintro _ w9 ⟨rfl,ht9,fK⟩;rw[if_neg (by simpa using hr)];have gf:∀k,Xb.a=some ⟨k,0,none⟩->k<w4.heap.size:=fun k hk=>(hp4.buf.lt hk).2;refine⟨_,rfl,fK.same fun k hk=>?_,q,Xb,l0,fK.blk wm (by omega),rfl,((adV.bP fh).yT fK).only fun k hk=>by have:=hk.1;omega⟩;simp only[aL,aU,bM]at hk;rcases hk with rfl | rfl | rfl
  ·exact⟨by omega,fun h=>by have:=h.1;omega⟩
  ·exact⟨E3,fun h=>by have:=gf _ h.2;omega⟩
  ·exact⟨GX,fun h=>by have:=gf _ h.2;omega⟩
mutual
def yA:Ex->Nat
 | .mk _ _ _ _ l _=>TI l+1
def TI:List Ex->Nat
 | []=>0
 | x::l=>max (yA x) (TI l)
end
mutual
def yB:Ex->Nat
 | .mk _ _ s _ l _=>JI l+(s.length+1)
def JI:List Ex->Nat
 | []=>0
 | x::l=>yB x+JI l
end
theorem BL (x:Ex):yA x=TI x.cR+1:=by cases x;rw[yA];rfl
theorem BM (x:Ex):yB x=JI x.cR+(x.s.length+1):=by cases x;rw[yB];rfl
theorem wZ {y:Ex}:∀{l:List Ex},y∈l->yA y<=TI l
 | [],h=>by simp at h
 | x::l,h=>by
  rw[TI];rcases aL.1 h with rfl | h
  ·exact xr _ _
  ·exact aX (wZ h) (vN _ _)
theorem HQ {y:Ex}:∀{l:List Ex},y∈l->yB y<=JI l
 | [],h=>by simp at h
 | x::l,h=>by
  rw[JI];rcases aL.1 h with rfl | h
  ·omega
  ·have:=HQ h;omega
theorem My {d:Nat}:∀{l:List Ex},(∀y,y∈l->yA y<=d)->TI l<=d
 | [],_=>by rw[TI];omega
 | x::l,h=>by
  rw[TI];exact Nat.max_le.2 ⟨h x (by simp),My fun y hy=>h y (by simp[hy])⟩
theorem BN (x:Ex):1<=yA x:=by rw[BL];omega
theorem FZ {w:av} {F:Nat->Prop}:∀{d:Nat} {x:Ex} {cs:List aw},mA d w F x cs->yA x<=d
 | 0,_,_,h=>h.elim
 | d+1,x,cs,⟨sl,h1,h2⟩=>by
  rw[BL];refine KF (My fun y hy=>?_);obtain⟨j,hj⟩:=jd hy;obtain⟨_,cs,_,_,_,_,h⟩:=h2.at_ j y hj;exact FZ h
theorem yC {f g:Ex->Bool}:∀{l:List Ex},(∀y,y∈l->f y=g y)->im f l=im g l
 | [],_=>rfl
 | x::l,h=>by rw[im,im,h x (by simp),yC fun y hy=>h y (by simp[hy])]
theorem D1:∀(d e:Nat) (x:Ex),yA x<=d->yA x<=e->bW d x=bW e x
 | 0,_,x,h,_=>by have:=BN x;omega
 | _,0,x,_,h=>by have:=BN x;omega
 | d+1,e+1,x,h,k=>by
  rw[BL]at h k;rw[bW,bW,yC fun y hy=>D1 d e y (by have:=wZ hy;omega) (by have:=wZ hy;omega)]
theorem HR:∀(d e:Nat) (x:Ex) (wr:Bool) (l:aB),yA x<=d->yA x<=e->mJ d x wr l=mJ e x wr l
 | 0,_,x,_,_,h,_=>by have:=BN x;omega
 | _,0,x,_,_,_,h=>by have:=BN x;omega
 | d+1,e+1,x,wr,l,h,k=>by
  rw[BL]at h k;have hm:∀y,y∈x.cR->yA y<=d/\yA y<=e:=fun y hy=>by have:=wZ hy;omega
  rw[mJ,mJ];cases hx:x.cR with
  | nil=>rfl
  | cons y m=>
   cases m with
   | nil=>
    have hy:=hm y (by rw[hx];simp);dsimp only;rw[HR d e y _ _ hy.1 hy.2]
   | cons z m=>
    cases m with
    | nil=>
     have hy:=hm y (by rw[hx];simp);have hz:=hm z (by rw[hx];simp);dsimp only;rw[HR d e y _ _ hy.1 hy.2,HR d e z _ _ hz.1 hz.2]
    | cons _ _=>rfl
theorem F0:∀(d:Nat) (x:Ex),kq d x<=yB x
 | 0,x=>aQ _
 | d+1,x=>by
  rw[kq,BM];have:∀l:List Ex,mB (kq d) l<=JI l:=fun l=>by
   induction l with
   | nil=>exact aQ _
   | cons y l ih=>rw[mB,JI];exact jx (F0 d y) ih
  have:=this x.cR;omega
theorem F1:∀(d:Nat) (x:Ex),yB x<4611686018427387903->sT d x
 | 0,x,_=>trivial
 | d+1,x,h=>by
  rw[BM]at h;exact⟨by omega,fun y hy=>F1 d y (by have:=HQ hy;omega)⟩
def JJ (x:Ex):Prop:=∀d,jm d x
def rO (x:Ex):aB:=lS (yA x) x
theorem HS {d:Nat} {x:Ex} (h:yA x<=d):lS d x=rO x:=by
 unfold rO lS;rw[D1 d (yA x) x h (aK _),HR d (yA x) x false [] h (aK _)]
theorem D2 {d:Nat} {x:Ex} (h:lS d x≠[]):bW d x=true/\lS d x=mJ d x false []/\(eV (mJ d x false [])).2.1=0:=by
 unfold lS at h⊢;by_cases hs:bW d x=true
 ·rw[if_pos hs]at h⊢;by_cases hr:(eV (mJ d x false [])).2.1≠0
  ·rw[if_pos hr]at h;exact absurd rfl h
  ·rw[if_neg hr];exact⟨hs,rfl,by simpa using hr⟩
 ·rw[if_neg hs]at h;exact absurd rfl h
theorem Q2 {w:av} {F:Nat->Prop} {x:Ex} {cs:List aw} (hx:rE false w F x cs) (hn:JJ x) (hs:yB x<=1759218604441) (hE:Er w) (hT:Tb w):
  az aq 218 #[ah cs.toArray] w fun e w'=>e=ak (ab (T (rO x)))/\ay [] w w':=by
 obtain⟨d,h⟩:=hx;have h:=tt h;rw[<-HS (FZ h)];exact Vp h (F1 d x (by omega)) (hn d) hE hT (by have:=F0 d x;omega)
end Go.Proofs.YtmhoiicofhlgbaaGreatDoor.Con
namespace Go.Proofs.YtmhoiicofhlgbaaGreatDoor.Con
open Go.Value renaming int->O,string->ab,pointer->ae,agg->ah,tuple->ai,bool->aj
open Go.IntKind renaming i64->U,wrap->ar
open Go.Ending renaming returned->ak
open _root_.ByteArray renaming mk->ao
open _root_.Go.Proofs.Tryz renaming prog->aq
open Go.Instr renaming buildSlice->au
open Go renaming World->av,Value->aw,Calls->az
open Go.Kt renaming Only->ay
open Go Go.RowKit Go.Kt Go.Kt.V
set_option linter.unusedSimpArgs false
set_option linter.unusedVariables false
set_option maxHeartbeats 4000000
def lU (x:Ex):Bool:=(((x.k==0&&x.n==0)&&decide (x.s=[]))&&x.op==0)&&((x.cR.length:Int)==0)
def oa (x:Ex):Bool:=decide (rO x≠[])
def fC (a:Ac):Bool:=decide (1<=a.k/\a.k<=3)&&cF a.n&&(if a.k=2 then lU a.x else oa a.x)
def jA (m:Mv):Bool:=
 decide (1<=m.k/\m.k<=3)&&(if m.k=1 then cF m.ev else decide (m.ev=[]))&&(if m.gd then oa m.g else lU m.g)&&m.acts.all fC&&m.tg.all cF&&decide (m.wt=0∨m.k=3/\0<m.wt)
def j5 (k:Int):Bool:=decide (k=3∨k=4)
def sC (b:Nb) (kids:Nat):Bool:=
 cF b.nm&&(if j5 b.k then cF b.dft&&decide (b.ini=[]/\b.en=[]/\b.lv=[]/\b.mv.length=0/\kids=0)
  else decide ((b.k=1∨b.k=2)/\b.dft=[])&&(decide (b.ini=[])||cF b.ini)&&b.en.all fC&&b.lv.all fC&&b.mv.all jA)
mutual
def jJ:Nat->Nd->Bool
 | d,.mk b l=>decide (d<12)&&sC b l.length&&gK (d+1) l
def gK:Nat->List Nd->Bool
 | _,[]=>true
 | d,x::l=>jJ d x&&gK d l
end
def uO (b:Nb):Nat:=b.en.length+b.lv.length+(b.mv.map fun m=>m.acts.length).sum
mutual
def nQ:Nd->Nat
 | .mk _ l=>gy l+1
def gy:List Nd->Nat
 | []=>0
 | x::l=>nQ x+gy l
end
mutual
def rP:Nd->Nat
 | .mk b l=>b.mv.length+ku l
def ku:List Nd->Nat
 | []=>0
 | x::l=>rP x+ku l
end
mutual
def rQ:Nd->Nat
 | .mk b l=>uO b+jB l
def jB:List Nd->Nat
 | []=>0
 | x::l=>rQ x+jB l
end
def qk (c:Ch):Bool:=
 (c.vars.all fun v=>cF v.n&&decide (v.v≠ -9223372036854775808))&&jJ 0 c.root&&decide (c.root.b.k=1/\c.vars.length<=16/\nQ c.root<=64/\rP c.root<=200/\rQ c.root<=400)
def vV (a:Ac):aB:=
 if a.k=2 then ik++32::(a.n++[59])else(if a.k=1 then nA else jz)++32::(a.n++32::61::32::(rO a.x++[59]))
def uj:List Ac->aB
 | []=>[]
 | a::l=>32::(vV a++uj l)
def sP (l:List Ac):aB:=123::(uj l++[32,125])
def Ah:List (aB)->aB
 | []=>[]
 | s::l=>44::32::(s++Ah l)
def Po (m:Mv):aB:=if m.k=1 then wx++32::m.ev else if m.k=3 then fU++32::Lib.itoa m.wt else fA
def JK (m:Mv):aB:=if m.gd then 32::91::(rO m.g++[93])else[]
def yD (m:Mv):aB:=
 Po m++(JK m++((if m.acts=[]then[]else 32::sP m.acts)++((match m.tg with
  | []=>[]
  | s::l=>32::45::62::32::(s++Ah l))++[59])))
def kW (k:Int):aB:=if k=1 then yp else if k=2 then oM else if k=3 then qN else DS
abbrev Ln:=Nat×aB
def sD (d:Nat) (b:Nb):List Ln:=if b.ini=[]then[]else[(d,dE++32::(b.ini++[59]))]
def HT (d:Nat) (b:Nb):List Ln:=if b.en=[]then[]else[(d,fD++32::sP b.en)]
def JL (d:Nat) (b:Nb):List Ln:=if b.lv=[]then[]else[(d,fE++32::sP b.lv)]
def mvL (d:Nat) (b:Nb):List Ln:=b.mv.map fun m=>(d,yD m)
def zx (d:Nat) (b:Nb):List Ln:=sD d b++(HT d b++(JL d b++mvL d b))
mutual
def ze:Nat->Nd->List Ln
 | d,.mk b l=>
  if j5 b.k then[(d,kW b.k++32::(b.nm++32::45::62::32::(b.dft++[59])))]
  else(d,kW b.k++32::(b.nm++[32,123]))::(zx (d+1) b++(lV (d+1) l++[(d,[125])]))
def lV:Nat->List Nd->List Ln
 | _,[]=>[]
 | d,x::l=>ze d x++lV d l
end
def Ps (v:Vr):aB:=sB++32::(v.n++32::61::32::(Lib.itoa v.v++[59]))
def xa (c:Ch):List Ln:=
 (0,dZ++32::(c.root.b.nm++[32,123]))::((c.vars.map fun v=>(1,Ps v))++(zx 1 c.root.b++(lV 1 c.root.kids++[(0,[125])])))
def qV:Nat->aB
 | 0=>[]
 | d+1=>32::32::qV d
def Vq (p:Ln):aB:=qV p.1++(p.2++[10])
def gW (b:aB) (p:Ln):aB:=if 16384<b.length then b else b++Vq p
def cT (b:aB) (L:List Ln):aB:=L.foldl gW b
def vW (L:List Ln):aB:=L.flatMap Vq
theorem HU (b:aB) (p:Ln):b.length<=(gW b p).length:=by
 unfold gW;split
 ·exact aK _
 ·rw[aD];omega
theorem D3:∀(L:List Ln) (b:aB),b.length<=(cT b L).length
 | [],_=>aK _
 | p::L,b=>aX (HU b p) (D3 L _)
theorem eK (b:aB) (L M:List Ln):cT b (L++M)=cT (cT b L) M:=tN
theorem pM (b:aB) (p:Ln) (L:List Ln):cT b (p::L)=cT (gW b p) L:=rfl
theorem Mz:∀(L:List Ln) (b:aB),(cT b L).length<=16384->cT b L=b++vW L
 | [],b,_=>(br b).symm
 | p::L,b,h=>by
  rw[pM]at h⊢;have h1:=D3 L (gW b p);have h2:=HU b p;rw[Mz L _ h];have:gW b p=b++Vq p:=by unfold gW;rw[if_neg (by omega)]
  rw[this,aV];rfl
theorem D4:∀(L:List Ln) (b:aB),16384<b.length->cT b L=b
 | [],_,_=>rfl
 | p::L,b,h=>by
  have:gW b p=b:=by unfold gW;rw[if_pos h]
  rw[pM,this,D4 L b h]
def mW (c:Ch):aB×Int:=
 if qk c=true then(if 16384<(cT [] (xa c)).length then([],2)else(cT [] (xa c),0))else([],22)
def Ai (a:Ac):Prop:=JJ a.x
structure KW (m:Mv):Prop where
 g:JJ m.g
 a:∀x,x∈m.acts->Ai x
 w:vR m.wt
structure Un (b:Nb):Prop where
 en:∀a,a∈b.en->Ai a
 lv:∀a,a∈b.lv->Ai a
 mv:∀m,m∈b.mv->KW m
mutual
def vX:Nd->Prop
 | .mk b l=>Un b/\sE l
def sE:List Nd->Prop
 | []=>True
 | x::l=>vX x/\sE l
end
structure PV (c:Ch):Prop where
 v:∀v,v∈c.vars->vR v.v
 r:vX c.root
end Go.Proofs.YtmhoiicofhlgbaaGreatDoor.Con
namespace Go.Proofs.YtmhoiicofhlgbaaGreatDoor.Con
open Go.Value renaming int->O,string->ab,pointer->ae,agg->ah,tuple->ai,bool->aj
open Go.IntKind renaming i64->U,wrap->ar
open Go.Ending renaming returned->ak
open _root_.ByteArray renaming mk->ao
open _root_.Go.Proofs.Tryz renaming prog->aq
open Go.Instr renaming buildSlice->au
open Go renaming World->av,Value->aw,Calls->az
open Go.Kt renaming Only->ay
open Go Go.RowKit Go.Kt Go.Kt.V Go.Proofs.YtmhoiicofhlgbaaGreatDoor.Vc
set_option linter.unusedSimpArgs false
set_option linter.unusedVariables false
set_option maxHeartbeats 4000000
def ne (l:aB):Bool:=!decide (l=[])
def fk (ws:List (aB)):aB:=Lib.join (ws.filter ne) [32]
theorem Only.below {w w':av} (h:Below w.heap.size w w'):ay [] w w':=⟨h.os,h.tape,h.output,h.size,fun k hk _=>h.block k hk⟩
theorem F2 {w:av} {F:Nat->Prop}:∀{l:List (aB)} {css:List (List aw)},ny iW 1 w F l css->css.flatten=l.map fun x=>ab (T x)
 | [],[],_=>rfl
 | c::l,d::css,h=>by
  obtain⟨⟨_,h1⟩,h2⟩:=h;unfold iW at h1;subst h1;rw[cE,F2 h2];rfl
theorem Aj (l:aB) (w:av):az aq 151 #[ab (T l)] w fun e w'=>e=ak (aj (decide (l=[])))/\w'=w:=by
 refine ret (agu _ _ _ ?_);unfold aat;exact⟨by rw[show ao #[]=T []from rfl,gV],rfl⟩
section
variable {w:av} {B:Nat} {F:Nat->Prop} {s:Sl} {ws:List (aB)}
theorem MA (h:Own iW 1 9 B w F s ws):az aq 216 #[s.v,.func (.func 151) #[] #[]] w fun e w'=>
  ∃i:Int,e=ak (O U i)/\w'=w/\((i= -1/\ws.filter ne=ws)∨∃n:Nat,i=n/\n<ws.length/\(ws.take (n+1)).filter ne=ws.take n):=by
 refine(aas s ⟨.func (.func 151) #[] #[],rfl⟩ (fun v w'=>∃i:Int,v=O U i/\w'=w/\((i= -1/\ws.filter ne=ws)∨∃n:Nat,i=n/\n<ws.length/\(ws.take (n+1)).filter ne=ws.take n)) w ?_).mono (by
  rintro e w' ⟨v,rfl,i,rfl,h⟩;exact⟨i,rfl,h⟩)
 unfold Ts;have hs:=h.slice cG;have dN:=hs.len;have og:=hs.big;have mD:=hs.cap;refine⟨fun nv i w'=>∃n:Nat,n<=ws.length/\i=(n:Int)/\nv=ws.length-n/\(ws.take n).filter ne=ws.take n/\w'=w,ws.length,⟨0,aQ _,rfl,rfl,rfl,rfl⟩,?_⟩;rintro nv _ w0 ⟨n,hn,rfl,rfl,eU,rfl⟩;refine⟨fun hc=>?_,fun hc=>?_⟩
 ·have bJ:(n:Int)<s.n:=aG hc;obtain⟨ad,x,cs,g1,g2,g3,g4,g5,g6⟩:=hs.get (aO n) bJ;rw[aM]at g2;unfold iW at g6;subst g6;have ht:ws.take (n+1)=ws.take n++[x]:=by
   rw[bn,g2];rfl
  refine⟨ad,g1,_,g5,151,[],[],rfl,kg (by kernel_rfl),?_⟩;refine(Aj x w0).mono ?_;rintro _ w1 ⟨rfl,rfl⟩;refine⟨_,rfl,fun hb=>⟨_,rfl,rfl,.inr ⟨n,rfl,by omega,?_⟩⟩,fun hb=>⟨ws.length-(n+1),by omega,n+1,by omega,by rw[fy (by omega) (by omega)];rfl,rfl,?_,rfl⟩⟩
  ·have hb:x=[]:=aG hb;rw[ht,mF,eU,hb];simp[ne]
  ·have hb:x≠[]:=aI hb;rw[ht,mF,eU];simp[ne,hb]
 ·have kO:¬(n:Int)<s.n:=aI hc;rw[bB (by omega)]at eU;exact⟨_,rfl,rfl,.inl ⟨rfl,eU⟩⟩
theorem JM (h:Own iW 1 9 B w F s ws):az aq 150 #[s.v,.func (.func 151) #[] #[]] w fun e w'=>
  ∃s':Sl,e=ak s'.v/\Own iW 1 9 B w' F s' (ws.filter ne)/\OnlyP (fun k=>B<=k) w w':=by
 refine(aar s ⟨.func (.func 151) #[] #[],rfl⟩ (fun v w'=>∃s':Sl,v=s'.v/\Own iW 1 9 B w' F s' (ws.filter ne)/\OnlyP (fun k=>B<=k) w w') w ?_).mono (by
  rintro e w' ⟨v,rfl,s',rfl,h⟩;exact⟨s',rfl,h⟩)
 unfold Tp;have dN:=h.len;have mD:=h.cap;have og:=(h.slice cG).big;refine(MA h).mono ?_;rintro _ w0 ⟨i,rfl,rfl,hi⟩;refine⟨i,rfl,fun hc=>?_,fun hc=>?_⟩
 ·rcases hi with⟨_,hf⟩ | ⟨n,rfl,hn,hf⟩
  ·rw[hf];exact⟨s,rfl,h,OnlyP.refl _ _⟩
  ·have:(n:Int)= -1:=eq_of_beq hc;omega
 rcases hi with⟨rfl,_⟩ | ⟨n,rfl,hn,hf⟩
 ·exact absurd hc (by decide)
 refine⟨fun nv a b w'=>∃(L:List (aB)) (p q:Nat),a=p/\b=q/\p<q/\q<=ws.length/\nv=ws.length-q/\L.length=ws.length/\L.take p=(ws.take q).filter ne/\L.drop q=ws.drop q/\Own iW 1 9 B w' F s L/\OnlyP (fun k=>B<=k) w0 w',
  ws.length-(n+1),⟨ws,n,n+1,rfl,by rw[fy (by omega) (by omega)];rfl,by omega,by omega,rfl,rfl,hf.symm,rfl,h,OnlyP.refl _ _⟩,?_⟩
 rintro nv _ _ w1 ⟨L,p,q,rfl,rfl,hpq,hq,rfl,hL,ht,hd,hO,hP⟩;refine⟨fun hc=>?_,fun hc=>?_⟩
 ·have bJ:(q:Int)<s.n:=aG hc;have hq':q<ws.length:=by omega
  obtain⟨ad,x,cs,g1,g2,g3,g4,g5,g6⟩:=(hO.slice cG).get (aO q) bJ;rw[aM]at g2;unfold iW at g6;subst g6;have hx:ws[q]? =some x:=by
   rw[<-g2];have e1:=bp (fun l=>l[0]?) hd;simpa using e1.symm
  have hw:ws.take (q+1)=ws.take q++[x]:=by
   rw[bn,hx];rfl
  have hdn:∀M:List (aB),(∀j,q+1<=j->M[j]? =L[j]?)->M.drop (q+1)=ws.drop (q+1):=fun M hM=>by
   apply nE;intro j;rw[iz,iz,hM _ (by omega)];have e1:=bp (fun l=>l[1+j]?) hd;simp only[iz]at e1;rw[show q+1+j=q+(1+j) by omega];exact e1
  refine⟨fun j w2=>∃(M:List (aB)) (p':Nat),j=p'/\p'<q+1/\M.length=ws.length/\M.take p'=(ws.take (q+1)).filter ne/\M.drop (q+1)=ws.drop (q+1)/\Own iW 1 9 B w2 F s M/\OnlyP (fun k=>B<=k) w0 w2,?_,ad,g1,_,g5,151,[],[],rfl,kg (by kernel_rfl),?_⟩
  ·rintro _ w2 ⟨M,p',rfl,m1,m2,m3,m4,m5,m6⟩;exact⟨ws.length-(q+1),by omega,M,p',q+1,rfl,by rw[fy (by omega) (by omega)];rfl,m1,hq',rfl,m2,m3,m4,m5,m6⟩
  refine(Aj x w1).mono ?_;rintro _ w2 ⟨rfl,rfl⟩;refine⟨_,rfl,fun hb=>?_,fun hb=>?_⟩
  ·have hb:x≠[]:=by simpa using hb
   obtain⟨g,cells,b1,b2,b3,b4,b5⟩:=hO.store cG (n:=p) (by omega) (x:=x) (vs:=[ab (T x)]) (G:=fun _=>False) rfl rfl (fun k hk=>hk.elim) (by decide);refine⟨⟨g,p*1,none⟩,b2,g,p*1,cells,_,rfl,b3,b4,fun w3 cO sK=>⟨L.set p x,p+1,by rw[fy (by omega) (by omega)];rfl,by omega,by rw[Pc];exact hL,?_,hdn _ fun j hj=>by rw[List.getElem?_set_ne (by omega)],b5 w3 cO sK,hP.trans (cO.p (F:=fun k=>B<=k) fun k hk=>.inl ?_) fun k hk=>.inl hk⟩⟩
   ·rw[hw,mF,<-ht,bn,List.getElem?_set_self (by omega),List.take_set_of_le (by omega)];simp[ne,hb]
   ·simp only[aF]at hk;subst hk;rcases hO with⟨rfl,_⟩ | ⟨g',_,_,a1,a2,_⟩
    ·cases b1
    ·rw[a1]at b1;injection b1 with b1;injection b1 with b1;omega
  ·have hb:x=[]:=by simpa using hb
   refine⟨L,p,rfl,by omega,hL,?_,hdn _ fun j _=>rfl,hO,hP⟩;rw[hw,mF,<-ht,hb];simp[ne]
 ·have kO:¬(q:Int)<s.n:=aI hc;have hqe:q=ws.length:=by omega
  subst hqe;rw[bB (aK _)]at ht;obtain⟨w2,g,c1,c2,c3,c4⟩:=Own.clear (P:=aq) (t:=52) (ty:=0) (i:=p) cG (by decide) (by kernel_rfl) (fun w=>Tryz.zeroValue9 w) (by intro v hv;simp[Value.cells]at hv;subst hv;rfl) rfl hO (by omega);refine⟨p,⟨rfl,by omega,mD⟩,w2,c1,p,⟨rfl,by omega⟩,_,rfl,?_,hP.trans (c3.p (F:=fun k=>B<=k) fun k hk=>.inl ?_) fun k hk=>.inl hk⟩
  ·rw[<-ht];exact c4
  ·simp only[aF]at hk;subst hk;rcases hO with⟨rfl,_⟩ | ⟨g',_,_,a1,a2,_⟩
   ·cases c2
   ·rw[a1]at c2;injection c2 with c2;injection c2 with c2;omega
theorem yE (h:Own iW 1 9 B w F s ws) (hl:(fk ws).length<=140737488355328) (hn:ws.length<=140737488355328):az aq 84 #[s.v] w fun e w'=>e=ak (ab (T (fk ws)))/\OnlyP (fun k=>B<=k) w w':=by
 refine ret (agt _ _ _ ?_);unfold aaq;refine(JM h).mono ?_;rintro _ w1 ⟨s',rfl,hO,hP⟩;refine⟨s',rfl,?_⟩;have dN:=hO.len;have IY:=List.length_filter_le ne ws;have RU:∀{w2:av},ay [] w1 w2->OnlyP (fun k=>B<=k) w w2:=fun h=>hP.trans h.p0 fun k hk=>.inl hk;rcases hO with⟨rfl,he⟩ | ⟨g,css,tail,a1,a2,a4,a5,a6,a7,a9,a8⟩
 ·refine(Tryz.strings_Join_none none 0 (T [32]) w1).mono ?_;rintro _ w2 ⟨rfl,rfl⟩;refine⟨_,rfl,?_,hP⟩;unfold fk;rw[he];rfl
 ·obtain⟨sa,sn,sc⟩:=s';dsimp only at a1 a5 a6 a7 a9 dN;subst a1 dN;have Ud:=F2 a8;have:=Tryz.strings_Join g 0 sc ((ws.filter ne).map T) (T [32]) w1 (fun j x hj=>by
   rw[cH,eM]at hj;obtain⟨y,hy,rfl⟩:=hj;have:=a4.cells 0 ((ws.filter ne).map fun x=>Value.string (T x)) (fun j v hj=>by rw[bm,Ud,bF (aP.1 hj).1];exact hj) j (ab (T y)) (by rw[cH,hy];rfl);rw[gC]at this;exact this) a4.lt (by rw[bL];omega) (by rw[bL];omega) (by
   rw[gY];have:((fun x:asw=>x.data.toList)∘T)=id:=rfl;rw[this,KH];exact hl)
  rw[bL]at this;refine this.mono ?_;rintro _ w2 ⟨rfl,hB⟩;refine⟨_,rfl,?_,RU (Only.below hB)⟩;rw[gY];have:((fun x:asw=>x.data.toList)∘T)=id:=rfl;rw[this,KH];rfl
end
theorem Ak (w:av) (ws:List (aB)) {n:Nat} {parts:Array (Nat×aw)} (hp:parts=(((ws.map fun x=>Value.string (T x)).zipIdx 0).map fun x=>(x.2,x.1)).toArray) (hn:ws.length=n) (h0:0<n) (sI:n*1<=16777216) (hl:(fk ws).length<=140737488355328):
  ∃(q:Sl) (w0:av),(au 52 n parts).run aq w=.ok q.v w0/\ay [] w w0/\Own iW 1 9 w.heap.size w0 (fun _=>True) q ws/\az aq 84 #[q.v] w0 fun e w'=>e=ak (ab (T (fk ws)))/\OnlyP (fun k=>w.heap.size<=k) w0 w':=by
 obtain⟨q,w0,k1,k2,k3⟩:=iB w ws hp hn h0 sI;exact⟨q,w0,k1,k3,k2,yE k2 hl (by omega)⟩
theorem io:∀(ws:List (aB)),(fk ws).length<=(ws.map fun l=>l.length+1).sum:=by
 have h1:∀(r:List (aB)),(Lib.joinTail [32] r).length=(r.map fun l=>l.length+1).sum:=fun r=>by
  induction r with
  | nil=>rfl
  | cons x r ih=>
   unfold Lib.joinTail at ih⊢;rw[bg,cE,aD,ih,bg,bQ];simp
 have h2:∀(r:List (aB)),(Lib.join r [32]).length<=(r.map fun l=>l.length+1).sum:=fun r=>by
  cases r with
  | nil=>exact aQ _
  | cons x r=>
   rw[Lib.join_cons,aD,h1,bg,bQ];omega
 have h3:∀(r:List (aB)),((r.filter ne).map fun l=>l.length+1).sum<=(r.map fun l=>l.length+1).sum:=fun r=>by
  induction r with
  | nil=>exact aK _
  | cons x r ih=>
   rw[vO,bg,bQ];split
   ·rw[bg,bQ];omega
   ·omega
 exact fun ws=>aX (h2 _) (h3 ws)
structure Fz (bs:List Nat) (w w':av) (ks:List Nat):Prop where
 o:ay bs w w'
 k:∀x,x∈ks->w.heap.size<=x/\x<w'.heap.size
 lo:∀x,x∈bs->x<w.heap.size
section
variable {bs bs' ks ks':List Nat} {w w1 w2 w':av} {k0 b:Nat}
theorem Fz.start (lo:∀x,x∈bs->x<w.heap.size):Fz bs w w []:=⟨Only.refl _ _,fun _ h=>(by cases h),lo⟩
theorem Fz.go (h:Fz bs w w1 ks) (k:ay bs' w1 w2) (hb:∀x,x∈bs'->x∈bs∨x∈ks):Fz bs w w2 ks:=
 ⟨h.o.trans k fun x hx=>(hb x hx).imp id fun hk=>(h.k x hk).1,fun x hx=>⟨(h.k x hx).1,cb (h.k x hx).2 k.size⟩,h.lo⟩
theorem Fz.new (h:Fz bs w w1 ks) (k:ay bs' w1 w2) (hb:∀x,x∈bs'->x∈bs∨w.heap.size<=x):Fz bs w w2 ks:=
 ⟨h.o.trans k hb,fun x hx=>⟨(h.k x hx).1,cb (h.k x hx).2 k.size⟩,h.lo⟩
theorem Fz.q (h:Fz bs w w1 ks) (k:ay [] w1 w2):Fz bs w w2 ks:=h.go k fun x hx=>(by cases hx)
theorem Fz.c (h:Fz (b::bs) w w1 ks) (k:ay [b] w1 w2):Fz (b::bs) w w2 ks:=h.go k fun x hx=>.inl (by simp only[aF]at hx;simp[hx])
theorem Fz.f (h:Fz bs w w1 ks) (k:ay [k0] w1 w2) (hk:k0∈ks):Fz bs w w2 ks:=h.go k fun x hx=>.inr (by simp only[aF]at hx;rw[hx];exact hk)
theorem Fz.al (h:Fz bs w w1 ks) (k:ay [] w1 w2) (h1:w1.heap.size<=k0) (h2:k0<w2.heap.size):Fz bs w w2 (k0::ks):=
 ⟨(h.q k).o,fun x hx=>by
  rcases aL.1 hx with rfl | hx
  ·exact⟨aX h.o.size h1,h2⟩
  ·exact(h.q k).k x hx,h.lo⟩
theorem Fz.sm (h:Fz bs w w1 ks) (k:ay bs' w1 w2) (hk:∀x,x∈ks'->x∈ks) (hb:∀x,x∈bs'->x∈bs∨∀y,y∈ks'->y≠x):aR ks' w1 w2:=k.same fun x hx=>
 ⟨(h.k x (hk x hx)).2,fun hm=>by
  rcases hb x hm with h1 | h1
  ·have:=(h.k x (hk x hx)).1;have:=h.lo x h1;omega
  ·exact h1 x hx rfl⟩
theorem Fz.sq (h:Fz bs w w1 ks) (k:ay [] w1 w2) (hk:∀x,x∈ks'->x∈ks):aR ks' w1 w2:=h.sm k hk fun x hx=>(by cases hx)
theorem Fz.sc (h:Fz (b::bs) w w1 ks) (k:ay [b] w1 w2) (hk:∀x,x∈ks'->x∈ks):aR ks' w1 w2:=h.sm k hk fun x hx=>.inl (by simp only[aF]at hx;simp[hx])
theorem Fz.ne (h:Fz bs w w1 ks) (hk:k0∈ks) (hb:b∈bs):k0≠b:=fun e=>by
 have:=(h.k k0 hk).1;have:=h.lo b hb;omega
end
section
variable {α:Type} {r:Rp α} {w w1 w':av} {x:α} {cs:List aw} {B:Nat}
structure Stay (B:Nat) (w w':av):Prop where
 sz:w.heap.size<=w'.heap.size
 eq:∀k,B<=k->k<w.heap.size->w'.heap[k]? =w.heap[k]?
theorem Stay.refl (B:Nat) (w:av):Stay B w w:=⟨aK _,fun _ _ _=>rfl⟩
theorem Stay.go {bs:List Nat} (h:Stay B w w1) (k:ay bs w1 w') (hb:∀x,x∈bs->x<B∨w.heap.size<=x):Stay B w w':=
 ⟨aX h.sz k.size,fun i h1 h2=>(k.block i (cb h2 h.sz) fun hm=>by have:=hb i hm;omega).trans (h.eq i h1 h2)⟩
theorem Stay.of {bs:List Nat} (k:ay bs w w') (hb:∀x,x∈bs->x<B∨w.heap.size<=x):Stay B w w':=(Stay.refl B w).go k hb
theorem _root_.Go.Kt.Rp.Ok.stay (hr:r.Ok) (h:r w (Fr B) x cs) (hs:Stay B w w'):r w' (Fr B) x cs:=
 hr.mono (hr.keep (hr.inHeap h) fun k hk bJ=>hs.eq k hk.1 bJ) fun k hk=>hk.1
theorem _root_.Go.Kt.Rp.Ok.low (hr:r.Ok) (h:r w (Fr B) x cs) {A:Nat} (hA:A<=B):r w (Fr A) x cs:=hr.mono h fun k hk=>aX hA hk
variable {size:Nat} {e:TypeId} {s:Sl} {xs:List α} {t:Bool}
theorem ja.stay (hr:r.Ok) (h:ja t r size e w (Fr B) s xs) (h0:0<size) (hs:Stay B w w'):ja t r size e w' (Fr B) s xs:=
 ((h.inHeap hr h0).keep hr h0 fun k hk bJ=>hs.eq k hk.1 bJ).mono hr fun k hk=>hk.1
theorem ja.low (hr:r.Ok) (h:ja t r size e w (Fr B) s xs) {A:Nat} (hA:A<=B):ja t r size e w (Fr A) s xs:=h.mono hr fun k hk=>aX hA hk
end
abbrev TJ (l:Sl) (s:Sx):List aw:=[l.v,O U (s.i:Int),O U s.fc,O U s.fa,O U s.v,O U s.n,O U s.d,O U s.m,O U s.a]
structure Sr (F:Nat->Prop) (ts:List Tk) (w:av) (b:Nat) (l:Sl) (s:Sx):Prop where
 blk:Blk w b 133 (TJ l s)
 tok:SliceF zW 4 w F l ts
 hF:∀k,F k->k<b
 en:nY ts
 lt:s.i<ts.length
 sm:ts.length<=16777216
abbrev rp (b:Nat):aw:=ae (some ⟨b,0,none⟩)
section
variable {F:Nat->Prop} {ts:List Tk} {w w':av} {b:Nat} {l:Sl} {s s':Sx}
theorem Sr.own (h:Sr F ts w b l s) {bs:List Nat} (hO:ay bs w w') (hb:∀x,x∈bs->b<x):Sr F ts w' b l s:=
 ⟨hO.blk h.blk fun hm=>(by have:=hb b hm;omega),SliceF.only fT (by decide) h.tok hO fun k hk _ hm=>(by have:=h.hF k hk;have:=hb k hm;omega),h.hF,h.en,h.lt,h.sm⟩
theorem Sr.NW (h:Sr F ts w b l s) {bs:List Nat} (hO:ay bs w w') (hb:∀x,x∈bs->x≠b/\¬F x):Sr F ts w' b l s:=
 ⟨hO.blk h.blk fun hm=>(hb b hm).1 rfl,SliceF.only fT (by decide) h.tok hO fun k hk _ hm=>(hb k hm).2 hk,h.hF,h.en,h.lt,h.sm⟩
theorem Sr.V6 (h:Sr F ts w b l s) {k0:Nat} (hO:ay [k0] w w') (hk:k0≠b/\¬F k0):Sr F ts w' b l s:=h.NW hO fun x hx=>(by simp only[aF]at hx;subst hx;exact hk)
theorem Sr.gt (h:Sr F ts w b l s) {x:Nat} (hx:b<x):x≠b/\¬F x:=⟨by omega,fun hF=>by have:=h.hF x hF;omega⟩
theorem Sr.only (h:Sr F ts w b l s) (hO:ay [] w w'):Sr F ts w' b l s:=h.own hO fun x hx=>(by cases hx)
theorem Sr.one (h:Sr F ts w b l s) {k0:Nat} (hO:ay [k0] w w') (hk:b<k0):Sr F ts w' b l s:=h.own hO fun x hx=>(by simp only[aF]at hx;omega)
theorem Sr.jM (h:Sr F ts w b l s) (hO:ay [b] w w') (hB:Blk w' b 133 (TJ l s')) (hi:s'.i<ts.length):Sr F ts w' b l s':=
 ⟨hB,SliceF.only fT (by decide) h.tok hO fun k hk _ hm=>(by have:=h.hF k hk;simp only[aF]at hm;omega),h.hF,h.en,hi,h.sm⟩
theorem Sr.lb (h:Sr F ts w b l s):b<w.heap.size:=h.blk.lt
theorem Sr.z (h:Sr F ts w b l s):Fz [b] w w []:=Fz.start fun x hx=>(by simp only[aF]at hx;rw[hx];exact h.lb)
theorem Sr.big (h:Sr F ts w b l s):ts.length<=9223372036854775807:=by
 have h1:=h.tok.len;have h2:=h.tok.cap;have h3:=h.tok.big;omega
theorem Sr.wr (h:Sr F ts w b l s):ar U ((s.i:Int)+1)=((s.i+1:Nat):Int):=by
 have:=h.big;have:=h.lt;rw[fy (by omega) (by omega)];rfl
theorem Sr.now (h:Sr F ts w b l s):∃ad,ck l (s.i:Int) 4 ad/\Cells w ad [O U (tk ts s.i).k,ab (T (tk ts s.i).t),O U (tk ts s.i).n,O U (tk ts s.i).a]:=by
 have hl:=h.tok.len;have bJ:=h.lt;obtain⟨ad,x,cs,g1,g2,g3,g4,g5,g6⟩:=h.tok.get (aO s.i) (by omega);rw[aM,x9 h.lt]at g2;injection g2 with g2;subst g2;unfold zW at g6;subst g6;exact⟨ad,g1,g5⟩
structure Dn (F:Nat->Prop) (ts:List Tk) (w w':av) (b:Nat) (l:Sl) (s:Sx):Prop where
 o:ay [b] w w'
 r:Sr F ts w' b l s
theorem Sr.dn (h:Sr F ts w b l s):Dn F ts w w b l s:=⟨Only.refl _ _,h⟩
theorem Dn.q (h:Dn F ts w w' b l s) {w2:av} (k:ay [] w' w2):Dn F ts w w2 b l s:=⟨h.o.bP k,h.r.only k⟩
theorem Dn.nx (h:Dn F ts w w' b l s) {w2:av} {s':Sx} (k:Dn F ts w' w2 b l s'):Dn F ts w w2 b l s':=⟨h.o.trans k.o fun x hx=>.inl hx,k.r⟩
theorem Dn.f (h:Dn F ts w w' b l s) {w2:av} {k0:Nat} (k:ay [k0] w' w2) (hk:w.heap.size<=k0) (hb:b<w.heap.size):Dn F ts w w2 b l s:=⟨h.o.new k hk,h.r.one k (by omega)⟩
theorem Sr.tk (h:Sr F ts w b l s) {ad:Addr} (g:ck l (s.i:Int) 4 ad):Cells w ad [O U (tk ts s.i).k,ab (T (tk ts s.i).t),O U (tk ts s.i).n,O U (tk ts s.i).a]:=by
 obtain⟨Gz,g1,g2⟩:=h.now;rw[g.Ci g1];exact g2
structure Zt (F:Nat->Prop) (ts:List Tk) (w w':av) (b:Nat) (l:Sl) (s:Sx) (ks:List Nat):Prop where
 z:Fz [b] w w' ks
 r:Sr F ts w' b l s
section
variable {w2:av} {ks ks':List Nat} {k0:Nat}
theorem Sr.zt (h:Sr F ts w b l s):Zt F ts w w b l s []:=⟨h.z,h⟩
theorem Zt.q (h:Zt F ts w w' b l s ks) (k:ay [] w' w2):Zt F ts w w2 b l s ks:=⟨h.z.q k,h.r.only k⟩
theorem Zt.al (h:Zt F ts w w' b l s ks) (k:ay [] w' w2) (h1:w'.heap.size<=k0) (h2:k0<w2.heap.size):Zt F ts w w2 b l s (k0::ks):=⟨h.z.al k h1 h2,h.r.only k⟩
theorem Zt.ad (h:Zt F ts w w' b l s ks) (h1:w.heap.size<=k0) (h2:k0<w'.heap.size):Zt F ts w w' b l s (k0::ks):=⟨⟨h.z.o,fun x hx=>by
 rcases aL.1 hx with rfl | hx
 ·exact⟨h1,h2⟩
 ·exact h.z.k x hx,h.z.lo⟩,h.r⟩
theorem Zt.lt (h:Zt F ts w w' b l s ks) (hk:k0∈ks):b<k0:=cb (h.z.lo b (by simp)) (h.z.k k0 hk).1
theorem Zt.f (h:Zt F ts w w' b l s ks) (k:ay [k0] w' w2) (hk:k0∈ks):Zt F ts w w2 b l s ks:=⟨h.z.f k hk,h.r.one k (h.lt hk)⟩
theorem Zt.nx (h:Zt F ts w w' b l s ks) (k:Dn F ts w' w2 b l s'):Zt F ts w w2 b l s' ks:=⟨h.z.c k.o,k.r⟩
theorem Zt.dn (h:Zt F ts w w' b l s ks):Dn F ts w w' b l s:=⟨h.z.o,h.r⟩
theorem Zt.up (h:Zt F ts w w' b l s ks) (k:ay [b] w' w2) (hB:Blk w2 b 133 (TJ l s')) (hi:s'.i<ts.length):Zt F ts w w2 b l s' ks:=⟨h.z.c k,h.r.jM k hB hi⟩
theorem Zt.sq (h:Zt F ts w w' b l s ks) (k:ay [] w' w2) (hk:∀x,x∈ks'->x∈ks):aR ks' w' w2:=h.z.sq k hk
theorem Zt.sc (h:Zt F ts w w' b l s ks) (k:Dn F ts w' w2 b l s') (hk:∀x,x∈ks'->x∈ks):aR ks' w' w2:=h.z.sc k.o hk
theorem Zt.row {gs:List Nat} (h:Zt F ts w w' b l s ks) (k:ay gs w' w2) (hg:∀x,x∈gs->w.heap.size<=x):Zt F ts w w2 b l s ks:=⟨h.z.new k fun x hx=>.inr (hg x hx),h.r.own k fun x hx=>cb (h.z.lo b (by simp)) (hg x hx)⟩
theorem Zt.sr {gs:List Nat} (h:Zt F ts w w' b l s ks) (k:ay gs w' w2) (hk:∀x,x∈ks'->x∈ks) (hg:∀x,x∈gs->∀y,y∈ks'->y<x):aR ks' w' w2:=h.z.sm k hk fun x hx=>.inr fun y hy e=>by have:=hg x hx y hy;omega
theorem Zt.ne (h:Zt F ts w w' b l s ks) (hk:k0∈ks):k0≠b:=h.z.ne hk (by simp)
theorem Stay.q {B:Nat} (h:Stay B w w') (k:ay [] w' w2):Stay B w w2:=h.go k fun x hx=>(by cases hx)
theorem Stay.d {B:Nat} (h:Stay B w w') (k:Dn F ts w' w2 b l s') (hb:b<B):Stay B w w2:=h.go k.o fun x hx=>.inl (by simp only[aF]at hx;omega)
theorem Stay.f {B:Nat} (h:Stay B w w') (k:ay [k0] w' w2) (hk:k0<B∨w.heap.size<=k0):Stay B w w2:=h.go k fun x hx=>(by simp only[aF]at hx;subst hx;exact hk)
end
theorem lH (h:Sr F ts w b l s):az aq 78 #[rp b] w fun e w'=>e=ak (aj (s.fc==0))/\ay [] w w':=by
 refine ret (ZQ _ _ _ ?_);unfold SZ;exact⟨s.fc,Blk.dI h.blk 2 rfl,rfl,Only.refl _ _⟩
theorem xb (h:Sr F ts w b l s) (c:Int):az aq 139 #[rp b,O U c] w fun e w'=>e=ak (ai #[])/\Dn F ts w w' b l (gw ts s c):=by
 refine ret (ZS _ _ _ _ ?_);unfold S1;refine(lH h).mono ?_;rintro _ w0 ⟨rfl,bT⟩;refine⟨_,rfl,fun hc w1 bZ=>?_,fun hc=>?_⟩
 ·have hc:s.fc=0:=by simpa using hc
  have h1:=h.only (bT.bP bZ);obtain⟨ad,g1,g2⟩:=h1.now;refine⟨l,Blk.dI h1.blk 0 rfl,_,Blk.dI h1.blk 1 rfl,ad,g1,_,g2.dI 3 _ rfl,b,2,_,_,rfl,h1.blk,by simp,fun w2 cp kC=>⟨rfl,((bT.bP bZ).weaken (bs':=[b]) fun _ h=>(by cases h)).trans cp fun x hx=>.inl hx,?_⟩⟩;unfold gw;rw[if_pos hc];exact h1.jM (s':={s with fc:=c,fa:=(tk ts s.i).a}) cp kC h.lt
 ·have hc:s.fc≠0:=by simpa using hc
  unfold gw;rw[if_neg hc];exact⟨rfl,h.dn.q bT⟩
theorem qW (h:Sr F ts w b l s):az aq 79 #[rp b] w fun e w'=>e=ak (ai #[])/\Dn F ts w w' b l (iY ts s):=by
 refine ret (ZR _ _ _ ?_);unfold S0;obtain⟨ad,g1,g2⟩:=h.now;refine⟨fun w'=>Dn F ts w w' b l (if(tk ts s.i).k=5 then gw ts s 3 else s),fun w0 h0=>(xb h0.r 4).mono ?_,l,Blk.dI h.blk 0 rfl,_,Blk.dI h.blk 1 rfl,ad,g1,_,g2.dI 0 _ rfl,fun hc w2 cp=>?_,fun hc w2 cp=>?_⟩
 ·rintro _ w1 ⟨rfl,h1⟩;refine⟨rfl,rfl,h0.nx ?_⟩;unfold iY;split at h1
  ·rename_i e;rw[if_pos e];exact h1
  ·rename_i e;rw[if_neg e];exact h1
 ·refine(xb (h.only cp) 3).mono ?_;rintro _ w3 ⟨rfl,h3⟩;have hc:(tk ts s.i).k=5:=by simpa using hc
  refine⟨rfl,?_⟩;rw[if_pos hc];exact(h.dn.q cp).nx h3
 ·have hc:¬(tk ts s.i).k=5:=by simpa using hc
  rw[if_neg hc];exact h.dn.q cp
theorem abO {s:Sl} {w:av} {G:Nat->Prop} {l:List (aB)} (h:SliceF iW 1 w G s l) (c:aB):
  az aq 207 #[Sl.v s,ab (T c)] w fun r w'=>r=ak (O U (if uM c l<l.length then(uM c l:Int)else -1))/\w'=w:=by
 refine ret (SP _ _ _ _ ?_);unfold LX;have dN:=h.len;have og:=h.big;have mD:=h.cap;refine⟨fun nv i w'=>∃n:Nat,n<=l.length/\i=(n:Int)/\nv=l.length-n/\uM c l=n+uM c (l.drop n)/\w'=w,l.length,⟨0,aQ _,rfl,rfl,by rw[fg,bm],rfl⟩,?_⟩;rintro nv _ _ ⟨n,hn,rfl,rfl,hp,rfl⟩;refine⟨fun hc=>?_,fun hc=>?_⟩
 ·have bJ:(n:Int)<s.n:=aG hc;obtain⟨ad,x,cs,g1,g2,g3,g4,g5,g6⟩:=h.get (aO n) bJ;rw[aM]at g2;unfold iW at g6;subst g6;have hd:l.drop n=x::l.drop (n+1):=by rw[fR (aP.1 g2).1,(aP.1 g2).2]
  rw[hd,uM]at hp;refine⟨ad,g1,_,g5,?_⟩;rw[gV];refine⟨fun he=>⟨?_,rfl⟩,fun he=>⟨l.length-(n+1),by omega,n+1,by omega,by rw[fy (by omega) (by omega)];rfl,rfl,?_,rfl⟩⟩
  ·have he:c=x:=aG he;rw[if_pos he]at hp;rw[if_pos (by omega),hp,gr]
  ·have he:c≠x:=aI he;rw[if_neg he]at hp;omega
 ·have kO:¬((n:Int)<s.n):=aI hc;rw[cX (by omega),uM]at hp;rw[if_neg (by omega)];exact⟨rfl,rfl⟩
theorem yF (h:Sr F ts w b l s) {G:Nat->Prop} {q:Sl} {ss:List (aB)} (hs:SliceF iW 1 w G q ss):az aq 141 #[rp b,q.v] w fun e w'=>e=ak (O U (bU ts s ss:Nat))/\ay [] w w':=by
 refine ret (ZP _ _ _ _ ?_);unfold SY;intro w0 bT;have h0:=h.only bT;obtain⟨ad,g1,g2⟩:=h0.now;refine⟨fun _=>True,trivial,l,Blk.dI h0.blk 0 rfl,trivial,_,Blk.dI h0.blk 1 rfl,ad,g1,trivial,_,_,_,_,g2,fun k0 w1 hk wI bZ=>?_⟩;have fb:=bT.bP bZ;refine(lH (h0.only bZ)).mono ?_;rintro _ w2 ⟨rfl,cp⟩;have iO:=fb.bP cp;have Yt:((!(s.fc==0))||(((tk ts s.i).k !=2)&&((tk ts s.i).k !=4)))=decide (s.fc≠0∨((tk ts s.i).k≠2/\(tk ts s.i).k≠4)):=by
  rw[bq];simp
 refine⟨_,rfl,cp.same (by simp;omega),?_⟩;rw[Yt];refine⟨fun hc=>?_,fun hc=>?_⟩
 ·unfold bU;rw[if_pos (aG hc)];exact⟨rfl,iO⟩
 ·refine(abO (SliceF.only cG (by decide) hs iO (by simp)) (tk ts s.i).t).mono ?_;rintro _ w3 ⟨rfl,rfl⟩;refine⟨_,rfl,aR.refl _ _,?_,iO⟩;unfold bU;rw[if_neg (aI hc)];have hl:=hs.len;have hb:=hs.big;have hcp:=hs.cap;split
  ·rw[fy (by omega) (by omega)];rfl
  ·rfl
theorem HV (h:Sr F ts w b l s) (ss:List (aB)) {n:Nat} {parts:Array (Nat×aw)} (hp:parts=(((ss.map fun x=>Value.string (T x)).zipIdx 0).map fun x=>(x.2,x.1)).toArray) (hn:ss.length=n) (h0:0<n) (sI:n*1<=16777216):
  ∃(q:Sl) (w0:av),(au 52 n parts).run aq w=.ok q.v w0/\ay [] w w0/\az aq 141 #[rp b,q.v] w0 fun e w'=>e=ak (O U (bU ts s ss:Nat))/\ay [] w0 w':=by
 obtain⟨q,w0,k1,k2,k3⟩:=iB w ss hp hn h0 sI;exact⟨q,w0,k1,k3,yF (h.only k3) (qc k2)⟩
theorem Q3 (h:Sr F ts w b l s) {G:Nat->Prop} {q:Sl} {ss:List (aB)} (hs:SliceF iW 1 w G q ss):az aq 75 #[rp b,q.v] w fun e w'=>e=ak (O U (bU ts s ss:Nat))/\Dn F ts w w' b l (if bU ts s ss=0 then s else cJ s):=by
 refine ret (ZO _ _ _ _ ?_);unfold SX;refine(yF h hs).mono ?_;rintro _ w0 ⟨rfl,bT⟩;have h0:=h.only bT;refine⟨_,rfl,fun w'=>Dn F ts w w' b l (if bU ts s ss=0 then s else cJ s),fun w1 h1=>⟨rfl,h1⟩,fun hc=>?_,fun hc=>?_⟩
 ·have hc:bU ts s ss≠0:=by have:=aG hc;omega
  refine⟨_,Blk.dI h0.blk 1 rfl,b,1,_,_,rfl,h0.blk,by simp,fun w2 cp kC=>?_⟩;rw[if_neg hc];rw[h.wr]at kC;exact⟨(bT.weaken (bs':=[b]) fun _ h=>(by cases h)).trans cp fun x hx=>.inl hx,h0.jM (s':=cJ s) cp kC (h.en.next h.lt (cS hc).2)⟩
 ·have hc:bU ts s ss=0:=by have:=aI hc;omega
  rw[if_pos hc];exact h.dn.q bT
theorem Al (h:Sr F ts w b l s) (ss:List (aB)) {n:Nat} {parts:Array (Nat×aw)} (hp:parts=(((ss.map fun x=>Value.string (T x)).zipIdx 0).map fun x=>(x.2,x.1)).toArray) (hn:ss.length=n) (h0:0<n) (sI:n*1<=16777216):
  ∃(q:Sl) (w0:av),(au 52 n parts).run aq w=.ok q.v w0/\ay [] w w0/\az aq 75 #[rp b,q.v] w0 fun e w'=>e=ak (O U (bU ts s ss:Nat))/\Dn F ts w0 w' b l (if bU ts s ss=0 then s else cJ s):=by
 obtain⟨q,w0,k1,k2,k3⟩:=iB w ss hp hn h0 sI;exact⟨q,w0,k1,k3,Q3 (h.only k3) (qc k2)⟩
theorem HW (h:Sr F ts w b l s) {G:Nat->Prop} {q:Sl} {x:aB} (hs:SliceF iW 1 w G q [x]) (hG:∀k,G k->k≠b):az aq 73 #[rp b,q.v] w fun e w'=>e=ak (ai #[])/\Dn F ts w w' b l (dA ts s x):=by
 refine ret (ZN _ _ _ _ ?_);unfold SW;have hn:q.n=1:=hs.len;refine⟨fun nv i w'=>(i=0/\nv=1/\w'=w)∨(i=1/\nv=0/\Dn F ts w w' b l (dA ts s x)),1,.inl ⟨rfl,rfl,rfl⟩,?_⟩;rintro nv i w0 (⟨rfl,rfl,rfl⟩ | ⟨rfl,rfl,hD⟩)
 ·refine⟨fun _=>?_,fun hc=>absurd (aI hc) (by omega)⟩;refine⟨fun w'=>Dn F ts w0 w' b l (dA ts s x),fun w1 h1=>⟨0,by decide,.inr ⟨rfl,rfl,h1⟩⟩,?_⟩;obtain⟨ad,y,cs,g1,g2,g3,g4,g5,g6⟩:=hs.get (i:=0) (by decide) (by omega);simp only[Int.toNat_zero,cj,aJ]at g2;subst g2;unfold iW at g6;subst g6;obtain⟨q0,w2,k1,k2,k3⟩:=Al h [x] (n:=1) (parts:=#[(0,ab (T x))]) rfl rfl (by decide) (by decide);refine⟨ad,g1,_,g5,q0,w2,k1,k3.mono ?_⟩;rintro _ w3 ⟨rfl,h3⟩;have h03:=(h.dn.q k2).nx h3;refine⟨_,rfl,fun hc=>?_,fun hc=>?_⟩
  ·have hc:bU ts s [x]=0:=by have:((bU ts s [x]:Nat):Int)=0:=(by simpa using hc);omega
   rw[if_pos hc]at h03;refine(qW h03.r).mono ?_;rintro _ w4 ⟨rfl,h4⟩;refine⟨rfl,?_⟩;unfold dA;rw[if_pos hc];exact h03.nx h4
  ·have hc:bU ts s [x]≠0:=fun e=>by rw[e]at hc;simp at hc
   rw[if_neg hc]at h03;unfold dA;rw[if_neg hc];exact h03
 ·exact⟨fun hc=>absurd (aG hc) (by omega),fun _=>⟨rfl,hD⟩⟩
theorem oS (h:Sr F ts w b l s) (x:aB):∃(q:Sl) (w0:av),(au 52 1 #[.mk 0 (ab (T x))]).run aq w=.ok q.v w0/\ay [] w w0/\az aq 73 #[rp b,q.v] w0 fun e w'=>e=ak (ai #[])/\Dn F ts w0 w' b l (dA ts s x):=by
 obtain⟨q,w0,k1,k2,k3⟩:=iB w [x] (n:=1) (parts:=#[(0,ab (T x))]) rfl rfl (by decide) (by decide);exact⟨q,w0,k1,k3,HW (h.only k3) (qc k2) fun k hk e=>(by have:=hk.1;have:=h.lb;omega)⟩
theorem uk (h:Sr F ts w b l s) {k:Int} (ol:k≠5):az aq 140 #[rp b,O U k] w fun e w'=>e=ak (eW ts s k).1.v/\Dn F ts w w' b l (eW ts s k).2:=by
 refine ret (ZV _ _ _ _ ?_);unfold S4;intro k0 w0 hk wI bT;have z0:=h.z.al bT hk wI;have h0:=h.only bT;obtain⟨ad,g1,g2⟩:=h0.now;refine⟨fun _=>True,trivial,l,Blk.dI h0.blk 0 rfl,trivial,_,Blk.dI h0.blk 1 rfl,ad,g1,trivial,_,_,_,_,g2,fun k1 w1 jO jb bZ=>?_⟩;have z1:=z0.al bZ jO jb;refine(lH (h0.only bZ)).mono ?_;rintro _ w2 ⟨rfl,cp⟩;have z2:=z1.q cp;have hl:=h.lb;have d2:Dn F ts w w2 b l s:=h.dn.q ((bT.bP bZ).bP cp);have Yt:((!(s.fc==0))||((tk ts s.i).k !=k))=decide (s.fc≠0∨(tk ts s.i).k≠k):=by
  rw[bq];simp
 refine⟨_,rfl,z1.sq cp (by simp),?_⟩;rw[Yt];refine⟨fun hc=>(qW d2.r).mono ?_,fun hc=>?_⟩
 ·rintro _ w3 ⟨rfl,h3⟩;refine⟨rfl,z2.sc h3.o (by simp),fun w4 dm=>?_⟩;unfold eW;rw[if_pos (aG hc)];exact⟨rfl,(d2.nx h3).f dm hk hl⟩
 ·refine⟨_,Blk.dI d2.r.blk 1 rfl,b,1,_,_,rfl,d2.r.blk,by simp,z2.ne (by simp) (by simp),z2.ne (by simp) (by simp),fun w5 dS tJ w6 dG=>?_⟩;have hc:=aI hc;unfold eW;rw[if_neg hc];simp only[not_or,tM]at hc;rw[h.wr]at tJ;have d5:Dn F ts w w5 b l (cJ s):=⟨d2.o.trans dS fun x hx=>.inl hx,d2.r.jM dS tJ (h.en.next h.lt (by rw[hc.2];exact ol))⟩
  exact⟨rfl,d5.f dG hk hl⟩
theorem ul (h:Sr F ts w b l s):az aq 209 #[rp b] w fun e w'=>e=ak (ab (T (gx ts s).1))/\Dn F ts w w' b l (gx ts s).2:=by
 refine ret (Z0 _ _ _ ?_);unfold S9;refine(uk h (k:=1) (by decide)).mono ?_;rintro _ w0 ⟨rfl,h0⟩;exact⟨_,_,_,_,rfl,rfl,h0⟩
theorem _root_.Go.Kt.Blk.Ua {w:av} {b:Nat} {t:TypeId} {cs:List aw} {v:aw} (h:Blk w b t cs) (j:Nat) (hx:cs[j]? =some v):Cells w ⟨b,j,none⟩ [v]:=by
 have:=Blk.dI h j hx;rwa[gC,bm]at this
theorem BO (h:Sr F ts w b l s) (j:Nat) (x:Int) (c:Int) (u:Sx) (hx:(TJ l s)[j]? =some (.int U x)) (Cz:(TJ l (gw ts s c))[j]? =some (.int U x)) (hui:u.i=s.i)
  (hu:TJ l u=bO (TJ l (if x=0 then gw ts s c else s)) j [O U (uN x)]):az aq 138 #[rp b,ae (some ⟨b,j,none⟩),O U c] w fun e w'=>e=ak (ai #[])/\Dn F ts w w' b l u:=by
 refine ret (ZU _ _ _ _ _ ?_);unfold S3;have hj:j+1<=9:=(aP.1 hx).1;refine⟨fun w'=>Dn F ts w w' b l (if x=0 then gw ts s c else s),fun w0 h0=>?_,_,rfl,x,Blk.Ua h.blk j hx,fun hc=>?_,fun hc=>?_⟩
 ·refine⟨_,rfl,x,Blk.Ua h0.r.blk j (by split<;>assumption),_,rfl,b,j,_,_,rfl,h0.r.blk,hj,fun w1 bZ pi=>⟨rfl,h0.o.trans bZ fun x hx=>.inl hx,h0.r.jM bZ (s':=u) ?_ (by rw[hui];exact h.lt)⟩⟩;rw[hu];exact pi
 ·refine(xb h c).mono ?_;rintro _ w2 ⟨rfl,h2⟩;have hc:x=0:=by simpa using hc
  rw[if_pos hc];exact⟨rfl,h2⟩
 ·have hc:¬x=0:=by simpa using hc
  rw[if_neg hc];exact h.dn
theorem Vs (h:Sr F ts w b l s):az aq 138 #[rp b,ae (some ⟨b,8,none⟩),O U 2] w fun e w'=>e=ak (ai #[])/\Dn F ts w w' b l (qM ts s):=
 BO h 8 s.a 2 _ rfl (by unfold gw;split<;>rfl) (BG s) (by unfold qM gw;split<;>(try split)<;>rfl)
theorem Vt (h:Sr F ts w b l s):az aq 138 #[rp b,ae (some ⟨b,7,none⟩),O U 2] w fun e w'=>e=ak (ai #[])/\Dn F ts w w' b l (pK ts s):=
 BO h 7 s.m 2 _ rfl (by unfold gw;split<;>rfl) (BH s) (by unfold pK gw;split<;>(try split)<;>rfl)
theorem Vu (h:Sr F ts w b l s):az aq 138 #[rp b,ae (some ⟨b,5,none⟩),O U 2] w fun e w'=>e=ak (ai #[])/\Dn F ts w w' b l (zv ts s):=
 BO h 5 s.n 2 _ rfl (by unfold gw;split<;>rfl) (by unfold zv;split;exact BC 2;rfl) (by unfold zv gw;split<;>(try split)<;>rfl)
theorem Vv (h:Sr F ts w b l s):az aq 138 #[rp b,ae (some ⟨b,4,none⟩),O U 2] w fun e w'=>e=ak (ai #[])/\Dn F ts w w' b l (zw ts s):=
 BO h 4 s.v 2 _ rfl (by unfold gw;split<;>rfl) (by unfold zw;split;exact BC 2;rfl) (by unfold zw gw;split<;>(try split)<;>rfl)
theorem HX (h:Sr F ts w b l s):az aq 253 #[rp b] w fun e w'=>∃cs,e=ak (ah cs.toArray)/\rE true w' (Fr w.heap.size) (lR ts s).1 cs/\Dn F ts w w' b l (lR ts s).2:=by
 refine(Z1 ⟨b,0,none⟩ (fun v w'=>∃cs,v=(ah cs.toArray)/\rE true w' (Fr w.heap.size) (lR ts s).1 cs/\Dn F ts w w' b l (lR ts s).2) w ?_).mono (by
  rintro e w' ⟨v,rfl,cs,rfl,h⟩;exact⟨cs,rfl,h⟩)
 unfold Ta;intro k0 w0 hk wI bT;have hl:=h.lb;have z0:=h.z.al bT hk wI;refine(lH (h.only bT)).mono ?_;rintro _ w1 ⟨rfl,bZ⟩;have z1:=z0.q bZ;have d1:Dn F ts w w1 b l s:=h.dn.q (bT.bP bZ);refine⟨_,rfl,z0.sq bZ (by simp),fun hc w2 cp=>?_,fun hc w3 cO=>?_⟩
 ·have hc:s.fc≠0:=by simpa using hc
  unfold lR;rw[if_pos hc];exact⟨_,rfl,XU _ _ _,d1.f cp hk hl⟩
 ·have hc:¬s.fc≠0:=by simpa using hc
  have z3:=z1.q cO;have d3:=d1.q cO;refine⟨fun k=>k=b,fun w4 dm=>⟨rfl,l,Blk.dI (d3.q dm).r.blk 0 rfl,fun w5 dS=>⟨rfl,_,Blk.dI ((d3.q dm).q dS).r.blk 1 rfl,fun w6 dG=>?_⟩⟩⟩;have z6:=((z3.q dm).q dS).q dG;have d6:=((d3.q dm).q dS).q dG;have hb6:=d6.r.big;have bJ:=h.lt;refine(HB d6.r.tok (s.i:Int) ⟨by omega,by omega⟩).mono ?_;rintro _ w7 ⟨cs,rfl,hX,hj,fz⟩;have z7:=z6.q fz;have d7:=d6.q fz;obtain⟨sl,kH,_⟩:=hX.cells;have hsz:w3.heap.size<=w6.heap.size:=((dm.bP dS).bP dG).size;refine⟨_,_,_,_,sl,_,_,_,_,by rw[kH],z6.sq fz (by simp),mf.IT fz,bE.only fz,fun w8 fh k1 jO jb X8=>?_⟩;obtain⟨d,hX⟩:=hX.xg;have hx7:rE true w7 (fun k=>w6.heap.size<=k/\k<w7.heap.size) (bH ts s.i).1 cs:=⟨d,hX⟩
  have ao7:w.heap.size<=k1:=aX z3.o.size jO;have ao8:b<k1:=by omega
  have d8:=d7.q fh;have zz6:=z6.o.size;have zz0:=z0.k k0 (by simp);have zw0:=((bZ.bP cO).bP ((dm.bP dS).bP dG)).size;have hx8:∀{bs:List Nat} {w9:av},ay bs w8 w9->(∀x,x∈bs->x=k1∨x=k0∨x=b)->rE true w9 (Fr w.heap.size) (bH ts s.i).1 cs:=fun fK Yl=>
   (fO true).mono ((fO true).keep hx7 fun k Xc bJ=>(fK.block k (cb bJ fh.size) fun hm=>by
    rcases Yl k hm with rfl | rfl | rfl
    ·have:=X8.one;omega
    ·omega
    ·omega).trans (fh.block k bJ (by simp))) fun k Xc=>by have:=Xc.1;show w.heap.size<=k;omega
  unfold lR;rw[if_neg hc];refine⟨fun h1 w9 fK=>?_,fun h1 dz ey=>?_⟩
  ·have h1:(bH ts s.i).2.2.1≠0:=by simpa using h1
   have d9:Dn F ts w w9 b l s:=⟨d8.o.trans fK fun x hx=>.inr (by simp only[aL,aU,bM]at hx;omega),d8.r.own fK fun x hx=>(by simp only[aL,aU,bM]at hx;omega)⟩
   refine⟨b,2,_,_,rfl,d9.r.blk,by simp,by omega,by omega,fun cK dy nt cY dP=>?_⟩;rw[if_pos h1];have d10:Dn F ts w cK b l {s with fc:=(bH ts s.i).2.2.1,fa:=(bH ts s.i).2.2.2}:=⟨d9.o.trans dy fun x hx=>.inl hx,d9.r.jM dy nt h.lt⟩
   refine⟨cs,by rw[kH],?_,d10.f dP hk hl⟩;exact hx8 (bs:=[k1,k0,b]) (((fK.weaken (bs':=[k1,k0,b]) fun x hx=>.inl (by simp only[aL,aU,bM]at hx⊢;omega)).trans dy fun x hx=>.inl (by simp only[aF]at hx;simp[hx])).trans dP fun x hx=>.inl (by simp only[aF]at hx;simp[hx])) (by simp)
  ·have h1:¬(bH ts s.i).2.2.1≠0:=by simpa using h1
   have d12:Dn F ts w dz b l s:=⟨d8.o.trans ey fun x hx=>.inr (by simp only[aL,aU,bM]at hx;omega),d8.r.own ey fun x hx=>(by simp only[aL,aU,bM]at hx;omega)⟩
   obtain⟨KV,Fe⟩:=hj (by simpa using h1);have ej:((bH ts s.i).2.1.toNat:Int)=(bH ts s.i).2.1:=fM KV;refine⟨b,1,_,_,rfl,d12.r.blk,by simp,by omega,by omega,fun dF dq ry eI eh=>?_⟩;rw[if_neg h1];have d13:Dn F ts w dF b l {s with i:=(bH ts s.i).2.1.toNat}:=⟨d12.o.trans dq fun x hx=>.inl hx,d12.r.jM dq (by dsimp only[TJ];rw[ej];exact ry) (by dsimp only;omega)⟩
   refine⟨cs,by rw[kH],?_,d13.f eh hk hl⟩;exact hx8 (bs:=[k1,k0,b]) (((ey.weaken (bs':=[k1,k0,b]) fun x hx=>.inl (by simp only[aL,aU,bM]at hx⊢;omega)).trans dq fun x hx=>.inl (by simp only[aF]at hx;simp[hx])).trans eh fun x hx=>.inl (by simp only[aF]at hx;simp[hx])) (by simp)
end
theorem abP {n:Nat} (h:((n:Int)==0)=true):n=0:=by simpa using h
theorem abQ {n:Nat} (h:((n:Int)==0)=false):n≠0:=fun e=>by rw[e]at h;simp at h
theorem JN {n:Nat} (h:decide ((n:Int)>0)=false):n=0:=by have:=aI h;omega
theorem JO {n:Nat} (h:decide ((n:Int)>0)=true):n≠0:=by have:=aG h;omega
section
variable {F:Nat->Prop} {ts:List Tk} {w w':av} {b:Nat} {l:Sl} {s s':Sx}
theorem Vw (h:Sr F ts w b l s):az aq 256 #[rp b] w fun e w'=>∃cs,e=ak (ah cs.toArray)/\ot true w' (Fr w.heap.size) (mR ts s).1 cs/\Dn F ts w w' b l (mR ts s).2:=by
 refine(aag ⟨b,0,none⟩ (fun v w'=>∃cs,v=(ah cs.toArray)/\ot true w' (Fr w.heap.size) (mR ts s).1 cs/\Dn F ts w w' b l (mR ts s).2) w ?_).mono (by
  rintro e w' ⟨v,rfl,cs,rfl,h⟩;exact⟨cs,rfl,h⟩)
 unfold Tf;intro k0 w0 hk wI bT;have t0:=h.zt.al bT hk wI;obtain⟨ad,g1,_⟩:=h.now;refine⟨fun _=>True,fun w1 bZ=>⟨trivial,l,Blk.dI (t0.q bZ).r.blk 0 rfl,fun w2 cp=>⟨trivial,_,Blk.dI ((t0.q bZ).q cp).r.blk 1 rfl,ad,g1,fun w3 cO=>?_⟩⟩⟩;have t3:=((t0.q bZ).q cp).q cO;refine⟨trivial,_,(t3.r.tk g1).dI 3 _ rfl,fun w4 dm=>?_⟩;have t4:=t3.q dm;obtain⟨q,w5,e1,me,dS⟩:=iB w4 [nA,ik,jz] (n:=3) (parts:=#[(0,ab (T nA)),(1,ab (T ik)),(2,ab (T jz))]) rfl rfl (by decide) (by decide);refine⟨q,w5,e1,t4.sq dS (by simp),mf.IT dS,bE.only dS,fun w6 dG=>?_⟩;have t6:=(t4.q dS).q dG;refine(yF t6.r (SliceF.only cG (by decide) (qc me) dG (by simp))).mono ?_;rintro _ w7 ⟨rfl,fz⟩;have t7:=t6.q fz;refine⟨_,rfl,t6.sq fz (by simp),mf.IT fz,bE.only fz,fun w8 fh k1 jO jb X8=>?_⟩;have t8:=(t7.q fh).ad (aX t0.z.o.size jO) jb;refine⟨fun hc w9 fK=>?_,fun hc dz ey=>?_⟩
 ·have t9:=t8.f fK (by simp);refine(qW t9.r).mono ?_;rintro _ cK ⟨rfl,tK⟩;refine⟨rfl,t9.sc tK (by simp),fun cY dP=>?_⟩;have hc:=abP hc;unfold mR;rw[if_pos hc,hc];exact⟨_,rfl,⟨jy 0 0 [] 0 Sl.nil 0,rfl,XU _ _ _⟩,((t9.nx tK).f dP (by simp)).dn⟩
 ·have hc:=abQ hc;have t12:=t8.f ey (by simp);refine(Vs t12.r).mono ?_;rintro _ dF ⟨rfl,vL⟩;have t13:=t12.nx vL;refine⟨rfl,t12.sc vL (by simp),(lH t13.r).mono ?_⟩;rintro _ eI ⟨rfl,eh⟩;have t14:=t13.q eh;unfold mR;rw[if_neg hc];refine⟨_,rfl,t13.sq eh (by simp),fun hf fQ jN=>?_,fun hf=>?_⟩
  ·have hf:(qM ts s).fc≠0:=by simpa using hf
   rw[if_pos hf];exact⟨_,rfl,⟨jy 0 0 [] 0 Sl.nil 0,rfl,XU _ _ _⟩,(t14.f jN (by simp)).dn⟩
  ·have hf:¬(qM ts s).fc≠0:=by simpa using hf
   rw[if_neg hf];refine⟨_,Blk.dI t14.r.blk 1 rfl,b,1,_,_,rfl,t14.r.blk,by simp,t14.ne (by simp),t14.ne (by simp),fun gP jD OO=>?_⟩;rw[t14.r.wr]at OO;have t16:Zt F ts w gP b l (cJ (qM ts s)) [k1,k0]:=t14.up jD OO (h.en.next t14.r.lt (by rw[BG];exact(cS hc).2));refine(ul t16.r).mono ?_;rintro _ fY ⟨rfl,PR⟩;have t17:=t16.nx PR;refine⟨_,rfl,t16.sc PR (by simp),fun iv jC=>?_⟩;have t18:=t17.f jC (by simp);generalize (gx ts (cJ (qM ts s))).2=u at*
   generalize (gx ts (cJ (qM ts s))).1=nm at*
   generalize bU ts s [nA,ik,jz]=kk at*
   generalize (tk ts s.i).a=aa at*
   refine⟨fun i4 s1 i5 i6 s2 i7 l2 i8 i9 w'=>∃(x:Ex) (u':Sx),i4=(kk:Int)/\s1=T nm/\i9=aa/\rE true w' (Fr iv.heap.size) x [O U i5,O U i6,ab s2,O U i7,l2.v,O U i8]/\Zt F ts w w' b l u' [k1,k0]/\FT ts u kk nm aa=(⟨kk,nm,x,aa⟩,dA ts u' [59])/\iv.heap.size<=w'.heap.size,?_,fun nW=>?_,fun nW=>?_⟩
   ·rintro i4 s1 i5 i6 s2 i7 l2 i8 i9 ji ⟨x,u',rfl,rfl,rfl,hx,t19,hT,hsz⟩;obtain⟨q,iw,e1,kB,hm⟩:=oS t19.r [59];refine⟨q,iw,e1,t19.sq kB (by simp),hm.mono ?_⟩;rintro _ j9 ⟨rfl,Xd⟩;have t20:=t19.q kB;refine⟨rfl,t20.sc Xd (by simp),fun nU qp=>?_⟩;rw[hT];have zk:=t18.z.k k0 (by simp);have zs:=t18.z.o.size;have zb:=t18.r.lb;refine⟨_,rfl,⟨[O U i5,O U i6,ab s2,O U i7,l2.v,O U i8],rfl,?_⟩,((t20.nx Xd).f qp (by simp)).dn⟩;exact(fO true).low ((fO true).stay hx ((((Stay.refl _ _).q kB).d Xd zb).f qp (.inl zk.2))) zs
   ·have nW:¬kk=2:=fun e=>by rw[e]at nW;simp at nW
    obtain⟨q,pc,e1,rz,hm⟩:=oS t18.r [61];refine⟨q,pc,e1,t18.sq rz (by simp),hm.mono ?_⟩;rintro _ qg ⟨rfl,h24⟩;have t23:=t18.q rz;have t24:=t23.nx h24;refine⟨rfl,t23.sc h24 (by simp),(HX t24.r).mono ?_⟩;rintro _ mL ⟨cs,rfl,hx,RT⟩;obtain⟨sl,rfl⟩:=dU hx;have t25:=t24.nx RT;refine⟨_,_,_,_,sl,_,rfl,t24.sc RT (by simp),fun oe jc=>?_⟩;have z24:iv.heap.size<=qg.heap.size:=aX rz.size h24.o.size;have zk:=t18.z.k k1 (by simp);refine⟨_,_,rfl,rfl,rfl,(fO true).low ((fO true).stay hx ((Stay.refl _ _).f jc (.inl (by omega)))) z24,t25.f jc (by simp),?_,aX z24 (aX RT.o.size jc.size)⟩;unfold FT;rw[if_neg nW]
   ·have nW:(kk:Int)=2:=by simpa using nW
    have nW:kk=2:=by omega
    refine⟨tG,u,rfl,rfl,rfl,XU _ _ _,t18,?_,aK _⟩;unfold FT;rw[if_pos nW]
abbrev AcO (B:Nat) (w:av) (la:Sl) (acc:List Ac):Prop:=Own (ot true) 9 116 B w (Fr B) la acc
structure Br (F:Nat->Prop) (ts:List Tk) (w w':av) (b:Nat) (l:Sl) (k0 k1 B:Nat) (s:Sx) (acc:List Ac) (la:Sl):Prop where
 r:Sr F ts w' b l s
 b0:Blk w' k0 127 [rp b]
 b1:Blk w' k1 23 [la.v]
 own:AcO B w' la acc
 o:∃gs,ay (b::k1::gs) w w'/\∀x,x∈gs->B<=x
 n0:b<k0
 n1:b<k1
 n01:k0≠k1
 l0:k0<B
 l1:k1<B
 lB:B<=w'.heap.size
section
variable {k0 k1 B:Nat} {acc:List Ac} {la:Sl} {w2:av}
theorem Br.nx (h:Br F ts w w' b l k0 k1 B s acc la) (k:Dn F ts w' w2 b l s'):Br F ts w w2 b l k0 k1 B s' acc la:=by
 have n0:=h.n0;have n1:=h.n1;have l0:=h.l0;obtain⟨gs,h1,h2⟩:=h.o;exact⟨k.r,k.o.blk h.b0 (by simp only[aF];omega),k.o.blk h.b1 (by simp only[aF];omega),h.own.stay (ci true) k.o fun x hx=>.inl (by simp only[aF]at hx;omega),
  ⟨gs,h1.trans k.o fun x hx=>.inl (by simp only[aF]at hx;simp[hx]),h2⟩,n0,n1,h.n01,l0,h.l1,aX h.lB k.o.size⟩
theorem Br.q (h:Br F ts w w' b l k0 k1 B s acc la) (k:ay [] w' w2):Br F ts w w2 b l k0 k1 B s acc la:=h.nx (h.r.dn.q k)
theorem Vx (h:Br F ts w w' b l k0 k1 B s acc la) (hm:acc.length<ts.length):az aq 255 #[ae (some ⟨k1,0,none⟩),ae (some ⟨k0,0,none⟩)] w' fun e w2=>e=ak (ai #[])/\∃AN,Br F ts w w2 b l k0 k1 B (mR ts s).2 (acc++[(mR ts s).1]) AN:=by
 refine ret (aaf _ _ _ _ ?_);unfold Te;intro w0 bT;have h0:=h.q bT;have n1:=h.n1;have l1:=h.l1;refine⟨fun k=>k=k1,rfl,la,h0.b1.Ua 0 rfl,_,h0.b0.Ua 0 rfl,(Vw h0.r).mono ?_⟩;rintro _ w1 ⟨cs,rfl,hx,h1⟩;have zf:=h0.nx h1;generalize E5:(mR ts s).1=ac at*
 generalize (mR ts s).2=s1 at*
 have Cz:=hx;obtain⟨xc,rfl,N0⟩:=Cz;obtain⟨sl,rfl⟩:=dU N0;have sI:=h.r.sm;have hl0:=h0.own.len;obtain⟨y,w2,e2,cp,AN,w3,e3,me,⟨gs,cO,sZ⟩,_⟩:=pv (P:=aq) (t:=23) (ty:=23) (e:=116) (i:=Tryz.t116) (bytes:=104) (size:=9) (v:=ah (TC ac.k ac.n (jy ac.x.k ac.x.n ac.x.s ac.x.op sl ac.x.a) ac.a).toArray) (x:=ac) (G:=Fr w0.heap.size) (by kernel_rfl) (by kernel_rfl) rfl rfl rfl rfl (by decide) (by decide) (by decide) (ci true) zf.own zf.lB rfl hx (fun k hk _=>⟨aX h0.lB hk,h0.own.new hk⟩) (by omega);have OP:ay gs w1 w3:=(cp.weaken (bs':=gs) fun _ h=>(by cases h)).trans cO fun x hx=>.inl hx;have pf:∀g,g∈gs->B<=g:=fun g hg=>(sZ g hg).2.1;refine⟨_,_,_,_,_,_,sl,_,_,rfl,fun k hk bJ=>(by subst hk;exact h1.o.block k bJ (by simp only[aF];omega)),y,w2,e2,bE.only cp,AN,w3,e3,fun k hk bJ=>(by subst hk;exact cO.block k bJ fun hm=>(by have:=pf k hm;omega)),k1,0,_,_,rfl,OP.blk zf.b1 (fun hm=>by have:=pf k1 hm;omega),by simp,fun w4 dm qj=>⟨rfl,AN,?_⟩⟩;have n0:=h.n0;have n01:=h.n01;have l0:=h.l0;have z3:=OP.size;have z4:=dm.size;have hlB:=zf.lB;have hOb:∀{x:Nat},x<B->x≠k1->w4.heap[x]? =w1.heap[x]? :=fun hx hn=>(dm.block _ (by omega) (by simpa using hn)).trans (OP.block _ (by omega) fun hm=>(by have:=pf _ hm;omega));obtain⟨gs0,o1,o2⟩:=zf.o;have hr3:Sr F ts w3 b l s1:=zf.r.own OP fun x hx=>(by have:=pf x hx;omega)
 refine⟨hr3.one dm n1,(hOb l0 n01).trans zf.b0,qj,?_,⟨gs++gs0,(((o1.weaken (bs':=b::k1::(gs++gs0)) fun x hx=>.inl (by simp only[aL,cq]at hx⊢;rcases hx with hx | hx | hx<;>simp[hx])).trans OP fun x hx=>.inl (by simp[hx]))).trans dm fun x hx=>.inl (by simp only[aF]at hx;simp[hx]),fun x hx=>?_⟩,n0,n1,n01,l0,l1,by omega⟩
 ·refine((me.mono (ci true) fun k hk=>?_).stay (ci true) dm fun x hx=>.inl (by simp only[aF]at hx;omega));rcases hk with hk | hk
  ·exact hk
  ·exact aX hlB hk
 ·rcases cq.1 hx with hx | hx
  ·exact pf x hx
  ·exact o2 x hx
theorem MB (f:Nat) (h:Br F ts w w' b l k0 k1 B s acc la) (hf:mu ts s<f) (hm:acc.length+mu ts s<=ts.length):
  az aq 254 #[rp b,ab (ao #[125]),.func (.func 255) #[] #[ae (some ⟨k1,0,none⟩),ae (some ⟨k0,0,none⟩)]] w' fun e w2=>e=ak (ai #[])/\∃AN,Br F ts w w2 b l k0 k1 B (nI ts f acc s).2 (nI ts f acc s).1 AN:=by
 refine ret (aah ⟨b,0,none⟩ _ ⟨.func (.func 255) #[] #[ae (some ⟨k1,0,none⟩),ae (some ⟨k0,0,none⟩)],rfl⟩ (fun v w2=>v=(ai #[])/\∃AN,Br F ts w w2 b l k0 k1 B (nI ts f acc s).2 (nI ts f acc s).1 AN) w' ?_);unfold Tg;generalize Xe:nI ts f acc s=res;refine⟨fun nv w2=>∃s' OQ AN,Br F ts w w2 b l k0 k1 B s' OQ AN/\nI ts nv OQ s'=res/\mu ts s'<nv/\OQ.length+mu ts s'<=ts.length,f,⟨s,acc,la,h,Xe,hf,hm⟩,?_⟩;rintro nv w0 ⟨s',OQ,AN,h0,hR,hf0,Xf⟩;obtain⟨m,rfl⟩:∃m,nv=m+1:=⟨nv-1,by omega⟩
 rw[nI]at hR;refine⟨fun bo w2=>(bo=true/\s'.fc=0/\bU ts s' [[125]]=0/\Br F ts w w2 b l k0 k1 B s' OQ AN)∨(bo=false/\Br F ts w w2 b l k0 k1 B res.2 res.1 AN),?_,(lH h0.r).mono ?_⟩
 ·rintro bo w1 (⟨rfl,hfc,hw,h1⟩ | ⟨rfl,h1⟩)
  ·refine⟨fun _=>⟨255,[],[_,_],rfl,kg (by kernel_rfl),?_⟩,fun hh=>(by cases hh)⟩;rw[if_neg (by simp[hfc]),if_neg (by simp[hw])]at hR;have hmu:=Vl h0.r.en hfc h0.r.lt;have Xg:mu ts s'<=ts.length:=by unfold mu;split<;>omega
   refine(Vx h1 (by omega)).mono ?_;rintro _ w3 ⟨rfl,la2,h3⟩;exact⟨rfl,m,by omega,_,_,la2,h3,hR,by omega,by rw[aD,aW];omega⟩
  ·exact⟨fun hh=>(by cases hh),fun _=>⟨rfl,AN,h1⟩⟩
 ·rintro _ w4 ⟨rfl,dm⟩;have h4:=h0.q dm;refine⟨_,rfl,fun hc=>?_,fun hc=>?_⟩
  ·have hc:s'.fc=0:=by simpa using hc
   rw[if_neg (by simp[hc])]at hR;obtain⟨q,w5,e1,dS,hk⟩:=Al h4.r [[125]] (n:=1) (parts:=#[(0,ab (T [125]))]) rfl rfl (by decide) (by decide);refine⟨q,w5,e1,hk.mono ?_⟩;rintro _ w6 ⟨rfl,h6⟩;have h6:=(h4.q dS).nx h6;refine⟨_,rfl,?_⟩;by_cases hw:bU ts s' [[125]]=0
   ·rw[if_pos hw]at h6;exact .inl ⟨by rw[hw];rfl,hc,hw,h6⟩
   ·rw[if_neg hw]at h6;rw[if_pos hw]at hR;subst hR;exact .inr ⟨by simpa using hw,h6⟩
  ·have hc:s'.fc≠0:=by simpa using hc
   rw[if_pos hc]at hR;subst hR;exact .inr ⟨rfl,h4⟩
end
theorem yG (h:Sr F ts w b l s):az aq 210 #[rp b] w fun e w'=>∃la:Sl,e=ak la.v/\ja true (ot true) 9 116 w' (Fr w.heap.size) la (fV ts s).1/\Dn F ts w w' b l (fV ts s).2:=by
 refine(aae ⟨b,0,none⟩ (fun v w'=>∃la:Sl,v=la.v/\ja true (ot true) 9 116 w' (Fr w.heap.size) la (fV ts s).1/\Dn F ts w w' b l (fV ts s).2) w ?_).mono (by
  rintro e w' ⟨v,rfl,cs,rfl,h⟩;exact⟨cs,rfl,h⟩)
 unfold Td;intro k0 k1 w0 gN dJ jO jb bT;have t0:=((h.zt.q bT).ad gN dJ).ad jO jb;obtain⟨q,w1,e1,bZ,hm⟩:=oS t0.r [123];refine⟨q,w1,e1,t0.sq bZ (by simp),hm.mono ?_⟩;rintro _ w2 ⟨rfl,h2⟩;have t1:=t0.q bZ;have t2:=t1.nx h2;refine⟨rfl,t1.sc h2 (by simp),fun AM pi=>?_⟩;have hb:=h.lb;have hB:Br F ts w2 w2 b l k0 k1 w2.heap.size (dA ts s [123]) [] Sl.nil:=
  ⟨t2.r,AM,pi,Own.nil _ _ _ _ _ _,⟨[],Only.refl _ _,fun _ h=>(by cases h)⟩,by omega,by omega,fun e=>(by subst e;have:=AM.symm.trans pi;simp at this),AM.lt,pi.lt,aK _⟩
 refine(MB (ts.length+1) hB (by unfold mu;split<;>omega) (by rw[aN,bm];unfold mu;split<;>omega)).mono ?_;rintro _ w3 ⟨rfl,la,h3⟩;have z2:=t2.z.o.size;obtain⟨gs,o1,o2⟩:=h3.o;refine⟨rfl,_,h3.b0,_,h3.b1,la,rfl,?_,?_,h3.r⟩
 ·exact(h3.own.sl (ci true) fun k hk=>hk).low (ci true) z2
 ·exact t2.z.o.trans o1 fun x hx=>by
   simp only[aL]at hx;rcases hx with rfl | rfl | hx
   ·exact .inl (by simp)
   ·exact .inr jO
   ·exact .inr (aX z2 (o2 x hx))
end
section
variable {F:Nat->Prop} {ts:List Tk} {w w':av} {b:Nat} {l:Sl} {s s':Sx}
structure MvX (A:Nat) (w:av) (m:Mv) (k:Int) (ev:asw) (wt:Int) (gd:Bool) (gc:List aw) (pW:Sl) (a:Int):Prop where
 e1:k=m.k
 e2:ev=T m.ev
 e3:wt=m.wt
 e4:gd=m.gd
 e5:a=m.a
 g:rE true w (Fr A) m.g gc
 x:ja true (ot true) 9 116 w (Fr A) pW m.acts
theorem MvX.stay {A:Nat} {m:Mv} {k:Int} {ev:asw} {wt:Int} {gd:Bool} {gc:List aw} {pW:Sl} {a:Int} (h:MvX A w m k ev wt gd gc pW a) (hs:Stay A w w'):MvX A w' m k ev wt gd gc pW a:=
 ⟨h.e1,h.e2,h.e3,h.e4,h.e5,(fO true).stay h.g hs,h.x.stay (ci true) (by decide) hs⟩
theorem qe (ts:List Tk) (s:Sx):mu ts s<=ts.length:=by unfold mu;split<;>omega
theorem yH (h:Sr F ts w b l s) {ss:List (aB)} (hw:bU ts s ss≠0):s.i+1<ts.length:=h.en.next h.lt (cS hw).2
theorem Q4 (h:Sr F ts w b l s) (k:Int) (hk:(tk ts s.i).k≠5):az aq 208 #[rp b,O U k] w fun e w'=>∃cs,e=ak (ah cs.toArray)/\wV true w' (Fr w.heap.size) (kL ts k s).1 cs/\Dn F ts w w' b l (kL ts k s).2:=by
 refine(ZZ ⟨b,0,none⟩ k (fun v w'=>∃cs,v=(ah cs.toArray)/\wV true w' (Fr w.heap.size) (kL ts k s).1 cs/\Dn F ts w w' b l (kL ts k s).2) w ?_).mono (by
  rintro e w' ⟨v,rfl,cs,rfl,h⟩;exact⟨cs,rfl,h⟩)
 unfold S8;intro k0 w0 gN dJ bT;have t0:=h.zt.al bT gN dJ;obtain⟨ad,g1,g2⟩:=t0.r.now;refine⟨fun _=>True,trivial,l,Blk.dI t0.r.blk 0 rfl,trivial,_,Blk.dI t0.r.blk 1 rfl,ad,g1,trivial,_,g2.dI 3 _ rfl,fun k1 w1 jO jb bZ=>?_⟩;have t1:=t0.al bZ jO jb;refine(Vt t1.r).mono ?_;rintro _ w2 ⟨rfl,h2⟩;have t2:=t1.nx h2;refine⟨rfl,t1.sc h2 (by simp),(lH t2.r).mono ?_⟩;rintro _ w3 ⟨rfl,cO⟩;have t3:=t2.q cO;unfold kL;refine⟨_,rfl,t2.sq cO (by simp),fun hf w4 dm=>?_,fun hf=>?_⟩
 ·have hf:(pK ts s).fc≠0:=by simpa using hf
  rw[if_pos hf];exact⟨_,rfl,⟨jy 0 0 [] 0 Sl.nil 0,Sl.nil,Sl.nil,rfl,XU _ _ _,ja.nil _ _ _ _ _ _,ja.nil _ _ _ _ _ _⟩,(t3.f dm (by simp)).dn⟩
 have hf:¬(pK ts s).fc≠0:=by simpa using hf
 rw[if_neg hf];refine⟨_,Blk.dI t3.r.blk 1 rfl,b,1,_,_,rfl,t3.r.blk,by simp,t3.ne (by simp),t3.ne (by simp),fun w5 dS tJ=>?_⟩;rw[t3.r.wr]at tJ;have t5:Zt F ts w w5 b l (cJ (pK ts s)) [k1,k0]:=t3.up dS tJ (h.en.next t3.r.lt (by rw[BH];exact hk));have hA:=t5.z.o.size;have hA0:=(t5.z.k k0 (by simp)).2;have hA1:=(t5.z.k k1 (by simp)).2;have Yu:=t5.r.lb;generalize hAA:w5.heap.size=A at*
 generalize (tk ts s.i).a=aa at*
 generalize cJ (pK ts s)=u0 at*
 generalize hR:(if k=1 then mS ts {Mf k aa with ev:=(gx ts u0).1} (gx ts u0).2 else if k=3 then mS ts {Mf k aa with wt:=(eW ts u0 3).1.n} (eW ts u0 3).2 else mS ts (Mf k aa) u0)=R;have x0:∀{w':av} {ev:aB} {wt:Int},MvX A w' {Mf k aa with ev:=ev,wt:=wt} k (T ev) wt false (jy 0 0 [] 0 Sl.nil 0) Sl.nil aa:=⟨rfl,rfl,rfl,rfl,rfl,XU _ _ _,ja.nil _ _ _ _ _ _⟩
 refine⟨fun i3 s0 i4 b1 i5 i6 s1 i7 l1 i8 l2 l3 i9 w'=>∃(m:Mv) (u:Sx),MvX A w' m i3 s0 i4 b1 [O U i5,O U i6,ab s1,O U i7,l1.v,O U i8] l2 i9/\m.gd=false/\m.tg=[]/\l3=Sl.nil/\Zt F ts w w' b l u [k1,k0]/\mS ts m u=R/\A<=w'.heap.size,?_,fun hc=>?_,fun hc=>⟨fun Kw=>?_,fun Kw=>?_⟩⟩;rotate_left
 ·have hc:k=1:=by simpa using hc
  refine(ul t5.r).mono ?_;rintro _ Wo ⟨rfl,h32⟩;have t32:=t5.nx h32;refine⟨_,rfl,t5.sc h32 (by simp),fun Yd ad1=>?_⟩;rw[if_pos hc]at hR;exact⟨_,_,x0,rfl,rfl,rfl,t32.f ad1 (by simp),hR,by rw[<-hAA];exact aX h32.o.size ad1.size⟩
 ·have hc:¬k=1:=by simpa using hc
  have Kw:k=3:=by simpa using Kw
  refine(uk t5.r (k:=3) (by decide)).mono ?_;rintro _ Wp ⟨rfl,h34⟩;have t34:=t5.nx h34;refine⟨_,_,_,_,rfl,t5.sc h34 (by simp),fun Ye ad5=>?_⟩;rw[if_neg hc,if_pos Kw]at hR;exact⟨_,_,x0,rfl,rfl,rfl,t34.f ad5 (by simp),hR,by rw[<-hAA];exact aX h34.o.size ad5.size⟩
 ·have hc:¬k=1:=by simpa using hc
  have Kw:¬k=3:=by simpa using Kw
  rw[if_neg hc,if_neg Kw]at hR;exact⟨_,_,x0,rfl,rfl,rfl,t5,hR,G2 hAA.symm⟩
 rintro i3 s0 i4 b1 i5 i6 s1 i7 l1 i8 l2 l3 i9 w6 ⟨m,u,hx,PW,za,rfl,t6,hR,z6⟩;unfold mS at hR;obtain⟨q,qg,e1,zE,hm⟩:=Al t6.r [[91]] (n:=1) (parts:=#[(0,ab (T [91]))]) rfl rfl (by decide) (by decide);have t24:=t6.q zE;refine⟨fun i3 s0 i4 b1 i5 i6 s1 i7 l1 i8 l2 l3 i9 w'=>∃(m:Mv) (u:Sx),MvX A w' m i3 s0 i4 b1 [O U i5,O U i6,ab s1,O U i7,l1.v,O U i8] l2 i9/\m.tg=[]/\l3=Sl.nil/\Zt F ts w w' b l u [k1,k0]/\vU ts m u=R/\A<=w'.heap.size,?_,q,qg,e1,t6.sq zE (by simp),hm.mono ?_⟩;rotate_left
 ·rintro _ mL ⟨rfl,RT⟩;have t25:=t24.nx RT;have s25:Stay A w6 mL:=((Stay.refl A w6).q zE).d RT Yu;refine⟨_,rfl,t24.sc RT (by simp),fun hc oe jc=>?_,fun hc PO Ou=>?_⟩
  ·have xn:=JO hc;rw[if_neg xn]at hR t25;have t26:=t25.f jc (by simp);have s26:=s25.f jc (.inl hA1);have z26:=s26.sz;refine(HX t26.r).mono ?_;rintro _ pT ⟨cs,rfl,hg,h27⟩;obtain⟨sl,rfl⟩:=dU hg;have t27:=t26.nx h27;refine⟨_,_,_,_,sl,_,rfl,t26.sc h27 (by simp),fun tI sL=>?_⟩;have t28:=t27.f sL (by simp);obtain⟨q2,wD,e2,ru,sX⟩:=oS t28.r [93];have t29:=t28.q ru;refine⟨q2,wD,e2,t28.sq ru (by simp),sX.mono ?_⟩;rintro _ GJ ⟨rfl,h30⟩;have t30:=t29.nx h30;have s30:=(((s26.d h27 Yu).f sL (.inl hA1)).q ru).d h30 Yu;refine⟨rfl,t29.sc h30 (by simp),{m with gd:=true,g:=(lR ts (cJ u)).1},_,⟨hx.e1,hx.e2,hx.e3,hc,hx.e5,?_,hx.x.stay (ci true) (by decide) s30⟩,za,rfl,t30,hR,aX z6 s30.sz⟩;exact(fO true).low ((fO true).stay hg ((((Stay.refl _ _).f sL (.inl (by omega))).q ru).d h30 (by omega))) (by omega)
  ·have xn:=JN hc;rw[if_pos xn]at hR t25;have s31:=s25.f Ou (.inl hA1);have Kx:=hx.stay s31;exact⟨m,u,⟨Kx.e1,Kx.e2,Kx.e3,by rw[hc,PW],Kx.e5,Kx.g,Kx.x⟩,za,rfl,t25.f Ou (by simp),hR,aX z6 s31.sz⟩
 clear hx PW za t6 hR z6 hm t24;rintro i3 s0 i4 b1 i5 i6 s1 i7 l1 i8 l2 l3 i9 w7 ⟨m,u,hx,za,rfl,t7,hR,z7⟩;unfold vU at hR;obtain⟨q,iw,e1,kB,hm⟩:=HV t7.r [[123]] (n:=1) (parts:=#[(0,ab (T [123]))]) rfl rfl (by decide) (by decide);have t20:=t7.q kB;refine⟨fun i3 s0 i4 b1 i5 i6 s1 i7 l1 i8 l2 l3 i9 w'=>∃(m:Mv) (u:Sx),MvX A w' m i3 s0 i4 b1 [O U i5,O U i6,ab s1,O U i7,l1.v,O U i8] l2 i9/\l3=Sl.nil/\Zt F ts w w' b l u [k1,k0]/\yq ts m u=R/\A<=w'.heap.size,?_,q,iw,e1,t7.sq kB (by simp),hm.mono ?_⟩;rotate_left
 ·rintro _ j9 ⟨rfl,ix⟩;have t21:=t20.q ix;have Ya:Stay A w7 j9:=((Stay.refl A w7).q kB).q ix;have z21:=Ya.sz;refine⟨_,rfl,t20.sq ix (by simp),fun hc=>(yG t21.r).mono ?_,fun hc=>?_⟩
  ·rw[if_neg (JO hc)]at hR;rintro _ nU ⟨la,rfl,hla,h22⟩;have t22:=t21.nx h22;refine⟨la,rfl,t21.sc h22 (by simp),fun pc rz=>?_⟩;have Yb:=(Ya.d h22 Yu).f rz (.inl hA1);refine⟨{m with acts:=(fV ts u).1},_,⟨hx.e1,hx.e2,hx.e3,hx.e4,hx.e5,(fO true).stay hx.g Yb,?_⟩,rfl,t22.f rz (by simp),hR,aX z7 Yb.sz⟩;exact(hla.stay (ci true) (by decide) ((Stay.refl _ _).f rz (.inl (by omega)))).low (ci true) (by omega)
  ·rw[if_pos (JN hc)]at hR;exact⟨m,u,hx.stay Ya,rfl,t21,hR,aX z7 z21⟩
 clear hx za t7 hR z7 hm t20;rintro i17 s4 i18 b3 i19 i20 s5 i21 l7 i22 l8 l9 i23 w8 ⟨m,u,hx,rfl,t8,hR,z8⟩;unfold yq at hR;have hb8:b<w8.heap.size:=by omega
 refine⟨fun nv sg i24 s7 i25 b4 i26 i27 s8 i28 l10 i29 qo rm i30 w'=>∃(x:aB) (acc:List (aB)) (u':Sx),sg=T x/\MvX A w8 m i24 s7 i25 b4 [O U i26,O U i27,ab s8,O U i28,l10.v,O U i29] qo i30/\Stay A w8 w'/\Own iW 1 9 w8.heap.size w' (Fr w8.heap.size) rm acc/\Zt F ts w w' b l u' [k1,k0]/\oO ts nv x acc u'=oO ts (ts.length+1) [45,62] [] u/\mu ts u'<nv/\acc.length+mu ts u'<=ts.length,ts.length+1,⟨[45,62],[],u,rfl,hx,Stay.refl _ _,Own.nil _ _ _ _ _ _,t8,rfl,tP (qe _ _),by rw[aN,bm];exact qe _ _⟩,?_⟩;clear hx;rintro nv sg i24 s7 i25 b4 i26 i27 s8 i28 l10 i29 qo rm i30 w9 ⟨x,acc,u',rfl,hx,hS,me,t9,hT,Ub,wB⟩;obtain⟨m',rfl⟩:∃m',nv=m'+1:=⟨nv-1,by omega⟩
 rw[oO]at hT;obtain⟨q,cK,e1,dy,sX⟩:=Al t9.r [x] (n:=1) (parts:=#[(0,ab (T x))]) rfl rfl (by decide) (by decide);have t10:=t9.q dy;refine⟨q,cK,e1,t9.sq dy (by simp),sX.mono ?_⟩;rintro _ cY ⟨rfl,h11⟩;have t11:=t10.nx h11;refine⟨_,rfl,t10.sc h11 (by simp),fun hc dz ey=>?_,fun hc=>?_⟩
 ·have hc:=JO hc;rw[if_neg hc]at hT t11;have t12:=t11.q ey;refine⟨fun k=>k=k1,rfl,(ul t12.r).mono ?_⟩;rintro _ dF ⟨rfl,vL⟩;have t13:=t12.nx vL;have fK:ay [b] w9 dF:=(((dy.weaken (bs':=[b]) fun _ h=>(by cases h)).trans h11.o fun x hx=>.inl hx).bP ey).trans vL.o fun x hx=>.inl hx;have zS:=hS.sz;have z9:=fK.size;have sI:=h.sm;have OD:=qe ts u';have hmu:=nN h.en (cS hc).1 t9.r.lt (cS hc).2 (nM h.en (s:=cJ u')).toOn0;obtain⟨y,eI,e2,eh,AN,fQ,e3,ad9,⟨gs,jN,sZ⟩,_⟩:=pv (P:=aq) (t:=52) (ty:=52) (e:=9) (i:=Tryz.t9) (bytes:=16) (size:=1) (v:=ab (T (gx ts (cJ u')).1)) (x:=(gx ts (cJ u')).1) (G:=fun _=>False) (by kernel_rfl) (by kernel_rfl) rfl rfl rfl rfl (by decide) (by decide) (by decide) cG (me.stay cG fK fun x hx=>.inl (by simp only[aF]at hx;omega)) (aX zS z9) rfl rfl (fun k hk _=>hk.elim) (by omega);have pf:∀g,g∈gs->w8.heap.size<=g:=fun g hg=>(sZ g hg).2.1;have z8w:=t8.z.o.size;have t14:=t13.q eh;have t15:=t14.row jN fun x hx=>aX z8w (pf x hx);have nk:=t8.ne (k0:=k1) (by simp);refine⟨_,rfl,t12.sc vL (by simp),fun k hk bJ=>(by subst hk;exact vL.o.block k bJ (by simpa using nk)),y,eI,e2,t13.sq eh (by simp),bE.only eh,AN,fQ,e3,t14.sr jN (by simp) (fun x hx y hy=>?_),fun k hk bJ=>(by subst hk;exact jN.block k bJ fun hm=>(by have:=pf k hm;omega)),fun gP jD=>⟨m',by omega,[44],_,_,rfl,hx,?_,?_,t15.f jD (by simp),hT,by omega,?_⟩⟩
  ·have:=pf x hx;simp only[aL,aU,bM]at hy;omega
  ·exact(((hS.go fK fun x hx=>.inl (by simp only[aF]at hx;omega)).q eh).go jN fun x hx=>.inr (pf x hx)).f jD (.inl hA1)
  ·refine((ad9.mono cG fun k hk=>?_).stay cG jD fun x hx=>.inl (by simp only[aF]at hx;omega));rcases hk with hk | hk
   ·exact hk
   ·exact aX (aX zS z9) hk
  ·rw[aD,aW];omega
 ·have hc:=JN hc;rw[if_pos hc]at hT t11;obtain⟨q2,fY,e2,iP,Km⟩:=oS t11.r [59];have t17:=t11.q iP;refine⟨q2,fY,e2,t11.sq iP (by simp),Km.mono ?_⟩;rintro _ iv ⟨rfl,RV⟩;have t18:=t17.nx RV;refine⟨rfl,t17.sc RV (by simp),fun ji kJ=>?_⟩;rw[<-hT]at hR;rw[<-hR];have s9:∀{B:Nat},b<B->k0<B->Stay B w9 ji:=fun hb hk=>((((Stay.refl _ _).q dy).d h11 hb).q iP).d RV hb |>.f kJ (.inl hk);have s19:Stay A w8 ji:=(((((hS.q dy).d h11 Yu).q iP).d RV Yu).f kJ (.inl hA0))
  refine⟨mvv m.k m.ev m.wt m.gd [O U i26,O U i27,ab s8,O U i28,l10.v,O U i29] qo rm m.a,by rw[hx.e1,hx.e2,hx.e3,hx.e4,hx.e5];rfl,⟨_,_,_,rfl,(fO true).low ((fO true).stay hx.g s19) hA,(hx.x.stay (ci true) (by decide) s19).low (ci true) hA,?_⟩,(t18.f kJ (by simp)).dn⟩;exact((me.sl cG fun k hk=>hk).stay cG (by decide) (s9 hb8 (by omega))).low cG (by omega)
end
theorem HY {iC xs:List aw} {j:Nat} {v:aw} (h:xs[j]? =some v):(iC++xs)[iC.length+j]? =some v:=by
 rw[cQ (by omega),dw];exact h
theorem lj (iC xs vs:List aw) (j:Nat):bO (iC++xs) (iC.length+j) vs=iC++bO xs j vs:=by
 unfold bO;rw[P1,eH,P2];simp only[aV]
structure NbO (B:Nat) (w:av) (n:Nb) (en lv mv:Sl):Prop where
 en:ja true (ot true) 9 116 w (fun k=>B<=k/\mv.a≠some ⟨k,0,none⟩) en n.en
 lv:ja true (ot true) 9 116 w (fun k=>B<=k/\mv.a≠some ⟨k,0,none⟩) lv n.lv
 mv:Own (wV true) 13 54 B w (Fr B) mv n.mv
section
variable {B:Nat} {w w':av} {n:Nb} {en lv mv:Sl}
theorem NbO.go (h:NbO B w n en lv mv) {bs:List Nat} (k:ay bs w w') (hb:∀x,x∈bs->x<B):NbO B w' n en lv mv:=
 ⟨h.en.keep (ci true) (by decide) fun i hi bJ=>k.block i bJ fun hm=>(by have:=hb i hm;omega),h.lv.keep (ci true) (by decide) fun i hi bJ=>k.block i bJ fun hm=>(by have:=hb i hm;omega),h.mv.stay (gp true) k fun x hx=>.inl (hb x hx)⟩
theorem NbO.AF (h:NbO B w n en lv mv) {gs:List Nat} {pX:Sl} {m:Mv} (me:Own (wV true) 13 54 B w' (fun k=>Fr B k∨w.heap.size<=k) pX (n.mv++[m])) (k:ay gs w w') (sZ:∀g,g∈gs->mv.a=some ⟨g,0,none⟩) (ha:pX.a=mv.a∨∃g,pX.a=some ⟨g,0,none⟩/\w.heap.size<=g) (hB:B<=w.heap.size):NbO B w' {n with mv:=n.mv++[m]} en lv pX:=by
 have go:∀{la:Sl} {xs:List Ac},ja true (ot true) 9 116 w (fun k=>B<=k/\mv.a≠some ⟨k,0,none⟩) la xs->ja true (ot true) 9 116 w' (fun k=>B<=k/\pX.a≠some ⟨k,0,none⟩) la xs:=fun hx=>
  ((hx.inHeap (ci true) (by decide)).keep (ci true) (by decide) fun i hi bJ=>k.block i bJ fun hm=>hi.1.2 (sZ i hm)).mono (ci true) fun i hi=>⟨hi.1.1,by
   rcases ha with ha | ⟨g,ha,hg⟩
   ·rw[ha];exact hi.1.2
   ·rw[ha];intro e;injection e with e;injection e with e;have:=hi.2;omega⟩
 exact⟨go h.en,go h.lv,me.mono (gp true) fun i hi=>hi.elim id fun hi=>aX hB hi⟩
theorem NbO.acB (h:NbO B w n en lv mv) {A:Nat} {la:Sl} {xs:List Ac} (hx:ja true (ot true) 9 116 w (Fr A) la xs) (hA:B<=A) (hm:∀k,A<=k->mv.a≠some ⟨k,0,none⟩):NbO B w {n with en:=xs} la lv mv:=
 ⟨hx.mono (ci true) fun k hk=>⟨aX hA hk,hm k hk⟩,h.lv,h.mv⟩
theorem NbO.acC (h:NbO B w n en lv mv) {A:Nat} {la:Sl} {xs:List Ac} (hx:ja true (ot true) 9 116 w (Fr A) la xs) (hA:B<=A) (hm:∀k,A<=k->mv.a≠some ⟨k,0,none⟩):NbO B w {n with lv:=xs} en la mv:=
 ⟨h.en,hx.mono (ci true) fun k hk=>⟨aX hA hk,hm k hk⟩,h.mv⟩
end
abbrev JP (h:wK):List aw:=[aj false,aj h.i,aj h.e,aj h.l]
structure Cl (F:Nat->Prop) (ts:List Tk) (w w':av) (b:Nat) (l:Sl) (g t:Nat) (iC:List aw) (kh B:Nat) (s:Sx) (n:Nb) (h:wK) (en lv mv:Sl):Prop where
 r:Sr F ts w' b l s
 nb:Blk w' g t (iC++mU n.k n.nm n.ini n.dft en lv mv Sl.nil n.a)
 hb:Blk w' kh 206 (JP h)
 no:NbO B w' n en lv mv
 o:∃gs,ay (b::g::kh::gs) w w'/\∀x,x∈gs->B<=x
 ng:g≠b/\¬F g
 nh:b<kh
 gh:g≠kh
 gB:g<B
 hB:kh<B
 lB:B<=w'.heap.size
section
variable {F:Nat->Prop} {ts:List Tk} {w w' w2:av} {b:Nat} {l:Sl} {g t:Nat} {iC:List aw} {kh B:Nat} {s s':Sx} {n n':Nb} {h h':wK} {en lv mv uT uU pX:Sl}
theorem Cl.nx (c:Cl F ts w w' b l g t iC kh B s n h en lv mv) (k:Dn F ts w' w2 b l s'):Cl F ts w w2 b l g t iC kh B s' n h en lv mv:=by
 have ng:=c.ng;have nh:=c.nh;have gB:=c.gB;have hBl:=c.hB;obtain⟨gs,h1,h2⟩:=c.o;exact⟨k.r,k.o.blk c.nb (by simp only[aF];omega),k.o.blk c.hb (by simp only[aF];omega),c.no.go k.o fun x hx=>(by simp only[aF]at hx;omega),
  ⟨gs,h1.trans k.o fun x hx=>.inl (by simp only[aF]at hx;simp[hx]),h2⟩,ng,nh,c.gh,gB,c.hB,aX c.lB k.o.size⟩
theorem Cl.q (c:Cl F ts w w' b l g t iC kh B s n h en lv mv) (k:ay [] w' w2):Cl F ts w w2 b l g t iC kh B s n h en lv mv:=c.nx (c.r.dn.q k)
theorem Cl.st (c:Cl F ts w w' b l g t iC kh B s n h en lv mv) (k:ay [g] w' w2) (hB:Blk w2 g t (iC++mU n'.k n'.nm n'.ini n'.dft uT uU pX Sl.nil n'.a)) (no:NbO B w' n' uT uU pX):Cl F ts w w2 b l g t iC kh B s n' h uT uU pX:=by
 obtain⟨gs,h1,h2⟩:=c.o;have gB:=c.gB;exact⟨c.r.V6 k c.ng,hB,k.blk c.hb (by simpa using fun e=>c.gh e.symm),no.go k fun x hx=>(by simp only[aF]at hx;omega),⟨gs,h1.trans k fun x hx=>.inl (by simp only[aF]at hx;simp[hx]),h2⟩,c.ng,c.nh,c.gh,gB,c.hB,aX c.lB k.size⟩
theorem Cl.hd (c:Cl F ts w w' b l g t iC kh B s n h en lv mv) (k:ay [kh] w' w2) (hB:Blk w2 kh 206 (JP h')):Cl F ts w w2 b l g t iC kh B s n h' en lv mv:=by
 obtain⟨gs,h1,h2⟩:=c.o;have hB':=c.hB;exact⟨c.r.one k c.nh,k.blk c.nb (by simpa using c.gh),hB,c.no.go k fun x hx=>(by simp only[aF]at hx;omega),⟨gs,h1.trans k fun x hx=>.inl (by simp only[aF]at hx;simp[hx]),h2⟩,c.ng,c.nh,c.gh,c.gB,hB',aX c.lB k.size⟩
def abR (h:wK) (j:Nat):Bool:=if j=1 then h.i else if j=2 then h.e else h.l
def MC (h:wK) (j:Nat):wK:=if j=1 then{h with i:=true}else if j=2 then{h with e:=true}else{h with l:=true}
theorem j3 {j:Nat} (h0:j≠0) (h3:j<=3):j=1∨j=2∨j=3:=by omega
theorem JQ (c:Cl F ts w w' b l g t iC kh B s n h en lv mv) (hm:n.mv.length<ts.length):az aq 142 #[rp b,ae (some ⟨g,iC.length,none⟩),ae (some ⟨kh,0,none⟩)] w' fun e w2=>e=ak (aj (db ts n h s).1)/\
  ∃uT uU pX,Cl F ts w w2 b l g t iC kh B (db ts n h s).2.2.2 (db ts n h s).2.1 (db ts n h s).2.2.1 uT uU pX:=by
 refine ret (ZY _ _ _ _ _ ?_);unfold S7;have sI:=c.r.sm;obtain⟨q,w0,e1,bT,Xf⟩:=HV c.r [wx,fA,fU] (n:=3) (parts:=#[(0,ab (T wx)),(1,ab (T fA)),(2,ab (T fU))]) rfl rfl (by decide) (by decide);refine⟨q,w0,e1,Xf.mono ?_⟩;rintro _ w1 ⟨rfl,bZ⟩;have c1:=(c.q bT).q bZ;refine⟨_,rfl,fun hc w2 cp=>?_,fun hc=>?_⟩
 ·have hc:=JO hc;have c2:=c1.q cp;have oY:db ts n h s=(true,{n with mv:=n.mv++[(kL ts (bU ts s [wx,fA,fU]:Nat) s).1]},h,(kL ts (bU ts s [wx,fA,fU]:Nat) s).2):=by
   unfold db;rw[if_pos hc]
  rw[oY];refine⟨fun k=>k=g,_,rfl,rfl,mv,c2.nb.Ua (iC.length+6) (HY rfl),(Q4 c2.r _ (cS hc).2).mono ?_⟩;rintro _ w3 ⟨cs,rfl,hx,h3⟩;have c3:=c2.nx h3;generalize (kL ts (bU ts s [wx,fA,fU]:Nat) s).1=m at*
  generalize (kL ts (bU ts s [wx,fA,fU]:Nat) s).2=u at*
  have Cz:=hx;obtain⟨gc,pW,tg,rfl,hg,_,_⟩:=Cz;obtain⟨sl,rfl⟩:=dU hg;have ng:=c.ng;have gB:=c.gB;obtain⟨y,w4,e2,dm,pX,w5,e3,me,⟨gs,dS,sZ⟩,ha⟩:=pv (P:=aq) (t:=24) (ty:=24) (e:=54) (i:=Tryz.t54) (bytes:=168) (size:=13) (v:=ah (mvv m.k m.ev m.wt m.gd (jy m.g.k m.g.n m.g.s m.g.op sl m.g.a) pW tg m.a).toArray) (x:=m) (G:=Fr w2.heap.size) (by kernel_rfl) (by kernel_rfl) rfl rfl rfl rfl (by decide) (by decide) (by decide) (gp true) c3.no.mv c3.lB rfl hx (fun k hk _=>⟨aX c2.lB hk,c2.no.mv.new hk⟩) (by omega);have wJ:ay gs w3 w5:=(dm.weaken (bs':=gs) fun _ h=>(by cases h)).trans dS fun x hx=>.inl hx;have pf:∀x,x∈gs->B<=x:=fun x hx=>(sZ x hx).2.1;have hn:g∉gs:=fun hm=>by have:=pf g hm;omega
  have tJ:=wJ.blk c3.nb hn;refine⟨_,_,_,_,_,_,_,_,sl,_,pW,tg,_,rfl,fun k hk bJ=>(by subst hk;exact h3.o.block k bJ (by simp only[aF];omega)),y,w4,e2,bE.only dm,pX,w5,e3,fun k hk bJ=>(by subst hk;exact dS.block k bJ hn),_,rfl,g,_,_,_,rfl,tJ,by simp,fun w6 dG KU=>⟨rfl,en,lv,pX,?_⟩⟩;rw[lj]at KU;have no5:=c3.no.AF me wJ (fun x hx=>(sZ x hx).1) ha c3.lB;obtain⟨gs0,o1,o2⟩:=c3.o;have nh:=c.nh;have hBB:=c.hB;have lB:=c3.lB;have hgh:=c.gh;have z5:=wJ.size;have z6:=dG.size;exact⟨(c3.r.own wJ fun x hx=>(by have:=pf x hx;omega)).V6 dG ng,KU,(dG.block kh (by have:=c3.hb.lt;omega) (by simp only[aF];omega)).trans (wJ.blk c3.hb fun hm=>(by have:=pf kh hm;omega)),
   no5.go dG fun x hx=>(by simp only[aF]at hx;omega),⟨gs++gs0,((o1.weaken (bs':=b::g::kh::(gs++gs0)) fun x hx=>.inl (by simp only[aL,cq]at hx⊢;rcases hx with hx | hx | hx | hx<;>simp[hx])).trans wJ fun x hx=>.inl (by simp[hx])).trans dG fun x hx=>.inl (by simp only[aF]at hx;simp[hx]),fun x hx=>(cq.1 hx).elim (pf x) (o2 x)⟩,ng,nh,hgh,gB,hBB,by omega⟩
 ·have hc:=JN hc;obtain⟨q,w7,e1,fz,Xf⟩:=HV c1.r [dE,fD,fE] (n:=3) (parts:=#[(0,ab (T dE)),(1,ab (T fD)),(2,ab (T fE))]) rfl rfl (by decide) (by decide);refine⟨q,w7,e1,Xf.mono ?_⟩;rintro _ w8 ⟨rfl,fh⟩;have c8:=(c1.q fz).q fh;have IY:bU ts s [dE,fD,fE]<=3:=DT _;refine⟨_,rfl,fun hj=>?_,fun hj=>?_⟩
  ·have hj:=abP hj;have oY:db ts n h s=(false,n,h,s):=by unfold db;rw[if_neg (by simpa using hc),hj];rfl
   rw[oY];exact⟨rfl,_,_,_,c8⟩
  have hj:=abQ hj;have hnx:=yH c.r hj;have oY:db ts n h s=(if abR h (bU ts s [dE,fD,fE])then(false,n,h,iY ts s)else if bU ts s [dE,fD,fE]=1 then(true,{n with ini:=(gx ts (cJ s)).1},MC h 1,dA ts (gx ts (cJ s)).2 [59])else if bU ts s [dE,fD,fE]=2 then(true,{n with en:=(fV ts (cJ s)).1},MC h 2,(fV ts (cJ s)).2)else(true,{n with lv:=(fV ts (cJ s)).1},MC h 3,(fV ts (cJ s)).2)):=by
   unfold db;rw[if_neg (by simpa using hc)];rcases j3 hj IY with e | e | e<;>rw[e]<;>rfl
  rw[oY];generalize bU ts s [dE,fD,fE]=j at*
  have OB:(JP h)[j]? =some (aj (abR h j)):=by rcases j3 hj IY with e | e | e<;>rw[e]<;>rfl
  have hp:Hb ⟨kh,0,none⟩ (j:Int) 4 1 ⟨kh,j,none⟩:=⟨by omega,by omega,by rw[gC,aM];simp⟩
  refine⟨_,rfl,⟨kh,j,none⟩,hp,_,c8.hb.Ua j OB,fun hh=>?_,fun hh=>?_⟩
  ·rw[if_pos hh];refine(qW c8.r).mono ?_;rintro _ w9 ⟨rfl,h9⟩;exact⟨rfl,rfl,_,_,_,c8.nx h9⟩
  ·rw[if_neg (by rw[hh];decide)];refine⟨_,rfl,⟨kh,j,none⟩,hp,kh,j,_,_,rfl,c8.hb,by show j+1<=4;omega,fun cK dy nt=>?_⟩;have c10:Cl F ts w cK b l g t iC kh B s n (MC h j) en lv mv:=c8.hd dy (by
    have e:bO (JP h) j [aj true]=JP (MC h j):=by rcases j3 hj IY with e | e | e<;>rw[e]<;>rfl
    rwa[e]at nt)
   refine⟨_,Blk.dI c10.r.blk 1 rfl,b,1,_,_,rfl,c10.r.blk,by simp,fun cY dP zF=>?_⟩;rw[c.r.wr]at zF;have PX:=c10.nx (s':=cJ s) ⟨dP,c10.r.jM dP zF hnx⟩;refine⟨fun w'=>∃uT uU pX,Cl F ts w w' b l g t iC kh B _ _ _ uT uU pX,fun dz Jb=>⟨by split<;>(try split)<;>rfl,Jb⟩,fun Fe=>?_,fun Fe=>⟨fun RI=>?_,fun RI=>?_⟩⟩
   ·have e1:j=1:=by have:(j:Int)=1:=(by simpa using Fe);omega
    subst e1;rw[if_pos rfl];refine(ul PX.r).mono ?_;rintro _ dF ⟨rfl,vL⟩;have c13:=PX.nx vL;refine⟨_,rfl,_,rfl,g,_,_,_,rfl,c13.nb,by simp,fun eI eh EZ=>?_⟩;rw[lj]at EZ;have c14:=c13.st (n':={n with ini:=(gx ts (cJ s)).1}) eh EZ ⟨c13.no.en,c13.no.lv,c13.no.mv⟩;obtain⟨q,fQ,e1,jN,Xf⟩:=oS c14.r [59];refine⟨q,fQ,e1,Xf.mono ?_⟩;rintro _ gP ⟨rfl,h16⟩;exact⟨rfl,_,_,_,(c14.q jN).nx h16⟩
   ·have e1:j=2:=by have:(j:Int)=2:=(by simpa using RI);omega
    subst e1;rw[if_neg (by decide),if_pos rfl];refine(yG PX.r).mono ?_;rintro _ fY ⟨la,rfl,hla,PR⟩;have c17:=PX.nx PR;refine⟨la,rfl,_,rfl,g,_,_,_,rfl,c17.nb,by simp,fun iv jC OS=>?_⟩;rw[lj]at OS;exact⟨_,_,_,c17.st (n':={n with en:=(fV ts (cJ s)).1}) jC OS (c17.no.acB hla PX.lB fun k hk=>PX.no.mv.new hk)⟩
   ·have e0:j≠1:=fun e=>by rw[e]at Fe;simp at Fe
    have e1:j=3:=by have:¬(j:Int)=2:=(by simpa using RI);omega
    subst e1;rw[if_neg (by decide),if_neg (by decide)];refine(yG PX.r).mono ?_;rintro _ ji ⟨la,rfl,hla,h19⟩;have c19:=PX.nx h19;refine⟨la,rfl,_,rfl,g,_,_,_,rfl,c19.nb,by simp,fun iw kB aee=>?_⟩;rw[lj]at aee;exact⟨_,_,_,c19.st (n':={n with lv:=(fV ts (cJ s)).1}) kB aee (c19.no.acC hla PX.lB fun k hk=>PX.no.mv.new hk)⟩
end
section
variable {F:Nat->Prop} {ts:List Tk} {w w' w2:av} {b:Nat} {l:Sl} {s s':Sx}
theorem D5 (h:Sr F ts w b l s) (k:Int):az aq 74 #[rp b,O U k] w fun e w'=>e=ak (ah (mU (dR ts k s).1.k (dR ts k s).1.nm [] [] Sl.nil Sl.nil Sl.nil Sl.nil (dR ts k s).1.a).toArray)/\Dn F ts w w' b l (dR ts k s).2:=by
 refine ret (ZT _ _ _ _ ?_);unfold S2;intro k0 k1 w0 gN dJ jO jb bT;have t0:=((h.zt.q bT).ad gN dJ).ad jO jb;obtain⟨ad,g1,g2⟩:=t0.r.now;refine⟨fun w'=>Zt F ts w w' b l (nK ts s) [k1,k0],fun w1 t1=>(uk t1.r (k:=1) (by decide)).mono ?_,l,Blk.dI t0.r.blk 0 rfl,_,Blk.dI t0.r.blk 1 rfl,ad,g1,_,g2.dI 0 _ rfl,fun hc w5 dS=>?_,fun hc w8 fh=>?_⟩
 ·rintro _ w2 ⟨rfl,h2⟩;have t2:=t1.nx h2;refine⟨_,_,_,_,rfl,t1.sc h2 (by simp),fun k2 w3 nW nD cO n1 n2 n3=>⟨fun k=>k=k2,rfl,fun e=>n3 e,fun e=>n3 e,fun w4 dm=>⟨rfl,?_⟩⟩⟩;have t3:=t2.q cO;have z3:=t3.z.go dm fun x hx=>.inr (by simp only[aL,aU,bM]at hx⊢;omega);exact⟨z3.o,t3.r.own dm fun x hx=>t3.lt (by simp only[aL,aU,bM]at hx⊢;omega)⟩
 ·have hc:(tk ts s.i).k=1:=by simpa using hc
  have t5:=t0.q dS;unfold nK;rw[if_pos hc];refine(Vu t5.r).mono ?_;rintro _ w6 ⟨rfl,h6⟩;have t6:=t5.nx h6;refine⟨rfl,t5.sc h6 (by simp),_,Blk.dI t6.r.blk 6 rfl,fun hd=>?_,fun hd=>?_⟩
  ·rw[if_pos (by simpa using hd)];refine(xb t6.r 21).mono ?_;rintro _ w7 ⟨rfl,h7⟩;exact⟨rfl,t6.sc h7 (by simp),t6.nx h7⟩
  ·rw[if_neg (by simpa using hd)];exact t6
 ·have hc:¬(tk ts s.i).k=1:=by simpa using hc
  unfold nK;rw[if_neg hc];exact t0.q fh
def TK (F:Nat->Prop) (ts:List Tk) (b:Nat) (l:Sl) (f:Nat) (d:Int):Prop:=∀(k:Int) (u:Sx) (w:av),Sr F ts w b l u->u.d=d->az aq 143 #[rp b,O U k] w fun e w'=>∃cs,e=ak (ah cs.toArray)/\li true f w' (Fr w.heap.size) (jf ts f k u).1 cs/\Dn F ts w w' b l (jf ts f k u).2
theorem TL {f:Nat} (hf:0<f) (w:av) (G:Nat->Prop):li true f w G JC (mU 0 [] [] [] Sl.nil Sl.nil Sl.nil Sl.nil 0):=by
 obtain⟨m,rfl⟩:∃m,f=m+1:=⟨f-1,by omega⟩
 exact⟨_,_,_,_,rfl,⟨ja.nil _ _ _ _ _ _,ja.nil _ _ _ _ _ _,ja.nil _ _ _ _ _ _⟩,ja.nil _ _ _ _ _ _⟩
abbrev TM (f B:Nat) (w:av) (s:Sl) (xs:List Nd):Prop:=Own (li true f) 9 27 B w (Fr B) s xs
theorem Am {f B g t:Nat} {iC:List aw} {n1:Nb} {en lv mv l2 l8:Sl} {acc:List Nd} {x:Nd} {k:Int} {nm ini dft:aB} {a b1 b2 b3:Sl} {at_:Int} {k0:Nat} {Q:av->Prop} {H:Nat->Prop}
  (hx:li true f w H x (mU k nm ini dft a b1 b2 b3 at_)) (hH:∀i,H i->i<w.heap.size->Fr B i/\l8.a≠some ⟨i,0,none⟩) (hH':∀i,H i->B<=i) (me:TM f B w l8 (acc++[JC])) (hn:l2.n=acc.length)
  (sJ:Blk w g t (iC++mU n1.k n1.nm n1.ini n1.dft en lv mv l2 n1.a)) (hg:g<B) (gN:k0<B) (hgk:k0≠g)
  (hQ:∀w',Blk w' g t (iC++mU n1.k n1.nm n1.ini n1.dft en lv mv l8 n1.a)->TM f B w' l8 (acc++[x])->(∃gk,B<=gk/\ay [g,gk] w w')->Q w'):
  ∃p1:Addr,ck l8 (l2.n:Int) 9 p1/\∃p2:Addr,(some (⟨g,iC.length,none⟩:Addr))=(some p2)/\
   (∃sY I3:Nat,∃z2:List aw,∃Kn:Nat,p1=⟨sY,I3,none⟩/\Blk w sY Kn z2/\(I3+9)<=z2.length/\k0≠sY/\
    ∀fQ:av,ay [sY] w fQ->Blk fQ sY Kn (bO z2 I3 [O U k,ab (T nm),ab (T ini),ab (T dft),a.v,b1.v,b2.v,b3.v,O U at_])->∃ES PN:Nat,∃z3:List aw,∃k18:Nat,(p2.add 7)=⟨ES,PN,none⟩/\
    Blk fQ ES k18 z3/\(PN+1)<=z3.length/\k0≠ES/\∀gP:av,ay [ES] fQ gP->Blk gP ES k18 (bO z3 PN [l8.v])->Q gP)/\
   ∃GF GH:Nat,∃z4:List aw,∃k21:Nat,(p2.add 7)=⟨GF,GH,none⟩/\Blk w GF k21 z4/\(GH+1)<=z4.length/\k0≠GF/\
    ∀fY:av,ay [GF] w fY->Blk fY GF k21 (bO z4 GH [l8.v])->∃N7 Wn:Nat,∃z5:List aw,∃k24:Nat,p1=⟨N7,Wn,none⟩/\
    Blk fY N7 k24 z5/\(Wn+9)<=z5.length/\k0≠N7/\∀iv:av,ay [N7] fY iv->Blk iv N7 k24 (bO z5 Wn [O U k,ab (T nm),ab (T ini),ab (T dft),a.v,b1.v,b2.v,b3.v,O U at_])->Q iv:=by
 have bJ:l2.n<(acc++[JC]).length:=by rw[aD,aW];omega
 have EN:(acc++[JC]).set l2.n x=acc++[x]:=by rw[hn,List.set_append_right _ _ (aK _),G3];rfl
 obtain⟨gk,cells,a1,a2,a3,a4,a5⟩:=Own.store (cf true f) me bJ (vs:=mU k nm ini dft a b1 b2 b3 at_) rfl hx hH (by decide);have hgB:=(me.blk a1).1;dsimp only at hgB;refine⟨_,a2,_,rfl,⟨gk,l2.n*9,cells,_,rfl,a3,a4,by omega,fun fQ jN Xh=>⟨g,iC.length+7,_,t,rfl,jN.blk sJ (by simp only[aF];omega),by simp,hgk,fun gP jD OO=>?_⟩⟩,g,iC.length+7,_,t,rfl,sJ,by simp,hgk,fun fY iP aeg=>?_⟩
 ·rw[lj]at OO;have o15:=a5 fQ jN Xh;rw[EN]at o15;exact hQ gP OO (o15.stay (cf true f) jD fun x hx=>.inl (by simp only[aF]at hx;omega)) ⟨gk,hgB,(jN.weaken (bs':=[g,gk]) fun x hx=>.inl (by simp only[aF]at hx;simp[hx])).trans jD fun x hx=>.inl (by simp only[aF]at hx;simp[hx])⟩
 ·rw[lj]at aeg;have z17:=iP.size;have aeh:TM f B fY l8 (acc++[JC]):=me.stay (cf true f) iP fun x hx=>.inl (by simp only[aF]at hx;omega);have ajt:li true f fY (fun i=>H i/\i<w.heap.size) x (mU k nm ini dft a b1 b2 b3 at_):=(cf true f).keep ((cf true f).inHeap hx) fun i hi bJ=>iP.block i bJ (by have:=hH' i hi.1;simp only[aF];omega);obtain⟨gk',Xi,c1,c2,c3,c4,c5⟩:=Own.store (cf true f) aeh bJ (vs:=mU k nm ini dft a b1 b2 b3 at_) rfl ajt (fun i hi _=>hH i hi.1 hi.2) (by decide);have e:gk'=gk:=by
   rw[a1]at c1;injection c1 with c1;injection c1 with c1;exact c1.symm
  subst e;refine⟨gk',l2.n*9,Xi,_,rfl,c3,c4,by omega,fun iv jC OS=>?_⟩;have o18:=c5 iv jC OS;rw[EN]at o18;exact hQ iv (jC.blk aeg (by simp only[aF];omega)) o18 ⟨gk',hgB,(iP.weaken (bs':=[g,gk']) fun x hx=>.inl (by simp only[aF]at hx;simp[hx])).trans jC fun x hx=>.inl (by simp only[aF]at hx;simp[hx])⟩
structure Kd (F:Nat->Prop) (ts:List Tk) (w w':av) (b:Nat) (l:Sl) (g t:Nat) (iC:List aw) (f B B2:Nat) (n:Nb) (en lv mv:Sl) (s:Sx) (acc:List Nd) (kids:Sl):Prop where
 r:Sr F ts w' b l s
 nb:Blk w' g t (iC++mU n.k n.nm n.ini n.dft en lv mv kids n.a)
 no:BI true w' (fun k=>B<=k/\k<B2) n en lv mv
 kd:TM f B2 w' kids acc
 o:ay [b,g] w w'
 lB:B2<=w'.heap.size
section
variable {g t:Nat} {iC:List aw} {f B B2:Nat} {n:Nb} {en lv mv kids:Sl} {acc:List Nd}
theorem Kd.nx (h:Kd F ts w w' b l g t iC f B B2 n en lv mv s acc kids) (Om:g≠b) (hb:b<B) (hB:B<=B2) (k:Dn F ts w' w2 b l s'):Kd F ts w w2 b l g t iC f B B2 n en lv mv s' acc kids:=
 ⟨k.r,k.o.blk h.nb (by simp only[aF];omega),h.no.keep fun i hi bJ=>k.o.block i bJ (by simp only[aF];omega),h.kd.stay (cf true f) k.o fun x hx=>.inl (by simp only[aF]at hx;omega),
  h.o.trans k.o fun x hx=>.inl (by simp only[aF]at hx;simp[hx]),aX h.lB k.o.size⟩
end
end
end Go.Proofs.YtmhoiicofhlgbaaGreatDoor.Con
