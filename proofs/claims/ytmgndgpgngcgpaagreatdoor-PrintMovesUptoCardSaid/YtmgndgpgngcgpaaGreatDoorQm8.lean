import Derived.Test.YtmgndgpgngcgpaaGreatDoorQm7
set_option linter.unusedSectionVars false
set_option linter.unusedSimpArgs false
set_option linter.unusedVariables false
set_option maxHeartbeats 4000000
set_option maxRecDepth 100000
open Go.Value renaming int->O,string->ab,pointer->ae,agg->ah,tuple->ai,bool->aj
open Go.IntKind renaming i64->U,wrap->ar
open Go.Ending renaming returned->ak
open _root_.ByteArray renaming mk->ao
open _root_.Go.Proofs.Tryz renaming prog->aq
open Go.Instr renaming buildSlice->au
open Go renaming World->av,Value->aw,Calls->az
open Go.Kt renaming Only->ay,SliceF->aA,Cells->aB,OnlyP->aD,Blk->aF
namespace Go.Proofs.YtmgndgpgngcgpaaGreatDoor.Con
open Go Go.RowKit Go.Kt Go.Kt.V Go.Proofs.YtmgndgpgngcgpaaGreatDoor.Vc Go.ChangeShapes Go.WideShapes
structure Rr (F:aJ) (ts:List Tk) (w:av) (b:Nat) (l:Sl) (i:Nat) (fc fa d:Int):Prop where
 blk:aF w b 271 [l.v,O U (i:Int),O U d,O U fc,O U fa]
 tok:aA Bl 4 w F l ts
 hF:∀k,F k->k<b
 en:od ts
 lt:i<ts.length
section
variable {F:aJ} {ts:List Tk} {w w':av} {b:Nat} {l:Sl} {i:Nat} {fc fa d:Int}
theorem Rr.only(h:Rr F ts w b l i fc fa d)(hO:ay [] w w'):Rr F ts w' b l i fc fa d:=
 ⟨hO.blk h.blk aM,SliceF.only fX aL h.tok hO aM,h.hF,h.en,h.lt⟩
theorem Rr.j5(h:Rr F ts w b l i fc fa d)(hO:ay [b] w w'){i':Nat}{fc' fa' d':Int}(hB:aF w' b 271 [l.v,O U (i':Int),O U d',O U fc',O U fa'])(hi:i'<ts.length):Rr F ts w' b l i' fc' fa' d':=
 ⟨hB,SliceF.only fX aL h.tok hO λk hk _ hm=>by have:=h.hF k hk;simp only[aQ]at hm;omega,h.hF,h.en,hi⟩
theorem Rr.own(h:Rr F ts w b l i fc fa d){bs:List Nat}(hO:ay bs w w')(hb:∀x,x∈bs->b<x):Rr F ts w' b l i fc fa d:=
 ⟨hO.blk h.blk λhm=>by have:=hb b hm;omega,SliceF.only fX aL h.tok hO λk hk _ hm=>aaX,h.hF,h.en,h.lt⟩
theorem Rr.lb(h:Rr F ts w b l i fc fa d):b<w.heap.size:=h.blk.lt
theorem Rr.big(h:Rr F ts w b l i fc fa d):ts.length<=9223372036854775807:=by
 have h1:=h.tok.len;have h2:=h.tok.cap;have h3:=h.tok.big;omega
theorem Rr.now(h:Rr F ts w b l i fc fa d):∃ad,dN l (i:Int) 4 ad/\aB w ad [O U (tk ts i).k,ab (T (tk ts i).t),O U (tk ts i).n,O U (tk ts i).a]:=by
 have hl:=h.tok.len;have cd:=h.lt;obtain⟨ad,x,cs,g1,g2,g3,g4,g5,g6⟩:=h.tok.get (bc i) aE;rw[ba,yg h.lt]at g2;injection g2 with g2;subst g2;unfold Bl at g6;subst g6;exact⟨ad,g1,g5⟩
theorem BT(h:Rr F ts w b l i fc fa d)(c:Int):az aq 266 #[ae (some ⟨b,0,none⟩),O U c] w λe w'=>e=ak (ai #[])/\ay [b] w w'/\
  Rr F ts w' b l i (if fc=0 then c else fc) (if fc=0 then(tk ts i).a else fa) d:=by
 refine ret (aeJ _ _ _ _ ?_);refine⟨fc,Blk.eo h.blk 3 rfl,λhc w0 cw=>?_,λhc=>?_⟩
 ·have hc:fc=0:=aaf
  subst hc;have h0:=h.only cw;obtain⟨ad,g1,g2⟩:=h0.now;refine⟨l,Blk.eo h0.blk 0 rfl,_,Blk.eo h0.blk 1 rfl,ad,g1,_,g2.eo 3 _ rfl,b,3,_,_,rfl,h0.blk,aM,λw2 cO kQ=>⟨rfl,cw.weaken (λ_ h=>aah) |>.trans cO (λx hx=>.inl hx),?_⟩⟩;rw[aR rfl,aR rfl];exact h0.j5 cO kQ h.lt
 have hc:fc≠0:=aaf
 rw[aO hc,aO hc];exact⟨rfl,Only.refl _ _,h⟩
theorem yK(h:Rr F ts w b l i fc fa d):az aq 255 #[ae (some ⟨b,0,none⟩)] w λe w'=>e=ak (ai #[])/\ay [b] w w'/\
  Rr F ts w' b l i (if fc=0 then(eP ts i).1 else fc) (if fc=0 then(eP ts i).2 else fa) d:=by
 refine ret (aeL _ _ _ ?_);obtain⟨ad,g1,g2⟩:=h.now;refine⟨l,Blk.eo h.blk 0 rfl,_,Blk.eo h.blk 1 rfl,ad,g1,_,g2.eo 0 _ rfl,λhc w0 cw=>(BT (h.only cw) 3).mono ?_,λhc w2 cO=>(BT (h.only cO) 4).mono ?_⟩
 ·have hc:(tk ts i).k=5:=aaf
  rintro _ w1 ⟨rfl,cA,hR⟩;unfold eP;rw[aR hc];exact⟨rfl,rfl,cw.weaken (λ_ h=>aah) |>.trans cA (λx hx=>.inl hx),hR⟩
 have hc:(tk ts i).k≠5:=aaf
 rintro _ w1 ⟨rfl,cA,hR⟩;unfold eP;rw[aO hc];exact⟨rfl,rfl,cO.weaken (λ_ h=>aah) |>.trans cA (λx hx=>.inl hx),hR⟩
theorem uO(h:Rr F ts w b l i fc fa d)(s:aH):az aq 251 #[ae (some ⟨b,0,none⟩),ab (T s)] w λe w'=>e=ak (aj (fc==0&&sg ts i s))/\ay [] w w':=by
 refine ret (aeH _ _ _ _ ?_);intro w0 cw;have h0:=h.only cw;obtain⟨ad,g1,g2⟩:=h0.now;refine⟨λ_=>True,trivial,l,Blk.eo h0.blk 0 rfl,trivial,_,Blk.eo h0.blk 1 rfl,ad,g1,trivial,_,_,_,_,g2,λk0 w1 hk wM cA=>⟨fc,Blk.eo (h0.only cA).blk 3 rfl,?_,cw.cn cA⟩⟩;rw[ju,sX];rfl
theorem xi(h:Rr F ts w b l i fc fa d)(s:aH):az aq 253 #[ae (some ⟨b,0,none⟩),ab (T s)] w λe w'=>e=ak (ai #[])/\ay [b] w w'/\
  (if fc==0&&sg ts i s then Rr F ts w' b l (i+1) fc fa d else Rr F ts w' b l i (if fc=0 then(eP ts i).1 else fc) (if fc=0 then(eP ts i).2 else fa) d):=by
 refine ret (aeK _ _ _ _ ?_);refine(uO h s).mono ?_;rintro _ w1 ⟨rfl,cA⟩;have h1:=h.only cA;have gK:ay [b] w w1:=cA.weaken λ_ h=>aah
 refine⟨_,rfl,λhc=>(yK h1).mono ?_,λhc=>?_⟩
 ·rintro _ w2 ⟨rfl,cO,hR⟩;have hc:(fc==0&&sg ts i s)=false:=by rwa[cP]at hc
  rw[hc];exact⟨rfl,rfl,gK.trans cO (λx hx=>.inl hx),hR⟩
 have hc:(fc==0&&sg ts i s)=true:=by rwa[gv]at hc
 rw[hc];simp only[aP]at hc;have hn:=h.en.next h.lt (sK hc.2);have hb:=h.big;refine⟨(i:Int),Blk.eo h1.blk 1 rfl,b,1,_,_,rfl,h1.blk,aM,λw3 da sT=>⟨rfl,gK.trans da (λx hx=>.inl hx),h1.j5 da ?_ hn⟩⟩;rw[fS aE aE]at sT;exact sT
theorem Il{d:Nat}(hd:d<=20)(h:Rr F ts w b l i 0 0 (d:Int))(hn:i+1<ts.length):az aq 252 #[ae (some ⟨b,0,none⟩)] w λe w'=>e=ak (aj (!decide (d=20)))/\ay [b] w w'/\
  (if d=20 then Rr F ts w' b l i 21 (tk ts i).a (d:Int)else Rr F ts w' b l (i+1) 0 0 ((d+1:Nat):Int)):=by
 refine ret (aeI _ _ _ ?_);have hb:=h.big;refine⟨(d:Int),Blk.eo h.blk 2 rfl,λhc=>(BT h 21).mono ?_,λhc=>?_⟩
 ·have hc:d=20:=by
   have:(d:Int)=20:=aaf
   omega
  rintro _ w1 ⟨rfl,cA,hR⟩;rw[aR rfl,aR rfl]at hR;refine⟨rfl,by rw[bE hc];rfl,cA,?_⟩;rw[aR hc];exact hR
 have hc:d≠20:=λe=>ab0
 refine⟨(d:Int),Blk.eo h.blk 2 rfl,b,2,_,_,rfl,h.blk,aM,λw1 cA pv=>?_⟩;rw[fS aE aE]at pv;have h1:Rr F ts w1 b l i 0 0 ((d+1:Nat):Int):=h.j5 cA pv h.lt;refine⟨(i:Int),Blk.eo h1.blk 1 rfl,b,1,_,_,rfl,h1.blk,aM,λw2 cO kQ=>?_⟩;rw[fS aE aE]at kQ;refine⟨by rw[bq hc];rfl,cA.trans cO λx hx=>.inl hx,?_⟩;rw[aO hc];exact h1.j5 cO kQ hn
end
def mG:List (List (aH)):=[[[124,124]],[[38,38]],[[61,61],[33,61]],[[60],[60,61],[62],[62,61]],[[43],[45]],[[42],[47],[37]]]
def dU:List (List Int):=[[13],[12],[10,11],[6,7,8,9],[1,2],[3,4,5]]
def vI:Rp Int:=λ_ _ x cs=>cs=[O U x]
theorem kL:vI.Ok where
 keep h _:=h
 inHeap h:=h
 mono h _:=h
 one:=by
  rintro w F x cs rfl v hv;simp only[aQ]at hv;subst hv;rfl
def yL{α:Type}(r:Rp α):Rp (List α):=λw F xs cs=>∃s:Sl,cs=[s.v]/\aA r 1 w F s xs
theorem sC{α:Type}{r:Rp α}(hr:r.Ok):(yL r).Ok where
 keep:=λ⟨s,h1,h2⟩ hk=>⟨s,h1,SliceF.keep hr h2 aL hk⟩
 inHeap:=λ⟨s,h1,h2⟩=>⟨s,h1,SliceF.inHeap hr h2 aL⟩
 mono:=λ⟨s,h1,h2⟩ hk=>⟨s,h1,SliceF.mono hr h2 hk⟩
 one:=by
  rintro w F x cs ⟨s,rfl,_⟩ v hv;simp only[aQ]at hv;subst hv;rfl
theorem vJ(w:av)(l:List Int){n:Nat}{parts:Array (Nat×aw)}(hp:parts=(((l.map λx=>Value.int U x).zipIdx 0).map λx=>(x.2,x.1)).toArray)(hn:l.length=n)(h0:0<n)(tP:n*1<=16777216):
  ∃s w',(au 66 n parts).run aq w=.ok (Sl.v s) w'/\Own vI 1 3 w.heap.size w' (λ_=>True) s l/\ay [] w w':=by
 have hE:nJ vI 1 w (λ_=>True) l ((l.map λx=>Value.int U x).map λv=>v.cells.toList):=by
  clear hp hn
  induction l with
  | nil=>trivial
  | cons x l ih=>exact⟨⟨rfl,rfl⟩,ih⟩
 obtain⟨s,w',h1,h2,h3,_⟩:=li (P:=aq) (t:=66) (e:=3) (i:=Tryz.t3) (r:=vI) (size:=1) (by kernel_rfl) (by kernel_rfl) rfl rfl aL hp ach h0 tP kL hE;exact⟨s,w',h1,h2,h3⟩
theorem M9{α:Type}{r:Rp α}(hr:r.Ok){t e:TypeId}{ti:TypeInfo}(ht:Tryz.prog.underlying t=some (.slice e))(hi:Tryz.prog.info? e=some ti){z:aw}(hz:ti.zero=some z)(hs:ti.size=1){w:av}{F:aJ}{xs:List (List α)}(ss:List Sl){n:Nat}{parts:Array (Nat×aw)}(hp:parts=(((ss.map λs=>s.v).zipIdx 0).map λx=>(x.2,x.1)).toArray)(hn:ss.length=n)(h0:0<n)(tP:n*1<=16777216)
  (hE:fP (λx (s:aI)=>s.length=1/\yL r w F x s) xs (ss.map λs=>[s.v])):
  ∃s w',(au t n parts).run aq w=.ok (Sl.v s) w'/\aA (yL r) 1 w' (λk=>F k∨w.heap.size<=k) s xs/\ay [] w w':=by
 have WR:nJ (yL r) 1 w F xs ((ss.map λs=>s.v).map λv=>v.cells.toList):=by
  have:((ss.map λs=>s.v).map λv=>v.cells.toList)=ss.map λs=>[s.v]:=by
   rw[j8];rfl
  rw[this];exact hE
 obtain⟨s,w',h1,h2,h3,_⟩:=li (P:=aq) (t:=t) (e:=e) (i:=ti) (r:=yL r) (size:=1) ht hi hz hs aL hp ach h0 tP (sC hr) WR;exact⟨s,w',h1,SliceF.mono (sC hr) (h2.slice (sC hr)) (λk hk=>hk.imp id λh=>h.1),h3⟩
theorem Na(w:av):az aq 199 #[] w λe w'=>∃s:Sl,e=ak s.v/\aA (yL jR) 1 w' (λk=>w.heap.size<=k) s mG/\ay [] w w':=by
 refine(aey (λv w'=>∃s:Sl,v=s.v/\aA (yL jR) 1 w' (λk=>w.heap.size<=k) s mG/\ay [] w w') w ?_).mono (by
  rintro e w' ⟨v,rfl,s,rfl,h⟩;exact⟨s,rfl,h⟩)
 obtain⟨s0,w0,a0,b0,c0⟩:=iR w [[124,124]] (n:=1) (parts:=#[(0,ab (T [124,124]))]) rfl rfl aL aL;obtain⟨s1,w1,a1,b1,c1⟩:=iR w0 [[38,38]] (n:=1) (parts:=#[(0,ab (T [38,38]))]) rfl rfl aL aL;obtain⟨s2,w2,a2,b2,c2⟩:=iR w1 [[61,61],[33,61]] (n:=2) (parts:=#[(0,ab (T [61,61])),(1,ab (T [33,61]))]) rfl rfl aL aL;obtain⟨s3,w3,a3,b3,c3⟩:=iR w2 [[60],[60,61],[62],[62,61]] (n:=4) (parts:=#[(0,ab (T [60])),(1,ab (T [60,61])),(2,ab (T [62])),(3,ab (T [62,61]))]) rfl rfl aL aL;obtain⟨s4,w4,a4,b4,c4⟩:=iR w3 [[43],[45]] (n:=2) (parts:=#[(0,ab (T [43])),(1,ab (T [45]))]) rfl rfl aL aL;obtain⟨s5,w5,a5,b5,c5⟩:=iR w4 [[42],[47],[37]] (n:=3) (parts:=#[(0,ab (T [42])),(1,ab (T [47])),(2,ab (T [37]))]) rfl rfl aL aL;have z0:=c0.size;have z1:=c1.size;have z2:=c2.size;have z3:=c3.size;have z4:=c4.size;have mk:∀{u u':av} {s:Sl} {l:List (aH)},w.heap.size<=u.heap.size->∀{v:av},Own jR 1 9 u.heap.size v (λ_=>True) s l->ay [] v u'->[s.v].length=1/\yL jR u' (λk=>w.heap.size<=k) l [s.v]:=λhu v hB hO=>⟨rfl,_,rfl,SliceF.only db aL (SliceF.mono db (qh hB) λk hk=>abU) hO aM⟩
 obtain⟨s6,w6,a6,b6,c6⟩:=M9 (r:=jR) db (t:=250) (e:=41) (ti:=Tryz.t41) (by kernel_rfl) (by kernel_rfl) rfl rfl (w:=w5) (F:=λk=>w.heap.size<=k) (xs:=mG) [s0,s1,s2,s3,s4,s5] (n:=6) (parts:=#[(0,s0.v),(1,s1.v),(2,s2.v),(3,s3.v),(4,s4.v),(5,s5.v)]) rfl rfl aL aL
  ⟨mk (aY _) b0 (((((c1.cn c2).cn c3).cn c4).cn c5)),mk aE b1 ((((c2.cn c3).cn c4).cn c5)),mk aE b2 ((c3.cn c4).cn c5),mk aE b3 (c4.cn c5),mk aE b4 c5,mk aE b5 (Only.refl _ _),trivial⟩
 have z5:=c5.size;exact⟨s0,w0,a0,s1,w1,a1,s2,w2,a2,s3,w3,a3,s4,w4,a4,s5,w5,a5,s6,w6,a6,s6,rfl,SliceF.mono (sC db) b6 (λk hk=>by rcases hk with hk | hk<;>omega),(((((c0.cn c1).cn c2).cn c3).cn c4).cn c5).cn c6⟩
theorem F2(w:av):az aq 198 #[] w λe w'=>∃s:Sl,e=ak s.v/\aA (yL vI) 1 w' (λk=>w.heap.size<=k) s dU/\ay [] w w':=by
 refine(aet (λv w'=>∃s:Sl,v=s.v/\aA (yL vI) 1 w' (λk=>w.heap.size<=k) s dU/\ay [] w w') w ?_).mono (by
  rintro e w' ⟨v,rfl,s,rfl,h⟩;exact⟨s,rfl,h⟩)
 obtain⟨s0,w0,a0,b0,c0⟩:=vJ w [13] (n:=1) (parts:=#[(0,O U 13)]) rfl rfl aL aL;obtain⟨s1,w1,a1,b1,c1⟩:=vJ w0 [12] (n:=1) (parts:=#[(0,O U 12)]) rfl rfl aL aL;obtain⟨s2,w2,a2,b2,c2⟩:=vJ w1 [10,11] (n:=2) (parts:=#[(0,O U 10),(1,O U 11)]) rfl rfl aL aL;obtain⟨s3,w3,a3,b3,c3⟩:=vJ w2 [6,7,8,9] (n:=4) (parts:=#[(0,O U 6),(1,O U 7),(2,O U 8),(3,O U 9)]) rfl rfl aL aL;obtain⟨s4,w4,a4,b4,c4⟩:=vJ w3 [1,2] (n:=2) (parts:=#[(0,O U 1),(1,O U 2)]) rfl rfl aL aL;obtain⟨s5,w5,a5,b5,c5⟩:=vJ w4 [3,4,5] (n:=3) (parts:=#[(0,O U 3),(1,O U 4),(2,O U 5)]) rfl rfl aL aL;have z0:=c0.size;have z1:=c1.size;have z2:=c2.size;have z3:=c3.size;have z4:=c4.size;have mk:∀{u u':av} {s:Sl} {l:List Int},w.heap.size<=u.heap.size->∀{v:av},Own vI 1 3 u.heap.size v (λ_=>True) s l->ay [] v u'->[s.v].length=1/\yL vI u' (λk=>w.heap.size<=k) l [s.v]:=λhu v hB hO=>⟨rfl,_,rfl,SliceF.only kL aL (SliceF.mono kL (He kL (λ_ _ _ _ _ h=>h) hB) λk hk=>abU) hO aM⟩
 obtain⟨s6,w6,a6,b6,c6⟩:=M9 (r:=vI) kL (t:=248) (e:=66) (ti:=Tryz.t66) (by kernel_rfl) (by kernel_rfl) rfl rfl (w:=w5) (F:=λk=>w.heap.size<=k) (xs:=dU) [s0,s1,s2,s3,s4,s5] (n:=6) (parts:=#[(0,s0.v),(1,s1.v),(2,s2.v),(3,s3.v),(4,s4.v),(5,s5.v)]) rfl rfl aL aL
  ⟨mk (aY _) b0 (((((c1.cn c2).cn c3).cn c4).cn c5)),mk aE b1 ((((c2.cn c3).cn c4).cn c5)),mk aE b2 ((c3.cn c4).cn c5),mk aE b3 (c4.cn c5),mk aE b4 c5,mk aE b5 (Only.refl _ _),trivial⟩
 have z5:=c5.size;exact⟨s0,w0,a0,s1,w1,a1,s2,w2,a2,s3,w3,a3,s4,w4,a4,s5,w5,a5,s6,w6,a6,s6,rfl,SliceF.mono (sC kL) b6 (λk hk=>by rcases hk with hk | hk<;>omega),(((((c0.cn c1).cn c2).cn c3).cn c4).cn c5).cn c6⟩
def lK(ts:List Tk)(i:Nat):List (aH)->List Int->Int
 | s::ss,n::ns=>if sg ts i s=true then n else lK ts i ss ns
 | _,_=>0
theorem Nc(ts:List Tk)(i k:Nat)(hk:k<6):lK ts i ((mG[k]?).getD []) ((dU[k]?).getD [])=iU ts (k:Int) i:=by
 match k,hk with
 | 0,_=>simp[iU,iA,eE,lK,mG,dU,dl,qp]
 | 1,_=>simp[iU,iA,eE,lK,mG,dU,dl,qp]
 | 2,_=>simp[iU,iA,eE,lK,mG,dU,dl,qp]
 | 3,_=>simp[iU,iA,eE,lK,mG,dU,dl,qp]
 | 4,_=>simp[iU,iA,eE,lK,mG,dU,dl,qp]
 | 5,_=>simp[iU,iA,eE,lK,mG,dU,dl,qp]
theorem F3{ts:List Tk}{i:Nat}{ss:List (aH)}{ns:List Int}{n:Nat}{s:aH}{m:Int}(h1:ss[n]? =some s)(h2:ns[n]? =some m):lK ts i (ss.drop n) (ns.drop n)=if sg ts i s=true then m else lK ts i (ss.drop (n+1)) (ns.drop (n+1)):=by
 rw[fU (bd.1 h1).1,(bd.1 h1).2,fU (bd.1 h2).1,(bd.1 h2).2,lK]
theorem Nf(k:Nat):((mG[k]?).getD []).length=((dU[k]?).getD []).length:=by
 rcases lP k 6 with h | h
 ·match k,h with
  | 0,_=>rfl
  | 1,_=>rfl
  | 2,_=>rfl
  | 3,_=>rfl
  | 4,_=>rfl
  | 5,_=>rfl
 rw[cQ (by exact h),cQ (by exact h)];rfl
section
variable {F:aJ} {ts:List Tk} {w w':av} {b:Nat} {l:Sl} {i:Nat} {fc fa d:Int}
theorem Ng(h:Rr F ts w b l i fc fa d){k:Nat}(hk:k<6):az aq 240 #[ae (some ⟨b,0,none⟩),O U (k:Int)] w λe w'=>e=ak (O U (if fc=0 then iU ts (k:Int) i else 0))/\ay [] w w':=by
 refine ret (aeN _ _ _ _ ?_);refine(Na w).mono ?_;rintro _ w0 ⟨l0,rfl,hR,cw⟩;have n0:=hR.len;have n6:mG.length=6:=rfl;obtain⟨p0,x0,cs0,g1,g2,g3,g4,g5,s1,rfl,hS⟩:=hR.get (bc k) aE;rw[ba]at g2;refine⟨l0,rfl,p0,g1,s1,g5,(F2 w0).mono ?_⟩;rintro _ w1 ⟨l2,rfl,hN,cA⟩;have m0:=hN.len;have m6:dU.length=6:=rfl;obtain⟨p1,x1,cs1,e1,e2,e3,e4,e5,s3,rfl,hM⟩:=hN.get (bc k) aE;rw[ba]at e2;have hfo:=Nc ts i k hk;have hrl:=Nf k;rw[g2,e2,iH,iH]at hfo hrl;have t1:=hS.len;have t2:=hM.len;have t3:=hS.cap;have t4:=hS.big;refine⟨l2,rfl,p1,e1,s3,e5,λnv j w'=>∃n:Nat,n<=x0.length/\j=(n:Int)/\nv=x0.length-n/\(fc=0->lK ts i x0 x1=lK ts i (x0.drop n) (x1.drop n))/\ay [] w1 w',x0.length,⟨0,bm _,rfl,rfl,λ_=>rfl,Only.refl _ _⟩,?_⟩;rintro nv _ w2 ⟨n,hn,rfl,rfl,hf,cO⟩;have j6:=(cw.cn cA).cn cO;refine⟨λcd=>?_,λnE=>?_⟩
 ·have cd:(n:Int)<(s1.n:Int):=aV cd;obtain⟨p2,sg0,cs2,q1,q2,q3,q4,q5,q6⟩:=(SliceF.only db aL hS (cA.cn cO) aM).get (bc n) cd;unfold jR at q6;subst q6;rw[ba]at q2;refine⟨p2,q1,_,q5,(uO (h.only j6) sg0).mono ?_⟩;rintro _ w3 ⟨rfl,da⟩;obtain⟨p3,m,cs3,r1,r2,r3,r4,r5,r6⟩:=(SliceF.only kL aL hM (cO.cn da) aM).get (i:=(n:Int)) (bc n) aE;unfold vI at r6;subst r6;rw[ba]at r2;have kP:=F3 (ts:=ts) (i:=i) q2 r2;refine⟨_,rfl,λhb=>⟨p3,r1,m,r5,?_,j6.cn da⟩,λhb=>⟨x0.length-(n+1),aE,n+1,aE,aad,rfl,λh0=>?_,cO.cn da⟩⟩
  ·simp only[aP,dy]at hb;rw[aR hb.1,<-hfo,hf hb.1,kP,aR hb.2]
  rw[hf h0,kP,aO];intro hs;rw[h0,hs]at hb;exact absurd hb aL
 have nE:¬(n:Int)<(s1.n:Int):=aW nE;refine⟨?_,j6⟩;by_cases h0:fc=0
 ·rw[aR h0,<-hfo,hf h0,dj aE];rfl
 rw[aO h0]
end
def nL(F:aJ)(ts:List Tk)(w w':av)(b:Nat)(l:Sl)(d:Nat)(r:Pr)(v:aw):Prop:=ay [b] w w'/\match r with
 | .ok (x,j)=>∃cs,v=ah cs.toArray/\RX w' w.heap.size w'.heap.size x cs/\Rr F ts w' b l j 0 0 (d:Int)
 | .error e=>e.1≠0/\Y1 v/\∃j,Rr F ts w' b l j e.1 e.2 (d:Int)
section
variable {F:aJ} {ts:List Tk} {w w':av} {b:Nat} {l:Sl} {i:Nat} {fc fa:Int}
theorem nL.nB{d:Nat}{r:Pr}{v:aw}(h:nL F ts w w' b l d r v):Y1 v:=by
 obtain⟨_,h⟩:=h;cases r with
 | error e=>exact h.2.1
 | ok q=>
  obtain⟨cs,rfl,hx,_⟩:=h;obtain⟨sl,rfl,_⟩:=hx.cells;exact⟨_,_,_,_,_,_,rfl⟩
theorem nL.yO{w0 w1 w2 w3:av}{d:Nat}{r:Pr}{v:aw}(h:nL F ts w1 w2 b l d r v)(cw:ay [b] w0 w1){bs:List Nat}(cO:ay bs w2 w3)(hb:∀x,x∈bs->b<x/\w0.heap.size<=x/\x<w1.heap.size):nL F ts w0 w3 b l d r v:=by
 obtain⟨hO,h⟩:=h;have z0:=cw.size;have z1:=hO.size;have z2:=cO.size;refine⟨(cw.trans hO λx hx=>.inl hx).trans cO λx hx=>.inr (hb x hx).2.1,?_⟩;cases r with
 | error e=>
  obtain⟨h1,h2,j,h3⟩:=h;exact⟨h1,h2,j,h3.own cO λx hx=>(hb x hx).1⟩
 | ok q=>
  obtain⟨cs,h1,h2,h3⟩:=h;exact⟨cs,h1,(h2.only cO λx hx=>.inl (hb x hx).2.2).wide z0 z2,h3.own cO λx hx=>(hb x hx).1⟩
theorem UO:Y1 (ah #[O U 0,O U 0,ab (ao #[]),O U 0,Sl.nil.v,O U 0]):=⟨0,0,[],0,Sl.nil,0,rfl⟩
theorem ZF{d:Nat}(h:Rr F ts w b l i 0 0 (d:Int))(hn:i+1<ts.length):az aq 254 #[ae (some ⟨b,0,none⟩)] w λe w'=>∃v,e=ak v/\nL F ts w w' b l d (yi ts i) v:=by
 refine aeM ⟨b,0,none⟩ (λv w'=>nL F ts w w' b l d (yi ts i) v) w ?_;intro k0 w0 iJ dV cw;have hb:=h.lb;have N1:=h.big;have z0:=cw.size;have h0:=h.only cw;obtain⟨ad,g1,g2⟩:=h0.now;refine⟨λ_=>True,trivial,l,Blk.eo h0.blk 0 rfl,trivial,_,Blk.eo h0.blk 1 rfl,ad,g1,trivial,_,g2.eo 3 _ rfl,λk1 w1 ku jK cA=>?_⟩;have z1:=cA.size;have h1:=h0.only cA;have gK:=cw.cn cA;have sm:∀{u u':av},w1.heap.size<=u.heap.size->ay [b] u u'->cb [k0,k1] u u':=λhu hO=>hO.same aaA;refine⟨(i:Int),Blk.eo h1.blk 1 rfl,b,1,_,_,rfl,h1.blk,aM,aE,aE,λw2 cO kQ=>?_⟩;rw[fS aE aE]at kQ;have h2:Rr F ts w2 b l (i+1) 0 0 (d:Int):=h1.j5 cO kQ hn;have z2:=cO.size;have j6:ay [b] w w2:=(gK.weaken λ_ h=>aah).trans cO λx hx=>.inl hx;refine(xi h2 [40]).mono ?_;rintro _ w3 ⟨rfl,da,Az⟩;have z3:=da.size;have nH:=j6.trans da λx hx=>.inl hx;refine⟨rfl,sm aE da,?_⟩;rw[show((0:Int)==0)=true from rfl,bS,aR rfl,aR rfl]at Az;have wP:∀{u u':av},ay [b] w u->ay [k0] u u'->ay [b] w u':=λh1 h2=>h1.new h2 iJ;by_cases hs:sg ts (i+1) [40]=true
 ·rw[aR hs]at Az;refine⟨0,Blk.eo Az.blk 3 rfl,λhc=>(by simp at hc),λ_=>?_⟩;obtain⟨ad3,u1,u2⟩:=Az.now;refine⟨l,Blk.eo Az.blk 0 rfl,_,Blk.eo Az.blk 1 rfl,ad3,u1,_,u2.eo 0 _ rfl,λhc w5 fe=>(yK (Az.only fe)).mono ?_,λhc w8 gp=>?_⟩
  ·have hc:(tk ts (i+2)).k≠1:=aaf
   rintro _ w6 ⟨rfl,ez,Wq⟩;rw[aR rfl,aR rfl]at Wq;have z5:=fe.size;refine⟨rfl,sm aE ez,λw7 gD=>⟨wP ((nH.cn fe).trans ez λx hx=>.inl hx) gD,?_⟩⟩;rw[yi,aR hs,aO hc];exact⟨ff,⟨_,_,[],_,_,_,rfl⟩,i+2,Wq.own gD aae⟩
  have hc:(tk ts (i+2)).k=1:=aaf
  have z8:=gp.size;have h8:=Az.only gp;obtain⟨ad8,v1,v2⟩:=h8.now;refine⟨l,Blk.eo h8.blk 0 rfl,_,Blk.eo h8.blk 1 rfl,ad8,v1,_,v2.eo 1 _ rfl,λw9 gr=>?_⟩;have z9:=gr.size;have h9:=h8.own gr aae;have N3:ay [b] w w9:=(nH.cn gp).new gr aE;have hn3:=h.en.next Az.lt (by show(tk ts (i+2)).k≠5;rw[hc];decide);refine⟨_,Blk.eo h9.blk 1 rfl,b,1,_,_,rfl,h9.blk,aM,aE,aE,λdz dL nG=>?_⟩;rw[fS aE aE]at nG;have tV:Rr F ts dz b l (i+1+1+1) 0 0 (d:Int):=h9.j5 dL nG hn3;have IL:=dL.size;refine(xi tV [41]).mono ?_;rintro _ dJ ⟨rfl,dW,OJ⟩;have ED:=dW.size;refine⟨rfl,sm aE dW,λeM eJ=>⟨wP ((N3.trans dL λx hx=>.inl hx).trans dW λx hx=>.inl hx) eJ,?_⟩⟩;rw[show((0:Int)==0)=true from rfl,bS,aR rfl,aR rfl]at OJ;rw[yi,aR hs,aR hc];by_cases J7:sg ts (i+3) [41]=true
  ·rw[aR J7];rw[aR (show sg ts (i+1+1+1) [41]=true from J7)]at OJ;exact⟨_,rfl,.leaf ..,OJ.own eJ aae⟩
  rw[aO J7];rw[aO (show ¬sg ts (i+1+1+1) [41]=true from J7)]at OJ;exact⟨ff,⟨_,_,_,_,_,_,rfl⟩,i+1+1+1,OJ.own eJ aae⟩
 rw[aO hs]at Az;refine⟨_,Blk.eo Az.blk 3 rfl,λhc w4 dR=>⟨wP nH dR,?_⟩,λhc=>absurd aaf (ff (ts:=ts) (i:=i+1))⟩;rw[yi,aO hs];exact⟨ff,⟨_,_,[],_,_,_,rfl⟩,i+1,Az.own dR aae⟩
theorem UQ{f d:Nat}(hd:d<=20)(h:Rr F ts w b l i 0 0 (d:Int))
  (hE:d≠20->∀w i,Rr F ts w b l i 0 0 ((d+1:Nat):Int)->az aq 220 #[ae (some ⟨b,0,none⟩),O U 0] w λe w'=>∃v,e=ak v/\nL F ts w w' b l (d+1) (cK ts f 0 (d+1) i) v)
  (Vo:d≠20->∀w i,Rr F ts w b l i 0 0 ((d+1:Nat):Int)->az aq 239 #[ae (some ⟨b,0,none⟩)] w λe w'=>∃v,e=ak v/\nL F ts w w' b l (d+1) (cK ts f 6 (d+1) i) v):
  az aq 239 #[ae (some ⟨b,0,none⟩)] w λe w'=>∃v,e=ak v/\nL F ts w w' b l d (cK ts (f+1) 6 d i) v:=by
 have eR:cK ts (f+1) 6 d i=mP ts (cK ts f 0 (d+1)) (cK ts f 6 (d+1)) d i:=by rw[cK,aR rfl]
 rw[eR];generalize hgE:cK ts f 0 (d+1)=E0 at*
 generalize hgO:cK ts f 6 (d+1)=One at*
 generalize hR:mP ts E0 One d i=R;rw[mP]at hR;refine aeG ⟨b,0,none⟩ (λv w'=>nL F ts w w' b l d R v) w ?_;intro k0 w0 iJ dV cw;have hb:=h.lb;have N1:=h.big;have z0:=cw.size;have h0:=h.only cw;obtain⟨ad,g1,g2⟩:=h0.now;refine⟨λ_=>True,trivial,l,Blk.eo h0.blk 0 rfl,trivial,_,Blk.eo h0.blk 1 rfl,ad,g1,trivial,_,_,_,_,g2,λk1 w1 ku jK cA=>?_⟩;have z1:=cA.size;have h1:=h0.only cA;have sm:∀{u u':av},w1.heap.size<=u.heap.size->ay [b] u u'->cb [k0,k1] u u':=λhu hO=>hO.same aaA;have Ph:∀{u u':av},w1.heap.size<=u.heap.size->ay [] u u'->cb [k0,k1] u u':=λhu hO=>hO.same (by intro x hx;simp only[aX,be,ca]at hx;exact⟨aE,aM⟩);refine(uO h1 [45]).mono ?_;rintro _ w2 ⟨rfl,cO⟩;have z2:=cO.size;have h2:=h1.only cO;refine⟨_,rfl,Ph aE cO,(uO h2 [33]).mono ?_⟩;rintro _ w3 ⟨rfl,da⟩;have z3:=da.size;have h3:=h2.only da;refine⟨_,rfl,Ph aE da,(uO h3 [40]).mono ?_⟩;rintro _ w4 ⟨rfl,dR⟩;have z4:=dR.size;have h4:=h3.only dR;have rC:ay [] w w4:=(((cw.cn cA).cn cO).cn da).cn dR;have AF:ay [b] w w4:=rC.weaken λ_ h=>aah
 have wP:∀{u u':av},ay [b] w u->ay [k0] u u'->ay [b] w u':=λh1 h2=>h1.new h2 iJ;rw[show((0:Int)==0)=true from rfl,bS,bS,bS];refine⟨_,rfl,Ph aE dR,0,Blk.eo h4.blk 3 rfl,λhc=>(by simp at hc),λ_=>⟨λhs=>?_,λhs=>⟨λhp=>?_,λhp=>⟨λhi=>?_,λhi=>⟨λhv=>?_,λhv=>?_⟩⟩⟩⟩⟩
 ·rw[aR hs]at hR;have ia:(tk ts i).k≠5:=by
   rcases ci _ _▸hs with e | e<;>exact sK e
  have hn:=h.en.next h.lt ia;refine(Il hd h4 hn).mono ?_;rintro _ w6 ⟨rfl,ez,Wq⟩;have z6:=ez.size;have Gs:=AF.trans ez λx hx=>.inl hx;refine⟨_,rfl,sm aE ez,λhc w7 gD=>⟨wP Gs gD,?_⟩,λhc=>?_⟩
  ·have hc:d=20:=aaf
   rw[aR hc]at Wq;rw[<-hR,im,aR hc];exact⟨(by decide:(21:Int)≠0),UO,i,Wq.own gD aae⟩
  have hc:d≠20:=aaf
  rw[aO hc]at Wq;rw[im,aO hc]at hR;refine(Vo hc w6 (i+1) Wq).mono ?_;rintro _ w8 ⟨v,rfl,hD⟩;obtain⟨vk,vn,vs,vo,vl,va,rfl⟩:=hD.nB;have z8:=hD.1.size;refine⟨_,_,_,_,_,_,rfl,sm aE hD.1,λk2 w9 qw vS gr=>?_⟩;have z9:=gr.size;have hOD:=Gs.trans hD.1 λx hx=>.inl hx;have key:∀{j:Nat} {c a:Int},Rr F ts w8 b l j c a ((d+1:Nat):Int)->∃i9:Int,aB w9 (Addr.add ⟨b,0,none⟩ 2) [O U i9]/\∃k3 k4:Nat,∃z0:aI,∃k5:Nat,(Addr.add ⟨b,0,none⟩ 2)=⟨k3,k4,none⟩/\aF w9 k3 k5 z0/\(k4+1)<=z0.length/\k0≠k3/\k1≠k3/\k2≠k3/\
    ∀dz:av,ay [k3] w9 dz->aF dz k3 k5 (bZ z0 k4 [O U (ar U (i9-1))])->ay [b] w8 dz/\Rr F ts dz b l j c a (d:Int):=fun{j c a} h8=>by
   have h9:=h8.only gr;refine⟨((d+1:Nat):Int),Blk.eo h9.blk 2 rfl,b,2,_,_,rfl,h9.blk,aM,aE,aE,aE,λdz dL nG=>?_⟩;have ed:((d+1:Nat):Int)-1=d:=aE
   rw[ed,fS aE aE]at nG;exact⟨(gr.weaken (bs':=[b]) λ_ h=>aah).trans dL λx hx=>.inl hx,h9.j5 dL nG h9.lt⟩
  have fin:∀{j:Nat} {c a:Int} {dz:av},ay [b] w8 dz->Rr F ts dz b l j c a (d:Int)->w9.heap.size<=dz.heap.size->(∀op sl eM,ay [] dz eM->aF eM dz.heap.size 40 (kD vk vn vs vo vl va)->op=(if(tk ts i).t=[33]then(15:Int)else 14)->sl=(⟨some ⟨dz.heap.size,0,none⟩,1,1⟩:Sl)->∀eW,ay [k0] eM eW->nL F ts w eW b l d R (ah #[O U 4,O U 0,ab (ao #[]),O U op,sl.v,O U (tk ts i).a]))->
    ∃J1:Int->av->Prop,(∀i10:Int,∀dJ:av,J1 i10 dJ->∃l2:Sl,∃eM:av,((au 38 1 #[.mk 0 (ah #[O U vk,O U vn,ab (T vs),O U vo,vl.v,O U va])]).run aq dJ)=(.ok l2.v eM)/\
     cb [k0,k1,k2] dJ eM/\∀eW:av,ay [k0] eM eW->nL F ts w eW b l d R (ah #[O U 4,O U 0,ab (ao #[]),O U i10,l2.v,O U (tk ts i).a]))/\
    (sg ts i [33]=true->J1 15 dz)/\(sg ts i [33]=false->J1 14 dz):=fun{j c a dz} dL tV IL OK=>by
   refine⟨λop dJ=>op=(if(tk ts i).t=[33]then(15:Int)else 14)/\dJ=dz,?_,λe=>⟨?_,rfl⟩,λe=>⟨?_,rfl⟩⟩
   ·rintro op dJ ⟨nI,rfl⟩;obtain⟨eM,EY,Cs,eJ⟩:=Bp dJ [kD vk vn vs vo vl va] aM aM aM (parts:=#[(0,ah (kD vk vn vs vo vl va).toArray)]) rfl;rw[dw,List.flatten_nil,bL]at Cs;exact⟨_,eM,EY,eJ.same aae,λeW dD=>OK op _ eM eJ Cs nI rfl eW dD⟩
   ·have:(tk ts i).t=[33]:=by
     simp only[sg,aP,bC]at e;exact e.2
    rw[aR this]
   have:(tk ts i).t≠[33]:=λht=>by
    rcases ci _ _▸hs with e' | e'
    ·simp only[sg,aP,bC]at e';rw[e'.2]at ht;exact absurd ht aL
    rw[e]at e';cases e'
   rw[aO this]
  cases hN:One (i+1)with
  | error e=>
   rw[hN]at hD hR;obtain⟨gp,a1,a2,j,a3⟩:=hD;obtain⟨i9,q1,k3,k4,zz,k5,q2,q3,q4,q5,q6,q7,q8⟩:=key a3;refine⟨i9,q1,k3,k4,zz,k5,q2,q3,q4,q5,q6,q7,λdz dL nG=>?_⟩;obtain⟨r1,r2⟩:=q8 dz dL nG;refine fin r1 r2 dL.size λop sl eM eJ Cs nI xo eW dD=>⟨wP ((hOD.trans r1 λx hx=>.inl hx).cn eJ) dD,?_⟩
   rw[<-hR];exact⟨a1,⟨_,_,[],_,_,_,rfl⟩,j,(r2.only eJ).own dD aae⟩
  | ok q=>
   obtain⟨x,j⟩:=q;rw[hN]at hD hR;obtain⟨gp,cs,a1,a2,a3⟩:=hD;have mq:(kD vk vn vs vo vl va)=cs:=br Array.toList (Value.agg.inj a1);obtain⟨i9,q1,k3,k4,zz,k5,q2,q3,q4,q5,q6,q7,q8⟩:=key a3;refine⟨i9,q1,k3,k4,zz,k5,q2,q3,q4,q5,q6,q7,λdz dL nG=>?_⟩;obtain⟨r1,r2⟩:=q8 dz dL nG;have IL:=dL.size;refine fin r1 r2 IL λop sl eM eJ Cs nI xo eW dD=>⟨wP ((hOD.trans r1 λx hx=>.inl hx).cn eJ) dD,?_⟩
   have z12:=eJ.size;have S8:=dD.size;rw[<-hR,nI,xo];refine⟨_,rfl,?_,(r2.only eJ).own dD aae⟩;have Oa:RX eW w6.heap.size w8.heap.size x cs:=((a2.only r1 λk hk=>.inl aaS).only eJ aM).only dD λk hk=>.inl aaS;have rG:aF eW dz.heap.size 40 cs:=by
    rw[<-mq];exact dD.blk Cs λhm=>by simp only[aQ]at hm;omega
   exact .one w.heap.size w8.heap.size dz.heap.size _ _ _ _ _ _ x cs (Oa.wide aE (aY _)) aE aE ab7 id rG
 ·rw[aO abn,aR hp]at hR;have hn:=h.en.next h.lt (sK hp);refine(Il hd h4 hn).mono ?_;rintro _ fJ ⟨rfl,eF,RI⟩;have Xa:=eF.size;have Ts:=AF.trans eF λx hx=>.inl hx;refine⟨_,rfl,sm aE eF,λhc ir j7=>⟨wP Ts j7,?_⟩,λhc=>?_⟩
  ·have hc:d=20:=aaf
   rw[aR hc]at RI;rw[<-hR,im,aR hc];exact⟨(by decide:(21:Int)≠0),UO,i,RI.own j7 aae⟩
  have hc:d≠20:=aaf
  rw[aO hc]at RI;rw[im,aO hc]at hR;refine(hE hc fJ (i+1) RI).mono ?_;rintro _ jD ⟨v,rfl,hD⟩;obtain⟨vk,vn,vs,vo,vl,va,rfl⟩:=hD.nB;have z16:=hD.1.size;have abH:=Ts.trans hD.1 λx hx=>.inl hx;refine⟨_,_,_,_,_,_,rfl,sm aE hD.1,λk6 iK Vs anA jf=>?_⟩;have z17:=jf.size;have after:∀{j:Nat} {c a:Int} {jt:av},ay [b] iK jt->Rr F ts jt b l j c a ((d+1:Nat):Int)->(∀js,ay [b,k0] jt js->ay [b] w js->Rr F ts js b l j c a (d:Int)->nL F ts w js b l d R (ah (kD vk vn vs vo vl va).toArray))->
    ∃i15:Int,aB jt (Addr.add ⟨b,0,none⟩ 2) [O U i15]/\∃k7 k8:Nat,∃z1:aI,∃k9:Nat,(Addr.add ⟨b,0,none⟩ 2)=⟨k7,k8,none⟩/\aF jt k7 k9 z1/\(k8+1)<=z1.length/\k0≠k7/\k1≠k7/\k6≠k7/\
    ∀jS:av,ay [k7] jt jS->aF jS k7 k9 (bZ z1 k8 [O U (ar U (i15-1))])->∀js:av,ay [k0] jS js->nL F ts w js b l d R (ah #[O U vk,O U vn,ab (T vs),O U vo,vl.v,O U va]):=fun{j c a jt} jP RA OK=>by
   refine⟨((d+1:Nat):Int),Blk.eo RA.blk 2 rfl,b,2,_,_,rfl,RA.blk,aM,aE,aE,aE,λjS kZ OA js kO=>?_⟩;have ed:((d+1:Nat):Int)-1=d:=aE
   rw[ed,fS aE aE]at OA;have h19:Rr F ts jS b l j c a (d:Int):=RA.j5 kZ OA RA.lt;exact OK js ((kZ.weaken (bs':=[b,k0]) λx hx=>.inl aag).trans kO λx hx=>.inl aag) (wP (((abH.cn jf).trans jP λx hx=>.inl hx).trans kZ λx hx=>.inl hx) kO) (h19.own kO aae)
  obtain⟨jQ,hD⟩:=hD;cases hN:E0 (i+1)with
  | error e=>
   rw[hN]at hD hR;obtain⟨a1,a2,j,a3⟩:=hD;refine(xi (a3.only jf) [41]).mono ?_;rintro _ jt ⟨rfl,jP,EK⟩;rw[aO (by simp[a1]),aO a1,aO a1]at EK;refine⟨rfl,jP.same aae,after jP EK λjs kO hOw xq=>⟨hOw,?_⟩⟩;rw[<-hR];exact⟨a1,⟨_,_,_,_,_,_,rfl⟩,j,xq⟩
  | ok q=>
   obtain⟨x,j⟩:=q;rw[hN]at hD hR;obtain⟨cs,a1,a2,a3⟩:=hD;refine(xi (a3.only jf) [41]).mono ?_;rintro _ jt ⟨rfl,jP,EK⟩;rw[show((0:Int)==0)=true from rfl,bS,aR rfl,aR rfl]at EK;refine⟨rfl,jP.same aae,?_⟩;have z18:=jP.size;by_cases RJ:sg ts j [41]=true
   ·rw[aR RJ]at EK;refine after jP EK λjs kO hOw xq=>⟨hOw,?_⟩
    rw[<-hR];simp only[pN,RJ,wQ];have z20:=kO.size;exact⟨cs,a1,(((a2.only jf aM).only jP λk hk=>.inl aaS).only kO λk hk=>.inl (by simp only[aX,be,ca]at hk;omega)).wide aE aE,xq⟩
   rw[aO RJ]at EK;refine after jP EK λjs kO hOw xq=>⟨hOw,?_⟩
   rw[<-hR];simp only[pN,RJ,iM];exact⟨ff,⟨_,_,_,_,_,_,rfl⟩,j,xq⟩
 ·have hi:(tk ts i).k=3:=aaC
  rw[aO abn,aO acF,aR hi]at hR;have hn:=h.en.next h.lt (by rw[hi];decide);refine⟨(i:Int),Blk.eo h4.blk 1 rfl,b,1,_,_,rfl,h4.blk,aM,aE,aE,λmr iL OL qc qx=>⟨wP (AF.trans iL λx hx=>.inl hx) qx,?_⟩⟩;rw[fS aE aE]at OL;have VV:Rr F ts mr b l (i+1) 0 0 (d:Int):=h4.j5 iL OL hn;rw[<-hR];exact⟨_,rfl,.leaf ..,VV.own qx aae⟩
 ·have hi:¬(tk ts i).k=3:=aaC
  have hv:(tk ts i).k=1:=abG
  rw[aO abn,aO acF,aO hi,aR hv]at hR;have hn:=h.en.next h.lt (by rw[hv];decide);refine⟨(i:Int),Blk.eo h4.blk 1 rfl,b,1,_,_,rfl,h4.blk,aM,aE,aE,λmr iL OL qc qx=>⟨wP (AF.trans iL λx hx=>.inl hx) qx,?_⟩⟩;rw[fS aE aE]at OL;have VV:Rr F ts mr b l (i+1) 0 0 (d:Int):=h4.j5 iL OL hn;rw[<-hR];exact⟨_,rfl,.leaf ..,VV.own qx aae⟩
 have hi:¬(tk ts i).k=3:=aaC
 have hv:¬(tk ts i).k=1:=abG
 rw[show(ao #[105,110])=T [105,110]from rfl,ju];rw[aO abn,aO acF,aO hi,aO hv]at hR;refine⟨λhw=>?_,λhw=>(yK h4).mono ?_⟩
 ·have hw:(tk ts i).k=2/\(tk ts i).t=[105,110]:=by simpa using hw
  rw[aR hw]at hR;have hn:=h.en.next h.lt (by rw[hw.1];decide);refine(ZF h4 hn).mono ?_;rintro _ ow ⟨v,rfl,hD⟩;obtain⟨vk,vn,vs,vo,vl,va,rfl⟩:=hD.nB;refine⟨_,_,_,_,_,_,rfl,sm aE hD.1,λqd jp=>?_⟩;rw[<-hR];exact hD.yO AF jp aae
 rw[aO (λhh=>by rw[hh.1,hh.2]at hw;simp at hw)]at hR;rintro _ sS ⟨rfl,pr,abJ⟩;rw[aR rfl,aR rfl]at abJ;refine⟨rfl,sm aE pr,λvR sU=>⟨wP (AF.trans pr λx hx=>.inl hx) sU,?_⟩⟩;rw[<-hR];exact⟨ff,UO,i,abJ.own sU aae⟩
def At6(F:aJ)(ts:List Tk)(w:av)(b:Nat)(l:Sl)(d:Nat)(N:aJ)(E:Nat->Pr)(k:Int)(R:Pr)(nv:Nat)(op:Int)(cs:aI)(w':av):Prop:=ay [b] w w'/\
 ((∃(c a:Int) (j:Nat),op=0/\c≠0/\R=.error (c,a)/\Rr F ts w' b l j c a (d:Int))∨
  (∃(x:Ex) (j:Nat),op=iU ts k j/\RXN w' N w.heap.size w'.heap.size x cs/\Rr F ts w' b l j 0 0 (d:Int)/\R=gU ts E k nv x j/\ts.length-j<=nv))
theorem JG{f k d:Nat}(Vs:k<6)(h:Rr F ts w b l i 0 0 (d:Int))
  (hE:∀w i,Rr F ts w b l i 0 0 (d:Int)->az aq 220 #[ae (some ⟨b,0,none⟩),O U ((k+1:Nat):Int)] w λe w'=>∃v,e=ak v/\nL F ts w w' b l d (cK ts f (k+1) d i) v):
  az aq 220 #[ae (some ⟨b,0,none⟩),O U (k:Int)] w λe w'=>∃v,e=ak v/\nL F ts w w' b l d (cK ts (f+1) k d i) v:=by
 have eR:cK ts (f+1) k d i=yh (cK ts f (k+1) d i) λx j=>gU ts (cK ts f (k+1) d) (k:Int) (ts.length-j) x j:=by rw[cK,aO aE]
 rw[eR];have N6:∀i x j,cK ts f (k+1) d i=.ok (x,j)->i<j:=λi x j h=>jx f _ _ i h;generalize hgE:cK ts f (k+1) d=E at*
 generalize hR:(yh (E i) λx j=>gU ts E (k:Int) (ts.length-j) x j)=R;refine YX ⟨b,0,none⟩ _ (λv w'=>nL F ts w w' b l d R v) w ?_;have ek:ar U ((k:Int)+1)=((k+1:Nat):Int):=aad
 refine⟨λhc=>absurd aaf (by omega:¬(k:Int)=6),λ_ k1 w3 ku jK da=>?_⟩;have hb:=h.lb;rw[ek];refine(hE w3 i (h.only da)).mono ?_;rintro _ w4 ⟨v,rfl,hD⟩;obtain⟨vk,vn,vs,vo,vl,va,rfl⟩:=hD.nB;have z3:=da.size;have z4:=hD.1.size;refine⟨_,_,_,_,_,_,rfl,hD.1.same aae,λk2 w5 qw vS fe=>?_⟩;have z5:=fe.size;have yS:ay [b] w w5:=((da.weaken (bs':=[b]) λ_ h=>aah).trans hD.1 λx hx=>.inl hx).cn fe;have sm:∀{u u':av},w5.heap.size<=u.heap.size->ay [b] u u'->cb [k1,k2] u u':=λhu hO=>hO.same aaA;have N1:=h.big;have kP:∃(j:Nat) (c a:Int),Rr F ts w4 b l j c a (d:Int)/\∀w6,ay [] w4 w6->∃nv,At6 F ts w b l d (λq=>q=k1∨q=k2) E (k:Int) R nv (if c=0 then iU ts (k:Int) j else 0) (kD vk vn vs vo vl va) w6:=by
  obtain⟨dR,Cg⟩:=hD;have rC:ay [b] w w4:=(da.weaken (bs':=[b]) λ_ h=>aah).trans dR λx hx=>.inl hx;cases Ay:E i with
  | error e=>
   rw[Ay]at Cg hR;obtain⟨c,a⟩:=e;obtain⟨a1,a2,j,a3⟩:=Cg;exact⟨j,c,a,a3,λw6 ez=>⟨0,rC.cn ez,.inl ⟨c,a,j,aO a1,a1,hR.symm,a3.only ez⟩⟩⟩
  | ok q=>
   obtain⟨x,j⟩:=q;rw[Ay]at Cg hR;obtain⟨cs,a1,a2,a3⟩:=Cg;have mq:(kD vk vn vs vo vl va)=cs:=br Array.toList (Value.agg.inj a1);rw[mq];exact⟨j,0,0,a3,λw6 ez=>⟨ts.length-j,rC.cn ez,.inr ⟨x,j,aR rfl,((a2.only ez aM).Ax λq h1 h2 _=>aE).wide z3 ez.size,a3.only ez,hR.symm,aY _⟩⟩⟩
 obtain⟨j0,c0,a0,hR4,kP⟩:=kP;refine(Ng (hR4.only fe) Vs).mono ?_;rintro _ w6 ⟨rfl,ez⟩;have z6:=ez.size;obtain⟨nv0,hA0⟩:=kP w6 (fe.cn ez);refine⟨_,rfl,ez.same aae,λnv op i10 i11 s2 i12 l2 i13 w'=>w5.heap.size<=w'.heap.size/\At6 F ts w b l d (λq=>q=k1∨q=k2) E (k:Int) R nv op [O U i10,O U i11,ab s2,O U i12,l2.v,O U i13] w',nv0,⟨z6,hA0⟩,?_⟩;rintro nv op i10 i11 s2 i12 l2 i13 w7 ⟨z7,gD,hA⟩;refine⟨λnI=>?_,λnI fJ eF=>?_⟩
 ·have nI:op≠0:=acs
  rcases hA with⟨_,_,_,e,_⟩ | ⟨x,j,rfl,hX,zw,yR,hnv⟩
  ·exact absurd e nI
  have hn:=zw.en.next zw.lt (mT _ _ nI);obtain⟨g,rfl⟩:∃g,nv=g+1:=⟨nv-1,aE⟩
  rw[gU,aO nI]at yR;refine⟨(j:Int),Blk.eo zw.blk 1 rfl,b,1,_,_,rfl,zw.blk,aM,aE,aE,λw8 gp wy=>?_⟩;rw[fS aE aE]at wy;have h8:Rr F ts w8 b l (j+1) 0 0 (d:Int):=zw.j5 gp wy hn;have z8:=gp.size;refine(hE w8 (j+1) h8).mono ?_;rintro _ w9 ⟨v,rfl,N7⟩;obtain⟨yk,yn,ys,yo,yl,ya,rfl⟩:=N7.nB;have z9:=N7.1.size;refine⟨_,_,_,_,_,_,rfl,sm aE N7.1,λk8 dz hk8 Rv dL=>?_⟩;have IL:=dL.size;obtain⟨dJ,oC,zD,dW⟩:=Bp dz [[O U i10,O U i11,ab s2,O U i12,l2.v,O U i13],kD yk yn ys yo yl ya] aM aM aM (parts:=#[(0,ah #[O U i10,O U i11,ab s2,O U i12,l2.v,O U i13]),(1,ah (kD yk yn ys yo yl ya).toArray)]) rfl;have ED:=dW.size;refine⟨⟨some ⟨dz.heap.size,0,none⟩,2,2⟩,dJ,oC,dW.same aae,λeM eJ=>?_⟩;have z12:=eJ.size;have EF:ay [b] w eM:=((((gD.trans gp λx hx=>.inl hx).trans N7.1 λx hx=>.inl hx).cn dL).cn dW).new eJ aE;have rI:ay [k2] w9 eM:=((dL.cn dW).weaken (bs':=[k2]) λ_ h=>aah).trans eJ λx hx=>.inl hx;have Gr:∃(j':Nat) (c a:Int),Rr F ts w9 b l j' c a (d:Int)/\∀eW,ay [] eM eW->∃nv,nv<g+1/\At6 F ts w b l d (λq=>q=k1∨q=k2) E (k:Int) R nv (if c=0 then iU ts (k:Int) j' else 0) (kD 5 0 [] (iU ts (k:Int) j) ⟨some ⟨dz.heap.size,0,none⟩,2,2⟩ i13) eW:=by
   obtain⟨gr,Cg⟩:=N7;cases Ay:E (j+1)with
   | error e=>
    rw[Ay]at Cg yR;obtain⟨c,a⟩:=e;obtain⟨a1,a2,j',a3⟩:=Cg;exact⟨j',c,a,a3,λeW dD=>⟨0,aE,EF.cn dD,.inl ⟨c,a,j',aO a1,a1,yR,(a3.own rI aae).only dD⟩⟩⟩
   | ok q=>
    obtain⟨y,j'⟩:=q;rw[Ay]at Cg yR;obtain⟨cs,a1,a2,a3⟩:=Cg;have mq:(kD yk yn ys yo yl ya)=cs:=br Array.toList (Value.agg.inj a1);have Xb:=N6 _ _ _ Ay;obtain⟨xl,JR,_⟩:=hX.cells;have hxa:i13=x.a:=by
     simp only[kD,qz,Value.int.injEq]at JR;exact JR.2.2.2.2.2.1.2
    refine⟨j',0,0,a3,λeW dD=>⟨g,aE,EF.cn dD,.inr ⟨.mk 5 0 [] (iU ts (k:Int) j) [x,y] x.a,j',aR rfl,?_,(a3.own rI aae).only dD,yR,?_⟩⟩⟩
    ·have S8:=dD.size;have N8:ay [b,k2] w7 eW:=(((((gp.weaken (bs':=[b,k2]) λx hx=>.inl aag).trans gr λx hx=>.inl aag).trans rI λx hx=>.inl aag).cn dD))
     have N9:ay [k2] w9 eW:=rI.cn dD;have rG:aF eW dz.heap.size 40 ([O U i10,O U i11,ab s2,O U i12,l2.v,O U i13]++cs):=by
      have:=dD.blk (eJ.blk zD aae) aM;rw[<-mq];simpa using this
     have Oa:RXN eW (λq=>q=k1∨q=k2) w.heap.size w7.heap.size x [O U i10,O U i11,ab s2,O U i12,l2.v,O U i13]:=by
      exact hX.only N8 λq hq=>by
       simp only[aX,be,ca]at hq;rcases hq with rfl | rfl
       ·exact .inl hb
       exact .inr (.inr (.inr rfl))
     have Vt:RXN eW (λq=>q=k1∨q=k2) w8.heap.size w9.heap.size y cs:=(a2.only N9 λq hq=>.inl ab1).Ax λq h1 h2 _=>aE
     rw[hxa];exact .two w.heap.size w7.heap.size w8.heap.size w9.heap.size dz.heap.size _ _ _ _ _ _ x y _ cs Oa z8 Vt aE aE aE aE ab7 aE rG
    omega
  obtain⟨j',c',a',hR9,Gr⟩:=Gr;refine(Ng (hR9.own rI aae) Vs).mono ?_;rintro _ eW ⟨rfl,dD⟩;obtain⟨nv',Vu,Xc⟩:=Gr eW dD;exact⟨_,rfl,dD.same aae,nv',Vu,by have:=dD.size;omega,Xc⟩
 have nI:op=0:=acs
 refine⟨gD.new eF aE,?_⟩;rcases hA with⟨c,a,j,_,hc,yR,zw⟩ | ⟨x,j,O6,hX,zw,yR,hnv⟩
 ·rw[yR];exact⟨hc,⟨i10,i11,s2.data.toList,i12,l2,i13,by unfold kD;rw[<-CU]⟩,j,zw.own eF aae⟩
 rw[yR,zU (by rw[<-O6,nI])];exact⟨_,rfl,((hX.only eF λq hq=>.inr (.inr (.inl (by simpa using hq)))).Ax λ_ _ _ _ h=>h).wide (aY _) eF.size,zw.own eF aae⟩
theorem Am : ∀ f : Nat, (∀ (k d i : Nat) (w : av), k <= 6 -> d <= 20 -> fj k d <= f -> Rr F ts w b l i 0 0 (d : Int) ->
      az aq 220 #[ae (some ⟨b, 0, none⟩), O U (k : Int)] w λe w' => ∃ v, e = ak v /\ nL F ts w w' b l d (cK ts f k d i) v) /\
    (∀ (d i : Nat) (w : av), d <= 20 -> fj 6 d <= f -> Rr F ts w b l i 0 0 (d : Int) ->
      az aq 239 #[ae (some ⟨b, 0, none⟩)] w λe w' => ∃ v, e = ak v /\ nL F ts w w' b l d (cK ts f 6 d i) v)
  | 0 => ⟨λk d i w hk hd hn => abo, λd i w hd hn => abo⟩
  | f + 1 => by
    obtain ⟨zy, CE⟩ := Am f
    have one : ∀ (d i : Nat) (w : av), d <= 20 -> fj 6 d <= f + 1 -> Rr F ts w b l i 0 0 (d : Int) ->
      az aq 239 #[ae (some ⟨b, 0, none⟩)] w λe w' => ∃ v, e = ak v /\ nL F ts w w' b l d (cK ts (f + 1) 6 d i) v := λd i w hd hn h => by
      unfold fj at hn
      exact UQ hd h (λxq w i h => zy 0 (d + 1) i w aE aE abe h) (λxq w i h => CE (d + 1) i w aE abe h)
    refine ⟨λk d i w hk hd hn h => ?_, one⟩
    by_cases h6 : k = 6
    · subst h6
      refine YX ⟨b, 0, none⟩ _ (λv w' => nL F ts w w' b l d (cK ts (f + 1) 6 d i) v) w ?_
      refine ⟨λ_ k0 w0 iJ dV cw => ?_, λhc => absurd hc aL⟩
      refine (one d i w0 hd hn (h.only cw)).mono ?_
      rintro _ w1 ⟨v, rfl, hD⟩
      obtain ⟨vk, vn, vs, vo, vl, va, rfl⟩ := hD.nB
      have hb := h.lb
      exact ⟨_, _, _, _, _, _, rfl, hD.1.same (by simp; omega), λw2 cO => hD.yO (cw.weaken λ_ h => aah) cO (by simp; omega)⟩
    · unfold fj at hn
      exact JG aE h λw i h => zy (k + 1) d i w aE hd abe h
end
theorem Nh{w:av}{F:aJ}{l:Sl}{ts:List Tk}(h:aA Bl 4 w F l ts)(a:Int)(ha:wA a):az aq 201 #[l.v,O U a] w λe w'=>
  ∃cs,e=ak (ai #[ah cs.toArray,O U (bQ ts a).2.1,ah #[O U (bQ ts a).2.2.1,O U (bQ ts a).2.2.2]])/\RX w' w.heap.size w'.heap.size (bQ ts a).1 cs/\((bQ ts a).2.2.1=0->0<=(bQ ts a).2.1/\(bQ ts a).2.1<ts.length)/\ay [] w w':=by
 refine(aeF l a (λv w'=>∃cs,v=(ai #[ah cs.toArray,O U (bQ ts a).2.1,ah #[O U (bQ ts a).2.2.1,O U (bQ ts a).2.2.2]])/\RX w' w.heap.size w'.heap.size (bQ ts a).1 cs/\((bQ ts a).2.2.1=0->0<=(bQ ts a).2.1/\(bQ ts a).2.1<ts.length)/\ay [] w w') w ?_).mono (by
  rintro e w' ⟨v,rfl,cs,rfl,h⟩;exact⟨cs,rfl,h⟩)
 have eu:=h.len;have nD:=h.cap;have pq:=h.big;have bad:¬(0<=a/\a<ts.length/\jy ts+1=ts.length)->∀w0,ay [] w w0->∃cs,(Value.tuple #[ah #[O U 0,O U 0,ab (ao #[]),O U 0,Sl.nil.v,O U 0],O U 0,ah #[O U 1,O U (-1)]])=(ai #[ah cs.toArray,O U (bQ ts a).2.1,ah #[O U (bQ ts a).2.2.1,O U (bQ ts a).2.2.2]])/\RX w0 w.heap.size w0.heap.size (bQ ts a).1 cs/\((bQ ts a).2.2.1=0->0<=(bQ ts a).2.1/\(bQ ts a).2.1<ts.length)/\ay [] w w0:=λhc w0 hO=>by
  rw[bQ,aO hc];exact⟨_,rfl,Qk _ _ _,λh=>aah,hO⟩
 refine⟨λhc k0 k1 w0 _ _ _ _ cw=>bad (λhh=>?_) w0 cw,λhc k2 k3 w1 qw vS J9 zA cA=>?_⟩
 ·simp only[ci,bC]at hc;omega
 have hc:0<=a/\a<ts.length:=by
  simp only[eZ,fE]at hc;omega
 have z1:=cA.size;have own:∀{u u':av},ay [] w u->ay [k3,k2] u u'->ay [] w u':=λh1 h2=>h1.trans h2 λx hx=>.inr aaj;refine⟨λnv i _ _ _ _ _ _ _ _ w'=>∃n:Nat,n<=ts.length/\i=(n:Int)/\nv=ts.length-n/\(∀j,j<n->((tk ts j).k=5↔j+1=ts.length))/\ay [] w w'/\w1.heap.size<=w'.heap.size,ts.length,⟨0,bm _,rfl,rfl,λj hj=>absurd hj (OW j),cA,aY _⟩,?_⟩;rintro nv _ _ _ _ _ _ _ _ _ w2 ⟨n,hn,rfl,rfl,hE,cO,z2⟩;have h2:=SliceF.only fX aL h cO aM;refine⟨λcd=>?_,λnE k7 w4 hk7 abr dR rD=>?_⟩
 ·have cd:(n:Int)<(l.n:Int):=aV cd;obtain⟨ad,x,cs,g1,g2,g3,g4,g5,g6⟩:=h2.get (bc n) cd;rw[ba,yg aE]at g2;injection g2 with g2;subst g2;unfold Bl at g6;subst g6;have e:((tk ts n).k==5)=decide ((tk ts n).k=5):=by rw[bH];simp
  have e2:((n:Int)==ar U ((l.n:Int)-1))=decide (n+1=ts.length):=by
   rw[fS aE aE,bH];simp only[dy,bC];omega
  refine⟨ad,g1,_,g5.eo 0 _ rfl,?_⟩;dsimp only;rw[e,e2];refine⟨λhm w3 da=>bad (λhh=>?_) w3 (own cO da),λhm=>⟨ts.length-(n+1),aE,n+1,aE,aad,rfl,λj hj=>?_,cO,z2⟩⟩
  ·have:=DB hh.2.2 n aE;rw[Km.2 this,beq_self_eq_true]at hm;cases hm
  rcases lP j n with hjn | hjn
  ·exact hE j hjn
  have:j=n:=aE
  subst this;have hm:decide ((tk ts j).k=5)=decide (j+1=ts.length):=abE
  exact Km.1 hm
 have nE:¬(n:Int)<(l.n:Int):=aW nE;have:n=ts.length:=aE
 subst this;have RB:od ts:=hE;have hcc:0<=a/\a<ts.length/\jy ts+1=ts.length:=⟨hc.1,hc.2,LV RB aE⟩
 rw[bQ,aR hcc];obtain⟨i,rfl⟩:∃i:Nat,a=(i:Int):=⟨a.toNat,aE⟩
 have z4:=dR.size;have rC:=cO.cn dR;have hR:Rr (λk=>F k/\k<w.heap.size) ts w4 k7 l i 0 0 ((0:Nat):Int):=⟨rD,SliceF.only fX aL (h.inHeap fX aL) rC aM,λk hk=>by have:=hk.2;have:=cO.size;omega,RB,aE⟩
 refine((Am (fj 0 0)).1 0 0 i w4 aL aL (aY _) hR).mono ?_;rintro _ w5 ⟨v,rfl,hD⟩;obtain⟨vk,vn,vs,vo,vl,va,rfl⟩:=hD.nB;have z5:=hD.1.size;obtain⟨fe,hD⟩:=hD;rw[ba];have Va:oe ts i=cK ts (fj 0 0) 0 0 i:=rfl;rw[Va];have z02:=cO.size;have yS:ay [] w w5:=rC.trans fe λx hx=>.inr aai;refine⟨_,_,_,_,_,_,rfl,fe.same aae,?_⟩;cases hEx:cK ts (fj 0 0) 0 0 i with
 | error e=>
  rw[hEx]at hD;obtain⟨c,p⟩:=e;obtain⟨a1,a2,j,a3⟩:=hD;refine⟨_,_,_,_,_,a3.blk,λ_ k8 w6 _ _ ez KG n1 n2 n3 n4 n5 n6=>⟨λk=>k=k7,rfl,λe=>n2 e,λe=>n4 e,λw7 gD _=>⟨_,rfl,Qk _ _ _,λh=>absurd h a1,own (yS.cn ez) gD⟩⟩,λhcz=>absurd (by simpa using hcz) a1⟩
 | ok q=>
  rw[hEx]at hD;obtain⟨x,j⟩:=q;obtain⟨cs,a1,a2,a3⟩:=hD;have mq:(kD vk vn vs vo vl va)=cs:=br Array.toList (Value.agg.inj a1);refine⟨_,_,_,_,_,a3.blk,λhcz=>(by simp at hcz),λ_ k9 w8 hk9 aby gp wy n1 n2 n3 n4 n5 n6=>⟨λk=>k=k7,rfl,λe=>n2 e,λe=>n4 e,λw9 gr _=>?_⟩⟩;have z8:=gp.size;have z9:=gr.size;refine⟨kD vk vn vs vo vl va,rfl,?_,λ_=>⟨bc j,by have:=a3.lt;dsimp only;omega⟩,own (yS.cn gp) gr⟩;rw[mq];exact((a2.only gp aM).only gr λq hq=>.inl aaU).wide aE aE
theorem vK(w:av)(c:UInt8):az aq 159 #[.int .u8 (c.toNat:Int)] w λe w'=>e=ak (aj (dZ c))/\ay [] w w':=by
 refine ret (aei _ _ _ ?_);refine⟨?_,Only.refl _ _⟩;congr 1;rw[bH];simp only[dZ,aP,ci,bC,dy];omega
theorem Eh(w:av)(c:UInt8):az aq 192 #[.int .u8 (c.toNat:Int)] w λe w'=>e=ak (aj (cE c))/\ay [] w w':=by
 refine ret (aem _ _ _ ?_);refine⟨?_,Only.refl _ _⟩;congr 1;rw[bH];simp only[cE,aP,bC];omega
theorem Ni(w:av):az aq 191 #[] w λe w'=>∃s:Sl,e=ak s.v/\Own jR 1 9 w.heap.size w' (λ_=>True) s ic/\ay [] w w':=by
 refine(aek (λv w'=>∃s:Sl,v=s.v/\Own jR 1 9 w.heap.size w' (λ_=>True) s ic/\ay [] w w') w ?_).mono (by
  rintro e w' ⟨v,rfl,s,rfl,h⟩;exact⟨s,rfl,h⟩)
 obtain⟨s,w',h1,h2,h3⟩:=iR w ic (n:=16) rfl rfl aL aL;exact⟨s,w',h1,s,rfl,h2,h3⟩
theorem Im(w:av)(m:aH):az aq 160 #[ab (T m)] w λe w'=>e=ak (aj (ic.contains m))/\ay [] w w':=by
 refine ret (aej _ _ _ ?_);refine(Ni w).mono ?_;rintro _ w0 ⟨s,rfl,hs,cw⟩;have h:=qh hs;generalize ic=l at*
 have eu:=h.len;have pq:=h.big;have nD:=h.cap;refine⟨s,rfl,λnv i w'=>∃n:Nat,n<=l.length/\i=(n:Int)/\nv=l.length-n/\(∀x,x∈l.take n->x≠m)/\w'=w0,l.length,⟨0,bm _,rfl,rfl,aM,rfl⟩,?_⟩;rintro nv _ _ ⟨n,hn,rfl,rfl,hp,rfl⟩;refine⟨λhc=>?_,λhc=>?_⟩
 ·have cd:(n:Int)<s.n:=aV hc;obtain⟨ad,x,cs,g1,g2,g3,g4,g5,g6⟩:=h.get (bc n) cd;rw[ba]at g2;unfold jR at g6;subst g6;refine⟨ad,g1,_,g5,?_⟩;dsimp only;rw[ju];refine⟨λhe=>⟨?_,cw⟩,λhe=>⟨l.length-(n+1),aE,n+1,aE,aad,rfl,?_,rfl⟩⟩
  ·have he:x=m:=aV he;congr 1;symm;rw[dS,<-he];exact bF g2
  intro y hy;rw[bK,g2]at hy;simp only[eX,cD,aQ]at hy;rcases hy with hy | rfl
  ·exact hp y hy
  exact aW he
 have nE:¬((n:Int)<s.n):=aW hc;rw[bU aE]at hp;refine⟨?_,cw⟩;congr 1;symm;rw[fK];intro hh;exact hp m (dS.1 hh) rfl
theorem F4(w:av)(l:aH)(i:Nat)(hi:i<=l.length)(hl:l.length<4611686018427387903):
  az aq 161 #[ab (T l),O U (i:Int)] w λe w'=>e=ak (O U (((l.drop i).takeWhile dM).length:Int))/\ay [] w w':=by
 refine ret (ael _ _ _ _ ?_);rw[bO];have u9:(l.drop i).length=l.length-i:=bW;refine⟨λk w'=>k=(((l.drop i).takeWhile dM).length:Int)/\ay [] w w',λk w' h=>⟨by rw[h.1],h.2⟩,λnv k w'=>∃n:Nat,i+n<=l.length/\k=(n:Int)/\nv=l.length-(i+n)/\(∀x,x∈(l.drop i).take n->dM x=true)/\ay [] w w',l.length-i,⟨0,hi,rfl,rfl,aM,Only.refl _ _⟩,?_⟩;rintro nv _ w1 ⟨n,hn,rfl,rfl,hp,cA⟩;rw[fS (x:=(i:Int)+n) aE aE];have ein:(i:Int)+n=((i+n:Nat):Int):=aE
 rw[ein];refine⟨λhc=>?_,λhc=>⟨?_,cA⟩⟩
 ·have cd:i+n<l.length:=aan
  have hx:l[i+n]? =some l[i+n]:=bJ cd;generalize l[i+n]=x at hx;have EI:(l.drop i)[n]? =some x:=by rw[iO,hx]
  have hg:(T l)[Int.toNat ((i+n:Nat):Int)]? =some x:=aa9
  refine⟨x,⟨bc _,hg⟩,(vK w1 x).mono ?_⟩;rintro _ w2 ⟨rfl,cO⟩;refine⟨_,rfl,x,⟨bc _,hg⟩,(Eh w2 x).mono ?_⟩;rintro _ w3 ⟨rfl,da⟩;have hO:=cA.cn (cO.cn da);have e:((!dZ x)&&(!cE x))=!dM x:=by unfold dM;rw[Bool.not_or]
  refine⟨_,rfl,?_⟩;dsimp only;rw[e];refine⟨λhw=>⟨?_,hO⟩,λhw=>⟨l.length-(i+(n+1)),aE,n+1,aE,aad,rfl,λy hy=>?_,hO⟩⟩
  ·rw[kf aE hp λy hy=>by
    rw[EI]at hy;injection hy with hy;subst hy;simpa using hw]
   rw[dC];omega
  rw[bK,EI]at hy;simp only[eX,cD,aQ]at hy;rcases hy with hy | rfl
  ·exact hp y hy
  simpa using hw
 have nE:l.length<=i+n:=aao
 rw[kf aE hp λy hy=>by
  have:=(bd.1 hy).1;omega]
 rw[dC];omega
theorem Nj(c:UInt8):(((((c.toNat:Int)==9)||((c.toNat:Int)==10))||((c.toNat:Int)==13))||((c.toNat:Int)==32))=mA c:=by
 have h9:((c.toNat:Int)==9)=(c==9):=Hh (d:=9);have tV:((c.toNat:Int)==10)=(c==10):=Hh (d:=10);have vU:((c.toNat:Int)==13)=(c==13):=Hh (d:=13);have h32:((c.toNat:Int)==32)=(c==32):=Hh (d:=32);rw[h9,tV,vU,h32,bH];simp[mA,or_assoc]
theorem An(w:av)(l:aH)(i:Nat)(hi:i<=l.length)(hl:l.length<4611686018427387903):
  az aq 218 #[ab (T l),O U (i:Int)] w λe w'=>e=ak (O U ((i+jd false (l.drop i):Nat):Int))/\ay [] w w':=by
 refine ret (aeB _ _ _ _ ?_);rw[bO];refine⟨λk w'=>k=((i+jd false (l.drop i):Nat):Int)/\w'=w,λk w' h=>⟨by rw[h.1],by rw[h.2];exact Only.refl _ _⟩,λnv k w'=>∃j:Nat,j<=l.length/\k=(j:Int)/\nv=l.length-j/\i+jd false (l.drop i)=j+jd false (l.drop j)/\w'=w,l.length-i,⟨i,hi,rfl,rfl,rfl,rfl⟩,?_⟩;rintro nv _ u ⟨j,hj,rfl,rfl,Rq,hu⟩;subst hu;refine⟨λhc=>?_,λhc=>⟨?_,rfl⟩⟩
 ·have cd:j<l.length:=aan
  have hx:l[j]? =some l[j]:=bJ cd;generalize l[j]=x at hx;have hd:=lz hx;have e47:((x.toNat:Int)==47)=(x==47):=Hh (d:=47);rw[fS (x:=(j:Int)+1) aE aE];obtain⟨y,hy⟩:∃y:UInt8,j+1<l.length->l[j+1]? =some y:=by
   by_cases h:j+1<l.length
   ·exact⟨l[j+1],λ_=>bJ h⟩
   ·exact⟨0,λh'=>absurd h' h⟩
  have e2:((y.toNat:Int)==47)=(y==47):=Hh (d:=47);refine⟨x,⟨bc j,aa9⟩,y,λh=>⟨aE,?_⟩,?_⟩
  ·rw[aP]at h;have:=aV h.2;rw[show(j:Int)+1=((j+1:Nat):Int) by omega,kw,ba];exact hy aE
  rw[e47,e2,Nj];refine⟨λhs=>?_,λhs=>⟨λhb=>⟨l.length-(j+1),aE,j+1,aE,rfl,rfl,?_,rfl⟩,λhb=>⟨?_,rfl⟩⟩⟩
  ·simp only[aP,bC,dy]at hs;obtain⟨⟨rfl,h1⟩,rfl⟩:=hs;have h1:j+1<l.length:=aE
   have W9:=lz (hy h1);have ht:(l.drop j).take 2=[47,47]:=by rw[hd,W9];rfl
   have hk:=zR ht;have u9:(l.drop j).length=l.length-j:=bW;refine⟨λnv k w'=>∃n:Nat,j+n<=l.length/\k=((j+n:Nat):Int)/\nv=l.length-(j+n)/\(∀x,x∈(l.drop j).take n->(x !=10)=true)/\w'=u,l.length-j,⟨0,hj,rfl,rfl,aM,rfl⟩,?_⟩;rintro nv _ _ ⟨n,hn,rfl,rfl,hp,rfl⟩;obtain⟨z,hz⟩:∃z:UInt8,j+n<l.length->l[j+n]? =some z:=by
    by_cases h:j+n<l.length
    ·exact⟨l[j+n],λ_=>bJ h⟩
    ·exact⟨0,λh'=>absurd h' h⟩
   have V8:((z.toNat:Int) !=10)=(z !=10):=by
    have:((z.toNat:Int)==10)=(z==10):=Hh (d:=10);unfold bne;rw[this]
   refine⟨z,λh=>⟨bc _,by rw[kw,ba];exact hz abT⟩,?_⟩;rw[V8];refine⟨λh=>?_,λh=>?_⟩
   ·rw[aP]at h;have h1:=aV h.1;have hzz:(l.drop j)[n]? =some z:=by rw[iO];exact hz aE
    refine⟨l.length-(j+(n+1)),aE,n+1,aE,aa5,rfl,λq hq=>?_,rfl⟩;rw[bK,hzz]at hq;simp only[eX,cD,aQ]at hq;rcases hq with hq | rfl
    ·exact hp q hq
    ·exact h.2
   ·have hw:(l.drop j).takeWhile (· !=10)=(l.drop j).take n:=kf aE hp λq hq=>by
     have h1:=(bd.1 hq).1;rw[iO,hz aE]at hq;injection hq with hq;subst hq;rw[bE aE,bS]at h;exact h
    have W4:((l.drop j).takeWhile (· !=10)).length=n:=by rw[hw,dC];omega
    have Rs:0<n:=by
     rw[<-W4,hd,cT,aR aL,aU];omega
    rw[W4,iP]at hk;exact⟨l.length-(j+n),aE,j+n,hn,rfl,rfl,by rw[Rq,hk];omega,rfl⟩
  ·rw[Rq,hd,jd,aR hb];omega
  ·have hz:jd false (l.drop j)=0:=by
    rw[hd,jd,aO (by rw[hb];decide),aO];intro hh;simp only[aP,dy]at hh;obtain⟨rfl,hh⟩:=hh;have h1:j+1<l.length:=by
     cases hr:l.drop (j+1)with
     | nil=>rw[hr]at hh;simp at hh
     | cons a b=>
      have:=br List.length hr;rw[bW,aU]at this;omega
    rw[lz (hy h1)]at hh;simp only[fR,bg]at hh;subst hh;rw[bE aE]at hs;simp at hs
   rw[Rq,hz];rfl
 ·have nE:l.length<=j:=aao
  rw[Rq,dj nE];rfl
def uQ:List (aH):=[[45,62],[60,61],[62,61],[61,61],[33,61],[38,38],[124,124]]
theorem yM{c d:UInt8}{r:aH}:oU (c::d::r)=uQ.contains [c,d]:=by
 rw[bH];simp[oU,uQ];constructor
 ·rintro((⟨rfl,h⟩ | ⟨rfl,h⟩) | ⟨rfl,rfl⟩)
  ·rcases h with rfl | rfl | rfl | rfl<;>simp
  ·rcases h with rfl | rfl<;>simp
  simp
 rintro(⟨rfl,rfl⟩ | ⟨rfl,rfl⟩ | ⟨rfl,rfl⟩ | ⟨rfl,rfl⟩ | ⟨rfl,rfl⟩ | ⟨rfl,rfl⟩ | ⟨rfl,rfl⟩)<;>simp
theorem JH{m:aH}(h:oU m=true):gR m=2:=by unfold gR;rw[aR h]
theorem JI{c:UInt8}{r:aH}(h:oU (c::r)=false):gR (c::r)=if mB.contains c then 1 else 0:=by
 unfold gR;rw[aO (by rw[h];decide)]
theorem Q2(w:av)(l:aH)(i:Nat)(hi:i<l.length)(hl:l.length<4611686018427387903):
  az aq 238 #[ab (T l),O U (i:Int)] w λe w'=>e=ak (O U (gR (l.drop i):Int))/\ay [] w w':=by
 refine ret (aeE _ _ _ _ ?_);rw[bO];obtain⟨s,w0,k1,k2,cw⟩:=iR w uQ (n:=7) (parts:=#[(0,ab (ao #[45,62])),(1,ab (ao #[60,61])),(2,ab (ao #[62,61])),(3,ab (ao #[61,61])),(4,ab (ao #[33,61])),(5,ab (ao #[38,38])),(6,ab (ao #[124,124]))]) rfl rfl aL aL;have hs:=qh k2;have hx:l[i]? =some l[i]:=bJ hi;generalize l[i]=c at hx;have hd:=lz hx;have u9:(l.drop i).length=l.length-i:=bW;have eu:=hs.len;rw[fS (x:=(i:Int)+2) aE aE];refine⟨s,w0,k1,λnv k w'=>∃n:Nat,n<=uQ.length/\k=(n:Int)/\nv=uQ.length-n/\(2<=(l.drop i).length->∀x,x∈uQ.take n->x≠(l.drop i).take 2)/\ay [] w0 w',uQ.length,⟨0,bm _,rfl,rfl,aM,Only.refl _ _⟩,?_⟩;rintro nv _ w1 ⟨n,hn,rfl,rfl,hp,cA⟩;refine⟨λhc=>?_,λhc=>?_⟩
 ·have cd:(n:Int)<s.n:=aV hc;obtain⟨ad,x,cs,g1,g2,g3,g4,g5,g6⟩:=(SliceF.only db aL hs cA aM).get (bc n) cd;rw[ba]at g2;unfold jR at g6;subst g6;have hn7:uQ.length=7:=rfl;refine⟨i,i+2,λh=>⟨rfl,aE,aE,abT⟩,ad,λ_=>g1,_,λ_=>g5,?_⟩;have ex:(T l).extract i (i+2)=T ((l.drop i).take 2):=by rw[oJ,show i+2-i=2 by omega]
  rw[ex,ju];refine⟨λh w2 cO=>⟨?_,cw.cn (cA.cn cO)⟩,λh w3 da=>⟨uQ.length-(n+1),aE,n+1,aE,aad,rfl,λh2 y hy=>?_,cA.cn da⟩⟩
  ·rw[aP]at h;have h1:=aV h.1;have h2:=aV h.2;have J7:oU (l.drop i)=true:=by
    cases hr:l.drop (i+1)with
    | nil=>
     have:=br List.length hr;rw[bW,aZ]at this;omega
    | cons d r=>
     rw[hd,hr]at h2⊢;rw[yM,dS];have:(c::d::r).take 2=[c,d]:=rfl;rw[<-this,h2];exact bF g2
   rw[JH J7];rfl
  rw[bK,g2]at hy;simp only[eX,cD,aQ]at hy;rcases hy with hy | rfl
  ·exact hp h2 y hy
  rw[bE aE,bS]at h;exact λe=>aW h e.symm
 have nE:¬((n:Int)<s.n):=aW hc;rw[bU aE]at hp;have J7:oU (l.drop i)=false:=by
  cases hr:l.drop (i+1)with
  | nil=>rw[hd,hr];rfl
  | cons d r=>
   rw[hd,hr,yM,fK];intro h;rw[dS]at h;have h2:2<=(l.drop i).length:=by rw[hd,hr];simp
   exact hp h2 _ h (by rw[hd,hr];rfl)
 have U5:gR (l.drop i)=if mB.contains c then 1 else 0:=by
  rw[hd]at J7⊢;exact JI J7
 rw[U5];refine⟨λnv k w'=>∃n:Nat,n<=17/\k=(n:Int)/\nv=17-n/\(∀x,x∈mB.take n->x≠c)/\ay [] w w',17,⟨0,bm _,rfl,rfl,aM,cw.cn cA⟩,?_⟩;rintro nv _ w4 ⟨n,hn,rfl,rfl,hp,dR⟩;refine⟨λhc=>?_,λhc=>⟨?_,dR⟩⟩
 ·have cd:n<17:=aan
  obtain⟨y,hy⟩:∃y,mB[n]? =some y:=⟨_,bJ cd⟩
  refine⟨c,⟨bc i,aa9⟩,y,⟨bc n,by
   have e:(ao #[123,125,40,41,91,93,59,44,61,43,45,42,47,37,60,62,33])=T mB:=rfl;rw[e,kw,ba,hy]⟩,?_⟩
  rw[Hh];refine⟨λh w5 fe=>⟨?_,dR.cn fe⟩,λh w6 ez=>⟨17-(n+1),aE,n+1,aE,aad,rfl,λq hq=>?_,dR.cn ez⟩⟩
  ·have h:c=y:=aat
   rw[aR]
   ·rfl
   rw[dS,h];exact bF hy
  rw[bK,hy]at hq;simp only[eX,cD,aQ]at hq;rcases hq with hq | rfl
  ·exact hp q hq
  rintro rfl;simp at h
 have nE:n=17:=aao
 subst nE;rw[aO]
 ·rfl
 intro h;rw[dS]at h;exact hp c (by rw[bU aL];exact h) rfl
theorem JJ{ds:aH}{x:UInt8}:jF 0 (ds++[x])=jF 0 ds*10+(x.toNat-48):=by
 unfold jF;rw[tX];rfl
theorem JK{ds:aH}{n:Nat}:jF 0 (ds.take n)<=jF 0 ds:=by
 have:jF 0 ds=jF (jF 0 (ds.take n)) (ds.drop n):=by
  unfold jF;rw[<-tX,eL]
 rw[this];exact Bk _ _
theorem Nk(w:av)(l:aH)(hl:l.length<4611686018427387903):
  az aq 237 #[ab (T l)] w λe w'=>e=ak (ai #[O U (eI l).1,O U (eI l).2.1,O U (eI l).2.2])/\ay [] w w':=by
 refine ret (aeD _ _ _ ?_);rw[bO];refine⟨λh0=>⟨?_,Only.refl _ _⟩,λh0=>?_⟩
 ·have h0:l=[]:=bA (by have:(l.length:Int)=0:=acA;omega);rw[eI,aR h0];rfl
 have h0:¬l=[]:=by
  rintro rfl;simp at h0
 refine⟨λnv j w'=>∃n:Nat,n<=l.length/\j=(n:Int)/\nv=l.length-n/\(∀x,x∈l.take n->cE x=true)/\w'=w,l.length,⟨0,bm _,rfl,rfl,aM,rfl⟩,?_⟩;rintro nv _ u ⟨n,hn,rfl,rfl,hp,hu⟩;subst hu;obtain⟨z,hz⟩:∃z:UInt8,n<l.length->l[n]? =some z:=by
  by_cases h:n<l.length
  ·exact⟨l[n],λ_=>bJ h⟩
  exact⟨0,λh'=>absurd h' h⟩
 have hg:n<l.length->0<=(n:Int)/\(T l)[Int.toNat (n:Int)]? =some z:=λh=>⟨bc n,by rw[kw,ba];exact hz h⟩
 refine⟨z,λh=>hg abT,z,λh=>hg (by
  rw[aP]at h;have:=aV h.1;omega),?_⟩
 have ed:((((decide ((n:Int)<(l.length:Int)))&&(decide ((z.toNat:Int)>=48)))&&(decide ((z.toNat:Int)<=57))))=(decide (n<l.length)&&cE z):=by
  rw[bH];simp only[cE,aP,bC];omega
 rw[ed];refine⟨λh=>?_,λh=>?_⟩
 ·rw[aP]at h;have h1:n<l.length:=aV h.1;refine⟨l.length-(n+1),aE,n+1,aE,aad,rfl,λy hy=>?_,rfl⟩;rw[bK,hz h1]at hy;simp only[eX,cD,aQ]at hy;rcases hy with hy | rfl
  ·exact hp y hy
  exact h.2
 have NX:l.takeWhile cE=l.take n:=kf hn hp λy hy=>by
  have h1:=(bd.1 hy).1;rw[hz h1]at hy;injection hy with hy;subst hy;rw[bE h1,bS]at h;exact h
 have u9:(l.takeWhile cE).length=n:=by rw[NX,dC];omega
 obtain⟨x,r,rfl⟩:∃x r,l=x::r:=by
  cases l with
  | nil=>exact absurd rfl h0
  | cons x r=>exact⟨x,r,rfl⟩
 refine⟨x,λ_ _=>⟨ix _,aci⟩,?_⟩;have e48:((x.toNat:Int)==48)=(x==48):=Hh (d:=48);have eb:(((n:Int)==0)||((decide ((n:Int)>1))&&((x.toNat:Int)==48)))=decide ((x::r).takeWhile cE=[]∨(1<((x::r).takeWhile cE).length/\(x::r).head? =some 48)):=by
  rw[e48,u9,bH];simp only[aP,ci,bC,dy,fR,bg];have:(x::r).takeWhile cE=[]↔n=0:=by
   constructor
   ·intro e;rw[e]at u9;exact u9.symm
   intro e;rw[e]at u9;exact bA u9
  rw[this];by_cases hx:x=48
  ·simp only[hx,and_true];omega
  simp only[hx,and_false,ca];omega
 rw[eb];refine⟨λhb=>⟨?_,Only.refl _ _⟩,λhb=>?_⟩
 ·rw[eI,aO h0,aR (aV hb)];rfl
 have hb:=aW hb;refine⟨λnv v j w'=>∃q:Nat,q<=n/\j=(q:Int)/\nv=n-q/\v=(jF 0 ((x::r).take q):Int)/\jF 0 ((x::r).take q)<9223372036854775808/\ay [] u w',n,⟨0,bm _,rfl,rfl,rfl,by rw[dF];decide,Only.refl _ _⟩,?_⟩;rintro nv _ _ w1 ⟨q,hq,rfl,rfl,rfl,hv,cA⟩;refine⟨λhc=>?_,λhc=>⟨?_,cA⟩⟩
 ·have cd:q<n:=aan
  have hy:(x::r)[q]? =some ((x::r)[q]' aE):=bJ aE;generalize (x::r)[q]' aE=y at hy;have hyd:cE y=true:=hp y (by
   rw[List.mem_iff_getElem?];exact⟨q,by rw[EN,aR cd,hy]⟩)
  simp only[cE,aP,bC]at hyd;have e1:ar .u8 ((y.toNat:Int)-48)=(y.toNat:Int)-48:=by
   have h:∀n:Fin 256,48<=n.val->ar .u8 ((n.val:Int)-48)=(n.val:Int)-48:=aca
   exact h ⟨y.toNat,y.toNat_lt⟩ hyd.1
  have et:(9223372036854775807-((y.toNat:Int)-48)).tdiv 10=(9223372036854775807-((y.toNat:Int)-48))/10:=Int.tdiv_eq_ediv_of_nonneg aE;have es:(x::r).take (q+1)=(x::r).take q++[y]:=by rw[bK,hy];rfl
  have ev:jF 0 ((x::r).take (q+1))=jF 0 ((x::r).take q)*10+(y.toNat-48):=by rw[es,JJ]
  refine⟨y,⟨bc q,by rw[kw,ba,hy]⟩,?_⟩;rw[e1,fS (x:=(y.toNat:Int)-48) aE aE,fS (x:=9223372036854775807-((y.toNat:Int)-48)) aE aE,et,fS (x:=(9223372036854775807-((y.toNat:Int)-48))/10) aE aE];refine⟨λWs=>⟨?_,cA⟩,λWs=>⟨n-(q+1),aE,q+1,aE,aad,rfl,?_,?_,cA⟩⟩
  ·have Ws:=aV Ws;have h1:jF 0 ((x::r).take (q+1))<=jF 0 ((x::r).take n):=by
    have:=JK (ds:=(x::r).take n) (n:=q+1);rw[List.take_take,Nat.min_eq_left aE]at this;exact this
   rw[eI,aO h0,aO hb,aO (by rw[NX];omega)];rfl
  ·have Ws:=aW Ws;rw[ev,fS (x:=10*(jF 0 ((x::r).take q):Int)) aE aE,fS aE aE];omega
  have Ws:=aW Ws;rw[ev];omega
 have hqn:q=n:=aao
 subst hqn;rw[eI,aO h0,aO hb,aR (by rw[NX];exact hv),u9,NX]
def UR(i:Nat)(r:Except Int Tq)(v:aw):Prop:=match r with
 | .error e=>v=ai #[ah #[O U 0,ab (T []),O U 0,O U 0],O U 0,O U e]
 | .ok q=>v=ai #[ah #[O U q.1,ab (T q.2.1),O U q.2.2.1,O U (i:Int)],O U (q.2.2.2:Int),O U 0]
theorem Nl(w:av)(l:aH)(i:Nat)(hi:i<l.length)(hl:l.length<=16384):
  az aq 219 #[ab (T l),O U (i:Int)] w λe w'=>∃v,e=ak v/\UR i (ki (l.drop i)) v/\ay [] w w':=by
 refine aeC (T l) i (λv w'=>UR i (ki (l.drop i)) v/\ay [] w w') w ?_;have hx:l[i]? =some l[i]:=bJ hi;generalize l[i]=x at hx;have u9:(l.drop i).length=l.length-i:=bW;have ht:ki (l.drop i)=if dZ x then kC (l.drop i)else if cE x then pM (l.drop i)else mg (l.drop i):=by
  rw[lz hx];rfl
 rw[ht];have hg:0<=(i:Int)/\(T l)[Int.toNat (i:Int)]? =some x:=⟨bc i,aa9⟩
 refine⟨x,hg,λk1 w0 ku jK cw=>(vK w0 x).mono ?_⟩;rintro _ w1 ⟨rfl,cA⟩;have new:∀{u u':av},ay [] w u->ay [k1] u u'->ay [] w u':=λh k=>h.trans k λy hy=>.inr abi;have sm:∀{u u':av},ay [] w0 u->ay [] u u'->cb [k1] u u':=λh0 h=>h.same (by have:=h0.size;simp;omega);refine⟨_,rfl,sm (Only.refl _ _) cA,x,hg,(Eh w1 x).mono ?_⟩;rintro _ w2 ⟨rfl,cO⟩;have Wt:=cA.cn cO;refine⟨_,rfl,sm cA cO,λhb=>?_,λhb=>⟨λhd=>⟨i,⟨rfl,aam⟩,?_⟩,λhd=>?_⟩⟩
 ·rw[aR hb];refine(F4 w2 l i aE aE).mono ?_;rintro _ w3 ⟨rfl,da⟩;have W4:((l.drop i).takeWhile dM).length<=l.length-i:=by
   have:=oV (p:=dM) (l:=l.drop i);rwa[u9]at this
  have ex:(T l).extract i (i+((l.drop i).takeWhile dM).length)=T ((l.drop i).takeWhile dM):=by
   rw[oJ,dI,<-ly]
  refine⟨_,rfl,sm Wt da,i,i+((l.drop i).takeWhile dM).length,⟨rfl,aa5,aE,aam⟩,λk5 w4 oy GB dR=>?_⟩;have h04:=Wt.cn (da.cn dR);rw[ex];refine(Im w4 _).mono ?_;rintro _ w5 ⟨rfl,fe⟩;have h05:=h04.cn fe;have z4:=h04.size;unfold kC;generalize hm:(l.drop i).takeWhile dM=m at*
  refine⟨_,rfl,fe.same aae,λk s n a w'=>k=(if ic.contains m then 2 else 1:Int)/\s=T m/\n=0/\a=(i:Int)/\ay [] w w',?_,λhc w9 gr=>⟨by rw[aR hc],rfl,rfl,rfl,(cw.cn h05).trans gr λy hy=>.inr (by simp only[aQ]at hy;have:=cw.size;have:=da.size;have:=Wt.size;omega)⟩,λhc=>⟨by rw[hc];rfl,rfl,rfl,rfl,cw.cn h05⟩⟩;rintro _ _ _ _ w6 ⟨rfl,rfl,rfl,rfl,ez⟩;refine⟨λhc w7 gD=>⟨?_,new ez gD⟩,λhc w8 gp=>⟨?_,new ez gp⟩⟩
  ·rw[aR aan];rfl
  rw[aO aao];rfl
 ·rw[aO (by rw[hb];decide),aR hd];have ex:(T l).extract i (T l).size=T (l.drop i):=by rw[oJ,bO,bU aE]
  rw[ex];refine(Nk w2 (l.drop i) aE).mono ?_;rintro _ dz ⟨rfl,dL⟩;have tV:=Wt.cn dL;unfold pM;refine⟨_,_,_,rfl,sm Wt dL,λhe dJ dW=>⟨?_,new (cw.cn tV) dW⟩,λhe=>(F4 dz l i aE aE).mono ?_⟩
  ·rw[aR aaR];rfl
  rintro _ eM ⟨rfl,eJ⟩;have IW:=tV.cn eJ;rw[aO aaR];refine⟨_,rfl,sm tV eJ,λhc eW dD=>⟨?_,new (cw.cn IW) dD⟩,λhc fJ eF=>⟨?_,new (cw.cn IW) eF⟩⟩
  ·rw[aR aan];rfl
  rw[aO aao];rfl
 rw[aO (by rw[hb];decide),aO (by rw[hd];decide)];refine(Q2 w2 l i hi aE).mono ?_;rintro _ ir ⟨rfl,j7⟩;have Cj:=Wt.cn j7;have hn:=uo (m:=l.drop i);have ex:(T l).extract i (i+gR (l.drop i))=T ((l.drop i).take (gR (l.drop i))):=by rw[oJ,dI]
 unfold mg;refine⟨_,rfl,sm Wt j7,λhz jD jQ=>⟨?_,new (cw.cn Cj) jQ⟩,λhz=>⟨i,i+gR (l.drop i),⟨rfl,aa5,aE,aam⟩,λiK jf=>⟨?_,new (cw.cn Cj) jf⟩⟩⟩
 ·rw[aR (by have:(gR (l.drop i):Int)=0:=acr;omega)];rfl
 rw[aO (by rintro e;rw[e]at hz;simp at hz),ex];rfl
theorem JL(w:av)(l:aH):
  az aq 200 #[ab (T l)] w λe w'=>∃rs:Sl,e=ak (ai #[rs.v,ah #[O U (ch l).2.1,O U (ch l).2.2]])/\kg w.heap.size w' rs (ch l).1/\ay [] w w':=by
 refine(aeA (T l) (λv w'=>∃rs:Sl,v=(ai #[rs.v,ah #[O U (ch l).2.1,O U (ch l).2.2]])/\kg w.heap.size w' rs (ch l).1/\ay [] w w') w ?_).mono (by
  rintro e w' ⟨v,rfl,rs,rfl,h⟩;exact⟨rs,rfl,h⟩)
 rw[bO];refine⟨λhc k0 w0 _ _ hO=>⟨Sl.nil,?_,?_,hO⟩,λhc k1 w1 ku jK cA=>?_⟩
 ·rw[ch,aR aan]
 ·rw[ch,aR aan];exact Own.nil _ _ _ _ _ _
 have Gn:l.length<=16384:=aao
 have Vl:ch l=match jl l 0 with
  | .error x=>([],x.1,(x.2:Nat))
  | .ok r=>(r,0,0):=by
   rw[ch,aO aE]<;>rfl
 refine(An w1 l 0 (bm _) aE).mono ?_;rintro _ w2 ⟨rfl,cO⟩;have z1:=cA.size;refine⟨_,rfl,cO.same aae,λnv s i e1 e2 w'=>e1=0/\e2=0/\∃(j:Nat) (acc:List Tk),i=(j:Int)/\j<=l.length/\acc.length<=j/\jd false (l.drop j)=0/\jl l 0=iT acc (jl l j)/\nv=l.length-j/\kg w1.heap.size w' s acc/\ay [] w1 w',l.length-(0+jd false (l.drop 0)),?_,?_⟩
 ·refine⟨rfl,rfl,_,[],rfl,Du (bm _),bm _,?_,?_,rfl,Own.nil _ _ _ _ _ _,cO⟩
  ·rw[<-iP];exact nS false (l.drop 0)
  rw[<-lA (bm _)];cases jl l 0<;>rfl
 rintro nv s _ _ _ w3 ⟨rfl,rfl,j,acc,rfl,hj,hal,W5,ov,rfl,ho3,da⟩;have z3:=da.size;have kP:=jg hj;rw[W5,gz]at kP;have app:∀{u:av} {r:Sl} (t:Tk),ay [] w1 u->kg w1.heap.size u r acc->
   ∃y w4,(au 92 1 #[(0,t.v)]).run aq u=.ok (Sl.v y) w4/\ay [] u w4/\∃s' w5,(Builtin.append_ #[92,92] 92 #[Sl.v r,Sl.v y]).run aq w4=.ok (Sl.v s') w5/\kg w1.heap.size w5 s' (acc++[t])/\aD (λk=>w1.heap.size<=k/\r.a=some ⟨k,0,none⟩) w4 w5/\ay [] w1 w5:=by
  intro u r t hu hr;obtain⟨y,w4,c1,c2,s',w5,c3,c4,c5⟩:=LR t hr hu.size (bh (ey 40 (show acc.length+1<=16385 by omega)) aL);exact⟨y,w4,c1,c2,s',w5,c3,c4,c5,((hu.cn c2).p0 (F:=λk=>w1.heap.size<=k) |>.trans c5 λk hk=>.inl hk.1).only λk hk=>hk⟩
 refine⟨λhc=>?_,λhc=>?_⟩
 ·have cd:j<l.length:=aan
  rw[aO aE]at kP;refine(Nl w3 l j cd Gn).mono ?_;rintro _ w4 ⟨v,rfl,hv,dR⟩;have h14:=da.cn dR;have sm1:cb [k1] w3 w4:=dR.same aae;have z4:=dR.size;unfold UR at hv;cases hq:ki (l.drop j)with
  | error e=>
   rw[hq]at hv kP;dsimp only at hv;subst hv;refine⟨0,T [],0,0,0,e,rfl,sm1,λ_ k4 w5 sV EG fe=>⟨Sl.nil,?_,?_,?_⟩,λhe=>absurd (Bm hq) aaR⟩
   ·rw[Vl,ov,kP];rfl
   ·rw[Vl,ov,kP];exact Own.nil _ _ _ _ _ _
   exact(cA.cn h14).trans fe λy hy=>.inr abi
  | ok q=>
   rw[hq]at hv kP;dsimp only at hv;subst hv;have Vb:=rW hq;have Pb:=yf hq;rw[bW]at Pb;refine⟨q.1,T q.2.1,q.2.2.1,(j:Int),(q.2.2.2:Int),0,rfl,sm1,λhe=>(by simp at he),λ_ k5 w6 oy GB ez=>?_⟩;have h16:=h14.cn ez;have z6:=ez.size;obtain⟨y,w7,c1,c2,s',w8,c3,c4,c5,c6⟩:=app (u:=w6) ⟨q.1,q.2.1,q.2.2.1,(j:Nat)⟩ h16 (ho3.only (dR.cn ez));have z7:=c2.size;have z8:=c5.size;have hk:∀k,s.a=some ⟨k,0,none⟩->w1.heap.size<=k/\k<w3.heap.size:=λk hk=>ho3.blk hk;refine⟨y,w7,c1,c2.same aae,s',w8,c3,c5.same (by
    intro x hx;simp only[aX,be,ca]at hx;refine⟨aE,λe=>?_⟩;have:=hk x e.2;omega),?_⟩
   rw[fS (x:=(j:Int)+(q.2.2.2:Int)) aE aE,show(j:Int)+(q.2.2.2:Int)=((j+q.2.2.2:Nat):Int) by omega];refine(An w8 l (j+q.2.2.2) aE aE).mono ?_;rintro _ w9 ⟨rfl,gr⟩;have KI:=Du (l:=l) (i:=j+q.2.2.2) aE;refine⟨_,rfl,gr.same aae,l.length-(j+q.2.2.2+jd false (l.drop (j+q.2.2.2))),aE,rfl,rfl,_,_,rfl,KI,?_,?_,?_,rfl,c4.only gr,c6.cn gr⟩
   ·rw[aN,bp];omega
   ·rw[<-iP];exact nS false _
   rw[ov,kP,<-lA aE,<-Hi];dsimp only;cases jl l (j+q.2.2.2)<;>rfl
 have uW:l.length<=j:=aao
 rw[aR uW]at kP;have xr:j=l.length:=aE
 obtain⟨y,dz,c1,c2,s',dJ,c3,c4,c5,c6⟩:=app (u:=w3) ⟨5,[],0,(j:Nat)⟩ da ho3;have IL:=c2.size;have hk:∀k,s.a=some ⟨k,0,none⟩->w1.heap.size<=k/\k<w3.heap.size:=λk hk=>ho3.blk hk;have htt:ch l=(acc++[⟨5,[],0,(j:Nat)⟩],0,0):=by
  rw[Vl,ov,kP];rfl
 have e:(l.length:Int)=(j:Int):=aE
 rw[e];refine⟨y,dz,c1,c2.same aae,s',dJ,c3,c5.same (by
  intro x hx;simp only[aQ]at hx;refine⟨aE,λe=>?_⟩;have:=hk x e.2;omega),λeM eJ=>⟨s',by rw[htt],?_,?_⟩⟩
 ·rw[htt];have:kg w1.heap.size eM s' _:=c4.keep λk hk cd=>eJ.block k cd (by simp only[aQ];have:=hk.1;omega);exact Own.low this z1
 exact(cA.cn c6).trans eJ λy hy=>.inr abi
theorem oa(w:av)(l:aH)(hl:l.length<4611686018427387903):
  az aq 115 #[ab (T l)] w λe w'=>e=ak (aj (cN l))/\ay [] w w':=by
 refine ret (aeh _ _ _ ?_);have e0:(ao #[])=T []:=rfl;rw[bO,e0,ju];refine⟨λhc=>⟨?_,Only.refl _ _⟩,λhc=>?_⟩
 ·unfold cN;rw[bq]
  ·rfl
  rintro⟨h1,h2⟩;rw[bq h1,bq aE]at hc;cases hc
 simp only[eZ,fE]at hc;obtain⟨h1,h2⟩:=hc;have h2:l.length<=24:=aE
 obtain⟨c,r,rfl⟩:∃c r,l=c::r:=by
  cases l with
  | nil=>exact absurd rfl h1
  | cons c r=>exact⟨c,r,rfl⟩
 have hn:cN (c::r)=(dZ c&&decide ((c::r).takeWhile dM=c::r)&&!ic.contains (c::r)):=by
  unfold cN;rw[bE ⟨h1,h2⟩,bS]
 refine⟨c,⟨ix _,aci⟩,(vK w c).mono ?_⟩;rintro _ w0 ⟨rfl,cw⟩;refine⟨_,rfl,(Im w0 _).mono ?_⟩;rintro _ w1 ⟨rfl,cA⟩;refine⟨_,rfl,λb w'=>b=cN (c::r)/\ay [] w w',λb w' h=>⟨by rw[h.1],h.2⟩,λhb=>?_,λhb=>⟨?_,cw.cn cA⟩⟩
 ·refine(F4 w1 (c::r) 0 (bm _) hl).mono ?_;rintro _ w3 ⟨rfl,da⟩;rw[eY];refine⟨_,rfl,?_,cw.cn (cA.cn da)⟩;rw[hn];simp only[aP,cP]at hb;rw[hb.1,hb.2,bS,zG,cH,bH];simp only[dy,bC];constructor
  ·intro h;have h:((c::r).takeWhile dM).length=(c::r).length:=aE
   have h2:=ly (p:=dM) (l:=c::r);rw[h,bU (aY _)]at h2;exact h2
  intro h;rw[h]
 rw[hn];cases h1:dZ c<;>cases h2:ic.contains (c::r)<;>rw[h1,h2]at hb<;>simp at hb⊢
theorem Q3(w:av)(l:aH):az aq 166 #[ab (T l)] w λe w'=>
  ∃cs,e=ak (ai #[ah cs.toArray,ah #[O U (fi l).2.1,O U (fi l).2.2]])/\RX w' w.heap.size w'.heap.size (fi l).1 cs/\ay [] w w':=by
 refine(aez (T l) (λv w'=>∃cs,v=(ai #[ah cs.toArray,ah #[O U (fi l).2.1,O U (fi l).2.2]])/\RX w' w.heap.size w'.heap.size (fi l).1 cs/\ay [] w w') w ?_).mono (by
  rintro e w' ⟨v,rfl,cs,rfl,h⟩;exact⟨cs,rfl,h⟩)
 intro k0 k1 w0 iJ dV ku jK cw;have z0:=cw.size;have own:∀{u u':av},ay [] w u->ay [k1,k0] u u'->ay [] w u':=λh1 h2=>h1.trans h2 λx hx=>.inr aaj;refine(JL w0 l).mono ?_;rintro _ w1 ⟨l0,rfl,hT,cA⟩;have z1:=cA.size;have gK:=cw.cn cA;generalize ov:ch l=tm at*
 obtain⟨ts,c,p⟩:=tm;dsimp only at hT⊢;have IR:fi l=if c≠0 then(tT,c,p)else if(bQ ts 0).2.2.1≠0 then(tT,(bQ ts 0).2.2.1,(bQ ts 0).2.2.2)else if(tk ts (bQ ts 0).2.1.toNat).k≠5 then(tT,4,(tk ts (bQ ts 0).2.1.toNat).a)else((bQ ts 0).1,0,(bQ ts 0).2.2.2):=by
  unfold fi;rw[ov]
 refine⟨l0,_,_,rfl,cA.same aae,λhc k2 w2 qw vS cO n1 n2 n3=>⟨λk=>k=k2,rfl,λe=>n2 e,λe=>n3 e,λw3 da=>?_⟩,λhc k3 w4 J9 zA dR=>?_⟩
 ·have hc:c≠0:=aaf
  rw[IR,aR hc];exact⟨_,rfl,Qk _ _ _,own (gK.cn cO) da⟩
 have hc:c=0:=aaf
 rw[aO (by simp[hc])]at IR;have z4:=dR.size;refine(Nh (hT.only dR).sl 0 ⟨aL,aL⟩).mono ?_;rintro _ w5 ⟨cs,rfl,hX,hj,fe⟩;have z5:=fe.size;have hp0:(bQ ts 0).2.2.1=0->(bQ ts 0).2.2.2=0:=by
  unfold bQ;split
  ·cases hp:oe ts (0:Int).toNat with
   | error e=>
    obtain⟨c,p⟩:=e;intro h;exact absurd h (lC _ _ _ _ hp)
   | ok q=>intro _;rfl
  intro h;exact absurd h (show ¬(1:Int)=0 by decide)
 generalize Ru:bQ ts 0=pa at*
 obtain⟨x,j,c',p'⟩:=pa;dsimp only at hX hj IR hp0⊢;obtain⟨xl,rfl,_⟩:=hX.cells;have yS:ay [] w w5:=(gK.cn dR).cn fe;have hF5:∀{u:av},ay [k3] w5 u->aA Bl 4 u (λk=>w0.heap.size<=k/\l0.a=some ⟨k,0,none⟩) l0 ts:=λhO=>SliceF.only fX aL (hT.only (dR.cn fe)).sl hO λk hk cd hm=>by
  have:=hT.blk hk.2;simp only[aQ]at hm;dsimp only at this;omega
 refine⟨_,_,_,_,_,_,_,_,_,rfl,fe.same aae,λxn k4 w6 sV EG ez n1 n2 n3 n4 n5 n6=>⟨λk=>k=k3,rfl,λe=>n2 e,λe=>n4 e,λw7 gD=>?_⟩,λxn=>?_⟩
 ·have xn:c'≠0:=by simpa using xn
  rw[IR,aR xn];exact⟨_,rfl,Qk _ _ _,own (yS.new ez aE) gD⟩
 have xn:c'=0:=by simpa using xn
 rw[aO (by simp[xn])]at IR;obtain⟨Pm,EV⟩:=hj xn;obtain⟨n,rfl⟩:∃n:Nat,j=(n:Int):=⟨j.toNat,aE⟩
 have hl:=(hF5 (Only.refl _ _)).len;obtain⟨ad,t,cs,g1,g2,g3,g4,g5,g6⟩:=(hF5 (Only.refl _ _)).get Pm aE;rw[ba]at IR;refine⟨ad,g1,λk5 w8 oy GB gp=>?_⟩;obtain⟨Gd,t',Ew,e1,e2,e3,e4,e5,e6⟩:=(hF5 gp).get Pm aE;have ahQ:=dN.UZ e1 g1;subst ahQ;rw[ba,yg aE]at e2;injection e2 with e2;subst e2;unfold Bl at e6;subst e6;have z8:=gp.size;refine⟨_,e5.eo 0 _ rfl,λhk w9 gr n1 n2 n3 n4 n5 n6=>⟨λk=>k=Gd.block,Gd,g1,?_,_,(e5.keep (gr.block _ e5.lt aM)).eo 3 _ rfl,?_,?_,λdz dL=>?_⟩,λhk dJ dW=>?_⟩
 ·exact mW Gd 3
 ·intro e;have:=e3.1;rw[<-e]at this;omega
 ·intro e;have:=e3.1;rw[<-e]at this;omega
 ·have hk:(tk ts n).k≠5:=aak
  rw[IR,aR hk];exact⟨_,rfl,Qk _ _ _,own ((yS.new gp aE).cn gr) dL⟩
 have hk:(tk ts n).k=5:=aak
 rw[IR,aO (by simp[hk]),hp0 xn];have ED:=dW.size;exact⟨_,rfl,((hX.only gp λq hq=>.inl ab1).only dW λq hq=>.inl aaU).wide aE aE,own (yS.new gp aE) dW⟩
theorem US{k:Nat}{op:Int}(hk:k<6)(h:op∈(dU[k]?).getD []):eE op=(k:Int):=by
 match k,hk with
 | 0,_=>simp[dU]at h;subst h;rfl
 | 1,_=>simp[dU]at h;subst h;rfl
 | 2,_=>simp[dU]at h;rcases h with rfl | rfl<;>rfl
 | 3,_=>simp[dU]at h;rcases h with rfl | rfl | rfl | rfl<;>rfl
 | 4,_=>simp[dU]at h;rcases h with rfl | rfl<;>rfl
 | 5,_=>simp[dU]at h;rcases h with rfl | rfl | rfl<;>rfl
theorem Q4{op:Int}(h:∀k,k<6->op∉(dU[k]?).getD []):eE op=6:=by
 have h0:=h 0 aL;have h1:=h 1 aL;have h2:=h 2 aL;have h3:=h 3 aL;have h4:=h 4 aL;have h5:=h 5 aL;simp[dU]at h0 h1 h2 h3 h4 h5;unfold eE;rw[aO aE,aO aE,aO aE,aO aE,aO aE,aO aE]
theorem uR{w:av}{F:aJ}{x:Ex}{cs:aI}{d:Nat}(h:rX d w F x cs):az aq 195 #[ah cs.toArray] w λe w'=>e=ak (O U (bM x))/\ay [] w w':=by
 obtain⟨sl,rfl⟩:=jG h;refine ret (aes _ _ _ _ _ _ _ _ ?_);intro k0 w0 iJ dV cw;refine(F2 w0).mono ?_;rintro _ w1 ⟨l0,rfl,hN,cA⟩;have m0:=hN.len;have m6:dU.length=6:=rfl;refine⟨l0,rfl,cA.same aae,λnv i w'=>∃n:Nat,n<=6/\i=(n:Int)/\nv=6-n/\(∀k,k<n->x.op∉(dU[k]?).getD [])/\ay [] w1 w',6,⟨0,aL,rfl,rfl,λk hk=>absurd hk (OW k),Only.refl _ _⟩,?_⟩;rintro nv _ w2 ⟨n,hn,rfl,rfl,WO,cO⟩;have j6:ay [] w w2:=(cw.cn cA).cn cO;refine⟨λhc=>?_,λhc=>⟨?_,j6⟩⟩
 ·simp only[aP,bC,dy]at hc;obtain⟨wO,oy⟩:=hc;have cd:n<6:=aE
  obtain⟨p0,x0,cs0,g1,g2,g3,g4,g5,s1,rfl,hS⟩:=hN.get (bc n) aE;rw[ba]at g2;have KH:(dU[n]?).getD []=x0:=by rw[g2];rfl
  have t1:=hS.len;have t2:=hS.cap;have t3:=hS.big;refine⟨λnv i w'=>∃j:Nat,j<=x0.length/\i=(j:Int)/\nv=x0.length-j/\(∀q y,q<j->x0[q]? =some y->y≠x.op)/\ay [] w1 w',x0.length,⟨0,bm _,rfl,rfl,λq y hq=>absurd hq (OW q),cO⟩,?_⟩;rintro nv _ w3 ⟨j,hj,rfl,rfl,ia,da⟩;refine⟨p0,g1,s1,g5.keep (da.block _ g5.lt aM),λRL=>?_,λnE=>?_⟩
  ·have RL:(j:Int)<(s1.n:Int):=aV RL;obtain⟨p3,m,cs3,r1,r2,r3,r4,r5,r6⟩:=(SliceF.only kL aL hS da aM).get (bc j) RL;unfold vI at r6;subst r6;rw[ba]at r2;refine⟨p0,g1,s1,g5.keep (da.block _ g5.lt aM),p3,r1,m,r5,λhe w4 dR=>⟨?_,((cw.cn cA).cn da).cn dR⟩,λhe w5 fe=>⟨x0.length-(j+1),aE,j+1,aE,aad,rfl,λq y hq hy=>?_,da.cn fe⟩⟩
   ·have he:m=x.op:=aaR
    subst he;have:=US cd (by rw[KH];exact bF r2);rw[bM,aR oy,this]
   rcases lP q j with hqj | hqj
   ·exact ia q y hqj hy
   have:q=j:=aE
   subst this;rw[r2]at hy;injection hy with hy;subst hy;simpa using he
  have nE:¬(j:Int)<(s1.n:Int):=aW nE;refine⟨6-(n+1),aE,n+1,aE,aad,rfl,λk hk=>?_,da⟩;rcases lP k n with Py | Py
  ·exact WO k Py
  have:k=n:=aE
  subst this;rw[KH];intro hm;obtain⟨q,hq⟩:=lc hm;exact ia q _ (by have:=(bd.1 hq).1;omega) hq rfl
 rw[bM];by_cases oy:x.k=5
 ·rw[aR oy];have:n=6:=by
   rw[oy]at hc;simp at hc;omega
  subst this;rw[Q4 WO]
 rw[aO oy]
theorem Ei:∀(d:Nat) {w:av} {F:aJ} {x:Ex} {cs:aI},(∀e,sZ e x)->rX d w F x cs->az aq 164 #[ah cs.toArray] w λe w'=>e=ak (aj (cf d x))/\ay [] w w'
 | 0,_,_,_,_,_,h=>h.elim
 | d+1,w,F,x,cs,hl,⟨sl,h1,h2⟩=>by
  subst h1;refine ret (aer _ _ _ _ _ _ _ _ ?_);intro k0 w0 iJ dV cw;have hn:=h2.len;have nD:=h2.cap;have pq:=h2.big;have Z1:x.s.length<4611686018427387903:=(hl 1).1;have hls:∀y,y∈x.dq->∀e,sZ e y:=λy hy e=>(hl (e+1)).2 y hy;have tP:∀{b:Bool},fH x=b->cf (d+1) x=(b&&iB (cf d) x.dq):=λe=>by rw[cf,e]
  refine⟨λnv i w'=>∃n:Nat,n<=x.dq.length/\i=(n:Int)/\nv=x.dq.length-n/\iB (cf d) x.dq=iB (cf d) (x.dq.drop n)/\ay [] w w'/\w0.heap.size<=w'.heap.size,x.dq.length,⟨0,bm _,rfl,rfl,rfl,cw,aY _⟩,?_⟩;rintro nv _ w1 ⟨n,Wm,rfl,rfl,fm,cA,z1⟩;refine⟨λcd=>?_,λnE=>?_⟩
  ·have cd:(n:Int)<(sl.n:Int):=aV cd;obtain⟨p,y,ds,g1,g2,g3,g4,g5,g6⟩:=(SliceF.only (ig d) aL h2 cA aM).get (bc n) cd;rw[ba]at g2;obtain⟨sy,rfl⟩:=jG g6;refine⟨p,g1,_,_,_,_,_,_,g5,(Ei d (hls y (bF g2)) g6).mono ?_⟩;rintro _ w2 ⟨rfl,cO⟩;have z2:=cO.size;have kP:=zX (f:=cf d) g2;refine⟨_,rfl,cO.same aae,λhb=>⟨?_,cA.cn cO⟩,λhb=>⟨x.dq.length-(n+1),aE,n+1,aE,aad,rfl,?_,cA.cn cO,aE⟩⟩
   ·have hb:cf d y=false:=aap
    rw[cf,fm,kP,hb,dk,fN]
   have hb:cf d y=true:=aap
   rw[fm,kP,hb,bS]
  have nE:¬(n:Int)<(sl.n:Int):=aW nE;have:n=x.dq.length:=aE
  subst this;rw[dj (aY _)]at fm;have qm:cf (d+1) x=fH x:=by
   rw[cf,fm];simp[iB]
  refine(oa w1 x.s Z1).mono ?_;rintro _ w3 ⟨rfl,da⟩;have nH:=cA.cn da;have z3:=da.size;have e0:((T x.s).toList==(ao #[]).toList)=decide (x.s=[]):=ju x.s [];rw[e0,hn];refine⟨_,rfl,da.same aae,λhk=>⟨?_,nH⟩,λhk=>⟨λb w'=>b=decide (x.k=2∨x.k=3)/\w'=w3,?_,λqw=>⟨?_,rfl⟩,λqw=>⟨?_,rfl⟩⟩⟩
  ·have hk:x.k=1:=aak
   rw[qm,fH,aR hk,Jo];congr 4;rw[bH];simp only[bC,dy];split<;>omega
  ·have ku:x.k≠1:=aak
   rintro _ _ ⟨rfl,rfl⟩;refine⟨λhb=>⟨?_,nH⟩,λhb=>⟨λsV=>⟨?_,nH⟩,λsV=>⟨λoy=>?_,λoy=>⟨?_,nH⟩⟩⟩⟩
   ·have hb:=aV hb;rw[qm,fH,aO ku,aR hb,Jo];have:decide (x.s=x.s)=true:=bE rfl;rw[this,cH];cases(x.n==0)<;>cases cN x.s<;>simp
   ·have hb:=aW hb;have sV:x.k=4:=aa7
    rw[qm,fH,aO ku,aO hb,aR sV,Jo];congr 3;rw[bH];simp only[ci,dy];split<;>omega
   ·have hb:=aW hb;have sV:x.k≠4:=aa7
    have oy:x.k=5:=acw
    have hh5:fH x=(!(eE x.op==6)&&Jo 0 [] x.op 2 x):=by rw[fH,aO ku,aO hb,aO sV,aR oy]
    have eop:(x.op==x.op)=true:=beq_self_eq_true _;refine⟨λb w'=>b=fH x/\ay [] w w',?_,λhc=>(uR (d:=d+1) (F:=F) (x:=x) ⟨sl,rfl,SliceF.only (ig d) aL h2 nH aM⟩).mono ?_,λhc=>⟨?_,nH⟩⟩
    ·rintro _ _ ⟨rfl,h⟩;exact⟨qm.symm▸rfl,h⟩
    ·rintro _ w6 ⟨rfl,ez⟩;refine⟨_,rfl,ez.same aae,?_,nH.cn ez⟩;rw[hh5,Jo,hc,eop,cH,bS,bM,aR oy];congr 1;rw[bH];simp only[bC,cP,Cx];have:eE x.op<=6:=by
      unfold eE;split
      ·omega
      split
      ·omega
      split
      ·omega
      split
      ·omega
      split
      ·omega
      split
      ·omega
      omega
     omega
    rw[hh5,Jo,hc,dk,dk,fN]
   have hb:=aW hb;have sV:x.k≠4:=aa7
   have oy:x.k≠5:=acw
   rw[qm,fH,aO ku,aO hb,aO sV,aO oy]
  ·have qw:x.k=2:=acx
   rw[qw];rfl
  have qw:x.k≠2:=acx
  rw[bH];simp[qw]
def vL(d:Nat)(x:Ex):Bool:=decide (ld d x≠[])
theorem ZG(l m:aH):T l++T m=T (l++m):=by
 apply ByteArray.ext;simp[T]
theorem Q5(w:av){n:Int}(h0:0<=n)(h1:n<=9223372036854775807):az aq 118 #[O U n] w λe w'=>e=ak (.int .u64 n)/\w'=w:=by
 refine ret (YW _ _ _ ?_);refine⟨λhc=>absurd (aV hc) aE,λ_=>⟨?_,rfl⟩⟩;have:ar .u64 n=n:=by
  have e:ar .u64 n=n % 18446744073709551616:=rfl;rw[e];omega
 rw[this]
theorem pX(u:Nat)(h:u<=18446744073709551615):(Lib.decDigits u).length<=40:=by
 have key:∀(k u:Nat),u<10 ^ (k+1)->(Lib.decDigits u).length<=k+1:=by
  intro k
  induction k with
  | zero=>intro u hu;rw[mQ (by simpa using hu)];simp
  | succ k ih=>
   intro u hu;by_cases tV:u<10
   ·rw[mQ tV];simp
   rw[pf tV,aN,bp];have:=ih (u/10) (by rw[Nat.div_lt_iff_lt_mul aL];rw[Nat.pow_succ]at hu;exact hu);omega
 have:=key 19 u (by have:(10:Nat) ^ (19+1)=100000000000000000000:=aL;omega);omega
theorem Ao:∀(u:Nat) (w:av),u<=18446744073709551615->az aq 117 #[.int .u64 (u:Int)] w λe w'=>e=ak (ab (T (if u=0 then[]else Lib.decDigits u)))/\ay [] w w':=by
 intro u
 induction u using Nat.strongRecOn with
 | _ u ih=>
  intro w hu;refine ret (aev _ _ _ ?_);refine⟨λhc=>?_,λhc=>⟨λs w'=>s=T (Lib.decDigits u)/\ay [] w w',λs w' h=>?_,λw1 cA=>⟨λk=>w1.heap.size<=k,?_,?_⟩⟩⟩
  ·have hc:u=0:=by
    have:(u:Int)=0:=aaf
    omega
   rw[aR hc];exact⟨rfl,Only.refl _ _⟩
  ·have hc:u≠0:=λe=>ab0
   rw[aO hc,h.1];exact⟨rfl,h.2⟩
  all_goals
   have hc:u≠0:=λe=>ab0
   have wu:∀m:Nat,m<=18446744073709551615->ar .u64 (m:Int)=(m:Int):=λm hm=>by
    have e:ar .u64 (m:Int)=(m:Int) % 18446744073709551616:=rfl;rw[e];omega
   have e1:ar .u64 ((u:Int).tdiv 10)=((u/10:Nat):Int):=by
    have:(u:Int).tdiv 10=((u/10:Nat):Int):=by
     rw[Int.tdiv_eq_ediv_of_nonneg (bc u)];rfl
    rw[this,wu _ aE]
   have hm:(UInt8.ofNat (48+u % 10)).toNat=48+u % 10:=uI (Nat.mod_lt _ aL);have e2:ar .u8 (ar .u64 (48+((u:Int).tmod 10)))=((UInt8.ofNat (48+u % 10)).toNat:Int):=by
    have h1:(48+((u:Int).tmod 10))=((48+u % 10:Nat):Int):=by
     rw[Int.tmod_eq_emod_of_nonneg (bc u)];omega
    rw[h1,wu _ aE,hm];have e:ar .u8 ((48+u % 10:Nat):Int)=((48+u % 10:Nat):Int) % 256:=rfl;rw[e];omega
   have e3:T (if u/10=0 then[]else Lib.decDigits (u/10))++T [UInt8.ofNat (48+u % 10)]=T (Lib.decDigits u):=by
    rw[ZG];by_cases tV:u<10
    ·rw[aR aE,mQ tV,cp];congr 3;omega
    rw[aO aE,<-pf tV]
   have eu:(if u/10=0 then[]else Lib.decDigits (u/10)).length<=100:=by
    split
    ·simp
    have:=pX (u/10) aE;omega
   rw[e1,e2]
  ·refine(ih (u/10) aE w1 aE).mono ?_;rintro _ w2 ⟨rfl,cO⟩;obtain⟨y,w3,k1,k2,k3,_⟩:=pL w2 [UInt8.ofNat (48+u % 10)] (n:=1) (parts:=#[(0,.int .u8 ((UInt8.ofNat (48+u % 10)).toNat:Int))]) rfl rfl aL aL;refine⟨_,rfl,bR.only cO,y,w3,k1,bR.only k3,[UInt8.ofNat (48+u % 10)],(SliceF.bytes (um k2)).rd,?_,e3,(cA.cn cO).cn k3⟩;have:(ao [UInt8.ofNat (48+u % 10)].toArray).size=1:=rfl;rw[bO];omega
  obtain⟨y,w4,k1,k2,k3,ka⟩:=pL w1 [UInt8.ofNat (48+u % 10)] (n:=1) (parts:=#[(0,.int .u8 ((UInt8.ofNat (48+u % 10)).toNat:Int))]) rfl rfl aL aL;refine⟨y,w4,k1,bR.only k3,[UInt8.ofNat (48+u % 10)],λp hp=>?_,(SliceF.bytes (um k2)).rd,(ih (u/10) aE w4 aE).mono ?_⟩
  ·rw[ka]at hp;injection hp with hp;subst hp;exact aY _
  rintro _ w5 ⟨rfl,fe⟩;refine⟨_,rfl,bR.only fe,?_,e3,(cA.cn k3).cn fe⟩;have:(ao [UInt8.ofNat (48+u % 10)].toArray).size=1:=rfl;rw[bO];omega
theorem Nn(w:av){n:Int}(h0:0<=n)(h1:n<=9223372036854775807):az aq 67 #[O U n] w λe w'=>e=ak (ab (T (Lib.itoa n)))/\ay [] w w':=by
 refine ret (YV _ _ _ ?_);refine⟨λhc=>?_,λhc=>⟨λabK=>absurd (aV abK) aE,λ_=>(Q5 w h0 h1).mono ?_⟩⟩
 ·have hc:n=0:=aaf
  subst hc;rw[ml (ix _),Int.toNat_zero,mQ aL];exact⟨rfl,Only.refl _ _⟩
 have hc:n≠0:=aaf
 rintro _ w2 ⟨rfl,rfl⟩;obtain⟨u,rfl⟩:∃u:Nat,n=(u:Int):=⟨n.toNat,aE⟩
 refine⟨_,rfl,(Ao u _ aE).mono ?_⟩;rintro _ w3 ⟨rfl,da⟩;refine⟨_,rfl,?_,da⟩;rw[aO aE,ml h0,ba]
def mC(l m:aH):aH:=if l.length<=16384 then l++m else l
def qv(wr:Bool)(l:aH):aH:=if wr then mC l [40]else l
def ry(wr:Bool)(l:aH):aH:=if wr then mC l [41]else l
def th:Nat->Ex->aH->aH
 | 0,_,l=>l
 | d+1,x,l=>if 16384<l.length then l else
  if x.k=1 then mC l (Lib.itoa x.n)
  else if x.k=2 then mC l x.s
  else if x.k=3 then mC l ([105,110,40]++x.s++[41])
  else if x.k=4 then(match x.dq with
   | [y]=>ry (y.k==5) (th d y (qv (y.k==5) (mC l (dl x.op.toNat))))
   | _=>l)
  else(match x.dq with
   | [y,z]=>ry (decide (bM z<=bM x)) (th d z (qv (decide (bM z<=bM x)) (mC (ry (decide (bM y<bM x)) (th d y (qv (decide (bM y<bM x)) l))) ([32]++dl x.op.toNat++[32]))))
   | _=>l)
def kN(l t r:aH):Prop:=(l.length+t.length<=16384->r=l++t)/\(16384<l.length+t.length->16384<r.length)
theorem kN.put(l m:aH):kN l m (mC l m):=by
 unfold mC;refine⟨λh=>by rw[aR aE],λh=>?_⟩;by_cases hl:l.length<=16384
 ·rw[aR hl,aN];omega
 rw[aO hl];omega
theorem kN.trans{l t r t' r':aH}(h:kN l t r)(k:kN r t' r'):kN l (t++t') r':=by
 refine⟨λhh=>?_,λhh=>?_⟩
 ·rw[aN]at hh;have e:=h.1 aE;rw[e]at k;rw[k.1 aaG,bf]
 rw[aN]at hh;by_cases h1:l.length+t.length<=16384
 ·have e:=h.1 h1;refine k.2 ?_;rw[e,aN];omega
 have:=h.2 aE;exact k.2 aE
theorem kN.refl(l:aH):kN l [] l:=⟨λ_=>aM,λh=>aat⟩
theorem kN.long{l t:aH}(h:16384<l.length):kN l t l:=⟨λhh=>aE,λ_=>h⟩
theorem kN.opn(wr:Bool)(l:aH):kN l (if wr then[40]else[]) (qv wr l):=by
 cases wr with
 | true=>exact kN.put _ _
 | false=>exact kN.refl _
theorem kN.clo(wr:Bool)(l:aH):kN l (if wr then[41]else[]) (ry wr l):=by
 cases wr with
 | true=>exact kN.put _ _
 | false=>exact kN.refl _
theorem Q6(d:Nat)(x:Ex)(wr:Bool):jY (d+1) x wr=(if wr then[40]else[])++(jY (d+1) x false++(if wr then[41]else[])):=by
 unfold jY;cases wr with
 | true=>simp[clo,opn]
 | false=>simp[clo,opn]
theorem Np{d:Nat}{x:Ex}(h:cf d x=true)(wr:Bool):jY d x wr=(if wr then[40]else[])++(jY d x false++(if wr then[41]else[])):=by
 cases d with
 | zero=>cases h
 | succ d=>exact Q6 d x wr
theorem ZH{d:Nat}{y:Ex}(h:cf d y=true):decide (bM y<6)=(y.k==5):=by
 cases d with
 | zero=>cases h
 | succ d=>
  rw[cf,aP]at h;rw[bH];simp only[bC,dy];constructor
  ·intro hh;refine bD λhn=>?_;rw[bM,aO hn]at hh;omega
  intro hh;obtain⟨_,y',z',_,o1,o2⟩:=nf h.1 aE aE aE aE;rw[bM,aR hh];have:=(xh o1 o2).2;omega
theorem F5:∀(d:Nat) {x:Ex} (l:aH),cf d x=true->kN l (jY d x false) (th d x l)
 | 0,x,l,h=>aah
 | d+1,x,l,h=>by
  rw[cf,aP]at h;obtain⟨hh,ha⟩:=h;have e:jY (d+1) x false=(
  if x.k=1 then Lib.itoa x.n
  else if x.k=2 then x.s
  else if x.k=3 then[105,110,40]++x.s++[41]
  else if x.k=4 then(match x.dq with
   | [y]=>dl x.op.toNat++jY d y (decide (bM y<6))
   | _=>[])
  else(match x.dq with
   | [y,z]=>jY d y (decide (bM y<bM x))++([32]++dl x.op.toNat++[32])++jY d z (decide (bM z<=bM x))
   | _=>[])):=rfl
  rw[th];by_cases hl:16384<l.length
  ·rw[aR hl];exact kN.long hl
  rw[aO hl,e];have part:∀{y:Ex} (wr:Bool) (l:aH),cf d y=true->kN l (jY d y wr) (ry wr (th d y (qv wr l))):=fun{y} wr l hy=>by
   rw[Np hy wr];exact(kN.opn wr l).trans ((F5 d _ hy).trans (kN.clo wr _))
  by_cases k1:x.k=1
  ·rw[aR k1,aR k1];exact kN.put _ _
  by_cases k2:x.k=2
  ·rw[aO k1,aO k1,aR k2,aR k2];exact kN.put _ _
  by_cases k3:x.k=3
  ·rw[aO k1,aO k1,aO k2,aO k2,aR k3,aR k3];exact kN.put _ _
  by_cases k4:x.k=4
  ·obtain⟨y,hy,_⟩:=qV hh k4;rw[aO k1,aO k1,aO k2,aO k2,aO k3,aO k3,aR k4,aR k4,hy];rw[hy]at ha;simp only[iB,cH]at ha;dsimp only;rw[ZH ha];exact(kN.put _ _).trans (part _ _ ha)
  obtain⟨_,y,z,hy,_⟩:=nf hh k1 k2 k3 k4;rw[aO k1,aO k1,aO k2,aO k2,aO k3,aO k3,aO k4,aO k4,hy];rw[hy]at ha;simp only[iB,cH,aP]at ha;exact((part _ _ ha.1).trans (kN.put _ _)).trans (part _ _ ha.2)
theorem UT{d:Nat}{x:Ex}(h:cf d x=true):∀(wr:Bool) (l:aH),l.length+(jY d x wr).length<=16384->mF d x wr l=l++jY d x wr:=by
 induction d generalizing x with
 | zero=>cases h
 | succ d ih=>
  intro wr l eu;rw[cf,aP]at h;obtain⟨hh,ha⟩:=h;have hc:¬16384<l.length:=aE
  rw[mF,aO hc];rw[jY]at eu⊢;rw[<-MF];have nE:=FU wr (opn wr []++(
  if x.k=1 then Lib.itoa x.n
  else if x.k=2 then x.s
  else if x.k=3 then[105,110,40]++x.s++[41]
  else if x.k=4 then(match x.dq with
   | [y]=>dl x.op.toNat++jY d y (decide (bM y<6))
   | _=>[])
  else(match x.dq with
   | [y,z]=>jY d y (decide (bM y<bM x))++([32]++dl x.op.toNat++[32])++jY d z (decide (bM z<=bM x))
   | _=>[])))
  have tU:=bh (Nat.add_le_add_left nE l.length) eu;clear nE eu;congr 1;by_cases k1:x.k=1
  ·rw[aR k1,aR k1,lJ wr l,bf]
  by_cases k2:x.k=2
  ·rw[aO k1,aO k1,aR k2,aR k2,lJ wr l,bf]
  by_cases k3:x.k=3
  ·rw[aO k1,aO k1,aO k2,aO k2,aR k3,aR k3,lJ wr l,bf]
  by_cases k4:x.k=4
  ·obtain⟨y,hy,_⟩:=qV hh k4;rw[aO k1,aO k2,aO k3,aR k4,hy]at tU;rw[aO k1,aO k1,aO k2,aO k2,aO k3,aO k3,aR k4,aR k4,hy];rw[hy]at ha;dsimp only at tU⊢;simp only[iB,cH]at ha;simp only[aN]at tU;rw[ih ha _ _ abk,lJ wr l];simp only[bf]
  obtain⟨_,y,z,hy,_⟩:=nf hh k1 k2 k3 k4;rw[aO k1,aO k2,aO k3,aO k4,hy]at tU;rw[aO k1,aO k1,aO k2,aO k2,aO k3,aO k3,aO k4,aO k4,hy];rw[hy]at ha;dsimp only at tU⊢;simp only[iB,cH,aP]at ha;simp only[aN]at tU;have e1:mF d y (decide (bM y<bM x)) (opn wr l)=opn wr l++jY d y (decide (bM y<bM x)):=ih ha.1 _ _ abk;rw[e1,ih ha.2 _ _ abk,lJ wr l];simp only[bf]
theorem JM{d:Nat}{x:Ex}(hs:cf d x=true)(hn:jz d x):ld d x=(if 16384<(th d x []).length∨(fi (th d x [])).2.1≠0 then[]else th d x [])/\((fi (th d x [])).2.1=0->(th d x []).length<=16384->th d x []=mF d x false []):=by
 have hr:=F5 d (x:=x) [] hs;unfold kN at hr;rw[aZ,bI,cp]at hr;have long:∀l:aH,16384<l.length->(fi l).2.1≠0:=λl h=>by
  have:ch l=([],2, -1):=by rw[ch,aR h]
  unfold fi;rw[this,aR aL];exact(by decide:(2:Int)≠0)
 by_cases ht:(jY d x false).length<=16384
 ·have e1:=hr.1 ht;have e2:mF d x false []=jY d x false:=by
   have:=UT hs false [] (by rw[aZ];omega);rwa[cp]at this
  rw[e1,ld,aR hs,e2];refine⟨?_,λ_ _=>rfl⟩;by_cases hc:(fi (jY d x false)).2.1≠0
  ·rw[aR hc,aR (.inr hc)]
  rw[aO hc,aO (by rintro(h | h);omega;exact hc h)]
 have h1:=hr.2 aE;have h2:16384<(mF d x false []).length:=by
  refine bD λhn=>?_;have:=Ah d false [] hs aE;rw[cp]at this;rw[this]at hn;omega
 refine⟨?_,λ_ h=>aE⟩;rw[aR (.inl h1),ld,aR hs,aR (long _ h2)]
theorem pY(l m:aH){K:Nat}(hm:m.length<=40)(hl:l.length<=K)(hK:16424<=K):(mC l m).length<=K:=by
 unfold mC;split
 ·rw[aN];omega
 exact hl
theorem vM(wr:Bool)(l:aH){K:Nat}(hl:l.length<=K)(hK:16424<=K):(qv wr l).length<=K:=by
 cases wr with
 | true=>exact pY _ _ aL hl hK
 | false=>exact hl
theorem BU(wr:Bool)(l:aH){K:Nat}(hl:l.length<=K)(hK:16424<=K):(ry wr l).length<=K:=by
 cases wr with
 | true=>exact pY _ _ aL hl hK
 | false=>exact hl
theorem Ej:∀(d:Nat) {x:Ex} (l:aH) {K:Nat},cf d x=true->jz d x->l.length<=K->16424<=K->(th d x l).length<=K
 | 0,x,l,K,h,_,_,_=>aah
 | d+1,x,l,K,h,⟨hn,hs⟩,hl,hK=>by
  rw[cf,aP]at h;obtain⟨hh,ha⟩:=h;rw[th];split
  ·exact hl
  split
  ·exact pY _ _ (by have:=Lib.itoa_length_le x.n hn.1 hn.2;omega) hl hK
  split
  ·rename_i hk;exact pY _ _ (by have:=fT (iV hh (.inl hk));omega) hl hK
  split
  ·rename_i hk;refine pY _ _ ?_ hl hK;have:=fT (iV hh (.inr hk));rw[aN,aN];simp only[aU,aZ];omega
  split
  ·rename_i hk;obtain⟨y,hy,_⟩:=qV hh hk;rw[hy]at ha hs⊢;simp only[iB,cH]at ha;have:=jW x.op.toNat;exact BU _ _ (Ej d _ ha (hs y aM) (vM _ _ (pY _ _ aE hl hK) hK) hK) hK
  rename_i k1 k2 k3 k4;obtain⟨hk,y,z,hy,_⟩:=nf hh k1 k2 k3 k4;rw[hy]at ha hs⊢;simp only[iB,cH,aP]at ha;have:=jW x.op.toNat;exact BU _ _ (Ej d _ ha.2 (hs z aM) (vM _ _ (pY _ _ (by rw[aN,aN];simp only[aU,aZ];omega) (BU _ _ (Ej d _ ha.1 (hs y aM) (vM _ _ hl hK) hK) hK) hK) hK) hK) hK
structure Pq (w:av) (b:Nat) (sl:Sl) (l:aH):Prop where
 blk:aF w b 221 [sl.v]
 buf:Bf w (b+1) sl l
section
variable {w w0 w1 w2 w':av} {b k0:Nat} {sl gq Ka:Sl} {l:aH}
theorem Pq.only(h:Pq w b sl l)(hO:ay [] w w'):Pq w' b sl l:=⟨hO.blk h.blk aM,h.buf.keep λg _ hl=>hO.block g hl aM⟩
theorem Pq.lb(h:Pq w b sl l):b<w.heap.size:=h.blk.lt
theorem iI.sm(M:iI b sl w0 gq w1)(h1:k0≠b)(h2:sl.a≠some ⟨k0,0,none⟩)(h3:k0<w0.heap.size)(S:iI b gq w1 Ka w2):cb [k0] w1 w2:=S.same h1 (λe=>by
 rcases M.2 k0 e with e | e
 ·exact h2 e
 omega) (by have:=M.1.size;omega)
theorem Pq.NE(h:Pq w0 b sl l){k:Nat}(hk:k<b):¬(k=b∨sl.a=some ⟨k,0,none⟩):=by
 rintro(e | e)
 ·omega
 have:=(h.buf.lt e).1;omega
theorem iI.kp(M:iI b sl w0 gq w1)(h:Pq w0 b sl l)(h1:k0≠b)(h2:sl.a≠some ⟨k0,0,none⟩)(h3:k0<w0.heap.size)(S:iI b gq w1 Ka w2):bR (λk=>k<b∨k=k0) w1 w2:=λk hk cd=>S.1.block k cd λhh=>by
 have hb:=h.lb;rcases hk with hk | rfl
 ·rcases hh with e | e
  ·omega
  rcases M.2 k e with e | e
  ·exact h.NE hk (.inr e)
  omega
 rcases hh with e | e
 ·exact h1 e
 rcases M.2 k e with e | e
 ·exact h2 e
 omega
theorem wl(h:Pq w b sl l)(m:aH)(hm:l.length+m.length<=140737488355328):az aq 196 #[ae (some ⟨b,0,none⟩),ab (T m)] w λe w'=>∃gq,e=ak (ai #[])/\Pq w' b gq (mC l m)/\iI b sl w gq w':=by
 refine(aew ⟨b,0,none⟩ (T m) (λv w'=>∃gq,v=ai #[]/\Pq w' b gq (mC l m)/\iI b sl w gq w') w ?_).mono (by
  rintro e w' ⟨v,rfl,s,rfl,h⟩;exact⟨s,rfl,h⟩)
 have hn:=h.buf.len;have hb:=h.lb;refine⟨sl,Blk.eo h.blk 0 rfl,λhc=>?_,λhc=>⟨sl,rfl,?_,iI.refl _ _ _⟩⟩
 ·have hc:l.length<=16384:=aan
  obtain⟨s',w1,k1,k2,k3,k4⟩:=xb h.buf m aE hm;have pv:=k3.blk h.blk λe=>by have:=(h.buf.lt e).1;omega
  have AA:∀g,s'.a=some ⟨g,0,none⟩->b<g:=λg hg=>by
   rcases k4 with e | e
   ·rw[e]at hg;exact(h.buf.lt hg).1
   rw[e]at hg;injection hg with hg;injection hg with hg;omega
  refine⟨sl,Blk.eo h.blk 0 rfl,s',w1,k1,b,0,_,_,rfl,pv,aM,λw2 cO kQ=>⟨s',rfl,⟨kQ,?_⟩,?_,?_⟩⟩
  ·rw[mC,aR hc];exact k2.keep λg hg hl=>cO.block g hl abh
  ·exact(k3.mono λk _ hk=>.inr hk).trans (cO.p (F:=λk=>k=b) λx hx=>.inl aas) λk hk=>.inl (.inl hk)
  intro k hk;rcases k4 with e | e
  ·rw[e]at hk;exact .inl hk
  rw[e]at hk;injection hk with hk;injection hk with hk;exact .inr aE
 have hc:¬l.length<=16384:=aao
 rw[mC,aO hc];exact h
end
abbrev RgC(d:Nat):Prop:=∀{F:aJ} {w:av} {b:Nat} {sl:Sl} {l:aH} {x:Ex} {cs:aI},cf d x=true->jz d x->rX d w F x cs->(∀k,F k->k<b)->Pq w b sl l->l.length<=16424->
 az aq 165 #[ae (some ⟨b,0,none⟩),ah cs.toArray] w λe w'=>∃gq,e=ak (ai #[])/\Pq w' b gq (th d x l)/\iI b sl w gq w'
theorem BW{d:Nat}(hR:RgC d){F:aJ}{w:av}{b:Nat}{sl:Sl}{l:aH}{x:Ex}{cs:aI}(wr:Bool)(hs:cf d x=true)(hn:jz d x)(hx:rX d w F x cs)(hF:∀k,F k->k<b)(hP:Pq w b sl l)(hl:l.length<=16424):
  az aq 197 #[ae (some ⟨b,0,none⟩),ah cs.toArray,aj wr] w λe w'=>∃gq,e=ak (ai #[])/\Pq w' b gq (ry wr (th d x (qv wr l)))/\iI b sl w gq w':=by
 obtain⟨xs,rfl⟩:=jG hx;refine(aex ⟨b,0,none⟩ x.k x.n (T x.s) x.op xs x.a wr (λv w'=>∃gq,v=ai #[]/\Pq w' b gq (ry wr (th d x (qv wr l)))/\iI b sl w gq w') w ?_).mono (by
  rintro e w' ⟨v,rfl,s,rfl,h⟩;exact⟨s,rfl,h⟩)
 intro k0 w0 iJ dV cw;have hb:=hP.lb;have E1:=hP.only cw;have o1:k0≠b:=aE
 have o2:sl.a≠some ⟨k0,0,none⟩:=λe=>aaJ
 have hrl:=λl' h=>Ej d (x:=x) l' (K:=16424) hs hn h (aY _);refine⟨λw1=>∃Xs,Pq w1 b Xs (qv wr l)/\iI b sl w0 Xs w1,?_,λhw=>(wl E1 [40] ack).mono ?_,λhw=>⟨sl,by rw[hw];exact E1,iI.refl _ _ _⟩⟩
 ·rintro w1 ⟨Xs,h1,m1⟩;refine(hR hs hn ((ig d).keep (fy hx cw) λk hk cd=>m1.1.block k cd (E1.NE (hF k hk))) hF h1 (vM _ _ hl (aY _))).mono ?_;rintro _ w2 ⟨Ob,rfl,h2,m2⟩;refine⟨rfl,m1.sm o1 o2 dV m2,λhw=>(wl h2 [41] (by have:=hrl _ (vM wr l hl (aY _));rw[bp];omega)).mono ?_,λhw=>⟨Ob,rfl,?_,(m1.trans m2).after cw⟩⟩
  ·rintro _ w3 ⟨sl3,rfl,h3,m3⟩;refine⟨rfl,(m1.trans m2).sm o1 o2 dV m3,sl3,rfl,?_,((m1.trans m2).trans m3).after cw⟩;unfold ry;rw[aR hw];exact h3
  unfold ry;rw[aO acb];exact h2
 rintro _ w4 ⟨VT,rfl,h4,m4⟩;refine⟨rfl,(iI.refl b sl w0).sm o1 o2 dV m4,VT,?_,m4⟩;unfold qv;rw[aR hw];exact h4
theorem Nq{k j:Nat}{op:Int}(hk:k<6)(h:((dU[k]?).getD [])[j]? =some op):((mG[k]?).getD [])[j]? =some (dl op.toNat):=by
 have hj:j<4:=by
  have h1:=(bd.1 h).1;have h2:∀k,k<6->((dU[k]?).getD []).length<=4:=aL
  have:=h2 k hk;omega
 have fm:∀k,k<6->∀j,j<4->∀o,((dU[k]?).getD [])[j]? =some o->((mG[k]?).getD [])[j]? =some (dl o.toNat):=by
  intro k hk j hj o ho
  match k,hk,j,hj with
  | 0,_,0,_=>simp[dU]at ho;subst ho;rfl
  | 0,_,j+1,_=>simp[dU]at ho
  | 1,_,0,_=>simp[dU]at ho;subst ho;rfl
  | 1,_,j+1,_=>simp[dU]at ho
  | 2,_,0,_=>simp[dU]at ho;subst ho;rfl
  | 2,_,1,_=>simp[dU]at ho;subst ho;rfl
  | 2,_,j+2,_=>simp[dU]at ho
  | 3,_,0,_=>simp[dU]at ho;subst ho;rfl
  | 3,_,1,_=>simp[dU]at ho;subst ho;rfl
  | 3,_,2,_=>simp[dU]at ho;subst ho;rfl
  | 3,_,3,_=>simp[dU]at ho;subst ho;rfl
  | 4,_,0,_=>simp[dU]at ho;subst ho;rfl
  | 4,_,1,_=>simp[dU]at ho;subst ho;rfl
  | 4,_,j+2,_=>simp[dU]at ho
  | 5,_,0,_=>simp[dU]at ho;subst ho;rfl
  | 5,_,1,_=>simp[dU]at ho;subst ho;rfl
  | 5,_,2,_=>simp[dU]at ho;subst ho;rfl
  | 5,_,j+3,_=>simp[dU]at ho
 exact fm k hk j hj op h
theorem F6{k:Nat}(hk:k<6):((dU[k]?).getD []).Nodup:=by
 have:∀k,k<6->((dU[k]?).getD []).Nodup:=aL
 exact this k hk
theorem Nr{op:Int}(h1:1<=op)(h2:op<=13):op∈(dU[(eE op).toNat]?).getD []:=by
 have:∀n:Nat,n<14->1<=n->((n:Int))∈(dU[(eE (n:Int)).toNat]?).getD []:=aL
 have:=this op.toNat aE aE;rwa[fO aE]at this
theorem xj:∀d,RgC d
 | 0,_,_,_,_,_,_,_,_,_,h,_,_,_=>h.elim
 | d+1,F,w,b,sl,l,x,cs,qm,⟨Pn,Po⟩,⟨xs,h1,h2⟩,hF,hP,eu=>by
  subst h1;refine(aeu ⟨b,0,none⟩ x.k x.n (T x.s) x.op xs x.a (λv w'=>∃gq,v=ai #[]/\Pq w' b gq (th (d+1) x l)/\iI b sl w gq w') w ?_).mono (by
   rintro e w' ⟨v,rfl,s,rfl,h⟩;exact⟨s,rfl,h⟩)
  rw[cf,aP]at qm;obtain⟨hh,ha⟩:=qm;intro k0 w0 iJ dV cw;have hb:=hP.lb;have E1:=hP.only cw;have xq:=SliceF.only (ig d) aL h2 cw aM;have o1:k0≠b:=aE
  have o2:sl.a≠some ⟨k0,0,none⟩:=λe=>aaJ
  have hbn:=hP.buf.len;have rf:=iI.refl b sl w0;have sub:∀{w1:av} {Xs:Sl} {i:Nat} {y:Ex},iI b sl w0 Xs w1->x.dq[i]? =some y->∃ad sy,dN xs (i:Int) 6 ad/\ad.block<b/\aB w1 ad (kD y.k y.n y.s y.op sy y.a)/\rX d w1 F y (kD y.k y.n y.s y.op sy y.a):=fun{w1 Xs i y} m1 hy=>by
   have hS:=SliceF.Aw (ig d) aL xq m1.1 λk hk _=>E1.NE (hF k hk);have hn:=hS.len;have cd:=(bd.1 hy).1;obtain⟨ad,y',cs,g1,g2,g3,g4,g5,g6⟩:=hS.get (bc i) aE;rw[ba,hy]at g2;injection g2 with g2;subst g2;obtain⟨sy,rfl⟩:=jG g6;exact⟨ad,sy,g1,hF _ g3,g5,g6⟩
  refine⟨sl,Blk.eo E1.blk 0 rfl,λhc=>⟨sl,rfl,?_,iI.only cw⟩,λhc=>?_⟩
  ·rw[th,aR aan];exact E1
  have hc:¬16384<l.length:=aao
  have hrg:th (d+1) x l=(if x.k=1 then mC l (Lib.itoa x.n)
  else if x.k=2 then mC l x.s
  else if x.k=3 then mC l ([105,110,40]++x.s++[41])
  else if x.k=4 then(match x.dq with
   | [y]=>ry (y.k==5) (th d y (qv (y.k==5) (mC l (dl x.op.toNat))))
   | _=>l)
  else(match x.dq with
   | [y,z]=>ry (decide (bM z<=bM x)) (th d z (qv (decide (bM z<=bM x)) (mC (ry (decide (bM y<bM x)) (th d y (qv (decide (bM y<bM x)) l))) ([32]++dl x.op.toNat++[32]))))
   | _=>l)):=by rw[th,aO hc]
  refine⟨λhk=>?_,λk1=>⟨λhk=>?_,λk2=>⟨λhk=>⟨?_,?_,?_⟩,λk3=>⟨λhk=>?_,λk4=>⟨λ_=>?_,λk5=>?_⟩⟩⟩⟩⟩
  ·have hk:x.k=1:=aak
   have h0:0<=x.n:=by
    rw[fH,aR hk]at hh;have:=(qU hh).1;split at this<;>omega
   refine(Nn w0 h0 Pn.2).mono ?_;rintro _ w1 ⟨rfl,cA⟩;have hl:=Lib.itoa_length_le x.n Pn.1 Pn.2;refine⟨_,rfl,cA.same aae,(wl (E1.only cA) (Lib.itoa x.n) aE).mono ?_⟩;rintro _ w2 ⟨Ob,rfl,NZ,tq⟩;exact⟨rfl,(iI.only cA).sm o1 o2 dV tq,Ob,rfl,by rw[hrg,aR hk];exact NZ,(tq.after cA).after cw⟩
  ·have hk:x.k=2:=aak
   have k1:x.k≠1:=aE
   have hl:=fT (iV hh (.inl hk));refine(wl E1 x.s aE).mono ?_;rintro _ w2 ⟨Ob,rfl,NZ,tq⟩;exact⟨rfl,rf.sm o1 o2 dV tq,Ob,rfl,by rw[hrg,aO k1,aR hk];exact NZ,tq.after cw⟩
  ·have hk:x.k=3:=aak
   have hl:=fT (iV hh (.inr hk));rw[bO];omega
  ·have hk:x.k=3:=aak
   have hl:=fT (iV hh (.inr hk));rw[WE];have:(ao #[105,110,40]).size=3:=rfl;omega
  ·have hk:x.k=3:=aak
   have hl:=fT (iV hh (.inr hk));have tU:([105,110,40]++x.s++[41]:aH).length=x.s.length+4:=by
    rw[aN,aN];simp only[aU,aZ];omega
   rw[inb];refine(wl E1 _ aE).mono ?_;rintro _ w2 ⟨Ob,rfl,NZ,tq⟩;exact⟨rfl,rf.sm o1 o2 dV tq,Ob,rfl,by rw[hrg,aO aE,aO aE,aR hk];exact NZ,tq.after cw⟩
  ·have hk:x.k=4:=aak
   obtain⟨y,hy,nI⟩:=qV hh hk;have Vy:cf d y=true:=aaB
   have zF:jz d y:=Po y aaM;have Oi:=jW x.op.toNat;have hrk:th (d+1) x l=ry (y.k==5) (th d y (qv (y.k==5) (mC l (dl x.op.toNat)))):=by rw[hrg,aO aE,aO aE,aO aE,aR hk,hy]
   refine⟨λw5=>∃CF,Pq w5 b CF (mC l (dl x.op.toNat))/\iI b sl w0 CF w5,?_,λho=>?_,λho=>?_⟩
   ·rintro w5 ⟨CF,h5,m5⟩;obtain⟨p1,sy,e1,e2,_,_⟩:=sub (i:=0) m5 aa6;refine⟨p1,e1,λw6 ez=>?_⟩;have m6:=m5.trans (iI.only ez);obtain⟨p1',sy',e1',e2',e3',e4'⟩:=sub (i:=0) m6 (y:=y) aa6;have:=dN.UZ e1' e1;subst this;refine⟨_,_,_,_,_,_,e3',p1',e1,y.k,e3'.eo 0 _ rfl,(BW (xj d) (y.k==5) Vy zF e4' hF (h5.only ez) (pY _ _ aE eu (aY _))).mono ?_⟩;rintro _ w7 ⟨sl7,rfl,h7,m7⟩;exact⟨rfl,m6.sm o1 o2 dV m7,sl7,rfl,by rw[hrk];exact h7,(m6.trans m7).after cw⟩
   ·have ho:x.op=14:=acu
    refine(wl E1 [45] ack).mono ?_;rintro _ w8 ⟨sl8,rfl,h8,m8⟩;exact⟨rfl,rf.sm o1 o2 dV m8,sl8,by rw[ho];exact h8,m8⟩
   have ho:x.op=15:=by
    have:x.op≠14:=acu
    omega
   refine(wl E1 [33] ack).mono ?_;rintro _ w8 ⟨sl8,rfl,h8,m8⟩;exact⟨rfl,rf.sm o1 o2 dV m8,sl8,by rw[ho];exact h8,m8⟩
  ·have k1:x.k≠1:=abL
   have k2:x.k≠2:=acy
   have k3:x.k≠3:=abM
   have k4:x.k≠4:=abP
   obtain⟨hk,y,z,hy,NY,Gf⟩:=nf hh k1 k2 k3 k4;have vT:cf d y=true/\cf d z=true:=aaB
   have zF:jz d y:=Po y aaM;have Ps:jz d z:=Po z aaM;have Oi:=jW x.op.toNat;have hlx:bM x=eE x.op:=by rw[bM,aR hk]
   obtain⟨r0,r5⟩:=xh NY Gf;have hrk:th (d+1) x l=ry (decide (bM z<=bM x)) (th d z (qv (decide (bM z<=bM x)) (mC (ry (decide (bM y<bM x)) (th d y (qv (decide (bM y<bM x)) l))) ([32]++dl x.op.toNat++[32])))):=by rw[hrg,aO k1,aO k2,aO k3,aO k4,hy]
   refine(uR (show rX (d+1) _ F x (kD x.k x.n x.s x.op xs x.a)from⟨xs,rfl,xq⟩)).mono ?_;rintro _ dz ⟨rfl,dL⟩;have z0:=cw.size;have IL:=dL.size;refine⟨_,rfl,dL.same aae,(F2 dz).mono ?_⟩;rintro _ dJ ⟨l2,rfl,hN,dW⟩;have ED:=dW.size;have m0:=hN.len;have m6:dU.length=6:=rfl;obtain⟨kr,Wg⟩:∃kr:Nat,bM x=(kr:Int):=⟨(bM x).toNat,aE⟩
   have abN:kr<6:=aE
   obtain⟨p2,x1,cs1,e1,e2,e3,e4,e5,l3,rfl,hM⟩:=(SliceF.inHeap (sC kL) hN aL).get (i:=bM x) aE aE;have hx1:(dU[kr]?).getD []=x1:=by
    rw[Wg,ba]at e2;rw[e2];rfl
   refine⟨l2,rfl,dW.same aae,p2,e1,l3,e5,λeM eJ=>?_⟩;have m12:iI b sl w0 sl eM:=iI.only ((dL.cn dW).cn eJ);have OB:=E1.only ((dL.cn dW).cn eJ);have ahT:=SliceF.only kL aL hM eJ aM;have z12:=eJ.size;obtain⟨p3,sy,f1,f2,f3,f4⟩:=sub (i:=0) m12 (y:=y) aa6;refine⟨λk=>k<b∨k=k0,.inr rfl,p3,f1,.inl f2,_,_,_,_,_,_,f3,p3,f1,_,_,_,_,_,_,f3,(uR f4).mono ?_⟩;rintro _ eW ⟨rfl,dD⟩;have S8:=dD.size;have m13:=m12.trans (iI.only dD);have hly:(qv (decide (bM y<bM x)) l).length<=16424:=vM _ _ eu (aY _);refine⟨_,rfl,dD.same aae,bR.only dD,(BW (xj d) (decide (bM y<bM x)) vT.1 zF (fy f4 dD) hF (OB.only dD) eu).mono ?_⟩;rintro _ fJ ⟨Kb,rfl,h14,m14⟩;have Wu:=m13.trans m14;have Xa:=m14.1.size;generalize hA:ry (decide (bM y<bM x)) (th d y (qv (decide (bM y<bM x)) l))=A at*
   have hAl:A.length<=16424:=by rw[<-hA];exact BU _ _ (Ej d _ vT.1 zF hly (aY _)) (aY _)
   have ahU:∀{ir:av} {EM:Sl},iI b Kb fJ EM ir->aA vI 1 ir (λk=>dz.heap.size<=k/\k<dJ.heap.size) l3 x1:=fun{ir EM} m15=>by
    have pq:iI b sl eM EM ir:=((iI.only dD).trans m14).trans m15;refine SliceF.Aw kL aL ahT pq.1 λk hk _ hh=>?_;rcases hh with e | e
    ·omega
    have:=(E1.buf.lt e).2;omega
   have t1:=hM.len;have t2:=hM.cap;have t3:=hM.big;refine⟨rfl,m13.sm o1 o2 dV m14,m13.kp E1 o1 o2 dV m14,λnv i ir=>∃(j:Nat) (EM:Sl),j<=x1.length/\i=(j:Int)/\nv=x1.length-j/\Pq ir b EM (if x.op∈x1.take j then mC A ([32]++dl x.op.toNat++[32])else A)/\iI b Kb fJ EM ir,x1.length,⟨0,Kb,bm _,rfl,rfl,by rw[dF,aO aM];exact h14,iI.refl _ _ _⟩,?_⟩;rintro nv _ ir ⟨j,EM,hj,rfl,rfl,Cj,m15⟩;have hnd:x1.Nodup:=hx1▸F6 abN;refine⟨λcd=>?_,λnE mr iL=>?_⟩
   ·have cd:(j:Int)<(l3.n:Int):=aV cd;obtain⟨p5,q,cs5,g1,g2,g3,g4,g5,g6⟩:=(ahU m15).get (bc j) cd;unfold vI at g6;subst g6;rw[ba]at g2;refine⟨λjD=>∃RM:Sl,Pq jD b RM (if x.op∈x1.take (j+1)then mC A ([32]++dl x.op.toNat++[32])else A)/\iI b Kb fJ RM jD,?_,p5,g1,q,g5,λhe iK jf=>(Na iK).mono ?_,λhe js kO=>⟨EM,?_,m15.trans (iI.only kO)⟩⟩
    ·rintro jD ⟨RM,h16,m16⟩;exact⟨x1.length-(j+1),aE,j+1,RM,aE,aad,rfl,h16,m16⟩
    ·have he:q=x.op:=aaR
     subst he;rintro _ jt ⟨l6,rfl,hRw,jP⟩;have n0:=hRw.len;have n6:mG.length=6:=rfl;obtain⟨p6,x6,cs6,u1,u2,u3,u4,u5,l7,rfl,hS⟩:=hRw.get (i:=bM x) aE aE;have hx6:(mG[kr]?).getD []=x6:=by
      rw[Wg,ba]at u2;rw[u2];rfl
     have hrn:=Nq (k:=kr) (j:=j) abN (by rw[hx1];exact g2);rw[hx6]at hrn;have v0:=hS.len;obtain⟨p7,s7,cs7,v1,v2,v3,v4,v5,v6⟩:=hS.get (i:=(j:Int)) (bc j) (by have:=(bd.1 hrn).1;omega);unfold jR at v6;subst v6;rw[ba,hrn]at v2;injection v2 with v2;subst v2;have yZ:(ao #[32]).size=1:=rfl;have m18:=m15.trans (iI.only (jf.cn jP));have tU:([32]++dl x.op.toNat++[32]:aH).length=(dl x.op.toNat).length+2:=by
      rw[aN,aN];simp only[aU,aZ];omega
     have ahW:x.op∉x1.take j:=λhm=>by
      obtain⟨jj,Xb⟩:=lc hm;rw[EN]at Xb;split at Xb
      ·rename_i RL;have:=(List.getElem?_inj aE hnd).1 (Xb.trans g2.symm);omega
      cases Xb
     rw[aO ahW]at Cj;refine⟨l6,rfl,jP.same (by
      have:=Wu.1.size;have:=m15.1.size;have:=jf.size;simp;omega),p6,u1,l7,u5,p7,v1,_,v5,aam,by rw[WE];omega,?_⟩
     rw[blb];refine(wl (Cj.only (jf.cn jP)) _ aE).mono ?_;rintro _ jS ⟨ahX,rfl,h19,m19⟩;refine⟨rfl,(Wu.trans m18).sm o1 o2 dV m19,ahX,?_,m18.trans m19⟩;rw[aR (by rw[bK,g2];simp)];exact h19
    have he:q≠x.op:=aaR
    have:(x.op∈x1.take (j+1))↔(x.op∈x1.take j):=by
     rw[bK,g2,cD];simp;intro e;exact absurd e.symm he
    simp only[this];exact Cj.only kO
   have nE:¬(j:Int)<(l3.n:Int):=aW nE;have:j=x1.length:=aE
   subst this;have KI:x.op∈x1.take x1.length:=by
    rw[bU (aY _)];have:=Nr NY Gf;rw[<-hlx,Wg,ba,hx1]at this;exact this
   rw[aR KI]at Cj;have m21:=(Wu.trans m15).trans (iI.only iL);obtain⟨p8,sz,f1,f2,f3,f4⟩:=sub (i:=1) m21 (y:=z) aa6;refine⟨λk=>k<b∨k=k0,.inr rfl,p8,f1,.inl f2,_,_,_,_,_,_,f3,p8,f1,_,_,_,_,_,_,f3,(uR f4).mono ?_⟩;rintro _ qc ⟨rfl,qx⟩;have m22:=m21.trans (iI.only qx);have z21:=m21.1.size;have tU:([32]++dl x.op.toNat++[32]:aH).length<=40:=by
    rw[aN,aN];simp only[aU,aZ];omega
   refine⟨_,rfl,qx.same aae,bR.only qx,(BW (xj d) (decide (bM z<=bM x)) vT.2 Ps (fy f4 qx) hF ((Cj.only iL).only qx) (pY _ _ tU hAl (aY _))).mono ?_⟩;rintro _ ql ⟨ahY,rfl,h23,m23⟩;exact⟨rfl,m22.sm o1 o2 dV m23,m22.kp E1 o1 o2 dV m23,ahY,rfl,by rw[hrk];exact h23,(m22.trans m23).after cw⟩
  have k1:x.k≠1:=abL
  have k2:x.k≠2:=acy
  have k3:x.k≠3:=abM
  have k4:x.k≠4:=abP
  have k5:x.k≠5:=by simpa using k5
  exact absurd (nf hh k1 k2 k3 k4).1 k5
theorem Bf.bytes{w:av}{B:Nat}{s:Sl}{l:aH}(h:Bf w B s l):qe w s l:=by
 rcases h with⟨rfl,rfl⟩ | ⟨g,tail,h1,h2,h3,h4,h5,h6,h7,h8⟩
 ·exact⟨rfl,λh=>absurd rfl h⟩
 exact⟨h5,λ_=>⟨⟨g,0,none⟩,h1,h3.cells 0 (l.map fG) λj v hj=>aaV⟩⟩
theorem Q7{d:Nat}{w:av}{F:aJ}{x:Ex}{cs:aI}(hx:rX d w F x cs)(hl:∀e,sZ e x)(hn:jz d x):
  az aq 120 #[ah cs.toArray] w λe w'=>e=ak (ai #[ab (T (ld d x)),aj (vL d x)])/\ay [] w w':=by
 obtain⟨xs,rfl⟩:=jG hx;refine ret (aeq _ _ _ _ _ _ _ _ ?_);intro k0 w0 iJ dV cw;have hxi:=(ig d).inHeap hx;refine(Ei d hl (fy hx cw)).mono ?_;rintro _ w1 ⟨rfl,cA⟩;have z0:=cw.size;have z1:=cA.size;have gK:=cw.cn cA;refine⟨_,rfl,cA.same aae,λhs=>?_,λhs k1 w2 ku jK cO kQ=>?_⟩
 ·have hs:cf d x=false:=acz
  rw[vL,ld,aO abn];exact⟨rfl,gK⟩
 have hs:cf d x=true:=acz
 have z2:=cO.size;have j6:=gK.cn cO;have hPq:Pq w2 k1 Sl.nil []:=⟨kQ,.inl ⟨rfl,rfl⟩⟩
 refine(xj d hs hn (fy hxi j6) (λk hk=>aaP) hPq aL).mono ?_;rintro _ w3 ⟨sl3,rfl,hp3,JU⟩;have z3:=JU.1.size;have da:ay [] w w3:=(j6.CA JU.1).only λk hk=>by
  rcases hk with rfl | e
  ·omega
  cases e
 obtain⟨Px,IT⟩:=JM hs hn;have ia:th d x []≠[]:=by
  intro e;obtain⟨c,t,h1,_⟩:=si d false hs hn;have hlw:=F5 d (x:=x) [] hs;by_cases eu:(jY d x false).length<=16384
  ·have:=hlw.1 (by rw[aZ];omega);rw[e,h1]at this;simp at this
  have:=hlw.2 (by rw[aZ];omega);rw[e]at this;simp at this
 generalize hG:th d x []=G at*
 refine⟨rfl,JU.same aE (λe=>abW) aE,sl3,hp3.blk,G,hp3.buf.bytes,(Q3 w3 G).mono ?_⟩;rintro _ w4 ⟨ys,rfl,hY,dR⟩;have z4:=dR.size;obtain⟨d2,W9⟩:=hY.ex;obtain⟨yl,rfl,_⟩:=hY.cells;have rD:=dR.blk hp3.blk aM;refine⟨_,_,_,_,_,_,_,_,rfl,dR.same aae,sl3,rD,λk2 k3 w5 qw vS J9 zA fe vd=>?_⟩;have z5:=fe.size;have yS:=(da.cn dR).cn fe;refine(L0 false d (fy hx yS) (fy W9 fe)).mono ?_;rintro _ w6 ⟨rfl,ez⟩;have Gs:=yS.cn ez;have hsz:((ao G.toArray).size:Int)=(G.length:Int):=by
  have:(ao G.toArray).size=G.length:=bO G;rw[this]
 refine⟨_,rfl,ez.same aae,sl3,ez.blk vd aM,?_⟩;rw[hsz];by_cases hc:16384<G.length∨(fi G).2.1≠0
 ·have hcond:(decide ((G.length:Int)>16384)||((fi G).2.1 !=0))=true:=by
   rcases hc with h | h
   ·rw[bE aE,GJ]
   have:((fi G).2.1 !=0)=true:=aat
   rw[this,lN]
  rw[hcond,GJ];rw[aR hc]at Px;refine⟨λ_=>?_,λh=>aah⟩;rw[vL,Px];exact⟨rfl,Gs⟩
 have h1:G.length<=16384:=aE
 have h2:(fi G).2.1=0:=by
  refine bD λh=>hc (.inr h)
 have hpe:=IT h2 h1;have ah0:Sim x (fi G).1:=by
  have:=D7 hs hn (by rw[<-hpe];exact h2);rw[<-hpe]at this;exact this.2
 rw[aO hc]at Px;rw[ah0.same d,h2,bq aE];refine⟨λh=>aah,λ_=>?_⟩;rw[vL,Px,bE ia];exact⟨rfl,Gs⟩
section
variable {w:av} {F:aJ} {x:Ex} {cs:aI}
theorem Ek(hx:rE false w F x cs)(hn:Js x)(hs:yV x<=1759218604441):
  az aq 120 #[ah cs.toArray] w λe w'=>e=ak (ai #[ab (T (qD x)),aj (oo x)])/\ay [] w w':=by
 obtain⟨d,h⟩:=hx;have h:=yx h;refine(Q7 h (λe=>FK e x aE) (hn d)).mono ?_;rintro _ w' ⟨rfl,hO⟩;rw[vL,Hy (FJ h)];exact⟨rfl,hO⟩
theorem Ap(hx:rE false w F x cs)(hn:Js x)(hs:yV x<=1759218604441):
  az aq 193 #[ah cs.toArray] w λe w'=>e=ak (aj (oo x))/\ay [] w w':=by
 obtain⟨sl,rfl⟩:=eV hx;refine ret (aep _ _ _ _ _ _ _ _ ?_);intro k0 w0 iJ dV cw;refine(Ek ((gF false).keep hx λk _ cd=>cw.block k cd aM) hn hs).mono ?_;rintro _ w1 ⟨rfl,cA⟩;exact⟨_,_,rfl,cA.same aae,rfl,cw.cn cA⟩
theorem BX(hx:rE false w F x cs)(hn:Js x)(hs:yV x<=1759218604441):
  az aq 69 #[ah cs.toArray] w λe w'=>e=ak (ab (T (qD x)))/\ay [] w w':=by
 obtain⟨sl,rfl⟩:=eV hx;refine ret (aeU _ _ _ _ _ _ _ _ ?_);intro k0 w0 iJ dV cw;refine(Ek ((gF false).keep hx λk _ cd=>cw.block k cd aM) hn hs).mono ?_;rintro _ w1 ⟨rfl,cA⟩;exact⟨_,_,rfl,cA.same aae,rfl,cw.cn cA⟩
theorem Io(hx:rE false w F x cs):
  az aq 194 #[ah cs.toArray] w λe w'=>e=ak (aj (mj x))/\ay [] w w':=by
 obtain⟨d,hx⟩:=hx;have hx:=yx hx;cases d with
 | zero=>exact hx.elim
 | succ d=>
 obtain⟨sl,rfl,hs⟩:=hx;refine ret (aeO _ _ _ _ _ _ _ _ ?_);intro k0 w0 iJ dV cw;have hl:=hs.len;have e:((T x.s).toList==((ao #[]).toList))=decide (x.s=[]):=ju x.s [];rw[e,hl];exact⟨rfl,cw⟩
end
theorem _root_.Go.Kt.Cells.part{w:av}{p:Addr}{cs ds:aI}(h:aB w p cs)(n:Nat)(hd:∀j v,ds[j]? =some v->cs[n+j]? =some v):aB w (p.add n) ds:=λj v hv=>by
 rw[qG];exact h _ v (hd j v hv)
theorem pi{cs:aI}{n i:Nat}{v u:aw}(hi:[u][i]? =some v)(h:cs[n]? =some u):cs[n+i]? =some v:=by
 cases i with
 | zero=>
  rw[cW,bg]at hi;subst hi;exact h
 | succ i=>simp at hi
theorem Ns{k:Int}{n:aH}{xc:aI}{a:Int}{i:Nat}{v:aw}(hi:xc[i]? =some v):(acv k n xc a)[2+i]? =some v:=by
 rw[lO];show(xc++[Value.int U a])[i]? =some v;rw[bT (bd.1 hi).1];exact hi
abbrev pZ(w:av)(b:Nat)(n m a:Int):Prop:=aF w b 187 [O U n,O U m,O U a]
theorem only1{b:Nat}{w w':av}(h:ay [] w w'):ay [b] w w':=h.weaken (bs':=[b]) λ_ h=>aah
theorem iY{b:Nat}{w w' sD:av}(h:ay [b] w w')(k:ay [b] w' sD):ay [b] w sD:=h.trans k λx hx=>.inl hx
section
variable {w:av} {F:aJ} {b:Nat} {n m a:Int}
theorem vN{l:Sl}{rJ:List Ac}(hc:pZ w b n m a)(hl:ja false (sN false) 9 139 w F l rJ)(hF:∀k,F k->k≠b)(hn:∀y,y∈rJ->Ab y)(hs:iG rJ<=8388608)(h0:0<=a)(h1:a<=1152921504606846976):
  az aq 162 #[ae (some ⟨b,0,none⟩),l.v] w λe w'=>e=ak (aj (rJ.all fx))/\(∃a':Int,pZ w' b n m a'/\(a<=a'/\a'<=a+rJ.length)/\(rJ.all fx=true->a'=a+rJ.length))/\ay [b] w w':=by
 refine ret (aeo _ _ _ _ ?_);have hln:=hl.1.len;have Gn:=gY rJ;have kp:∀{u:av},ay [b] w u->aA (sN false) 9 u F l rJ:=λhO=>SliceF.only (dH false) aL hl.1 hO λk hk _ hm=>hF k hk abE;refine⟨λkv i u=>∃(j:Nat),i=(j:Int)/\kv+j=rJ.length/\j<=rJ.length/\(rJ.take j).all fx=true/\pZ u b n m (a+j)/\ay [b] w u,rJ.length,⟨0,rfl,aE,bm _,rfl,aaf,Only.refl _ _⟩,?_⟩;rintro kv _ u ⟨j,rfl,Tt,hj,fm,hB,hO⟩;refine⟨λlY=>?_,λlY=>?_⟩;rotate_left
 ·have lY:=aW lY;have uW:j=rJ.length:=aE
  subst uW;rw[fF]at fm;rw[fm];exact⟨rfl,⟨_,hB,aE,λ_=>rfl⟩,hO⟩
 have lY:=aV lY;have xr:j<rJ.length:=aE
 obtain⟨y,hy⟩:∃y,rJ[j]? =some y:=⟨_,bJ xr⟩
 have tS:=bF hy;have Pw:=rm tS;unfold DX at Pw;have at_:∀{v:av},ay [b] w v->∃ad xs,dN l (j:Int) 9 ad/\aB v (ad.add 0) [O U y.k]/\aB v (ad.add 1) [ab (T y.n)]/\aB v (ad.add 2) (kD y.x.k y.x.n y.x.s y.x.op xs y.x.a)/\rE false v F y.x (kD y.x.k y.x.n y.x.s y.x.op xs y.x.a):=fun{v} hv=>by
  obtain⟨ad,y',cs,q1,q2,q3,q4,q5,q6⟩:=(kp hv).get (bc j) aE;rw[ba,hy]at q2;injection q2 with q2;subst q2;obtain⟨xc,rfl,NI⟩:=q6;obtain⟨xs,rfl⟩:=eV NI;exact⟨ad,xs,q1,q5.part 0 λi v hi=>pi hi rfl,q5.part 1 λi v hi=>pi hi rfl,q5.part 2 λi v hi=>Ns hi,NI⟩
 refine⟨a+j,Blk.eo hB 2 rfl,b,2,_,_,rfl,hB,aM,λw1 cA pv=>?_⟩;rw[fS aE aE]at pv;have pv:pZ w1 b n m (a+j+1):=pv;have o1:=iY hO cA;obtain⟨ad,xs,g1,g2,g3,g4,g5⟩:=at_ o1;refine⟨ad,g1,_,g3,(oa w1 y.n aE).mono ?_⟩;rintro _ w2 ⟨rfl,cO⟩;have o2:=iY o1 (only1 cO);have kQ:=cO.blk pv aM;obtain⟨ad2,xs2,p1,p2,p3,p4,p5⟩:=at_ o2;refine⟨_,rfl,ad2,p1,_,_,_,_,_,_,p4,(Ap p5 (hn y tS) aE).mono ?_⟩;rintro _ w3 ⟨rfl,da⟩;have o3:=iY o2 (only1 da);have sT:=da.blk kQ aM;obtain⟨ad3,xs3,q1,q2,q3,q4,q5⟩:=at_ o3;have qE:∀b2,b2=(if y.k=2 then mj y.x else oo y.x)->((((decide (y.k<1))||(decide (y.k>3)))||(!cN y.n))||(!b2))=!fx y:=λb2 e=>by
  rw[e];unfold fx;by_cases h1:y.k<1
  ·rw[bE h1,bq (p:=1<=y.k/\y.k<=3) (λh=>aE)];rfl
  by_cases h2:y.k>3
  ·rw[bE h2,bq (p:=1<=y.k/\y.k<=3) (λh=>aE),lN];rfl
  rw[bq h1,bq h2,bE (p:=1<=y.k/\y.k<=3) aE,uY,uY,bS,wR]
 refine⟨_,rfl,λb2 w4=>ay [] w3 w4/\b2=(if y.k=2 then mj y.x else oo y.x),?_,ad3,q1,_,q2,λhk=>⟨ad3,q1,_,_,_,_,_,_,q4,(Io q5).mono ?_⟩,λhk=>⟨Only.refl _ _,by rw[aO aak]⟩⟩
 ·rintro b2 w4 ⟨h4,e2⟩;have o4:=iY o3 (only1 h4);have rD:=h4.blk sT aM;obtain⟨ad4,xs4,t1,t2,t3,t4,t5⟩:=at_ o4;refine⟨ad4,t1,y.k,t2,ad4,λ_=>t1,y.k,λ_=>t2,λhh=>?_,λhh=>?_⟩
  ·rw[qE b2 e2,cP]at hh;have:rJ.all fx=false:=by
    rw[tZ];exact⟨y,tS,by rw[hh];simp⟩
   rw[this];exact⟨rfl,⟨_,rD,aE,λh=>aah⟩,o4⟩
  rw[qE b2 e2,gv]at hh;refine⟨kv-1,aE,j+1,aad,aE,aE,?_,by rw[show a+((j+1:Nat):Int)=a+j+1 by omega];exact rD,o4⟩;rw[bK,hy,ji,fm];simp[hh]
 rintro _ w5 ⟨rfl,fe⟩;exact⟨_,rfl,fe,by rw[aR aak]⟩
end
section
variable {w:av} {F:aJ} {b:Nat} {n m a:Int}
theorem BZ(x:Mv):((((((decide (x.k>=1)&&decide (x.k<=3))&&(if x.k=1 then cN x.ev else decide (x.ev=[])))&&(if x.gd then oo x.g else mj x.g))&&x.acts.all fx)&&((x.wt==0)||((x.k==3)&&(decide (x.wt>0)))))&&x.tg.all cN)=jo x:=by
 unfold jo;rw[bH];simp only[aP,ci,bC,dy];constructor
 ·rintro⟨⟨⟨⟨⟨⟨h1,h2⟩,h3⟩,h4⟩,h5⟩,h6⟩,h7⟩;exact⟨⟨⟨⟨⟨⟨h1,h2⟩,h3⟩,h4⟩,h5⟩,h7⟩,h6⟩
 rintro⟨⟨⟨⟨⟨⟨h1,h2⟩,h3⟩,h4⟩,h5⟩,h7⟩,h6⟩;exact⟨⟨⟨⟨⟨⟨h1,h2⟩,h3⟩,h4⟩,h5⟩,h6⟩,h7⟩
theorem JN{x:Mv}{cs:aI}(hc:pZ w b n m a)(hx:zq false w F x cs)(hF:∀k,F k->k≠b)(hn:IV x)(hs:DY x<=8388608)(h0:0<=a)(h1:a<=1152921504606846976)(h2:0<=m)(h3:m<=1152921504606846976):
  az aq 163 #[ae (some ⟨b,0,none⟩),ah cs.toArray] w λe w'=>e=ak (aj (jo x))/\(∃m' a':Int,pZ w' b n m' a'/\(jo x=true->m'=m+1/\a'=a+x.acts.length))/\ay [b] w w':=by
 obtain⟨gc,nM,tg,rfl,hg,EZ,za⟩:=hx;obtain⟨gs,rfl⟩:=eV hg;unfold DY at hs;have IH:=hc.lt;refine ret (aeP _ _ _ _ _ _ _ _ _ _ _ _ _ _ _ _ ?_);intro k0 w0 iJ dV cw;have z0:=cw.size;have AB:=cw.blk hc aM;have kG:∀{u:av},ay [b] w u->rE false u F x.g (kD x.g.k x.g.n x.g.s x.g.op gs x.g.a):=λhO=>(gF false).keep hg λk hk cd=>hO.block k cd (by simpa using hF k hk);have kA:∀{u:av},ay [b] w u->ja false (sN false) 9 139 u F nM x.acts:=λhO=>EZ.keep (dH false) aL λk hk cd=>hO.block k cd (by simpa using hF k hk);have kT:∀{u:av},ay [b] w u->aA jR 1 u F tg x.tg:=λhO=>SliceF.only db aL za.1 hO λk hk _ hm=>hF k hk abE;have sm:∀{u u':av},w0.heap.size<=u.heap.size->ay [b] u u'->cb [k0] u u':=λhz hO=>hO.same aae;refine⟨m,Blk.eo AB 1 rfl,b,1,_,_,rfl,AB,aM,aE,λw1 cA pv=>?_⟩;have o1:ay [b] w w1:=iY (only1 cw) cA;have z1:=cA.size;rw[fS aE aE]at pv;have pv:pZ w1 b n (m+1) a:=pv;have e0:((T x.ev).toList==((ao #[]).toList))=decide (x.ev=[]):=ju x.ev [];refine⟨λb0 u=>b0=(if x.k=1 then cN x.ev else decide (x.ev=[]))/\ay [b] w u/\w0.heap.size<=u.heap.size/\pZ u b n (m+1) a,λb0 w2 ⟨eb,o2,z2,kQ⟩=>?_,λhk=>(oa w1 x.ev aE).mono ?_,λhk=>⟨by rw[aO aak,e0],o1,aE,pv⟩⟩
 ·refine(Io (kG o2)).mono ?_;rintro _ w3 ⟨rfl,da⟩;have o3:=iY o2 (only1 da);have z3:=da.size;have sT:=da.blk kQ aM;refine⟨_,rfl,sm z2 (only1 da),λb2 u=>b2=(if x.gd then oo x.g else mj x.g)/\ay [b] w u/\w0.heap.size<=u.heap.size/\pZ u b n (m+1) a,λb2 w4 ⟨Z7,o4,z4,rD⟩=>?_,λhg=>(Ap (kG o3) hn.1 aE).mono ?_,λhg=>⟨by rw[hg];rfl,o3,aE,sT⟩⟩
  ·refine(vN rD (kA o4) hF hn.2 aE h0 h1).mono ?_;rintro _ w5 ⟨rfl,⟨a5,vd,_,ha5⟩,fe⟩;have o5:=iY o4 fe;have z5:=fe.size;have Kz:=(kT o5).len;have htb:=(kT o5).big;have htc:=(kT o5).cap;refine⟨_,rfl,sm z4 fe,λkv i u=>∃j:Nat,i=(j:Int)/\kv+j=x.tg.length/\j<=x.tg.length/\(x.tg.take j).all cN=true/\ay [] w5 u,x.tg.length,⟨0,rfl,aE,bm _,rfl,Only.refl _ _⟩,?_⟩;rintro kv _ w6 ⟨j,rfl,Tt,hj,fm,ez⟩;have z6:=ez.size;have o6:=iY o5 (only1 ez);refine⟨λlY=>?_,λlY=>?_⟩
   ·have lY:=aV lY;obtain⟨ad,s,cs,g1,g2,g3,g4,g5,g6⟩:=(kT o6).get (bc j) aE;rw[ba]at g2;have g6:cs=[ab (T s)]:=g6;subst g6;have tP:=bF g2;have xo:s.length<=Cz x.tg:=by
     have:=BJ tP;omega
    refine⟨ad,g1,_,g5,(oa w6 s aE).mono ?_⟩;rintro _ w7 ⟨rfl,gD⟩;refine⟨_,rfl,sm aE (only1 gD),λhh=>?_,λhh=>⟨kv-1,aE,j+1,aad,aE,aE,?_,ez.cn gD⟩⟩
    ·have hh:cN s=false:=acD
     have:jo x=false:=by
      rw[<-BZ,show x.tg.all cN=false by rw[tZ];exact⟨s,tP,by rw[hh];simp⟩,fN]
     rw[this];exact⟨rfl,⟨_,_,(ez.cn gD).blk vd aM,λh=>aah⟩,iY o6 (only1 gD)⟩
    have hh:cN s=true:=acD
    rw[bK,g2,ji,fm];simp[hh]
   have lY:=aW lY;have uW:j=x.tg.length:=aE
   subst uW;rw[fF]at fm;have em:((((((decide (x.k>=1))&&(decide (x.k<=3)))&&b0)&&b2)&&x.acts.all fx)&&((x.wt==0)||((x.k==3)&&(decide (x.wt>0)))))=jo x:=by
    rw[<-BZ,fm,eb,Z7,cH]
   rw[em];refine⟨rfl,⟨_,_,ez.blk vd aM,λhm=>⟨rfl,ha5 ?_⟩⟩,o6⟩;rw[<-BZ]at hm;simp only[aP]at hm;exact hm.1.1.2
  rintro _ w8 ⟨rfl,gp⟩;have z8:=gp.size;exact⟨_,rfl,sm aE (only1 gp),by rw[hg];rfl,iY o3 (only1 gp),aE,gp.blk sT aM⟩
 rintro _ w9 ⟨rfl,gr⟩;have z9:=gr.size;exact⟨_,rfl,sm aE (only1 gr),by rw[aR aak],iY o1 (only1 gr),aE,gr.blk pv aM⟩
end
def iZ(l:List Mv):Nat:=(l.map λm=>m.acts.length).sum
theorem El(l:List Mv)(m:Mv):iZ (l++[m])=iZ l+m.acts.length:=by
 unfold iZ;rw[dx,OU];simp
theorem vO:∀l:List Mv,iZ l<=BK l
 | []=>bm _
 | m::l=>by
  have h1:=gY m.acts;have h2:=vO l;have h3:iZ (m::l)=m.acts.length+iZ l:=rfl;rw[BK,h3];unfold DY;omega
theorem En(l:List Mv)(j:Nat):iZ (l.take j)<=iZ l:=by
 induction l generalizing j with
 | nil=>simp[iZ]
 | cons m l ih=>
  cases j with
  | zero=>exact bm _
  | succ j=>
   have:=ih j;show m.acts.length+iZ (l.take j)<=m.acts.length+iZ l;omega
theorem Nt(b:Nb):uZ b<=BL b:=by
 have h1:=gY b.en;have h2:=gY b.lv;have h3:=vO b.mv;have h4:uZ b=b.en.length+b.lv.length+iZ b.mv:=rfl;unfold BL;omega
mutual
theorem UU:∀x:Nd,r9 x<=qt x
 | .mk b l=>by
  have h1:=Nt b;have h2:=B0 l;rw[r9,qt];omega
theorem B0:∀l:List Nd,jN l<=jB l
 | []=>bm _
 | x::l=>by
  have h1:=UU x;have h2:=B0 l;rw[jN,jB];omega
end
theorem Eo:∀(l:List Nd) (j:Nat) {y:Nd},l[j]? =some y->gH (l.take j)+n8 y<=gH l
 | [],j,y,h=>aax
 | x::l,0,y,h=>by
  simp only[cW,bg]at h;subst h;rw[dF,gH,gH];omega
 | x::l,j+1,y,h=>by
  have:=Eo l j (y:=y) aat;rw[ii,gH,gH];omega
theorem Aq:∀(l:List Nd) (j:Nat) {y:Nd},l[j]? =some y->jB (l.take j)+qt y<=jB l
 | [],j,y,h=>aax
 | x::l,0,y,h=>by
  simp only[cW,bg]at h;subst h;rw[dF,jB,jB];omega
 | x::l,j+1,y,h=>by
  have:=Aq l j (y:=y) aat;rw[ii,jB,jB];omega
theorem wm{d:Nat}{y:Nd}:∀{l:List Nd},y∈l->jM d y=false->gX d l=false
 | x::l,h,hy=>by
  rw[gX];rcases aX.1 h with rfl | h
  ·rw[hy,dk]
  rw[wm h hy,fN]
def ou(d:Nat)(n:Int)(x:Nd):Bool:=jM d x&&decide (n+n8 x<=64)
def NcO(b:Nat)(w':av)(n m a:Int)(r:Bool)(x:Nd):Prop:=∃n' m' a':Int,pZ w' b n' m' a'/\(r=true->n'=n+n8 x/\m'=m+rZ x/\a'=a+r9 x)
theorem Ar{F:aJ}{b:Nat}(hF:∀k,F k->k≠b):∀(D:Nat) {w:av} {n m a:Int} {d:Nat} {x:Nd} {cs:aI},pZ w b n m a->rY false D w F x cs->yY x->qt x<=8388608->0<=n->n<=64->d<=100->0<=m->m+qt x<=1152921504606846976->0<=a->a+qt x<=1152921504606846976->
  az aq 116 #[ae (some ⟨b,0,none⟩),ah cs.toArray,O U (d:Int)] w λe w'=>e=ak (aj (ou d n x))/\NcO b w' n m a (ou d n x) x/\ay [b] w w'
 | 0,_,_,_,_,_,_,_,_,h,_,_,_,_,_,_,_,_,_=>h.elim
 | D+1,w,n,m,a,d,.mk bb ks,cs,hc,⟨en,lv,mv,kids,mq,sR,iJ⟩,hn,hs,hn0,anV,OH,NM,wK,ha0,ha1=>by
  dsimp only[Nd.kids,Nd.b]at mq sR iJ;subst mq;have hk:=iJ.1;rw[yY]at hn;obtain⟨hbn,Py⟩:=hn;obtain⟨yZ,wx,Vk⟩:=hbn;obtain⟨he,hl,tn⟩:=sR;rw[qt]at hs wK ha1;have hsb:=hs;have AB:uZ bb=bb.en.length+bb.lv.length+iZ bb.mv:=rfl;have pv:=Nt bb;unfold BL at hs;have IH:=hc.lt;refine ret (aen _ _ _ _ _ _ _ _ _ _ _ _ _ ?_);have eN:n8 (.mk bb ks)=gH ks+1:=by rw[n8]
  have eO:jM d (.mk bb ks)=(decide (d<12)&&rh bb ks.length&&gX (d+1) ks):=by rw[jM]
  intro k0 w0 iJ dV cw;have z0:=cw.size;have abO:=cw.blk hc aM;have sm:∀{u u':av},w0.heap.size<=u.heap.size->ay [b] u u'->cb [k0] u u':=λhz hO=>hO.same aae;have bad:ou d n (.mk bb ks)=false->∀{u:av} {n' m' a':Int},ay [b] w u->pZ u b n' m' a'->Value.bool false=aj (ou d n (.mk bb ks))/\NcO b u n m a (ou d n (.mk bb ks)) (.mk bb ks)/\ay [b] w u:=λhr {_ _ _ _} hO hB=>⟨by rw[hr],⟨_,_,_,hB,λh=>by rw[hr]at h;cases h⟩,hO⟩
  have kA:∀{u:av} {s:Sl} {l:List Ac},ja false (sN false) 9 139 w F s l->ay [b] w u->ja false (sN false) 9 139 u F s l:=λh hO=>h.keep (dH false) aL λk hk cd=>hO.block k cd (by simpa using hF k hk);have eT:∀l:aH,((T l).toList==((ao #[]).toList))=decide (l=[]):=λl=>ju l [];rw[eT,eT];refine⟨n,Blk.eo abO 0 rfl,b,0,_,_,rfl,abO,aM,aE,λw1 cA RN=>?_⟩;have o1:ay [b] w w1:=iY (only1 cw) cA;have z1:=cA.size;rw[fS aE aE]at RN;have RN:pZ w1 b (n+1) m a:=RN;refine(oa w1 bb.nm aE).mono ?_;rintro _ w2 ⟨rfl,cO⟩;have o2:=iY o1 (only1 cO);have z2:=cO.size;have kQ:pZ w2 b (n+1) m a:=cO.blk RN aM;refine⟨_,rfl,sm aE (only1 cO),n+1,λ_=>Blk.eo kQ 0 rfl,λhcond=>bad ?_ o2 kQ,λhcond=>?_⟩
  ·unfold ou;rw[eO,eN];simp only[ci,cP,bC]at hcond;rcases hcond with(h | h) | h
   ·unfold rh;rw[h];simp
   ·rw[bq (p:=d<12) aE];rfl
   rw[bq (p:=n+((gH ks+1:Nat):Int)<=64) aE,fN]
  simp only[eZ,gv]at hcond;have h64:n+1<=64:=by have:=aW hcond.2;omega
  have hdp:d<12:=by have:=aW hcond.1.2;omega
  have Xn:cN bb.nm=true:=hcond.1.1;have N2:=hk.len;have Xr:=he.1.len;have Gn:=hl.1.len;have Oe:=tn.1.len;have eO2:jM d (.mk bb ks)=(rh bb ks.length&&gX (d+1) ks):=by rw[eO,bE hdp,bS]
  refine⟨λhh=>(oa w2 bb.dft aE).mono ?_,λhh=>?_⟩
  ·rintro _ w3 ⟨rfl,da⟩;have hhi:jX bb.k=true:=by
    unfold jX;rw[ci,dy,dy]at hh;exact bE hh
   have er:(((((cN bb.dft&&decide (bb.ini=[]))&&((en.n:Int)==0))&&((lv.n:Int)==0))&&((mv.n:Int)==0))&&((kids.n:Int)==0))=ou d n (.mk bb ks):=by
    unfold ou;rw[eO2,eN];unfold rh;rw[Xn,hhi,aR rfl,bS,Xr,Gn,Oe,N2,bH];simp only[aP,bC,dy];constructor
    ·rintro⟨⟨⟨⟨⟨h1,h2⟩,h3⟩,h4⟩,h5⟩,h6⟩;have hks:ks=[]:=bA aE;subst hks;refine⟨⟨⟨h1,h2,bA aE,bA aE,aE,rfl⟩,by rw[gX]⟩,by rw[gH];omega⟩
    rintro⟨⟨⟨h1,h2,h3,h4,h5,h6⟩,_⟩,_⟩;exact⟨⟨⟨⟨⟨h1,h2⟩,by rw[h3];rfl⟩,by rw[h4];rfl⟩,aE⟩,aE⟩
   refine⟨_,rfl,sm aE (only1 da),by rw[er],⟨_,_,_,da.blk kQ aM,λhr=>?_⟩,iY o2 (only1 da)⟩;rw[<-er]at hr;simp only[aP,dy]at hr;obtain⟨⟨⟨⟨_,h3⟩,h4⟩,h5⟩,h6⟩:=hr;have hks:ks=[]:=bA aE;subst hks;have ah2:bb.mv=[]:=bA aE;rw[eN,rZ,r9,gH,kH,jN,AB,ah2];refine⟨aE,aM,?_⟩;have:iZ []=0:=rfl;rw[this];omega
  have hhi:jX bb.k=false:=by
   unfold jX;rw[eZ,Cx,Cx]at hh;exact bq λe=>e.elim hh.1 hh.2
  have eB:rh bb ks.length=(decide ((bb.k=1∨bb.k=2)/\bb.dft=[])&&(decide (bb.ini=[])||cN bb.ini)&&bb.en.all fx&&bb.lv.all fx&&bb.mv.all jo):=by
   unfold rh;rw[Xn,hhi,bS];rfl
  refine⟨λb2 u=>b2=(decide (bb.ini=[])||cN bb.ini)/\ay [b] w u/\w0.heap.size<=u.heap.size/\pZ u b (n+1) m a,λb2 w4 ⟨Z7,o4,z4,rD⟩=>?_,λhi=>(oa w2 bb.ini aE).mono ?_,λhi=>⟨?_,o2,aE,kQ⟩⟩;rotate_left
  ·rintro _ dJ ⟨rfl,dW⟩;have ED:=dW.size;refine⟨_,rfl,sm aE (only1 dW),?_,iY o2 (only1 dW),aE,dW.blk kQ aM⟩;have:decide (bb.ini=[])=false:=aaC
   rw[this,uY]
  ·have:decide (bb.ini=[])=true:=aaC
   rw[this,GJ]
  have anZ:=gY bb.en;have an0:=gY bb.lv;refine(vN rD (kA he o4) hF yZ aE ha0 aE).mono ?_;rintro _ w5 ⟨rfl,⟨a5,vd,hr5,ha5⟩,fe⟩;have o5:=iY o4 fe;have z5:=fe.size;refine⟨_,rfl,sm z4 fe,(vN vd (kA hl o5) hF wx aE aE aE).mono ?_⟩;rintro _ w6 ⟨rfl,⟨a6,KG,hr6,ha6⟩,ez⟩;have o6:=iY o5 ez;have z6:=ez.size;have eC:((((((bb.k !=1)&&(bb.k !=2))||(!(decide (bb.dft=[]))))||(!b2))||(!bb.en.all fx))||(!bb.lv.all fx))=!(decide ((bb.k=1∨bb.k=2)/\bb.dft=[])&&(decide (bb.ini=[])||cN bb.ini)&&bb.en.all fx&&bb.lv.all fx):=by
   rw[Z7,wR,wR,wR];congr 3;rw[bH];simp only[ci,aP,bne_iff_ne,cP,fE,ne_eq];by_cases h1:bb.k=1<;>by_cases h2:bb.k=2<;>by_cases h3:bb.dft=[]<;>simp[h1,h2,h3]
  have kM:∀{u:av},ay [b] w u->aA (zq false) 13 u F mv bb.mv:=λhO=>SliceF.only (gj false) aL tn.1 hO λk hk _ hm=>hF k hk abE;have kK:∀{u:av},ay [b] w u->aA (rY false D) 9 u F kids ks:=λhO=>SliceF.only (du false D) aL hk hO λk hk _ hm=>hF k hk abE;have VX:=nt bb.mv;refine⟨_,rfl,sm aE ez,λwO=>bad ?_ o6 KG,λwO=>?_⟩
  ·rw[eC,cP]at wO;unfold ou;rw[eO2,eB,wO];rfl
  rw[eC,gv]at wO;have eB2:rh bb ks.length=bb.mv.all jo:=by rw[eB,wO,bS]
  simp only[aP]at wO;have ha5:=ha5 wO.1.2;have ha6:=ha6 wO.2;have tP:=vO bb.mv;have VU:=pd ks;have sT:bb.mv.length<=BL bb:=by unfold BL;omega
  refine⟨λkv i u=>∃j:Nat,i=(j:Int)/\kv+j=bb.mv.length/\j<=bb.mv.length/\(bb.mv.take j).all jo=true/\ay [b] w u/\w0.heap.size<=u.heap.size/\pZ u b (n+1) (m+j) (a6+iZ (bb.mv.take j)),bb.mv.length,⟨0,rfl,aE,bm _,rfl,o6,aE,by simpa[iZ]using KG⟩,?_⟩;rintro kv _ w7 ⟨j,rfl,Tt,hj,fm,o7,z7,V0⟩;have kP:=En bb.mv j;refine⟨λlY=>?_,λlY=>?_⟩
  ·have lY:=aV lY;obtain⟨ad,y,cs,g1,g2,g3,g4,g5,g6⟩:=(kM o7).get (bc j) aE;rw[ba]at g2;have tS:=bF g2;have Pw:=uD tS;have Ci:=g6;obtain⟨gc,nM,tg,rfl,hg,EZ,za⟩:=g6;obtain⟨gs,rfl⟩:=eV hg;have ov:bb.mv.take (j+1)=bb.mv.take j++[y]:=by rw[bK,g2];rfl
   refine⟨ad,g1,_,_,_,_,_,_,_,_,_,_,_,_,_,g5,(JN V0 Ci hF (Vk y tS) aE aE aE aE aE).mono ?_⟩;rintro _ w8 ⟨rfl,⟨m8,a8,wy,h8⟩,gp⟩;have o8:=iY o7 gp;have z8:=gp.size;refine⟨_,rfl,sm z7 gp,λhh=>bad ?_ o8 wy,λhh=>?_⟩
   ·have hh:jo y=false:=acD
    unfold ou;rw[eO2,eB2,show bb.mv.all jo=false by rw[tZ];exact⟨y,tS,by rw[hh];simp⟩];rfl
   have hh:jo y=true:=acD
   obtain⟨rfl,rfl⟩:=h8 hh;refine⟨kv-1,aE,j+1,aad,aE,aE,by rw[ov,ji,fm];simp[hh],o8,aE,?_⟩;rw[ov,El,show m+((j+1:Nat):Int)=m+j+1 by omega,show a6+((iZ (bb.mv.take j)+y.acts.length:Nat):Int)=a6+iZ (bb.mv.take j)+y.acts.length by omega];exact wy
  have lY:=aW lY;have uW:j=bb.mv.length:=aE
  subst uW;rw[fF]at fm V0;have eO3:jM d (.mk bb ks)=gX (d+1) ks:=by rw[eO2,eB2,fm,bS]
  have eA:a6+(iZ bb.mv:Int)=a+(uZ bb:Int):=aE
  rw[eA]at V0;refine⟨λkv i u=>∃j:Nat,i=(j:Int)/\kv+j=ks.length/\j<=ks.length/\gX (d+1) (ks.take j)=true/\n+1+gH (ks.take j)<=64/\ay [b] w u/\w0.heap.size<=u.heap.size/\pZ u b (n+1+gH (ks.take j)) (m+bb.mv.length+kH (ks.take j)) (a+uZ bb+jN (ks.take j)),ks.length,⟨0,rfl,aE,bm _,by rw[dF,gX],by rw[dF,gH];omega,o7,z7,by rw[dF,gH,kH,jN];simpa using V0⟩,?_⟩;rintro kv2 _ w9 ⟨i,rfl,ah4,hi,OM,h9,o9,z9,hB9⟩;refine⟨λOO=>?_,λOO=>?_⟩
  ·have OO:=aV OO;obtain⟨ad,y,cs,g1,g2,g3,g4,g5,g6⟩:=(kK o9).get (bc i) aE;rw[ba]at g2;have tS:=bF g2;have Pw:=rn tS;have Ci:=g6;obtain⟨D',rfl⟩:∃D',D=D'+1:=by
    cases D with
    | zero=>exact g6.elim
    | succ D'=>exact⟨D',rfl⟩
   obtain⟨Co,Cp,ve,qn,rfl,_⟩:=g6;have ov:ks.take (i+1)=ks.take i++[y]:=by rw[bK,g2];rfl
   have q1:=Eo ks i g2;have q2:=Aq ks i g2;have q3:=se (ks.take i);have q4:=B0 (ks.take i);refine⟨ad,g1,_,_,_,_,Co,Cp,ve,qn,_,g5,?_⟩;rw[fS (x:=(d:Int)+1) aE aE,show(d:Int)+1=((d+1:Nat):Int) by omega];refine(Ar hF (D'+1) (d:=d+1) hB9 Ci (uE Py tS) aE aE h9 aE aE aE aE aE).mono ?_;rintro _ dz ⟨rfl,⟨n10,m10,a10,nG,hr⟩,dL⟩;have Xm:=iY o9 dL;have IL:=dL.size;refine⟨_,rfl,sm z9 dL,λAG=>bad ?_ Xm nG,λAG=>?_⟩
   ·have AG:ou (d+1) (n+1+gH (ks.take i)) y=false:=by simpa using AG
    unfold ou at AG⊢;rw[oH]at AG;rcases AG with h | h
    ·rw[eO3,wm tS h,dk]
    have h:=aW h;rw[eN,bq (p:=n+((gH ks+1:Nat):Int)<=64) aE,fN]
   have AG:ou (d+1) (n+1+gH (ks.take i)) y=true:=by simpa using AG
   obtain⟨rfl,rfl,rfl⟩:=hr AG;unfold ou at AG;rw[aP]at AG;have an1:=aV AG.2;refine⟨kv2-1,aE,i+1,aad,aE,aE,by rw[ov,tJ,OM,AG.1];rfl,by rw[ov,pe];omega,Xm,aE,?_⟩;rw[ov,pe,sf,vB,show n+1+((gH (ks.take i)+n8 y:Nat):Int)=n+1+gH (ks.take i)+n8 y by omega,show m+bb.mv.length+((kH (ks.take i)+rZ y:Nat):Int)=m+bb.mv.length+kH (ks.take i)+rZ y by omega,show a+uZ bb+((jN (ks.take i)+r9 y:Nat):Int)=a+uZ bb+jN (ks.take i)+r9 y by omega];exact nG
  have OO:=aW OO;have hie:i=ks.length:=aE
  subst hie;rw[fF]at h9 OM hB9;have er:ou d n (.mk bb ks)=true:=by
   unfold ou;rw[eO3,OM,eN,bS];exact bE aE
  rw[er];refine⟨rfl,⟨_,_,_,hB9,λ_=>?_⟩,o9⟩;rw[eN,rZ,r9];omega
theorem ZI{w:av}{F:aJ}{D:Nat}{c:Ch}{vs:Sl}{cs:aI}(hx:ChR false (D+1) w F c vs cs)(hn:Ry c)(hs:pU c.vars+qt c.root<=8388608):
  az aq 65 #[ah (vs.v::cs).toArray] w λe w'=>e=ak (aj (pR c))/\ay [] w w':=by
 obtain⟨en,lv,mv,kids,mq,_⟩:=hx.root;subst mq;refine ret (aeg _ _ _ _ _ _ _ _ _ _ _ _ ?_);intro k0 w0 iJ dV cw;have z0:=cw.size;have hvl:=hx.vars.1.len;have zv:c.vars.length<=pU c.vars:=by
  have:∀l:List Vr,l.length<=pU l:=λl=>by induction l with
   | nil=>exact bm _
   | cons a l ih=>rw[pU,aU];omega
  exact this _
 have kV:∀{u:av},ay [] w u->aA OY 3 u F vs c.vars:=λhO=>SliceF.only iW aL hx.vars.1 hO aM;have sm:∀{u u':av},w0.heap.size<=u.heap.size->ay [] u u'->cb [k0] u u':=λhz hO=>hO.same aae;refine⟨λkv i u=>∃j:Nat,i=(j:Int)/\kv+j=c.vars.length/\j<=c.vars.length/\(c.vars.take j).all sP=true/\ay [] w u/\w0.heap.size<=u.heap.size,c.vars.length,⟨0,rfl,aE,bm _,rfl,cw,aY _⟩,?_⟩;rintro kv _ w1 ⟨j,rfl,Tt,hj,fm,o1,z1⟩;refine⟨λlY=>?_,λlY k4 w3 sV EG da sT=>?_⟩
 ·have lY:=aV lY;obtain⟨ad,y,cs,g1,g2,g3,g4,g5,g6⟩:=(kV o1).get (bc j) aE;rw[ba]at g2;have tS:=bF g2;have Pw:=uH tS;have g6:cs=[ab (T y.n),O U y.v,O U y.a]:=g6;subst g6;refine⟨ad,g1,_,g5.part 0 λi v hi=>pi hi rfl,(oa w1 y.n aE).mono ?_⟩;rintro _ w2 ⟨rfl,cO⟩;have o2:=o1.cn cO;have z2:=cO.size;obtain⟨Gd,y',Ew,p1,p2,p3,p4,p5,p6⟩:=(kV o2).get (bc j) aE;rw[ba,g2]at p2;injection p2 with p2;subst p2;have p6:Ew=[ab (T y.n),O U y.v,O U y.a]:=p6;subst p6;have ev:((!cN y.n)||(y.v==(-9223372036854775808)))=!sP y:=by
   unfold sP;rw[wR];congr 1;rw[bH];simp
  refine⟨_,rfl,sm z1 cO,Gd,λ_=>p1,_,λ_=>p5.part 1 λi v hi=>pi hi rfl,λhh=>⟨?_,o2⟩,λhh=>⟨kv-1,aE,j+1,aad,aE,aE,?_,o2,aE⟩⟩
  ·rw[ev,cP]at hh;have:c.vars.all sP=false:=by
    rw[tZ];exact⟨y,tS,by rw[hh];simp⟩
   have e:pR c=false:=by
    unfold pR;rw[show(c.vars.all λv=>cN v.n&&decide (v.v≠ -9223372036854775808))=c.vars.all sP from rfl,this];rfl
   rw[e]
  rw[ev,gv]at hh;rw[bK,g2,ji,fm];simp[hh]
 have lY:=aW lY;have uW:j=c.vars.length:=aE
 subst uW;rw[fF]at fm;have o3:=o1.cn da;have z3:=da.size;have hr3:rY false (D+1) w3 (λk=>F k/\k<w.heap.size) c.root _:=(du false _).keep ((du false _).inHeap hx.root) λk _ cd=>o3.block k cd aM;refine(Ar (F:=λk=>F k/\k<w.heap.size) (b:=k4) (λk hk=>aaP) (D+1) (n:=0) (m:=0) (a:=0) (d:=0) sT hr3 hn.2 aE aE aE aE aE aE aE aE).mono ?_;rintro _ w4 ⟨rfl,⟨n',m',a',rD,hr⟩,dR⟩;have ah6:ay [] w w4:=(o3.CA (dR.p (F:=λk=>w.heap.size<=k) λx hx=>by simp only[aQ]at hx;exact .inl aE)).only λk hk=>hk;refine⟨_,rfl,dR.same aae,n',m',a',rD,?_,ah6⟩;congr 1;unfold pR;rw[show(c.vars.all λv=>cN v.n&&decide (v.v≠ -9223372036854775808))=c.vars.all sP from rfl,fm,bS,hvl];cases AG:ou 0 0 c.root with
 | false=>
  have:(jM 0 c.root&&decide (n8 c.root<=64))=false:=by
   unfold ou at AG;rw[<-AG];congr 1;rw[bH,bC,bC];omega
  rw[oH]at this;simp only[dk];symm;rcases this with h | h
  ·rw[h,dk]
  have h:=aW h;rw[bq (p:=c.root.b.k=1/\c.vars.length<=16/\n8 c.root<=64/\rZ c.root<=200/\r9 c.root<=400) (λe=>h e.2.2.1),fN]
 | true=>
  obtain⟨e1,e2,e3⟩:=hr AG;unfold ou at AG;rw[aP,bC]at AG;rw[AG.1,bS,bS,e2,e3,bH];simp only[aP,bC,dy];omega
end Go.Proofs.YtmgndgpgngcgpaaGreatDoor.Con
