import Derived.Test.YtmhoiicofhlgbaaGreatDoorQf5
set_option linter.unusedSectionVars false
namespace Go.Proofs.YtmhoiicofhlgbaaGreatDoor.Con
open Go.Value renaming int->O,string->ab,pointer->ae,agg->ah,tuple->ai,bool->aj
open Go.IntKind renaming i64->U,wrap->ar
open Go.Ending renaming returned->ak
open _root_.ByteArray renaming mk->ao
open _root_.Go.Proofs.Tryz renaming prog->aq
open Go.Instr renaming buildSlice->au
open Go renaming World->av,Value->aw,Calls->az
open Go.Kt renaming Only->ay,SliceF->aA,Cells->aB,OnlyP->aD,Blk->aF
open Go Go.RowKit Go.Kt Go.Kt.V Go.Proofs.YtmhoiicofhlgbaaGreatDoor.Vc
set_option linter.unusedSimpArgs false
set_option linter.unusedVariables false
set_option maxHeartbeats 4000000
set_option maxRecDepth 100000
theorem JG{w:av}{F:aJ}{x:Ex}{cs:aI}(h:rE false w F x cs):∃sl d,cs=j6 x.k x.n x.s x.op sl x.a/\aA (nM d) 6 w F sl x.dj:=by
 obtain⟨d,h⟩:=h;cases d with
 | zero=>exact h.elim
 | succ d=>
  obtain⟨sl,h,h2⟩:=h;exact⟨sl,d,h,zL h2.1 fun x cs _ h=>uB h⟩
theorem Ux{w:av}{F:aJ}{x:Ex}{sl:Sl}{d:Nat}(h:aA (nM d) 6 w F sl x.dj):rE false w F x (j6 x.k x.n x.s x.op sl x.a):=
 ⟨d+1,sl,rfl,zL h fun x cs _ h=>Hh h,fun h=>(by cases h)⟩
theorem C5(d:Nat):∀l:List Ex,nN (lA d) l<=Ld l
 | []=>bd _
 | y::l=>by rw[nN,Ld];exact jZ (Hl d y) (C5 d l)
theorem Oj(x:Ex):Ld x.dj<=zT x:=by rw[CX];omega
theorem C6{α:Type}{r:Rp α}{size bytes:Nat}{w u:av}{A:Nat}{s:Sl}{xs:List α}{e t ty:TypeId}{i:TypeInfo}{z v:aw}{x:α}{G:aJ}(ht:Tryz.prog.underlying t=some (.slice e))(hi:Tryz.prog.info? e=some i)(hz:i.zero=some z)(oz:i.size=size)(Tf:i.bytes=bytes)(Gw:z.cells.size=size)(h0:0<size)(DA:0<bytes)(tT:1*size<=16777216)
  (hr:r.Ok) (hs:Own r size e A w (fun k=>A<=k) s xs) (hA:A<=w.heap.size) (hO:ay [] w u) (hv:v.cells.toList.length=size) (hx:r u G x v.cells.toList) (hG:∀k,G k->w.heap.size<=k) (hm:(xs.length+1)*bytes<=140737488355328):
  ∃y w1,(au t 1 #[(0,v)]).run aq u=.ok (Sl.v y) w1/\ay [] u w1/\∃s' w2,(Builtin.append_ #[t,t] ty #[Sl.v s,Sl.v y]).run aq w1=.ok (Sl.v s') w2/\
   Own r size e A w2 (fun k=>A<=k) s' (xs++[x])/\aD (fun k=>A<=k/\k<w.heap.size) w1 w2:=by
 have z:=hO.size;have hsb:∀k,s.a=some ⟨k,0,none⟩->k<w.heap.size:=fun k e=>by have:=(hs.blk e).2;exact this
 obtain⟨y,w1,q1,q3,s',w2,g1,g2,⟨gg,g3,g4⟩,g5⟩:=nG (P:=aq) (w:=u) (ty:=ty) ht hi hz oz Tf Gw h0 DA tT hr (hs.keep hr fun k _ bQ=>hO.block k bQ (by simp)) (by omega) hv hx (fun k hk _=>⟨by have:=hG k hk;omega,fun e=>by have:=hsb k e;have:=hG k hk;omega⟩) hm;exact⟨y,w1,q1,q3,s',w2,g1,g2.mono hr fun k hk=>hk.elim id fun h=>by omega,g3.p fun g hg=>.inl ⟨(g4 g hg).2.1,hsb g (g4 g hg).1⟩⟩
theorem C7{w:av}{H:aJ}{s:Sl}{l:List Ac}(h:aA (pC false) 9 w H s l)(hz:iG l<=8388608):
  az aq 80 #[s.v] w fun e w'=>(∃t:Sl,e=ak t.v/\aA (pC false) 9 w' (fun k=>w.heap.size<=k) t l)/\ay [] w w':=by
 refine(agv s (fun v w'=>(∃t:Sl,v=t.v/\aA (pC false) 9 w' (fun k=>w.heap.size<=k) t l)/\ay [] w w') w ?_).mono (by rintro _ w' ⟨v,rfl,⟨t,rfl,h⟩,h'⟩;exact⟨⟨t,rfl,h⟩,h'⟩);have hl:=h.len;have DX:=gV l;refine⟨fun kv t i u=>∃j:Nat,i=(j:Int)/\kv+j=l.length/\j<=l.length/\Own (pC false) 9 116 w.heap.size u (fun k=>w.heap.size<=k) t (l.take j)/\ay [] w u,l.length,⟨0,rfl,by omega,bd _,Own.nil _ _ _ _ _ _,Only.refl _ _⟩,?_⟩;rintro kv t _ w0 ⟨j,rfl,Gl,hj,hT,ch⟩;have z0:=ch.size;refine⟨fun hc=>?_,fun hc=>?_⟩
 ·have hc:=aQ hc;obtain⟨ad,y,ds,a1,a2,a3,a4,a5,a6⟩:=(SliceF.only (cF false) (by decide) h ch (by simp)).get (ba j) (by omega);rw[aX]at a2;obtain⟨xc,rfl,hx⟩:=a6;obtain⟨sl,d,rfl,sI⟩:=JG hx;have hyz:C0 y<=iG l:=qd (br a2);unfold C0 at hyz;have:=Oj y.x;have:=C5 d y.x.dj;refine⟨ad,a1,_,_,_,_,_,_,sl,_,_,a5,fun k2 w1 oY oG cn=>(Fb d (SliceF.only (dW d) (by decide) sI cn (by simp)) (by omega)).mono ?_⟩;rintro _ w2 ⟨l2,rfl,hL2,cG⟩;have z1:=cn.size;have z2:=cG.size;refine⟨l2,rfl,cG.same (by simp;omega),fun w3 dh=>?_⟩;have z3:=dh.size;have o3:ay [] w0 w3:=(cn.cd cG).trans dh fun x hx=>.inr (by simp only[aO]at hx;omega);have hL3:aA (nM d) 6 w3 (fun k=>w1.heap.size<=k/\k<w2.heap.size) l2 y.x.dj:=SliceF.only (dW d) (by decide) hL2 dh fun k hk _ hm=>by simp only[aO]at hm;omega
  obtain⟨y4,w4,q1,q2,t',w5,g1,g2,g3⟩:=C6 (w:=w0) (u:=w3) (t:=23) (ty:=23) (e:=116) (i:=Tryz.t116) (bytes:=104) (size:=9) (r:=pC false) (G:=fun k=>w1.heap.size<=k/\k<w2.heap.size) (v:=ah #[O U y.k,ab (T y.n),O U y.x.k,O U y.x.n,ab (T y.x.s),O U y.x.op,l2.v,O U y.x.a,O U y.a]) (x:=y) (by kernel_rfl) (by kernel_rfl) rfl rfl rfl rfl (by decide) (by decide) (by decide) (cF false) hT ch.size o3 rfl ⟨_,rfl,Ux hL3⟩ (fun k hk=>by omega) (by rw[cP];omega);have z4:=q2.size;refine⟨y4,w4,q1,q2.same (by simp;omega),t',w5,g1,g3.same fun x hx=>?_,kv-1,by omega,j+1,by rw[fH (by omega) (by omega)];rfl,by omega,by omega,?_,((ch.cd o3).cd q2).wT (F:=fun k=>w.heap.size<=k) (g3.mono fun k _ hk=>hk.1) |>.only fun k hk=>hk⟩
  ·simp only[aO]at hx;subst hx;exact⟨by omega,fun h=>by omega⟩
  ·rw[bB,a2];exact g2
 ·have hc:=aU hc;have qV:j=l.length:=by omega
  subst qV;rw[bH (aW _)]at hT;exact⟨⟨t,rfl,(hT.slice (cF false)).mono (cF false) fun k hk=>hk.elim id fun h=>h.1⟩,ch⟩
theorem Ol{w:av}{H:aJ}{s:Sl}{l:List Mv}(h:aA (yq false) 13 w H s l)(hz:wC l<=8388608):
  az aq 81 #[s.v] w fun e w'=>(∃t:Sl,e=ak t.v/\aA (yq false) 13 w' (fun k=>w.heap.size<=k) t l)/\ay [] w w':=by
 refine(agw s (fun v w'=>(∃t:Sl,v=t.v/\aA (yq false) 13 w' (fun k=>w.heap.size<=k) t l)/\ay [] w w') w ?_).mono (by rintro _ w' ⟨v,rfl,⟨t,rfl,h⟩,h'⟩;exact⟨⟨t,rfl,h⟩,h'⟩);have hl:=h.len;have DX:=mV l;refine⟨fun kv t i u=>∃j:Nat,i=(j:Int)/\kv+j=l.length/\j<=l.length/\Own (yq false) 13 54 w.heap.size u (fun k=>w.heap.size<=k) t (l.take j)/\ay [] w u,l.length,⟨0,rfl,by omega,bd _,Own.nil _ _ _ _ _ _,Only.refl _ _⟩,?_⟩;rintro kv t _ w0 ⟨j,rfl,Gl,hj,hT,ch⟩;have z0:=ch.size;refine⟨fun hc=>?_,fun hc=>?_⟩
 ·have hc:=aQ hc;obtain⟨ad,m,ds,a1,a2,a3,a4,a5,a6⟩:=(SliceF.only (gU false) (by decide) h ch (by simp)).get (ba j) (by omega);rw[aX]at a2;obtain⟨gc,qU,tg,rfl,hgx,Gj,AB⟩:=a6;obtain⟨sl,d,rfl,sI⟩:=JG hgx;have Gj:=Gj.1;have AB:=AB.1;have hmz:Fp m<=wC l:=sA (br a2);unfold Fp at hmz;have:=Oj m.g;have:=C5 d m.g.dj;have:=C3 m.tg;refine⟨ad,a1,_,_,_,_,_,_,_,_,sl,_,qU,tg,_,a5,fun k2 w1 oY oG cn=>(Fb d (SliceF.only (dW d) (by decide) sI cn (by simp)) (by omega)).mono ?_⟩;rintro _ w2 ⟨l2,rfl,hL2,cG⟩;have z1:=cn.size;have z2:=cG.size;refine⟨l2,rfl,cG.same (by simp;omega),fun w3 dh=>?_⟩;have z3:=dh.size;have o3:ay [] w0 w3:=(cn.cd cG).trans dh fun x hx=>.inr (by simp only[aO]at hx;omega);have nk:∀{u v:av},w3.heap.size<=u.heap.size->ay [k2] u v->aA (nM d) 6 u (fun k=>w1.heap.size<=k/\k<w2.heap.size) l2 m.g.dj->aA (nM d) 6 v (fun k=>w1.heap.size<=k/\k<w2.heap.size) l2 m.g.dj:=fun _ hO hh=>SliceF.only (dW d) (by decide) hh hO fun k hk _ hm=>by simp only[aO]at hm;omega
  have hL3:=SliceF.only (dW d) (by decide) hL2 dh fun k hk _ hm=>by simp only[aO]at hm;omega
  refine(C7 (SliceF.only (cF false) (by decide) Gj o3 (by simp)) (by omega)).mono ?_;rintro _ w4 ⟨⟨l5,rfl,hL5⟩,dI⟩;have z4:=dI.size;refine⟨l5,rfl,dI.same (by simp;omega),fun w5 eh=>?_⟩;have z5:=eh.size;have o5:ay [] w0 w5:=(o3.cd dI).trans eh fun x hx=>.inr (by simp only[aO]at hx;omega);have aj1:=nk (by omega) eh (SliceF.only (dW d) (by decide) hL3 dI (by simp));have hA5:aA (pC false) 9 w5 (fun k=>w3.heap.size<=k) l5 m.acts:=SliceF.only (cF false) (by decide) hL5 eh fun k hk _ hm=>by simp only[aO]at hm;omega
  obtain⟨x1,w6,p1,p2,x2,w7,p3,p4,p5⟩:=Lr (P:=aq) (w:=w5) (t:=52) (ty:=52) (e:=9) (i:=Tryz.t9) (bytes:=16) (size:=1) (r:=jB) (by kernel_rfl) (by kernel_rfl) rfl rfl rfl rfl (by decide) cZ (SliceF.only cZ (by decide) AB o5 (by simp)) (by omega) (by decide);have z6:=p2.size;have z7:=p5.size;refine⟨x1,w6,p1,p2.same (by simp;omega),x2,w7,p3,p5.same fun x hx=>?_,fun w8 fj=>?_⟩
  ·simp only[aO]at hx;subst hx;exact⟨by omega,by omega⟩
  have z8:=fj.size;have p57:ay [] w5 w7:=(p2.wT p5).only fun k hk=>hk;have o8:ay [] w0 w8:=(o5.cd p57).trans fj fun x hx=>.inr (by simp only[aO]at hx;omega);have aj4:=nk (by omega) fj (SliceF.only (dW d) (by decide) aj1 p57 (by simp));have hA8:aA (pC false) 9 w8 (fun k=>w3.heap.size<=k) l5 m.acts:=SliceF.only (cF false) (by decide) (SliceF.only (cF false) (by decide) hA5 p57 (by simp)) fj fun k hk _ hm=>by simp only[aO]at hm;omega
  have hX8:aA jB 1 w8 (fun k=>w5.heap.size<=k) x2 m.tg:=by
   have h0:aA jB 1 w7 (fun k=>w5.heap.size<=k) x2 m.tg:=by
    obtain⟨b1,b2,b3,b4,b5⟩:=p4.slice cZ;refine⟨b1,b2,b3,b4,fun j x hx=>?_⟩;obtain⟨base,cs,c1,c2,c3,c4,c5⟩:=b5 j x hx;refine⟨base,cs,c1,?_,c3,c4,c5⟩;have:=(p4.blk c1).1;exact this
   exact SliceF.only cZ (by decide) h0 fj fun k hk _ hm=>by simp only[aO]at hm;omega
  obtain⟨y9,w9,q1,q2,t',dw,g1,g2,g3⟩:=C6 (w:=w0) (u:=w8) (t:=24) (ty:=24) (e:=54) (i:=Tryz.t54) (bytes:=168) (size:=13) (r:=yq false) (G:=fun k=>w1.heap.size<=k) (v:=ah #[O U m.k,ab (T m.ev),O U m.wt,aj m.gd,O U m.g.k,O U m.g.n,ab (T m.g.s),O U m.g.op,l2.v,O U m.g.a,l5.v,x2.v,O U m.a]) (x:=m) (by kernel_rfl) (by kernel_rfl) rfl rfl rfl rfl (by decide) (by decide) (by decide) (gU false) hT ch.size o8 rfl ⟨_,l5,x2,rfl,(gz false).mono (Ux aj4) fun k hk=>hk.1,⟨hA8.mono (cF false) fun k hk=>by omega,fun h=>(by cases h)⟩,⟨hX8.mono cZ fun k hk=>by omega,fun h=>(by cases h)⟩⟩ (fun k hk=>by omega) (by rw[cP];omega);have z9:=q2.size;refine⟨y9,w9,q1,q2.same (by simp;omega),t',dw,g1,g3.same fun x hx=>?_,kv-1,by omega,j+1,by rw[fH (by omega) (by omega)];rfl,by omega,by omega,?_,((ch.cd o8).cd q2).wT (F:=fun k=>w.heap.size<=k) (g3.mono fun k _ hk=>hk.1) |>.only fun k hk=>hk⟩
  ·simp only[aO]at hx;subst hx;exact⟨by omega,fun h=>by omega⟩
  ·rw[bB,a2];exact g2
 ·have hc:=aU hc;have qV:j=l.length:=by omega
  subst qV;rw[bH (aW _)]at hT;exact⟨⟨t,rfl,(hT.slice (gU false)).mono (gU false) fun k hk=>hk.elim id fun h=>h.1⟩,ch⟩
theorem Om:∀(D:Nat) {w:av} {H:aJ} {s:Sl} {l:List Nd},aA (li false D) 9 w H s l->iV l<=8388608->
  az aq 35 #[s.v] w fun e w'=>(∃t:Sl,e=ak t.v/\aA (li false D) 9 w' (fun k=>w.heap.size<=k) t l)/\ay [] w w':=by
 intro D
 induction D with
 | zero=>
  intro w H s l h hz;have hx:l=[]:=by
   cases l with
   | nil=>rfl
   | cons x xs=>
    obtain⟨base,cs,_,_,_,_,h5⟩:=h.at_ 0 x rfl;exact h5.elim
  subst hx;have hn:s.n=0:=h.len;refine(abn s (fun v w'=>(∃t:Sl,v=t.v/\aA (li false 0) 9 w' (fun k=>w.heap.size<=k) t [])/\ay [] w w') w ?_).mono (by rintro _ w' ⟨v,rfl,⟨t,rfl,h⟩,h'⟩;exact⟨⟨t,rfl,h⟩,h'⟩);refine⟨fun nv s i w'=>s=Sl.nil/\i=0/\w'=w,0,⟨rfl,rfl,rfl⟩,?_⟩;rintro nv _ _ _ ⟨rfl,rfl,rfl⟩;exact⟨fun bQ=>absurd (aQ bQ) (by omega),fun _=>⟨⟨_,rfl,SliceF.nil _ _ _ _⟩,Only.refl _ _⟩⟩
 | succ D ih=>
  intro w H s l h hz;refine(abn s (fun v w'=>(∃t:Sl,v=t.v/\aA (li false (D+1)) 9 w' (fun k=>w.heap.size<=k) t l)/\ay [] w w') w ?_).mono (by rintro _ w' ⟨v,rfl,⟨t,rfl,h⟩,h'⟩;exact⟨⟨t,rfl,h⟩,h'⟩);have hl:=h.len;have DX:=oq l;refine⟨fun kv t i u=>∃j:Nat,i=(j:Int)/\kv+j=l.length/\j<=l.length/\Own (li false (D+1)) 9 27 w.heap.size u (fun k=>w.heap.size<=k) t (l.take j)/\ay [] w u,l.length,⟨0,rfl,by omega,bd _,Own.nil _ _ _ _ _ _,Only.refl _ _⟩,?_⟩;rintro kv t _ w0 ⟨j,rfl,Gl,hj,hT,ch⟩;have z0:=ch.size;refine⟨fun hc=>?_,fun hc=>?_⟩
  ·have hc:=aQ hc;obtain⟨ad,y,ds,a1,a2,a3,a4,a5,a6⟩:=(SliceF.only (cj false (D+1)) (by decide) h ch (by simp)).get (ba j) (by omega);rw[aX]at a2;obtain⟨en,lv,mv,kids,rfl,⟨A6,xd,rq⟩,Im⟩:=a6;have A6:=A6.1;have xd:=xd.1;have rq:=rq.1;have Im:=Im.1;have hyz:nP y<=iV l:=qe (br a2);obtain⟨bb,ks⟩:=y;rw[nP]at hyz;unfold BD at hyz;dsimp only[Nd.b,Nd.kids]at A6 xd rq Im a5;have ap:∀{α:Type} {r:Rp α} {size:Nat} {u v:av} {k2 B:Nat} {q:Sl} {xs:List α},r.Ok->0<size->aA r size u (fun k=>B<=k) q xs->ay [k2] u v->k2<B->aA r size v (fun k=>B<=k) q xs:=fun hr h0 hh hO hb=>SliceF.only hr h0 hh hO fun k hk _ hm=>by simp only[aO]at hm;omega
   refine⟨ad,a1,_,_,_,_,en,lv,mv,kids,_,a5,fun k2 w1 oY oG cn=>(C7 (SliceF.only (cF false) (by decide) A6 cn (by simp)) (by omega)).mono ?_⟩;rintro _ w2 ⟨⟨l5,rfl,hL5⟩,cG⟩;have z1:=cn.size;have z2:=cG.size;refine⟨l5,rfl,cG.same (by simp;omega),fun w3 dh=>?_⟩;have z3:=dh.size;have nw:∀{u v v':av},ay [] w0 u->ay [] u v->ay [k2] v v'->ay [] w0 v':=fun h1 h2 h3=>(h1.cd h2).trans h3 fun x hx=>.inr (by simp only[aO]at hx;omega);have o3:=nw cn cG dh;have hA3:=ap (cF false) (by decide) hL5 dh oG;refine(C7 (SliceF.only (cF false) (by decide) xd o3 (by simp)) (by omega)).mono ?_;rintro _ w4 ⟨⟨l6,rfl,hL6⟩,dI⟩;have z4:=dI.size;refine⟨l6,rfl,dI.same (by simp;omega),fun w5 eh=>?_⟩;have z5:=eh.size;have o5:=nw o3 dI eh;have hA5:=ap (cF false) (by decide) (SliceF.only (cF false) (by decide) hA3 dI (by simp)) eh oG;have tX:=ap (cF false) (by decide) hL6 eh (by omega);refine(Ol (SliceF.only (gU false) (by decide) rq o5 (by simp)) (by omega)).mono ?_;rintro _ w6 ⟨⟨l7,rfl,hL7⟩,dR⟩;have z6:=dR.size;refine⟨l7,rfl,dR.same (by simp;omega),fun w7 fN=>?_⟩;have z7:=fN.size;have o7:=nw o5 dR fN;have hA7:=ap (cF false) (by decide) (SliceF.only (cF false) (by decide) hA5 dR (by simp)) fN oG;have Qt:=ap (cF false) (by decide) (SliceF.only (cF false) (by decide) tX dR (by simp)) fN (by omega);have TG:=ap (gU false) (by decide) hL7 fN (by omega);refine(ih (SliceF.only (cj false D) (by decide) Im o7 (by simp)) (by omega)).mono ?_;rintro _ w8 ⟨⟨l8,rfl,hL8⟩,fj⟩;have z8:=fj.size;refine⟨l8,rfl,fj.same (by simp;omega),fun w9 fT=>?_⟩;have z9:=fT.size;have o9:=nw o7 fj fT;have hA9:=ap (cF false) (by decide) (SliceF.only (cF false) (by decide) hA7 fj (by simp)) fT oG;have QA:=ap (cF false) (by decide) (SliceF.only (cF false) (by decide) Qt fj (by simp)) fT (by omega);have hM9:=ap (gU false) (by decide) (SliceF.only (gU false) (by decide) TG fj (by simp)) fT (by omega);have hK9:=ap (cj false D) (by decide) hL8 fT (by omega);obtain⟨y9,dw,q1,q2,t',dJ,g1,g2,g3⟩:=C6 (w:=w0) (u:=w9) (t:=25) (ty:=25) (e:=27) (i:=Tryz.t27) (bytes:=160) (size:=9) (r:=li false (D+1)) (G:=fun k=>w1.heap.size<=k) (v:=ah (nf bb.k bb.nm bb.ini bb.dft l5 l6 l7 l8 bb.a).toArray) (x:=.mk bb ks) (by kernel_rfl) (by kernel_rfl) rfl rfl rfl rfl (by decide) (by decide) (by decide) (cj false (D+1)) hT ch.size o9 rfl ⟨l5,l6,l7,l8,rfl,⟨⟨hA9,fun h=>(by cases h)⟩,⟨QA.mono (cF false) fun k hk=>by omega,fun h=>(by cases h)⟩,⟨hM9.mono (gU false) fun k hk=>by omega,fun h=>(by cases h)⟩⟩,⟨hK9.mono (cj false D) fun k hk=>by omega,fun h=>(by cases h)⟩⟩ (fun k hk=>by omega) (by rw[cP];omega);have H0:=q2.size;refine⟨y9,dw,q1,q2.same (by simp;omega),t',dJ,g1,g3.same fun x hx=>?_,kv-1,by omega,j+1,by rw[fH (by omega) (by omega)];rfl,by omega,by omega,?_,((ch.cd o9).cd q2).wT (F:=fun k=>w.heap.size<=k) (g3.mono fun k _ hk=>hk.1) |>.only fun k hk=>hk⟩
   ·simp only[aO]at hx;subst hx;exact⟨by omega,fun h=>by omega⟩
   ·rw[bB,a2];exact g2
  ·have hc:=aU hc;have qV:j=l.length:=by omega
   subst qV;rw[bH (aW _)]at hT;exact⟨⟨t,rfl,(hT.slice (cj false (D+1))).mono (cj false (D+1)) fun k hk=>hk.elim id fun h=>h.1⟩,ch⟩
structure mY where
 k:Int
 nm:aH
 pa:Int
 dp:Int
 en:Int
mutual
def JH(a:Nat)(pa dp:Int):Nd->List mY
 | .mk b l=>⟨b.k,b.nm,pa,dp,((a+1+eZ l:Nat):Int)⟩::uG (a+1) a (dp+1) l
def uG(a:Nat)(pa dp:Int):List Nd->List mY
 | []=>[]
 | x::l=>JH a pa dp x++uG (a+ke x) pa dp l
end
mutual
theorem yy(a:Nat)(pa dp:Int):∀x,(JH a pa dp x).length=ke x
 | .mk b l=>by rw[JH,ke,aR,tj]
theorem tj(a:Nat)(pa dp:Int):∀l,(uG a pa dp l).length=eZ l
 | []=>by rw[uG,eZ];rfl
 | x::l=>by rw[uG,eZ,aN,yy,tj]
end
theorem C8(pa dp:Int):∀(l m:List Nd) (a:Nat),uG a pa dp (l++m)=uG a pa dp l++uG (a+eZ l) pa dp m
 | [],m,a=>by rw[ci,uG,ci,eZ,fp]
 | x::l,m,a=>by rw[cr,uG,uG,C8 pa dp l m,eZ,be,fe]
theorem C9:∀x,1<=ke x
 | .mk b l=>by rw[ke];omega
theorem Fu{x:Nd}:∀{l:List Nd},x∈l->ke x<=eZ l
 | [],h=>by simp at h
 | y::l,h=>by
  rw[eZ];rcases aY.1 h with rfl | h
  ·omega
  ·have:=Fu h;omega
theorem wF{y:Nd}:∀{l:List Nd} {j:Nat},l[j]? =some y->eZ (l.take j)+ke y<=eZ l
 | [],_,h=>by simp at h
 | x::l,0,h=>by
  rw[bP,aV]at h;subst h;rw[dr,eZ,eZ];omega
 | x::l,j+1,h=>by
  have:=wF (l:=l) (j:=j) (by rwa[cW]at h);rw[fC,eZ,eZ];omega
theorem Ab:∀l:List Nd,l.length<=eZ l
 | []=>bd _
 | a::l=>by
  have:=Ab l;have:=C9 a;rw[eZ,aR];omega
def Ad(L:List mY)(a i:Nat)(s:mY):Prop:=∃p t,p<i/\L[p]? =some t/\s.pa=((a+p:Nat):Int)/\s.dp=t.dp+1/\((a+i:Nat):Int)<t.en/\s.en<=t.en/\∀j u,p<j->j<i->L[j]? =some u->u.en<=((a+i:Nat):Int)
theorem Ad.AF{L M:List mY}{a i:Nat}{s:mY}(h:Ad L a i s)(hi:i<L.length):Ad (L++M) a i s:=by
 obtain⟨p,t,h1,h2,h3,h4,h5,h6,h7⟩:=h;refine⟨p,t,h1,?_,h3,h4,h5,h6,fun j u g1 g2 g3=>h7 j u g1 g2 ?_⟩
 ·rw[bJ (by omega)];exact h2
 ·rwa[bJ (by omega)]at g3
theorem Ad.shift{L M:List mY}{a i:Nat}{s:mY}(h:Ad M (a+L.length) i s):Ad (L++M) a (L.length+i) s:=by
 obtain⟨p,t,h1,h2,h3,h4,h5,h6,h7⟩:=h;refine⟨L.length+p,t,by omega,?_,by rw[h3];omega,h4,by omega,h6,fun j u g1 g2 g3=>?_⟩
 ·rw[cf (by omega),dE];exact h2
 ·rw[cf (by omega)]at g3;have:=h7 (j-L.length) u (by omega) (by omega) g3;omega
mutual
theorem Hq(a:Nat)(pa dp:Int):∀(x:Nd) (i:Nat) (s:mY),(JH a pa dp x)[i]? =some s->((a+i:Nat):Int)<s.en/\s.en<=((a+ke x:Nat):Int)/\(i=0->s.pa=pa/\s.dp=dp/\s.en=((a+ke x:Nat):Int))/\(0<i->Ad (JH a pa dp x) a i s)
 | .mk b l,i,s,h=>by
  rw[JH]at h⊢;rw[ke];cases i with
  | zero=>
   rw[bP,aV]at h;subst h;dsimp only;exact⟨by omega,by omega,fun _=>⟨rfl,rfl,by omega⟩,fun h=>by omega⟩
  | succ i=>
   rw[cW]at h;obtain⟨h1,h2,h3⟩:=Oo (a+1) a (dp+1) l i s h;refine⟨by omega,by omega,fun h=>by omega,fun _=>?_⟩;rcases h3 with⟨g1,g2,g3⟩ | g
   ·refine⟨0,_,by omega,bP,by rw[g1,fp],g2,by dsimp only;omega,by dsimp only;omega,fun j u k1 k2 k3=>?_⟩;cases j with
    | zero=>omega
    | succ j=>
     rw[cW]at k3;have:=g3 j u (by omega) k3;omega
   ·have:=Ad.shift (L:=[⟨b.k,b.nm,pa,dp,((a+1+eZ l:Nat):Int)⟩]) (M:=uG (a+1) a (dp+1) l) (a:=a) (i:=i) (s:=s) g;rw[bg,jH 1 i]at this;exact this
theorem Oo(a:Nat)(pa dp:Int):∀(l:List Nd) (i:Nat) (s:mY),(uG a pa dp l)[i]? =some s->((a+i:Nat):Int)<s.en/\s.en<=((a+eZ l:Nat):Int)/\
  ((s.pa=pa/\s.dp=dp/\∀j u,j<i->(uG a pa dp l)[j]? =some u->u.en<=((a+i:Nat):Int))∨Ad (uG a pa dp l) a i s)
 | [],i,s,h=>by rw[uG]at h;simp at h
 | x::l,i,s,h=>by
  rw[uG]at h⊢;rw[eZ];have hl:=yy a pa dp x;by_cases hi:i<ke x
  ·rw[bJ (by omega)]at h;obtain⟨h1,h2,h3,h4⟩:=Hq a pa dp x i s h;refine⟨h1,by omega,?_⟩;by_cases h0:i=0
   ·obtain⟨g1,g2,g3⟩:=h3 h0;exact .inl ⟨g1,g2,fun j u hj=>by omega⟩
   ·exact .inr ((h4 (by omega)).AF (by omega))
  ·rw[cf (by omega),hl]at h;obtain⟨h1,h2,h3⟩:=Oo (a+ke x) pa dp l (i-ke x) s h;refine⟨by omega,by omega,?_⟩;rcases h3 with⟨g1,g2,g3⟩ | g
   ·refine .inl ⟨g1,g2,fun j u hj hu=>?_⟩;by_cases Q7:j<ke x
    ·rw[bJ (by omega)]at hu;have:=(Hq a pa dp x j u hu).2.1;omega
    ·rw[cf (by omega),hl]at hu;have:=g3 (j-ke x) u (by omega) hu;omega
   ·refine .inr ?_;rw[<-hl]at g;have:=Ad.shift (L:=JH a pa dp x) g;rw[hl]at this;rwa[show ke x+(i-ke x)=i by omega]at this
end
structure Fo (xs:List mY):Prop where
 ne:0<xs.length
 rt:∀s:mY,xs[0]? =some s->s.pa= -1/\s.dp=0/\s.en=(xs.length:Int)
 up:∀(i:Nat) (s:mY),xs[i]? =some s->(i:Int)<s.en/\s.en<=(xs.length:Int)
 pa:∀(i:Nat) (s:mY),0<i->xs[i]? =some s->Ad xs 0 i s
def ot(c:Ch):List mY:=JH 0 (-1) 0 c.root
theorem SI(c:Ch):Fo (ot c):=by
 unfold ot;have hl:=yy 0 (-1) 0 c.root;have h:=Hq 0 (-1) 0 c.root;refine⟨by have:=C9 c.root;omega,fun s hs=>?_,fun i s hs=>?_,fun i s hi hs=>(h i s hs).2.2.2 hi⟩
 ·obtain⟨h1,h2,h3⟩:=(h 0 s hs).2.2.1 rfl;exact⟨h1,h2,by rw[h3,hl];omega⟩
 ·obtain⟨h1,h2,_⟩:=h i s hs;exact⟨by omega,by omega⟩
section
variable {xs:List mY} (F:Fo xs) {i j k p:Nat} {s t u:mY}
include F
theorem Fo.lam:∀(k:Nat) {i:Nat} {s t:mY},xs[i]? =some s->xs[k]? =some t->i<k->(k:Int)<s.en->t.en<=s.en
 | k,i,s,t,hi,hk,bQ,hs=>by
  obtain⟨p,v,h1,h2,h3,h4,h5,h6,h7⟩:=F.pa k t (by omega) hk;by_cases hp:p<i
  ·have:=h7 i s hp bQ hi;omega
  ·by_cases he:p=i
   ·subst he;rw[hi,aV]at h2;subst h2;exact h6
   ·have:=Fo.lam p hi h2 (by omega) (by omega);omega
theorem Fo.par(hk:xs[k]? =some t)(h0:0<k):∃(p:Nat) (s:mY),p<k/\t.pa=(p:Int)/\xs[p]? =some s/\t.dp=s.dp+1/\(k:Int)<s.en/\∀(i:Nat) (u:mY),xs[i]? =some u->i<k->(k:Int)<u.en->i<=p:=by
 obtain⟨p,v,h1,h2,h3,h4,h5,h6,h7⟩:=F.pa k t h0 hk;refine⟨p,v,h1,by rw[h3];omega,h2,h4,by omega,fun i u hu hi um=>?_⟩;by_cases hp:p<i
 ·have:=h7 i u hp hi hu;omega
 ·omega
omit F in
theorem Oq {xs:List mY} {i:Nat} {s:mY} (h:xs[i]? =some s):i<xs.length:=(bc.1 h).1
omit F in
theorem Ae {xs:List mY} {i:Nat} (h:i<xs.length):∃s,xs[i]? =some s:=⟨_,bG h⟩
end
def AW(xs:List mY)(b a:Nat):Prop:=∃s,xs[b]? =some s/\b<=a/\(a:Int)<s.en
section
variable {xs:List mY} (F:Fo xs) {i j k p:Nat}
include F
theorem Fo.WR(h:AW xs i j):j<xs.length:=by
 obtain⟨s,h1,h2,h3⟩:=h;have:=(F.up i s h1).2;omega
theorem Fo.PK(h:i<xs.length):AW xs i i:=by
 obtain⟨s,hs⟩:=Ae h;exact⟨s,hs,aW _,(F.up i s hs).1⟩
theorem Fo.PL(h:i<xs.length):AW xs 0 i:=by
 obtain⟨s,hs⟩:=Ae F.ne;exact⟨s,hs,bd _,by rw[(F.rt s hs).2.2];omega⟩
theorem Fo.WS(h:AW xs i j)(g:AW xs j k):AW xs i k:=by
 obtain⟨s,h1,h2,h3⟩:=h;obtain⟨t,g1,g2,g3⟩:=g;refine⟨s,h1,by omega,?_⟩;by_cases he:i=j
 ·subst he;rw[h1,aV]at g1;subst g1;exact g3
 ·have:=F.lam j h1 g1 (by omega) h3;omega
theorem Fo.WT(h:AW xs i k)(g:AW xs j k)(Au:i<=j):AW xs i j:=by
 obtain⟨s,h1,h2,h3⟩:=h;obtain⟨t,g1,g2,g3⟩:=g;exact⟨s,h1,Au,by omega⟩
end
def Wg(xs:List mY)(l:List Int)(r:Int):Prop:=∃m:Nat,r=m/\(∀n:Int,n∈l->∃k:Nat,n=k/\AW xs m k)/\∀j:Nat,(∀n:Int,n∈l->∃k:Nat,n=k/\AW xs j k)->j<=m
def Ot(xs:List mY)(n:Int):Prop:=0<=n/\n<xs.length
def Mt(xs:List mY)(l:List Int)(r:Int):Prop:=((l=[]∨∃n,n∈l/\¬Ot xs n)/\r= -1)∨((l≠[]/\∀n,n∈l->Ot xs n)/\Wg xs l r)
theorem Mt.ahS{xs:List mY}{l:List Int}{r:Int}(h:Mt xs l r)(h1:l≠[])(h2:∀n,n∈l->Ot xs n):Wg xs l r:=by
 rcases h with⟨hb | ⟨n,hn,hh⟩,_⟩ | ⟨_,h⟩
 ·exact absurd hb h1
 ·exact absurd (h2 n hn) hh
 ·exact h
theorem Wg.Aq{xs:List mY}{l m:List Int}{r q:Int}(h:Wg xs l r)(g:Wg xs m q)(he:∀n,n∈l↔n∈m):r=q:=by
 obtain⟨a,rfl,h1,h2⟩:=h;obtain⟨b,rfl,g1,g2⟩:=g;have e1:=g2 a fun n hn=>h1 n ((he n).2 hn);have e2:=h2 b fun n hn=>g1 n ((he n).1 hn);omega
abbrev Ft:=Int×Int
def bad(ok:Bool)(e a:Int):List Ft:=if ok then[]else[(e,a)]
def Cd(L:List Ft):Prop:=∀p,p∈L->p.1≠0
theorem Cd.nil:Cd []:=fun p h=>by simp at h
theorem tn{s:aH}:∀{l:List (aH)},wc s l<l.length↔s∈l
 | []=>by simp
 | x::l=>by
  rw[wc,aY,aR];split
  ·rename_i e;exact⟨fun _=>.inl e,fun _=>by omega⟩
  ·rename_i e;have:=tn (s:=s) (l:=l);exact⟨fun h=>.inr (this.1 (by omega)),fun h=>by have:=this.2 (h.resolve_left e);omega⟩
theorem JI{s:aH}(m:List (aH)):∀{l:List (aH)},s∈l->wc s (l++m)=wc s l
 | [],h=>by simp at h
 | x::l,h=>by
  rw[cr,wc,wc];split
  ·rfl
  ·rename_i e;rw[JI m ((aY.1 h).resolve_left e)]
theorem JJ{s:aH}(m:List (aH)):∀{l:List (aH)},s∉l->wc s (l++s::m)=l.length
 | [],_=>by rw[ci,wc,if_pos rfl];rfl
 | x::l,h=>by
  rw[cr,wc,if_neg (fun e=>h (by rw[e];simp)),JJ m (fun hm=>h (dc _ hm))];rfl
theorem Up.more{st cE:St}{c:Bool}{n:Nat}(h:Up st c 0 cE)(hn:c=true->n=0):Up st c n cE:=by
 cases c with
 | true=>rw[hn rfl];exact h
 | false=>
  refine⟨?_,fun e=>?_⟩
  ·rw[h.w];simp
  ·have:=h.w;rw[e]at this;simp at this
def Uy:List (aH):=[[],zH,pV,rW,E5]
theorem abI{k:Int}(h1:1<=k)(h2:k<=4):Uy[k.toNat]? =some (kW k):=by
 have:k=1∨k=2∨k=3∨k=4:=by omega
 rcases this with rfl | rfl | rfl | rfl<;>rfl
theorem Uz(k:Int):ne (kW k)=true:=by
 unfold kW;split
 ·rfl
 split
 ·rfl
 split
 ·rfl
 ·rfl
theorem Wh(k:Int):(kW k).length<=8:=by
 unfold kW;split
 ·decide
 split
 ·decide
 split
 ·decide
 ·decide
theorem JK{d:Nat}{b:Nb}{l:List Nd}(hk:b.k=1∨b.k=2)(hd:d<12):((decide (b.dft=[])&&cY b.nm)&&xM b l (d+1))=kw d (.mk b l):=by
 have hh:kZ b.k=false:=by unfold kZ;exact bn (by omega)
 rw[kw,bF hd,bT];unfold tN xM;rw[hh,if_neg (by decide)];have:decide ((b.k=1∨b.k=2)/\b.dft=[])=decide (b.dft=[]):=by simp[hk]
 rw[this];generalize decide (b.dft=[])=A;generalize cY b.nm=B;generalize (decide (b.ini=[])||cY b.ini)=C;generalize b.en.all fY=D;generalize b.lv.all fY=E;generalize b.mv.all j8=G;generalize iv (d+1) l=H;cases A<;>cases B<;>cases C<;>cases D<;>cases E<;>cases G<;>cases H<;>rfl
theorem JL{d:Nat}{b:Nb}{l:List Nd}(hk:b.k=3∨b.k=4)(hd:d<12):(((decide (b.ini=[])&&decide (b.en=[]/\b.lv=[]/\b.mv=[]/\l=[]))&&cY b.nm)&&cY b.dft)=kw d (.mk b l):=by
 have hh:kZ b.k=true:=by unfold kZ;exact bF hk
 rw[kw,bF hd,bT];unfold tN;rw[hh,if_pos rfl];by_cases hl:l=[]
 ·subst hl;have:decide (b.ini=[]/\b.en=[]/\b.lv=[]/\b.mv.length=0/\([]:List Nd).length=0)=(decide (b.ini=[])&&decide (b.en=[]/\b.lv=[]/\b.mv=[]/\([]:List Nd)=[])):=by
   rw[bI];simp
  rw[this,iv];generalize decide (b.ini=[])=A;generalize decide (b.en=[]/\b.lv=[]/\b.mv=[]/\([]:List Nd)=[])=B;cases A<;>cases B<;>cases cY b.nm<;>cases cY b.dft<;>rfl
 ·have h1:decide (b.en=[]/\b.lv=[]/\b.mv=[]/\l=[])=false:=bn fun h=>hl h.2.2.2;have h2:decide (b.ini=[]/\b.en=[]/\b.lv=[]/\b.mv.length=0/\l.length=0)=false:=bn fun h=>hl (bp h.2.2.2.2);rw[h1,h2];simp
theorem JM{d:Nat}{b:Nb}{l:List Nd}(h:¬(1<=b.k/\b.k<=4)∨12<=d):kw d (.mk b l)=false:=by
 rw[kw];rcases h with h | h
 ·have hh:kZ b.k=false:=by unfold kZ;exact bn (by omega)
  have:decide ((b.k=1∨b.k=2)/\b.dft=[])=false:=bn (by omega);unfold tN;rw[hh,if_neg (by decide),this];simp
 ·rw[bn (by omega)];rfl
theorem JN:∀D,Oh D
 | 0=>by
  intro w0 w b l st F x cs d h hx;exact hx.elim
 | D+1=>by
  intro w0 w b l st F x cs d h hx hF hn hs hd hE hT;obtain⟨bb,ks⟩:=x;have TH:=hx;obtain⟨en,lv,mv,kids,rfl,tV,uu⟩:=hx;have tV:CT false w F bb en lv mv:=tV;have uu:jE false (li false D) 9 27 w F kids ks:=uu;show az aq 90 #[rp b,ah (nf bb.k bb.nm bb.ini bb.dft en lv mv kids bb.a).toArray,O U (d:Int)] w _;rw[xu]at hn;rw[nP]at hs;have PM:=hs;unfold BD at PM;refine ret (abm _ _ _ _ _ _ _ _ _ _ _ _ _ ?_);intro k0 w1 gD dQ cn;have t1:=(h.z false).al cn gD dQ;obtain⟨q,sl,hB,_⟩:=t1.toQz.set;have bad:∀{w':av} {cE:St} {lx:aH},cE.1=true->Zq false w0 w b w' lx cE [k0]->(st.1=true∨kw d (.mk bb ks)=false)->∃cE l',Up st (kw d (.mk bb ks)) (th (.mk bb ks)) cE/\(cE.1=false->l'=dq l (AE d (.mk bb ks)))/\Qz w0 b w' l' cE/\Mw false b w w':=by
   intro w' cE lx e t hc;refine⟨cE,lx,⟨?_,fun e2=>absurd (e.symm.trans e2) (by decide)⟩,fun e2=>absurd (e.symm.trans e2) (by decide),t.toQz,t.m⟩;rw[e];rcases hc with hc | hc
   ·rw[hc];rfl
   ·rw[hc];simp
  refine⟨st.1,Blk.ec hB 2 rfl,fun hc=>?_,fun hc=>?_⟩
  ·refine(jW t1.toQz false).mono ?_;rintro _ w2 ⟨rfl,xE,u1,u2,u3⟩;refine⟨rfl,t1.sm u3 (by simp),rfl,bad (by rw[u1.w];simp) (t1.nx u2 u3.up) ?_⟩;rw[cq]at hc;rcases hc with hc | hc
   ·exact .inl hc
   ·exact .inr (JM (.inr (by have:=aQ hc;omega)))
  rw[eK]at hc;have Yq:d<12:=by have:=aU hc.2;omega
  obtain⟨q2,w2,g,cs,e2,cG,hg1,hg2,lm,cO⟩:=N9 w1 Uy (n:=5) (parts:=#[.mk 0 (ab (ao #[])),.mk 1 (ab (ao #[115,116,97,116,101])),.mk 2 (ab (ao #[112,97,114,97,108,108,101,108])),.mk 3 (ab (ao #[104,105,115,116,111,114,121])),.mk 4 (ab (ao #[100,101,101,112]))]) rfl rfl (by decide) (by decide);have t2:=t1.al cG hg1 hg2;have hwd:1<=bb.k/\bb.k<=4->dl q2 bb.k 1 ⟨g,bb.k.toNat,none⟩/\∀w',aF w' g 9 cs->aB w' ⟨g,bb.k.toNat,none⟩ [ab (T (kW bb.k))]:=fun hk=>by
   have:=cO _ _ (abI hk.1 hk.2);rwa[gw (by omega)]at this
  have L2:=Wh bb.k;have z2:∀{w3:av},ay [] w2 w3->aF w3 g 9 cs:=fun hO=>hO.blk lm (by simp);have z2m:∀{w3 w4:av} {lx:aH} {sx:St} {f:Bool},Zq false w0 w b w3 lx sx [g,k0]->Mw f b w3 w4->aF w3 g 9 cs->aF w4 g 9 cs:=fun t m hB=>(t.sm (ks':=[g]) m (by simp) g (by simp)).trans hB;refine⟨q2,w2,e2,t1.sq cG (by simp),fun b1 w3=>w2=w3/\b1=decide (bb.k=1∨bb.k=2),?_,fun xW=>⟨rfl,?_⟩,fun xW=>⟨rfl,?_⟩⟩
  ·rintro b1 _ ⟨rfl,rfl⟩;refine⟨fun TE=>?_,fun TE=>?_⟩
   ·have hk:=aQ TE;have Yr:1<=bb.k/\bb.k<=4:=by omega
    obtain⟨y1,y2⟩:=hwd Yr;rw[show ao #[]=T []from rfl,iO];refine(jW t2.toQz _).mono ?_;rintro _ w4 ⟨rfl,Il,u1,u2,u3⟩;have t4:=t2.nx u2 u3.up;refine⟨rfl,t2.sm u3 (by simp),fun w5 eh=>⟨fun k=>k∈[k0,g],by simp,_,y1,by simp,_,y2 w5 (eh.blk (z2m t2 u3 lm) (by simp)),?_⟩⟩;have t5:=t4.q eh;refine(mG t5.toQz bb.nm (by omega)).mono ?_;rintro _ w6 ⟨rfl,st6,v1,v2,v3⟩;have t6:=t5.nx v2 v3.up;have xF:=iU [kW bb.k,bb.nm,[123]];simp only[bE,gW,ck,iI,aR,aZ]at xF;obtain⟨q7,w7,e7,fN,hj7⟩:=xv t6.toQz [kW bb.k,bb.nm,[123]] (n:=3) (parts:=#[.mk 0 (ab (T (kW bb.k))),.mk 1 (ab (T bb.nm)),.mk 2 (ab (T [123]))]) rfl rfl (by decide) (by decide) d hd (by omega);refine⟨_,rfl,t5.sm v3 (by simp),bO.of (t5.sm v3 (by simp)),q7,w7,e7,t6.sq fN (by simp),bO.of (t6.sq fN (by simp)),hj7.mono ?_⟩;rintro _ w8 ⟨rfl,x1,x2⟩;have t8:=t6.nx x1 x2;have Vd:st6.1=false->(if st6.1 then l else iE l (d,fQ [kW bb.k,bb.nm,[123]]))=dq l [(d,kW bb.k++32::(bb.nm++[32,123]))]:=fun e=>by
     rw[e,if_neg (by decide),mo,oU (Uz _),fF (qN (v1.ok e).2.1),fF (by rfl),eW,fE,fE,ml];rfl
    generalize (if st6.1 then l else iE l (d,fQ [kW bb.k,bb.nm,[123]]))=l8 at*
    have ed:ar U ((d:Int)+1)=((d+1:Nat):Int):=by rw[fH (by omega) (by omega)];rfl
    rw[ed];refine⟨rfl,t6.sl fN x2 (by simp),bO.of (t6.sl fN x2 (by simp)),(Oi (JN D) t8.toQz (tV.keep fun k hk _=>h.arg t8.toQz (hF k hk)) (uu.keep (cj false D) (by decide) fun k hk _=>h.arg t8.toQz (hF k hk)) hF hn.1 hn.2 hs (d+1) (by omega) hE hT).mono ?_⟩;rintro _ w9 ⟨rfl,Yg,l9,U9,hl9,y3,y4⟩;have t9:=t8.nx y3 y4;obtain⟨U0,dw,Yi,dM,Ym⟩:=xv t9.toQz [[125]] (n:=1) (parts:=#[.mk 0 (ab (T [125]))]) rfl rfl (by decide) (by decide) d hd (by decide);refine⟨rfl,t8.sm y4 (by simp),U0,dw,Yi,t9.sq dM (by simp),Ym.mono ?_⟩;rintro _ dJ ⟨rfl,x3,x4⟩;have t11:=t9.nx x3 x4;refine⟨rfl,t9.sl dM x4 (by simp),rfl,Yg,_,((u1.tr v1).tr U9).cg (JK hk Yq) (by rw[th];omega),fun e=>?_,t11.toQz,t11.m⟩;have hh:kZ bb.k=false:=by unfold kZ;exact bn (by omega)
    rw[AE,hh,e];simp only[fR,jb];rw[hl9 e,Vd (U9.ok e).1,<-fm];have e1:fQ [[125]]=[125]:=by decide
    rw[e1,<-mo,<-fm];simp only[be,cr,ci]
   ·have hnk:=aU TE;refine⟨fun b2 eM=>w2=eM/\b2=decide (bb.k=3∨bb.k=4),?_,fun hc4=>⟨rfl,?_⟩,fun hc4=>⟨rfl,?_⟩⟩
    ·rintro b2 _ ⟨rfl,rfl⟩;refine⟨fun hc5=>?_,fun hc5=>?_⟩
     ·have hk:=aQ hc5;have Yr:1<=bb.k/\bb.k<=4:=by omega
      obtain⟨y1,y2⟩:=hwd Yr;have n4:=tV.1.1.len;have n5:=tV.2.1.1.len;have n6:=tV.2.2.1.len;have n7:=uu.1.len;have a4:=gV bb.en;have a5:=gV bb.lv;have a6:=mV bb.mv;have a7:=oq ks;have aj6:(ar U ((ar U ((ar U ((en.n:Int)+(lv.n:Int)))+(mv.n:Int)))+(kids.n:Int))==0)=decide (bb.en=[]/\bb.lv=[]/\bb.mv=[]/\ks=[]):=by
       rw[fH (x:=(en.n:Int)+(lv.n:Int)) (by omega) (by omega),fH (x:=(en.n:Int)+(lv.n:Int)+(mv.n:Int)) (by omega) (by omega),fH (by omega) (by omega),bI];simp only[dz,bA];refine⟨fun e=>?_,fun⟨e1,e2,e3,e4⟩=>?_⟩
       ·exact⟨bp (by omega),bp (by omega),bp (by omega),bp (by omega)⟩
       ·rw[n4,n5,n6,n7,e1,e2,e3,e4];rfl
      rw[show ao #[]=T []from rfl,iO,aj6];refine(jW t2.toQz _).mono ?_;rintro _ eU ⟨rfl,Yp,u1,u2,u3⟩;have t13:=t2.nx u2 u3.up;refine⟨rfl,t2.sm u3 (by simp),fun fM eV=>⟨fun k=>k∈[k0,g],by simp,_,y1,by simp,_,y2 fM (eV.blk (z2m t2 u3 lm) (by simp)),by simp,?_⟩⟩;have t14:=t13.q eV;refine(mG t14.toQz bb.nm (by omega)).mono ?_;rintro _ iy ⟨rfl,apU,v1,v2,v3⟩;have t15:=t14.nx v2 v3.up;refine⟨_,rfl,t14.sm v3 (by simp),bO.of (t14.sm v3 (by simp)),(mG t15.toQz bb.dft (by omega)).mono ?_⟩;rintro _ jK ⟨rfl,aj7,x1,x2,x3⟩;have t16:=t15.nx x2 x3.up;have xF:=iU [kW bb.k,bb.nm,[45,62],bb.dft++[59]];simp only[bE,gW,ck,iI,aR,aZ,aN]at xF;obtain⟨q17,iZ,e17,jt,aj8⟩:=xv t16.toQz [kW bb.k,bb.nm,[45,62],bb.dft++[59]] (n:=4) (parts:=#[.mk 0 (ab (T (kW bb.k))),.mk 1 (ab (T bb.nm)),.mk 2 (ab (T [45,62])),.mk 3 (ab (T (bb.dft++[59])))]) rfl rfl (by decide) (by decide) d hd (by omega);refine⟨T bb.dft,rfl,t15.sm x3 (by simp),bO.of (t15.sm x3 (by simp)),by rw[bW];omega,q17,iZ,by rw[show ao #[59]=T [59]from rfl,dZ];exact e17,t16.sq jt (by simp),bO.of (t16.sq jt (by simp)),aj8.mono ?_⟩;rintro _ jM ⟨rfl,y3,y4⟩;have t18:=t16.nx y3 y4;have hU:=((u1.tr v1).tr x1).cg (JL hk Yq) rfl;refine⟨rfl,t16.sl jt y4 (by simp),bO.of (t16.sl jt y4 (by simp)),rfl,aj7,_,hU.more fun tU=>?_,fun e=>?_,t18.toQz,t18.m⟩
      ·rw[<-JL hk Yq]at tU;simp only[aP,bA]at tU;obtain⟨⟨⟨_,e1,e2,e3,e4⟩,_⟩,_⟩:=tU;rw[th,e4,j9];unfold wg;rw[e1,e2,e3];rfl
      ·have hh:kZ bb.k=true:=by unfold kZ;exact bF hk
       have Qy:ne (bb.dft++[59])=true:=by
        have:bb.dft++[59]≠[]:=by simp
        unfold ne;rw[bn this];rfl
       rw[AE,hh,if_pos rfl,e,if_neg (by decide),mo,oU (Uz _),fF (qN (v1.ok (x1.ok e).1).2.1),fF (by rfl),fF Qy,eW,fE,fE,fE,ml,bL];rfl
     ·have apW:=aU hc5;refine(jW t2.toQz false).mono ?_;rintro _ eU ⟨rfl,Yp,u1,u2,u3⟩;have t13:=t2.nx u2 u3.up;exact⟨rfl,t2.sm u3 (by simp),rfl,bad (by rw[u1.w];simp) ⟨t13.toQz,t13.m,fun k hk=>t13.k k (by simp at hk;simp[hk])⟩ (.inr (JM (.inl (by omega))))⟩
    ·have:bb.k=3:=by simpa using hc4
     rw[hc4,bF (.inl this)]
    ·have:bb.k≠3:=by simpa using hc4
     rw[bI];simp[this]
  ·have:bb.k=1:=by simpa using xW
   rw[xW,bF (.inl this)]
  ·have:bb.k≠1:=by simpa using xW
   rw[bI];simp[this]
mutual
theorem Ou:∀x:Nd,ke x<=nP x
 | .mk b l=>by
  rw[ke,nP];have:=vI l;unfold BD;omega
theorem vI:∀l:List Nd,eZ l<=iV l
 | []=>by rw[eZ];exact bd _
 | x::l=>by
  rw[eZ,iV];exact jZ (Ou x) (vI l)
end
mutual
theorem Wi:∀x:Nd,tf x<=nP x
 | .mk b l=>by
  rw[tf,nP];have:=tq l;have:=mV b.mv;unfold BD;omega
theorem tq:∀l:List Nd,lC l<=iV l
 | []=>by rw[lC];exact bd _
 | x::l=>by
  rw[lC,iV];exact jZ (Wi x) (tq l)
end
theorem qf(x:Nd):∀l:List Nd,eZ (l++[x])=eZ l+ke x
 | []=>by simp[eZ]
 | y::l=>by rw[cr,eZ,eZ,qf x l];omega
theorem tt(x:Nd):∀l:List Nd,lC (l++[x])=lC l+tf x
 | []=>by simp[lC]
 | y::l=>by rw[cr,lC,lC,tt x l];omega
theorem Af:∀l m:List Nd,iV (l++m)=iV l+iV m
 | [],m=>by rw[ci,iV];omega
 | y::l,m=>by rw[cr,iV,iV,Af l m];omega
theorem JO:∀(D:Nat) (w:av) (F:aJ) (x:Nd) (cs:aI),li false D w F x cs->nP x<=8388608->az aq 36 #[ah cs.toArray] w fun e w'=>e=ak (ai #[O U (ke x:Int),O U (tf x:Int)])/\ay [] w w'
 | 0,w,F,x,cs,hx,_=>hx.elim
 | D+1,w,F,x,cs,hx,hs=>by
  obtain⟨bb,ks⟩:=x;obtain⟨en,lv,mv,kids,rfl,tV,uu⟩:=hx;have rq:=tV.2.2.1;have rq:aA (yq false) 13 w F mv bb.mv:=rq;have hk:aA (li false D) 9 w F kids ks:=uu.1;show az aq 36 #[ah (nf bb.k bb.nm bb.ini bb.dft en lv mv kids bb.a).toArray] w _;refine ret (aa2 _ _ _ _ _ _ _ _ _ _ _ ?_);have z1:=vI ks;have z2:=tq ks;have z3:=mV bb.mv;rw[nP]at hs;have PM:=hs;unfold BD at PM;have n6:=rq.len;have n7:=hk.len;have z4:=oq ks;intro k0 w1 gD dQ cn w2 cG;refine⟨fun nv a m i w'=>∃j:Nat,i=j/\j<=ks.length/\nv=ks.length-j/\a=(1+eZ (ks.take j):Nat)/\m=(bb.mv.length+lC (ks.take j):Nat)/\k0<w'.heap.size/\ay [] w w',ks.length,⟨0,rfl,bd _,rfl,by rw[dr,eZ];rfl,by rw[dr,lC,n6];rfl,cD dQ cG.size,cn.cd cG⟩,?_⟩;rintro nv _ _ _ w3 ⟨j,rfl,hj,rfl,rfl,rfl,Ky,dh⟩;have apX:iV ks=iV (ks.take j)+iV (ks.drop j):=by rw[<-Af,fg]
  have y1:=vI (ks.take j);have y2:=tq (ks.take j);refine⟨fun hc=>?_,fun hc=>?_⟩
  ·have bQ:(j:Int)<kids.n:=aQ hc;obtain⟨ad,y,cs,g1,g2,g3,g4,g5,g6⟩:=(SliceF.only (cj false D) (by decide) hk dh (by simp)).get (ba j) bQ;rw[aX]at g2;have ME:=qe (br g2);have nZ:ks.take (j+1)=ks.take j++[y]:=by
    rw[bB,g2];rfl
   have amH:iV ks=iV (ks.take (j+1))+iV (ks.drop (j+1)):=by rw[<-Af,fg]
   have y3:eZ (ks.take j)+ke y<=iV (ks.take (j+1)):=by rw[<-qf,<-nZ];exact vI _
   have y4:lC (ks.take j)+tf y<=iV (ks.take (j+1)):=by rw[<-tt,<-nZ];exact tq _
   have DG:=g6;cases D with
   | zero=>exact DG.elim
   | succ D=>
   obtain⟨uo,uq,pu,iX,rfl,_⟩:=DG;refine⟨ad,g1,_,_,_,_,uo,uq,pu,iX,_,g5,fun k3 w4 Ay amI dI=>?_⟩;refine(JO (D+1) w4 F y _ ((cj false _).keep g6 fun k _ bQ=>dI.block k bQ (by simp)) (by omega)).mono ?_;rintro _ w5 ⟨rfl,eh⟩;refine⟨_,_,rfl,eh.same (by have:=dI.size;simp;omega),ks.length-(j+1),by omega,j+1,by rw[fH (by omega) (by omega)];rfl,by omega,rfl,?_,?_,?_,(dh.cd dI).cd eh⟩
   ·rw[nZ,qf,fH (by omega) (by omega)];omega
   ·rw[nZ,tt,fH (by omega) (by omega)];omega
   ·have:=dI.size;have:=eh.size;omega
  ·have lR:¬(j:Int)<kids.n:=aU hc;have qV:j=ks.length:=by omega
   subst qV;rw[bH (aW _)];refine⟨?_,dh⟩;rw[ke,tf,jH]
structure Pt4 (w:av) (b:Nat) (sl:Sl) (l:aH) (v2 v3:aw):Prop where
 blk:∃q:Option Addr,aF w b 72 [ae q,sl.v,v2,v3]
 len:sl.n=l.length
 some:l≠[]->∃g,sl.a=.some ⟨g,0,none⟩/\b<g/\sl.c≠0/\(∃n,w.shape? g=.some (5,n)/\l.length<=n)/\aB w ⟨g,0,none⟩ (l.map fW)
 cap:sl.a=none∨sl.c≠0
 big:l.length<=9223372036854775807
section
variable {w:av} {b:Nat} {sl:Sl} {l:aH} {v2 v3:aw}
theorem Pt4.only{w':av}(h:Pt4 w b sl l v2 v3)(hO:ay [] w w'):Pt4 w' b sl l v2 v3:=by
 obtain⟨⟨q,h1⟩,h2,h3,h4,h5⟩:=h;refine⟨⟨q,hO.blk h1 (by simp)⟩,h2,fun hl=>?_,h4,h5⟩;obtain⟨g,a1,a2,a3,⟨n,a4,a5⟩,a6⟩:=h3 hl;have hg:g<w.heap.size:=by
  refine bC fun hn=>?_;unfold World.shape? at a4;rw[ft (by omega)]at a4;cases a4
 have hk:=hO.block g hg (by simp);exact⟨g,a1,a2,a3,⟨n,(zQ hk).trans a4,a5⟩,a6.keep hk⟩
theorem Qz.pt{w0:av}{st:St}(h:Qz w0 b w l st):∃sl,Pt4 w b sl l (aj st.1) (O U st.2)/\∀k,sl.a=some ⟨k,0,none⟩->Bu w b k:=by
 obtain⟨q,sl,hq,hB,hb⟩:=h.ex;refine⟨sl,⟨⟨_,hB⟩,hb.len,fun hl=>?_,?_,?_⟩,fun k hk=>Fm hB hk⟩
 ·rcases hb with⟨_,e⟩ | ⟨g,tail,h1,h2,h3,h4,h5,h6,h7,h8⟩
  ·exact absurd e hl
  ·have h0:l.length≠0:=fun e=>hl (bp e);refine⟨g,h1,h2,by omega,⟨_,by unfold World.shape?;unfold aF at h3;rw[h3],by simp⟩,h3.cells 0 (l.map fW) fun j v hj=>by rw[bD,bJ (bc.1 hj).1];exact hj⟩
 ·rcases hb with⟨e,_⟩ | ⟨g,tail,h1,h2,h3,h4,h5,h6,h7,h8⟩
  ·exact .inl (by rw[e])
  ·exact .inr (by omega)
 ·rcases hb with⟨_,e⟩ | ⟨g,tail,h1,h2,h3,h4,h5,h6,h7⟩
  ·subst e;simp
  ·omega
theorem JP(h:Pt4 w b sl l v2 v3):az aq 43 #[ae (some ⟨b,0,none⟩)] w fun e w'=>e=ak (ab (T l))/\Pt4 w' b sl l v2 v3/\aD (fun k=>b<k/\sl.a=some ⟨k,0,none⟩) w w':=by
 refine ret (Ud _ _ _ ?_);intro w0 ch;have h0:=h.only ch;obtain⟨⟨q,hB⟩,ey,Gi,nS,pq⟩:=h0;refine⟨fun k=>k=b,sl,Blk.ec hB 1 rfl,rfl,sl,Blk.ec hB 1 rfl,sl.a,w0,?_,fun k _ _=>rfl,?_⟩
 ·obtain⟨sa,sn',sc⟩:=sl;cases sa with
  | none=>exact Lib.run_unsafeSliceData_nil _ _ _ _ _
  | some a=>
   rcases nS with e | e
   ·cases e
   ·exact Lib.run_unsafeSliceData_row _ _ _ _ _ _ e
 ·by_cases hl:l=[]
  ·subst hl;have hn:sl.n=0:=ey;refine⟨T [],w0,?_,fun k _ _=>rfl,rfl,⟨⟨q,hB⟩,ey,Gi,nS,pq⟩,ch.p0⟩;rw[hn];exact Lib.run_unsafeString_none _ _ _ _ _
  ·obtain⟨g,ha,P3,hc,⟨m,ri,hm⟩,uK⟩:=Gi hl;have hF:=rU w0 ⟨g,0,none⟩ l.length;have HU:b<w0.heap.size:=hB.lt;refine⟨T l,w0.freeze ⟨g,0,none⟩ l.length,?_,fun k hk bQ=>hF.block k bQ (by dsimp only;omega),rfl,⟨⟨q,hF.blk hB (by dsimp only;omega)⟩,ey,fun _=>⟨g,ha,P3,hc,⟨m,(vA _ _ _ _).trans ri,hm⟩,fun j v hj=>by rw[rT];exact uK j v hj⟩,nS,pq⟩,ch.wT (hF.mono fun k _ hk=>by dsimp only at hk;exact⟨by omega,by rw[hk];exact ha⟩)⟩;rw[ha,ey];exact Lib.run_unsafeString_row _ _ _ _ 5 (by kernel_rfl) (by kernel_rfl) g m ri l hl hm pq fun j x hj=>uK j (fW x) (by rw[cX,hj];rfl)
end
def iW(c:Ch):aH×Int:=
 if pZ c=true then(if 16384<(dq [] (yw c)).length then([],2)else if(ia (dq [] (yw c))).2.1≠0 then([],22)else(dq [] (yw c),0))else([],22)
def nQ:List Vr->Nat
 | []=>0
 | v::l=>(v.n.length+1)+nQ l
theorem vJ{v:Vr}:∀{l:List Vr},v∈l->v.n.length+1<=nQ l
 | [],h=>by simp at h
 | x::l,h=>by
  rw[nQ];rcases aY.1 h with rfl | h
  ·omega
  ·have:=vJ h;omega
theorem Ag:∀l:List Vr,l.length<=nQ l
 | []=>bd _
 | v::l=>by
  have:=Ag l;rw[nQ,aR];omega
def tR(v:Vr):Bool:=cY v.n&&decide (v.v≠ -9223372036854775808)
theorem SJ(c:Ch):((((((decide (c.root.b.k=1)&&decide (c.root.b.dft=[]))&&decide (c.vars.length<=16))&&decide (ke c.root<=64))&&decide (tf c.root<=200))&&cY c.root.b.nm)&&(c.vars.all tR&&xM c.root.b c.root.kids 1)&&decide (th c.root<=400))=pZ c:=by
 obtain⟨vars,⟨b,l⟩⟩:=c;unfold pZ;show((((((decide (b.k=1)&&decide (b.dft=[]))&&decide (vars.length<=16))&&decide (ke (.mk b l)<=64))&&decide (tf (.mk b l)<=200))&&cY b.nm)&&(vars.all tR&&xM b l 1)&&decide (th (.mk b l)<=400))=(vars.all tR&&kw 0 (.mk b l)&&decide (b.k=1/\vars.length<=16/\ke (.mk b l)<=64/\tf (.mk b l)<=200/\th (.mk b l)<=400))
 by_cases hk:b.k=1
 ·rw[<-JK (d:=0) (.inl hk) (by decide)];have:decide (b.k=1/\vars.length<=16/\ke (.mk b l)<=64/\tf (.mk b l)<=200/\th (.mk b l)<=400)=(decide (vars.length<=16)&&decide (ke (.mk b l)<=64)&&decide (tf (.mk b l)<=200)&&decide (th (.mk b l)<=400)):=by
   rw[bI];simp[hk,and_assoc]
  rw[this,bF hk];generalize decide (b.dft=[])=A;generalize decide (vars.length<=16)=B;generalize decide (ke (.mk b l)<=64)=C;generalize decide (tf (.mk b l)<=200)=D;generalize decide (th (.mk b l)<=400)=E;generalize cY b.nm=G;generalize vars.all tR=H;show _=(H&&((A&&G)&&xM b l (0+1))&&(B&&C&&D&&E))
  generalize xM b l (0+1)=I;cases A<;>cases B<;>cases C<;>cases D<;>cases E<;>cases G<;>cases H<;>cases I<;>rfl
 ·have:decide (b.k=1/\vars.length<=16/\ke (.mk b l)<=64/\tf (.mk b l)<=200/\th (.mk b l)<=400)=false:=bn fun h=>hk h.1;rw[this,bn hk];simp
theorem SK{w:av}{F:aJ}{D:Nat}{c:Ch}{vs:Sl}{cs:aI}(hx:ChR false D w F c vs cs)(hn:MD c)(hs:nQ c.vars+nP c.root<=8388608)(hE:Er w)(hT:Tb w):
  az aq 14 #[ah (vs.v::cs).toArray] w fun e w'=>e=ak (ai #[ab (T (iW c).1),O U (iW c).2])/\ay [] w w':=by
 obtain⟨vars,⟨bb,ks⟩⟩:=c;cases D with
 | zero=>exact hx.root.elim
 | succ D=>
 have KG:li false (D+1) w F (.mk bb ks) cs:=hx.root;have Ys:=(cj false _).inHeap KG;have wV:aA yr 3 w F vs vars:=hx.vars.1;obtain⟨en,lv,mv,kids,rfl,tV,uu⟩:=Ys;have tV:CT false w (fun k=>F k/\k<w.heap.size) bb en lv mv:=tV;have uu:jE false (li false D) 9 27 w (fun k=>F k/\k<w.heap.size) kids ks:=uu;have hr:=hn.r;have hr:xu (.mk bb ks):=hr;have hvn:∀v,v∈vars->wa v.v:=hn.v;rw[xu]at hr;have hs:nQ vars+nP (.mk bb ks)<=8388608:=hs;have hsN:nP (.mk bb ks)=BD bb+iV ks:=by rw[nP]
 have PM:=hs;rw[hsN]at PM;unfold BD at PM;have aei:=SJ ⟨vars,.mk bb ks⟩;generalize hP:iW ⟨vars,.mk bb ks⟩=P;unfold iW at hP;rw[<-aei]at hP;clear aei;have hP:(if((((((decide (bb.k=1)&&decide (bb.dft=[]))&&decide (vars.length<=16))&&decide (ke (.mk bb ks)<=64))&&decide (tf (.mk bb ks)<=200))&&cY bb.nm)&&(vars.all tR&&xM bb ks 1)&&decide (th (.mk bb ks)<=400))=true then(if 16384<(dq [] (yw ⟨vars,.mk bb ks⟩)).length then([],2)else if(ia (dq [] (yw ⟨vars,.mk bb ks⟩))).2.1≠0 then([],22)else(dq [] (yw ⟨vars,.mk bb ks⟩),0))else([],22))=P:=hP;show az aq 14 #[ah (vs.v::nf bb.k bb.nm bb.ini bb.dft en lv mv kids bb.a).toArray] w _;refine ret (agj _ _ _ _ _ _ _ _ _ _ _ _ ?_);intro k0 b w1 gD dQ hb nC cn;have hvl:=wV.len;have hvz:=Ag vars;refine(JO (D+1) w1 F (.mk bb ks) _ ((cj false _).keep KG fun k _ bQ=>cn.block k bQ (by simp)) (by omega)).mono ?_;rintro _ w2 ⟨rfl,cG⟩;have z2:=cG.size;refine⟨_,_,rfl,cG.same (by simp;omega),fun lm gC=>?_⟩;have q2:Qz w b w2 [] (false,0):=⟨cn.cd cG,hb,⟨none,Sl.nil,.inl rfl,lm,.inl ⟨rfl,rfl⟩⟩,fun _=>⟨iM 0,by decide⟩,bd _⟩
 have t2:Zq false w w2 b w2 [] (false,0) [k0]:=⟨q2,Mw.refl _ _ _,fun k hk=>by
  simp only[aO]at hk;subst hk;exact⟨by omega,gC,fun h=>by have:=Jx lm h;cases this⟩⟩
 have hF:∀k,(fun k=>F k/\k<w.heap.size) k->k<w.heap.size:=fun k hk=>hk.2;have hw:=q2.o;rw[show ao #[]=T []from rfl,iO,hvl];refine(jW t2.toQz _).mono ?_;rintro _ w3 ⟨rfl,Yf,u1,u2,u3⟩;have t3:=t2.nx u2 u3.up;have TE:((((bb.k==1)&&decide (bb.dft=[]))&&decide ((vars.length:Int)<=16))&&decide ((ke (.mk bb ks):Int)<=64)&&decide ((tf (.mk bb ks):Int)<=200))=((((decide (bb.k=1)&&decide (bb.dft=[]))&&decide (vars.length<=16))&&decide (ke (.mk bb ks)<=64))&&decide (tf (.mk bb ks)<=200)):=by
  rw[bI];simp only[aP,dz,bA];constructor
  ·rintro⟨⟨⟨⟨a1,a2⟩,a3⟩,a4⟩,a5⟩;exact⟨⟨⟨⟨a1,a2⟩,by omega⟩,by omega⟩,by omega⟩
  ·rintro⟨⟨⟨⟨a1,a2⟩,a3⟩,a4⟩,a5⟩;exact⟨⟨⟨⟨a1,a2⟩,by omega⟩,by omega⟩,by omega⟩
 rw[TE]at u1;obtain⟨q3a,q3b,_,ru,_⟩:=t3.ex;refine⟨rfl,t2.sm u3 (by simp),q3a,q3b,_,_,ru,(mG t3.toQz bb.nm (by omega)).mono ?_⟩;rintro _ w4 ⟨rfl,Il,v1,v2,v3⟩;have t4:=t3.nx v2 v3.up;obtain⟨q4a,q4b,_,qs,_⟩:=t4.ex;have xF:=iU [eS,bb.nm,[123]];simp only[bE,gW,ck,iI,aR,aZ]at xF;have hwc:eS.length=5:=rfl;obtain⟨q5,w5,e5,eh,hj5⟩:=xv t4.toQz [eS,bb.nm,[123]] (n:=3) (parts:=#[.mk 0 (ab (T eS)),.mk 1 (ab (T bb.nm)),.mk 2 (ab (T [123]))]) rfl rfl (by decide) (by decide) 0 (by decide) (by omega);refine⟨_,rfl,t3.sm v3 (by simp),q4a,q4b,_,_,qs,q5,w5,e5,?_,hj5.mono ?_⟩
 ·refine eh.same fun x hx=>⟨?_,by simp⟩
  simp only[aY,bf,cb]at hx;rcases hx with rfl | rfl
  ·exact(t4.k x (by simp)).1
  ·exact t4.toQz.lb
 rintro _ w6 ⟨rfl,x1,x2⟩;have t6:=t4.nx x1 x2;have hU6:=u1.tr v1;have Zo:Il.1=false->(if Il.1 then([]:aH)else iE [] (0,fQ [eS,bb.nm,[123]]))=dq [] [(0,eS++32::(bb.nm++[32,123]))]:=fun e=>by
  rw[e];simp only[fR,jb];rw[mo,oU (by decide),fF (qN (v1.ok e).2.1),fF (by rfl),eW,fE,fE,ml];rfl
 generalize (if Il.1 then([]:aH)else iE [] (0,fQ [eS,bb.nm,[123]]))=l6 at*
 obtain⟨q6a,q6b,_,MA,_⟩:=t6.ex;refine⟨rfl,t4.sl eh x2 (by simp),q6a,q6b,_,_,MA,fun nv i q l' wr ac w'=>∃(j:Nat) (cE:St) (l':aH),i=j/\j<=vars.length/\nv=vars.length-j/\Up Il ((vars.take j).all tR) 0 cE/\(cE.1=false->l'=dq l6 ((vars.take j).map fun v=>(1,QZ v)))/\Zq false w w2 b w' l' cE [k0],
  vars.length,⟨0,Il,l6,rfl,bd _,rfl,t6.toQz.WQ,fun _=>rfl,t6⟩,?_⟩
 rintro nv _ qa la wr ac w7 ⟨j,U8,l7,rfl,hj,rfl,KF,Gk,t7⟩;refine⟨fun hc=>?_,fun hc=>?_⟩
 ·have bQ:(j:Int)<vars.length:=aQ hc;obtain⟨ad,v,cs,g1,g2,g3,g4,g5,g6⟩:=(SliceF.only eF (by decide) wV t7.o (by simp)).get (ba j) (by omega);rw[aX]at g2;have hvm:=br g2;have hvz:=vJ hvm;have nZ:vars.take (j+1)=vars.take j++[v]:=by
   rw[bB,g2];rfl
  unfold yr at g6;subst g6;refine⟨ad,g1,_,_,_,g5,fun k4 w8 tZ Gh fj _=>?_⟩;have t8:=t7.al fj tZ Gh;refine(jW t8.toQz _).mono ?_;rintro _ w9 ⟨rfl,Yg,y1,y2,y3⟩;have t9:=t8.nx y2 y3.up;obtain⟨q9a,q9b,_,QA,_⟩:=t9.ex;refine⟨rfl,t8.sm y3 (by simp),q9a,q9b,_,_,QA,fun dw dM _=>⟨fun k=>k∈[k4],by simp,?_⟩⟩;have t10:=t9.q dM;refine(mG t10.toQz v.n (by omega)).mono ?_;rintro _ dJ ⟨rfl,Yn,y4,y5,y6⟩;have t11:=t10.nx y5 y6.up;obtain⟨aka,akb,_,A2,_⟩:=t11.ex;refine⟨_,rfl,t10.sm y6 (by simp),aka,akb,_,_,A2,bO.of (t10.sm y6 (by simp)),(yt v.v (hvn v hvm) (hT.only t11.o)).mono ?_⟩;rintro _ eM ⟨rfl,fb⟩;have t12:=t11.q fb;obtain⟨akc,akd,_,DM,_⟩:=t12.ex;have hil:=Fs (hvn v hvm);have xF:=iU [tM,v.n,[61],Lib.itoa v.v++[59]];simp only[bE,gW,ck,iI,aR,aZ,aN]at xF;have hwv:tM.length=3:=rfl;obtain⟨Ze,eU,e13,dL,ake⟩:=xv t12.toQz [tM,v.n,[61],Lib.itoa v.v++[59]] (n:=4) (parts:=#[.mk 0 (ab (T tM)),.mk 1 (ab (T v.n)),.mk 2 (ab (T [61])),.mk 3 (ab (T (Lib.itoa v.v++[59])))]) rfl rfl (by decide) (by decide) 1 (by decide) (by omega);refine⟨T (Lib.itoa v.v),rfl,t11.sq fb (by simp),akc,akd,_,_,DM,bO.of (t11.sq fb (by simp)),by rw[bW];omega,Ze,eU,by rw[show ao #[59]=T [59]from rfl,dZ];exact e13,?_,bO.of (t12.sq dL (by simp)),ake.mono ?_⟩
  ·refine dL.same fun x hx=>⟨?_,by simp⟩
   simp only[aY,bf,cb]at hx;rcases hx with rfl | rfl | rfl
   ·exact(t12.k x (by simp)).1
   ·exact t12.toQz.lb
   ·exact(t12.k x (by simp)).1
  rintro _ fM ⟨rfl,y7,y8⟩;have t14:=t12.nx y7 y8;obtain⟨akf,akg,_,Gc,_⟩:=t14.ex;refine⟨rfl,t12.sl dL y8 (by simp),akf,akg,_,_,Gc,bO.of (t12.sl dL y8 (by simp)),vars.length-(j+1),by omega,j+1,Yn,_,by rw[fH (by omega) (by omega)];rfl,by omega,rfl,((KF.tr y1).tr y4).cg ?_ rfl,fun e=>?_,⟨t14.toQz,t14.m,fun k hk=>t14.k k (by simp at hk;simp[hk])⟩⟩
  ·rw[nZ,jz];have:(v.v != -9223372036854775808)=decide (v.v≠ -9223372036854775808):=by rw[bI];simp
   rw[this];unfold tR;simp only[jN,List.all_nil,cR];rw[ub,Bool.and_comm (decide _) (cY _)]
  ·have Qy:ne (Lib.itoa v.v++[59])=true:=by
    have:Lib.itoa v.v++[59]≠[]:=by simp
    unfold ne;rw[bn this];rfl
   rw[e];simp only[fR,jb];rw[Gk (y1.ok (y4.ok e).1).1,nZ,dF,fm,oU (by decide),fF (qN (y4.ok e).2.1),fF (by rfl),fF Qy,eW,fE,fE,fE,ml,bL];rfl
 have lR:¬(j:Int)<vars.length:=aU hc;have qV:j=vars.length:=by omega
 subst qV;rw[bH (aW _)]at KF Gk;refine(Oi (JN D) t7.toQz (tV.keep fun k hk _=>t7.o.block k hk.2 (by simp)) (uu.keep (cj false D) (by decide) fun k hk _=>t7.o.block k hk.2 (by simp)) hF hr.1 hr.2 (by omega) 1 (by decide) hE hT).mono ?_;rintro _ w8 ⟨rfl,Yl,l8,hU8,Vd,y1,y2⟩;have t8:=t7.nx y1 y2;obtain⟨q8a,q8b,_,uR,_⟩:=t8.ex;obtain⟨q9,w9,e9,fT,hj9⟩:=xv t8.toQz [[125]] (n:=1) (parts:=#[.mk 0 (ab (T [125]))]) rfl rfl (by decide) (by decide) 0 (by decide) (by decide);refine⟨rfl,t7.sm y2 (by simp),q8a,q8b,_,_,uR,q9,w9,e9,?_,hj9.mono ?_⟩
 ·refine fT.same fun x hx=>⟨?_,by simp⟩
  simp only[aY,bf,cb]at hx;rcases hx with rfl | rfl
  ·exact(t8.k x (by simp)).1
  ·exact t8.toQz.lb
 rintro _ dw ⟨rfl,x3,x4⟩;have t10:=t8.nx x3 x4;have hU:=hU6.tr (KF.tr hU8);have hlF:Yl.1=false->(if Yl.1 then l8 else iE l8 (0,fQ [[125]]))=dq [] (yw ⟨vars,.mk bb ks⟩):=fun e=>by
  obtain⟨e7,_⟩:=hU8.ok e;obtain⟨e4,_⟩:=KF.ok e7;rw[e];simp only[fR,jb];rw[Vd e,Gk e7,Zo e4];have e1:fQ [[125]]=[125]:=by decide
  rw[e1,<-mo,<-fm,<-fm,<-fm];unfold yw;rw[be (AV 1 bb)];exact rfl
 generalize (if Yl.1 then l8 else iE l8 (0,fQ [[125]]))=lF at*
 obtain⟨aek,ael,_,nr,_⟩:=t10.ex;have hcond:((((((decide (bb.k=1)&&decide (bb.dft=[]))&&decide (vars.length<=16))&&decide (ke (.mk bb ks)<=64))&&decide (tf (.mk bb ks)<=200))&&cY bb.nm)&&(vars.all tR&&xM bb ks 1)&&decide (th (.mk bb ks)<=400))=!Yl.1:=by
  have h1:=hU.w;have akh:decide (400<(0:Int)+((0+0+(0+(wg bb+j9 ks)):Nat):Int))=!decide (th (.mk bb ks)<=400):=by
   rw[th];by_cases h4:wg bb+j9 ks<=400
   ·rw[bF h4,bn (by omega)];rfl
   ·rw[bn h4,bF (by omega)];rfl
  have h1:Yl.1=((false||!((((((decide (bb.k=1)&&decide (bb.dft=[]))&&decide (vars.length<=16))&&decide (ke (.mk bb ks)<=64))&&decide (tf (.mk bb ks)<=200))&&cY bb.nm)&&(vars.all tR&&xM bb ks 1)))||decide (400<(0:Int)+((0+0+(0+(wg bb+j9 ks)):Nat):Int))):=h1;rw[akh]at h1;rw[h1];generalize ((((((decide (bb.k=1)&&decide (bb.dft=[]))&&decide (vars.length<=16))&&decide (ke (.mk bb ks)<=64))&&decide (tf (.mk bb ks)<=200))&&cY bb.nm)&&(vars.all tR&&xM bb ks 1))=A;generalize decide (th (.mk bb ks)<=400)=B;cases A<;>cases B<;>rfl
 rw[hcond]at hP;have fin:∀{w':av},ay [] w2 w'->ay [] w w':=fun h=>hw.cd h;have Zy:ay [] w dw:=t10.o;refine⟨rfl,t8.sl fT x4 (by simp),aek,ael,_,_,nr,fun e=>?_,fun e=>(JB t10.toQz).mono ?_⟩
 ·rw[if_neg (by rw[e];decide)]at hP;subst hP;exact⟨rfl,Zy⟩
 rw[if_pos (by rw[e];rfl),<-hlF e]at hP;rintro _ _ ⟨rfl,rfl⟩;obtain⟨slP,hPt,hPb⟩:=t10.toQz.pt;have hbu:=fun k hk=>t10.toQz.bu (hPb k hk);refine⟨_,rfl,fun _ _=>rfl,aek,ael,_,_,nr,fun e2=>?_,fun e2=>(JP hPt).mono ?_⟩
 ·rw[if_pos (aQ e2)]at hP;subst hP;exact⟨rfl,Zy⟩
 rw[if_neg (aU e2)]at hP;rintro _ dJ ⟨rfl,Ve,dY⟩;have Gd:=dY.size;have hlb:=t10.toQz.lb;have k0h:=t10.k k0 (by simp);have ko:∀k,(b<k/\slP.a=some ⟨k,0,none⟩)->w.heap.size<=k:=fun k hk=>by have:=t10.lo;omega
 have o11:ay [] w dJ:=(Zy.wT dY).only ko;obtain⟨Zd,A2⟩:=Ve.blk;refine⟨_,rfl,dY.same fun x hx=>?_,Zd,slP,_,_,A2,(Fl _ (hE.only o11)).mono ?_⟩
 ·simp only[aO]at hx;subst hx;exact⟨k0h.1,fun h=>k0h.2.2 (hPb _ h.2)⟩
 rintro _ eM ⟨vsx,csx,rfl,hC,fb⟩;obtain⟨xe,xl,xm,xk,rfl,_⟩:=hC.root;have Vf:=Ve.only fb;obtain⟨q12,DM⟩:=Vf.blk;have o12:=o11.cd fb;have z12:=fb.size;refine⟨vsx,_,_,_,_,xe,xl,xm,xk,_,_,_,rfl,fb.same (by simp;omega),q12,slP,_,_,DM,fun e3 k6 k7 eU _ _ _ _ dL _=>?_,fun e3 k8 k9 fM hk8 Tv hk9 aem eV _=>?_⟩
 ·rw[if_pos (by simpa using e3)]at hP;subst hP;exact⟨rfl,o12.cd dL⟩
 ·rw[if_neg (by simpa using e3)]at hP;subst hP;refine(JP (Vf.only eV)).mono ?_;rintro _ iy ⟨rfl,aen,kB⟩;obtain⟨q15,Ya⟩:=aen.blk;have Xu:=eV.size;refine⟨_,rfl,kB.same fun x hx=>?_,q15,slP,_,_,Ya,rfl,((o12.cd eV).wT kB).only ko⟩;simp only[aY,bf,cb]at hx;rcases hx with rfl | rfl | rfl
  ·exact⟨by omega,fun h=>k0h.2.2 (hPb _ h.2)⟩
  ·exact⟨Tv,fun h=>by have:=(hbu _ h.2).2;omega⟩
  ·exact⟨aem,fun h=>by have:=(hbu _ h.2).2;omega⟩
def inB(n:Int):Bool:=decide (-9223372036854775808<=n/\n<=9223372036854775807)
theorem Ov{n:Int}(h:inB n=true):wa n:=by
 have h:=aQ h;exact⟨h.1,h.2⟩
mutual
def YS:Ex->Bool
 | .mk _ n _ _ l _=>inB n&&SL l
def SL:List Ex->Bool
 | []=>true
 | x::l=>YS x&&SL l
end
theorem JQ{y:Ex}:∀{l:List Ex},SL l=true->y∈l->YS y=true
 | [],_,h=>by simp at h
 | x::l,h,hy=>by
  rw[SL,aP]at h;rcases aY.1 hy with rfl | hy
  ·exact h.1
  ·exact JQ h.2 hy
theorem Wj:∀(d:Nat) {x:Ex},YS x=true->jQ d x
 | 0,_,_=>trivial
 | d+1,.mk k n s op l a,h=>by
  rw[YS,aP]at h;exact⟨Ov h.1,fun y hy=>Wj d (JQ h.2 hy)⟩
def nAb(a:Ac):Bool:=YS a.x
def nMb(m:Mv):Bool:=YS m.g&&m.acts.all nAb&&inB m.wt
def nNb(b:Nb):Bool:=b.en.all nAb&&b.lv.all nAb&&b.mv.all nMb
mutual
def nDb:Nd->Bool
 | .mk b l=>nNb b&&SM l
def SM:List Nd->Bool
 | []=>true
 | x::l=>nDb x&&SM l
end
theorem Ow{l:List Ac}(h:l.all nAb=true):∀a,a∈l->Bx a:=fun a ha d=>Wj d ((dT.1 h) a ha)
theorem ahC{m:Mv}(h:nMb m=true):MC m:=by
 unfold nMb at h;simp only[aP]at h;exact⟨fun d=>Wj d h.1.1,Ow h.1.2,Ov h.2⟩
theorem ahD{b:Nb}(h:nNb b=true):U5 b:=by
 unfold nNb at h;simp only[aP]at h;exact⟨Ow h.1.1,Ow h.1.2,fun m hm=>ahC ((dT.1 h.2) m hm)⟩
mutual
theorem abJ:∀(x:Nd),nDb x=true->xu x
 | .mk b l,h=>by
  rw[nDb,aP]at h;rw[xu];exact⟨ahD h.1,UA l h.2⟩
theorem UA:∀(l:List Nd),SM l=true->tQ l
 | [],_=>by rw[tQ];trivial
 | x::l,h=>by
  rw[SM,aP]at h;rw[tQ];exact⟨abJ x h.1,UA l h.2⟩
end
def nCb(c:Ch):Bool:=(c.vars.all fun v=>inB v.v)&&nDb c.root
theorem ahF{c:Ch}(h:nCb c=true):MD c:=by
 unfold nCb at h;simp only[aP]at h;exact⟨fun v hv=>Ov ((dT.1 h.1) v hv),abJ _ h.2⟩
def ahG(c:Ch):Bool:=decide (nQ c.vars+nP c.root<=8388608)
theorem ChR.off{d:Nat}{w:av}{F:aJ}{c:Ch}{vs:Sl}{cs:aI}(h:ChR true d w F c vs cs):ChR false d w F c vs cs:=⟨h.vars.off fun _ _ _ h=>h,Je h.root⟩
def Wk(x:mY):aI:=[O U x.k,ab (T x.nm),O U x.pa,O U x.dp,O U x.en]
def DT:Rp mY:=fun _ _ x cs=>cs=Wk x
theorem lc:DT.Ok:=⟨fun h _=>h,fun h=>h,fun h _=>h,fun h=>by
 unfold DT Wk at h;subst h;intro v hv;simp only[aY,bf,cb]at hv;rcases hv with rfl | rfl | rfl | rfl | rfl<;>rfl⟩
abbrev gp(B:Nat)(w:av)(s:Sl)(xs:List mY):Prop:=Own DT 5 43 B w (fun _=>False) s xs
theorem gp.of{B:Nat}{w:av}{F:aJ}{s:Sl}{xs:List mY}(h:Own DT 5 43 B w F s xs):gp B w s xs:=by
 rcases h with⟨rfl,rfl⟩ | ⟨g,css,tail,h1,h2,h4,h5,h6,h7,h9,h8⟩
 ·exact .inl ⟨rfl,rfl⟩
 ·exact .inr ⟨g,css,tail,h1,h2,h4,h5,h6,h7,h9,gq.PF (fun x c _ hc=>hc) h8⟩
theorem gp.BT{B:Nat}{w w':av}{G:aJ}{s:Sl}{xs:List mY}(h:gp B w s xs)(hO:aD G w w')(hG:∀k,B<=k->s.a=some ⟨k,0,none⟩->¬G k):gp B w' s xs:=
 h.keep lc fun k hk bQ=>hO.block k bQ (hk.elim (fun h=>h.elim) fun h=>hG k h.1 h.2)
theorem UB(t:Bool):∀(D:Nat) {w:av} {F:aJ} {x:Nd} {cs:aI} {b:Nat} {s:Sl} {xs:List mY} {pa dp:Int},li t D w F x cs->(∀k,F k->k<b)->aF w b 92 [s.v]->gp (b+1) w s xs->
  xs.length+ke x<=1000000->0<=dp->dp+ke x<=1000000->
  az aq 51 #[ae (some ⟨b,0,none⟩),ah cs.toArray,O U pa,O U dp] w fun e w'=>e=ak (ai #[])/\∃s',aF w' b 92 [s'.v]/\gp (b+1) w' s' (xs++JH xs.length pa dp x)/\ii b s w s' w'
 | 0,_,_,_,_,_,_,_,_,_,h,_,_,_,_,_,_=>h.elim
 | D+1,w,F,.mk bb ks,cs,b,s,xs,pa,dp,⟨en,lv,mv,kids,jY,_,gD⟩,hF,hB,hS,hn,h0,hd=>by
  have hk:=gD.1;clear gD;dsimp only[Nd.kids,Nd.b]at hk jY;subst jY;rw[ke]at hn hd;have L2:=hk.len;have hnn:=Ab ks;refine ret (ahl _ _ _ _ _ _ _ _ _ _ _ _ _ _ ?_);intro k0 w0 gD dQ ch;have z0:=ch.size;have HU:=hB.lt;have cell:∀{u:av} {q:Sl},aF u b 92 [q.v]->aB u ((⟨b,0,none⟩:Addr).add 0) [q.v]:=fun h=>h.cells 0 [_] fun j v hj=>by rw[bD];exact hj
  have Ax:=ch.blk hB (by simp);refine⟨s,cell Ax,fun w1 cn=>⟨fun k=>k=b,rfl,s,cell (cn.blk Ax (by simp)),?_⟩⟩;have o1:=ch.cd cn;have z1:=cn.size;have hS1:gp (b+1) w1 s xs:=hS.BT o1.p0 fun _ _ _ h=>h;have pD:=o1.blk hB (by simp);obtain⟨y,w2,k1,k3,s3,w3,g1,g2,⟨gs,g3,g4⟩,g5⟩:=nG (P:=aq) (t:=90) (ty:=90) (e:=43) (i:=Tryz.t43) (bytes:=48) (size:=5) (r:=DT) (G:=fun _=>False) (v:=ah #[O U bb.k,ab (T bb.nm),O U pa,O U dp,O U 0]) (x:=⟨bb.k,bb.nm,pa,dp,0⟩) (by kernel_rfl) (by kernel_rfl) rfl rfl rfl rfl (by decide) (by decide) (by decide) lc hS1 (by omega) rfl rfl (fun _ h=>h.elim) (by omega);have z2:=k3.size;have z3:=g3.size;have gb:∀g,g∈gs->g≠b/\g<w1.heap.size/\s.a=some ⟨g,0,none⟩:=fun g hg=>⟨by have:=(g4 g hg).2.1;omega,(g4 g hg).2.2,(g4 g hg).1⟩
  have uM:s.a≠some ⟨k0,0,none⟩:=fun e=>by have:=(hS.blk e).2;dsimp only at this;omega
  have ru:aF w3 b 92 [s.v]:=g3.blk (k3.blk pD (by simp)) fun h=>(gb b h).1 rfl;refine⟨y,w2,k1,k3.same (by simp;omega),bO.only k3,s3,w3,g1,g3.same fun x hx=>?_,fun k hk bQ=>?_,b,0,_,_,rfl,ru,aW 1,by omega,fun w4 dI qs=>?_⟩
  ·simp only[aO]at hx;subst hx;exact⟨by omega,fun h=>uM (gb _ h).2.2⟩
  ·subst hk;exact g3.block _ bQ fun h=>(gb _ h).1 rfl
  have z4:=dI.size;have Zz:gp (b+1) w3 s3 (xs++[⟨bb.k,bb.nm,pa,dp,0⟩]):=gp.of g2;have hS4:gp (b+1) w4 s3 (xs++[⟨bb.k,bb.nm,pa,dp,0⟩]):=Zz.BT (G:=fun k=>k=b) (dI.p (by simp)) fun k h _=>by omega
  have m4:ii b s w s3 w4:=by
   refine⟨((o1.cd k3).wT (g3.p (F:=fun k=>k=b∨s.a=some ⟨k,0,none⟩) fun g hg=>.inl (.inr (gb g hg).2.2))).trans (dI.p (F:=fun k=>k=b∨s.a=some ⟨k,0,none⟩) (by simp)) fun k hk=>.inl hk,fun k hk=>?_⟩;rcases g5 with e | ⟨g,e,h⟩
   ·exact .inl (by rw[<-e];exact hk)
   ·rw[e]at hk;injection hk with hk;injection hk with hk;exact .inr (by omega)
  have n4:∀k,s3.a=some ⟨k,0,none⟩->k≠k0:=fun k hk e=>by
   subst e;rcases g5 with e | ⟨g,e,h⟩
   ·exact uM (by rw[<-e];exact hk)
   ·rw[e]at hk;injection hk with hk;injection hk with hk;omega
  have um:∀{u:av} {q:Sl},ii b s w q u->aA (li t D) 9 u F kids ks:=fun hm=>SliceF.rc (cj t D) (by decide) hk hm.1 fun k hFk _=>by
   have:=hF k hFk;exact fun h=>h.elim (by omega) fun h=>by have:=(hS.blk h).1;dsimp only at this;omega
  refine⟨fun kv i w'=>∃(j:Nat) (q:Sl),i=(j:Int)/\kv+j=ks.length/\j<=ks.length/\aF w' b 92 [q.v]/\gp (b+1) w' q (xs++⟨bb.k,bb.nm,pa,dp,0⟩::uG (xs.length+1) xs.length (dp+1) (ks.take j))/\ii b s w q w'/\w4.heap.size<=w'.heap.size/\∀k,q.a=some ⟨k,0,none⟩->k≠k0,ks.length,⟨0,s3,rfl,by omega,bd _,qs,by rw[dr,uG];exact hS4,m4,aW _,n4⟩,?_⟩;rintro kv _ w5 ⟨j,q,rfl,Gl,xF,tX,QB,m5,z5,n5⟩;have QC:s.n=xs.length:=hS.len;constructor
  ·intro hc;have hj:j<ks.length:=by have:=aQ hc;omega
   obtain⟨y,hy⟩:∃y,ks[j]? =some y:=⟨_,bG hj⟩
   obtain⟨ad,y',ds,a1,a2,a3,a4,a5,a6⟩:=(um m5).get (ba j) (by omega);rw[aX,hy]at a2;injection a2 with a2;subst a2;have Ty:=a6;obtain⟨D',rfl⟩:∃D',D=D'+1:=by
    cases D with
    | zero=>exact a6.elim
    | succ D'=>exact⟨D',rfl⟩
   obtain⟨uo,uq,pu,iX,rfl,_⟩:=Ty;have AX:=wF hy;have TI:(xs++⟨bb.k,bb.nm,pa,dp,0⟩::uG (xs.length+1) xs.length (dp+1) (ks.take j)).length=xs.length+1+eZ (ks.take j):=by
    rw[aN,aR,tj];omega
   refine⟨ad,a1,_,_,_,_,uo,uq,pu,iX,_,a5,fun k6 w6 U3 aeo dR=>?_⟩;have z6:=dR.size;have m6:ii b s w q w6:=m5.trans (ii.only dR);rw[fH (by omega) (by omega),QC];refine(UB t (D'+1) (pa:=((xs.length:Nat):Int)) ((cj t (D'+1)).keep a6 fun k _ bQ=>dR.block k bQ (by simp)) (s:=q) (xs:=xs++⟨bb.k,bb.nm,pa,dp,0⟩::uG (xs.length+1) xs.length (dp+1) (ks.take j)) (b:=b) (dp:=dp+1) hF (dR.blk tX (by simp)) (QB.BT dR.p0 fun _ _ _ h=>h) (by rw[TI];omega) (by omega) (by omega)).mono ?_;rintro _ w7 ⟨rfl,q7,Qt,hS7,m7⟩;have z7:=m7.1.size;refine⟨rfl,m7.1.same fun x hx=>?_,kv-1,by omega,j+1,q7,by rw[fH (by omega) (by omega)];rfl,by omega,by omega,Qt,?_,m6.trans m7,by omega,fun k hk e=>?_⟩
   ·simp only[aY,bf,cb]at hx;rcases hx with rfl | rfl
    ·exact⟨by omega,fun h=>h.elim (by omega) fun h=>n5 _ h rfl⟩
    ·refine⟨aeo,fun h=>h.elim (by omega) fun h=>?_⟩;have:=(QB.blk h).2;dsimp only at this;omega
   ·have e:ks.take (j+1)=ks.take j++[y]:=by rw[bB,hy];rfl
    rw[e,C8,uG,uG,bL];rw[TI,be,cr]at hS7;exact hS7
   ·subst e;rcases m7.2 _ hk with h | h
    ·exact n5 _ h rfl
    ·omega
  ·intro hc w8 fj;have qV:j=ks.length:=by have:=aU hc;omega
   subst qV;rw[bH (aW _)]at QB;have uR:=fj.blk tX (by simp);have hS8:gp (b+1) w8 q _:=QB.BT fj.p0 fun _ _ _ h=>h;have z8:=fj.size;have cO:(xs++⟨bb.k,bb.nm,pa,dp,0⟩::uG (xs.length+1) xs.length (dp+1) ks)[xs.length]? =some ⟨bb.k,bb.nm,pa,dp,0⟩:=by
    rw[cf (aW _),mB];rfl
   obtain⟨g,cells,wU,p1,p2,p3,p4,p5,p6,p7⟩:=Own.ack lc hS8 cO;have Yt:wU=Wk ⟨bb.k,bb.nm,pa,dp,0⟩:=p6;subst Yt;have hql:q.n=xs.length+1+eZ ks:=by rw[QB.len,aN,aR,tj];omega
   obtain⟨p8,p9⟩:=p7 4 (O U (q.n:Int)) ⟨bb.k,bb.nm,pa,dp,(q.n:Int)⟩ (fun _=>False) (by decide) rfl fun _ h=>h.elim;rw[<-QC]at p2;have hgb:=(QB.blk p1).1;dsimp only at hgb;refine⟨q,cell uR,q,cell uR,_,p2,g,xs.length*5+4,cells,_,by rw[fZ,QC],p3,by rw[<-QC]at p8⊢;exact p8,fun e=>n5 g p1 e.symm,fun w9 fT QA=>⟨rfl,q,fT.blk uR (by simp;omega),?_,?_⟩⟩
   ·have:=p9 w9 fT QA;rw[pF _ _ (aW _),mB,ua]at this;rw[JH];have e:(q.n:Int)=((xs.length+1+eZ ks:Nat):Int):=by rw[hql]
    rw[e]at this;exact this
   ·refine(m5.trans (ii.only fj)).trans ⟨fT.p fun k hk=>?_,fun k hk=>.inl hk⟩;simp only[aO]at hk;subst hk;exact .inl (.inr p1)
theorem SN{w:av}{F:aJ}{D:Nat}{c:Ch}{vs:Sl}{cs:aI}(hx:ChR false (D+1) w F c vs cs)(hn:MD c)(hs:nQ c.vars+nP c.root<=8388608)(hE:Er w)(hT:Tb w):
  az aq 13 #[ah (vs.v::cs).toArray] w fun e w'=>e=ak (O U (iW c).2)/\ay [] w w':=by
 obtain⟨en,lv,mv,kids,rfl,_⟩:=hx.root;refine ret (agx _ _ _ _ _ _ _ _ _ _ _ _ ?_);intro k0 w0 gD dQ ch;have TH:ChR false (D+1) w0 F c vs (nf c.root.b.k c.root.b.nm c.root.b.ini c.root.b.dft en lv mv kids c.root.b.a):=⟨hx.vars.keep eF (by decide) fun k _ bQ=>ch.block k bQ (by simp),(cj false _).keep hx.root fun k _ bQ=>ch.block k bQ (by simp)⟩
 refine(SK TH hn hs (hE.only ch) (hT.only ch)).mono ?_;rintro _ w1 ⟨rfl,cn⟩;exact⟨_,_,rfl,cn.same (by simp;omega),rfl,ch.cd cn⟩
theorem wG{c:Ch}(h:(iW c).2=0):ke c.root<=64:=by
 unfold iW at h;by_cases h1:pZ c=true
 ·unfold pZ at h1;simp only[aP]at h1;exact(aQ h1.2).2.2.1
 ·rw[if_neg h1]at h;exact absurd h (by decide)
theorem Hr{w:av}{F:aJ}{D:Nat}{c:Ch}{vs:Sl}{cs:aI}(hx:ChR false (D+1) w F c vs cs)(hn:MD c)(hs:nQ c.vars+nP c.root<=8388608)(hE:Er w)(hT:Tb w):
  az aq 18 #[ah (vs.v::cs).toArray] w fun e w'=>(∃s,e=ak (ai #[Sl.v s,O U (iW c).2])/\((iW c).2=0->gp w.heap.size w' s (ot c))/\((iW c).2≠0->s=Sl.nil))/\ay [] w w':=by
 obtain⟨en,lv,mv,kids,jY,_⟩:=hx.root;subst jY;refine(ahk vs c.root.b.k (T c.root.b.nm) (T c.root.b.ini) (T c.root.b.dft) en lv mv kids c.root.b.a (fun v w'=>(∃s,v=ai #[Sl.v s,O U (iW c).2]/\((iW c).2=0->gp w.heap.size w' s (ot c))/\((iW c).2≠0->s=Sl.nil))/\ay [] w w') w ?_).mono ?_
 ·intro k0 w0 gD dQ ch;have z0:=ch.size;have keep:∀{u:av},ay [] w u->ChR false (D+1) u F c vs (nf c.root.b.k c.root.b.nm c.root.b.ini c.root.b.dft en lv mv kids c.root.b.a):=fun hO=>⟨hx.vars.keep eF (by decide) fun k _ bQ=>hO.block k bQ (by simp),(cj false _).keep hx.root fun k _ bQ=>hO.block k bQ (by simp)⟩
  refine(SN (keep ch) hn hs (hE.only ch) (hT.only ch)).mono ?_;rintro _ w1 ⟨rfl,cn⟩;have z1:=cn.size;have o1:=ch.cd cn;refine⟨_,rfl,cn.same (by simp;omega),fun hc=>?_,fun hc k1 w2 kg ju cG lm=>?_⟩
  ·have hc:(iW c).2≠0:=by simpa using hc
   exact⟨⟨Sl.nil,rfl,fun h=>absurd h hc,fun _=>rfl⟩,o1⟩
  have hc:(iW c).2=0:=by simpa using hc
  have hnd:=wG hc;have o2:=o1.cd cG;have z2:=cG.size;have hr2:li false (D+1) w2 (fun k=>k<w.heap.size) c.root (nf c.root.b.k c.root.b.nm c.root.b.ini c.root.b.dft en lv mv kids c.root.b.a):=
   (cj false _).keep ((cj false _).mono ((cj false _).inHeap hx.root) fun k hk=>hk.2) fun k _ bQ=>o2.block k bQ (by simp)
  refine(UB false (D+1) (s:=Sl.nil) (xs:=[]) (pa:= -1) (dp:=0) hr2 (fun k hk=>by omega) lm (Own.nil _ _ _ _ _ _) (by rw[aZ];omega) (by decide) (by omega)).mono ?_;rintro _ w3 ⟨rfl,s',ru,Zz,m3⟩;have z3:=m3.1.size;refine⟨rfl,m3.1.same fun x hx=>?_,s',ru,⟨s',by rw[hc],fun _=>?_,fun h=>absurd hc h⟩,?_⟩
  ·simp only[aO]at hx;subst hx;exact⟨by omega,fun h=>h.elim (by omega) fun h=>by cases h⟩
  ·rw[ci]at Zz;exact Own.low Zz (by omega)
  ·exact(o2.wT m3.1).only fun k hk=>hk.elim (by omega) fun h=>by cases h
 ·rintro _ w' ⟨v,rfl,⟨s,rfl,h1,h2⟩,h3⟩;exact⟨⟨s,rfl,h1,h2⟩,h3⟩
section
variable {w:av} {F:aJ} {l:Sl} {xs:List mY}
theorem Fv(h:aA DT 5 w F l xs){i:Nat}{x:mY}(hx:xs[i]? =some x):∃ad,dl l (i:Int) 5 ad/\aB w ad (Wk x)/\aB w (ad.add 2) [O U x.pa]/\aB w (ad.add 3) [O U x.dp]/\aB w (ad.add 4) [O U x.en]:=by
 have bQ:=(bc.1 hx).1;have hl:=h.len;obtain⟨ad,y,cs,g1,g2,g3,g4,g5,g6⟩:=h.get (ba i) (by omega);rw[aX,hx]at g2;injection g2 with g2;subst g2;have g6:cs=Wk x:=g6;subst g6;have one:∀(n:Nat) (v:aw),(Wk x)[n]? =some v->aB w (ad.add n) [v]:=fun n v hv j u hu=>by
  cases j with
  | zero=>
   rw[bP,aV]at hu;subst hu;have:=g5 n v hv;rw[n8,fp];exact this
  | succ j=>simp at hu
 exact⟨ad,g1,g5,one 2 _ rfl,one 3 _ rfl,one 4 _ rfl⟩
def Da(xs:List mY)(n:Int):Bool:=decide (n>=0)&&decide (n<(xs.length:Int))
theorem qg{n:Int}:Da xs n=true↔Ot xs n:=by
 unfold Da Ot;rw[aP,kH,kH]
theorem Ox(h:aA DT 5 w F l xs)(n:Int):az aq 102 #[l.v,O U n] w fun e w'=>e=ak (aj (Da xs n))/\w'=w:=by
 refine ret (ahf _ _ _ _ ?_);rw[h.len];exact⟨rfl,rfl⟩
noncomputable def Ls(xs:List mY)(b a:Int):Bool:=open Classical in decide (∃i j:Nat,b=i/\a=j/\AW xs i j)
theorem qh{b a:Int}:Ls xs b a=true↔∃i j:Nat,b=i/\a=j/\AW xs i j:=by
 unfold Ls;exact @kH _ (Classical.propDecidable _)
theorem Fw(h:aA DT 5 w F l xs)(hF:Fo xs)(b a:Int):az aq 103 #[l.v,O U b,O U a] w fun e w'=>e=ak (aj (Ls xs b a))/\w'=w:=by
 refine ret (ahn _ _ _ _ _ ?_);refine⟨fun r w'=>r=Ls xs b a/\w'=w,fun r w' ⟨h1,h2⟩=>⟨by rw[h1],h2⟩,(Ox h a).mono ?_⟩;rintro _ _ ⟨rfl,rfl⟩;refine⟨_,rfl,fun ha=>(Ox h b).mono ?_,fun ha=>⟨?_,rfl⟩⟩
 ·rintro _ _ ⟨rfl,rfl⟩;have ha:=qg.1 ha;by_cases hb:(Da xs b&&decide (b<=a))=true
  ·rw[aP]at hb;have xP:=qg.1 hb.1;have wW:=aQ hb.2;obtain⟨i,rfl⟩:∃i:Nat,b=i:=⟨b.toNat,by have:=xP.1;omega⟩
   obtain⟨j,rfl⟩:∃j:Nat,a=j:=⟨a.toNat,by have:=ha.1;omega⟩
   obtain⟨x,hx⟩:=Ae (xs:=xs) (i:=i) (by have:=xP.2;omega);obtain⟨ad,g1,g2,_,_,g5⟩:=Fv h hx;refine⟨_,rfl,ad,fun _=>g1,x.en,fun _=>g5,?_,rfl⟩;rw[hb.1,hb.2,bT,bT,bI,qh,kH];constructor
   ·exact fun h=>⟨i,j,rfl,rfl,x,hx,by omega,h⟩
   ·rintro⟨i',j',e1,e2,y,hy,h1,h2⟩;have e1:i=i':=by omega
    subst e1;rw[hx,aV]at hy;subst hy;omega
  ·rw[xi]at hb;refine⟨_,rfl,⟨0,0,none⟩,fun h=>(by rw[hb]at h;cases h),0,fun h=>(by rw[hb]at h;cases h),?_,rfl⟩;rw[hb,du,eq_comm,<-xi,qh];rintro⟨i,j,rfl,rfl,y,hy,h1,h2⟩;have:=Oq hy;rw[show Da xs (i:Int)=true from qg.2 ⟨by omega,by omega⟩,show decide ((i:Int)<=(j:Int))=true from bF (by omega)]at hb;cases hb
 ·rw[eq_comm,<-xi,qh];rintro⟨i,j,rfl,rfl,hc⟩;have:=hF.WR hc;rw[show Da xs (j:Int)=true from qg.2 ⟨by omega,by omega⟩]at ha;cases ha
noncomputable def Oy(xs:List mY)(a b:Int):Bool:=open Classical in decide (∃i j:Nat,b=i/\a=j/\i<j/\AW xs i j)
theorem Ah{a b:Int}:Oy xs a b=true↔∃i j:Nat,b=i/\a=j/\i<j/\AW xs i j:=by
 unfold Oy;exact @kH _ (Classical.propDecidable _)
theorem Lu(h:aA DT 5 w F l xs)(hF:Fo xs)(a b:Int):az aq 50 #[l.v,O U a,O U b] w fun e w'=>e=ak (aj (Oy xs a b))/\w'=w:=by
 refine ret (aho _ _ _ _ _ ?_);refine⟨fun r w'=>r=Oy xs a b/\w'=w,fun r w' ⟨h1,h2⟩=>⟨by rw[h1],h2⟩,fun hc=>(Fw h hF b a).mono ?_,fun hc=>⟨?_,rfl⟩⟩
 ·rintro _ _ ⟨rfl,rfl⟩;have hc:a≠b:=by simpa using hc
  refine⟨_,rfl,?_,rfl⟩;rw[bI,qh,Ah];refine⟨fun⟨i,j,e1,e2,vV⟩=>⟨i,j,e1,e2,?_,vV⟩,fun⟨i,j,e1,e2,_,vV⟩=>⟨i,j,e1,e2,vV⟩⟩;obtain⟨s,_,AX,_⟩:=vV;omega
 ·have hc:a=b:=by simpa using hc
  subst hc;rw[eq_comm,<-xi,Ah];rintro⟨i,j,e1,e2,hl,_⟩;omega
abbrev abK(B:Nat)(w:av)(s:Sl)(l:List Int):Prop:=Own uv 1 3 B w (fun _=>False) s l
theorem abK.of{B:Nat}{w:av}{F:aJ}{s:Sl}{l:List Int}(h:Own uv 1 3 B w F s l):abK B w s l:=by
 rcases h with⟨rfl,rfl⟩ | ⟨g,css,tail,h1,h2,h4,h5,h6,h7,h9,h8⟩
 ·exact .inl ⟨rfl,rfl⟩
 ·exact .inr ⟨g,css,tail,h1,h2,h4,h5,h6,h7,h9,gq.PF (fun x c _ hc=>hc) h8⟩
end
section
variable {w:av} {F G:aJ} {l sN:Sl} {xs:List mY} {ns:List Int}
theorem SO{k0:Nat}(h:aA DT 5 w F l xs)(hB:aF w k0 38 [l.v])(n:Int):az aq 101 #[O U n,ae (some ⟨k0,0,none⟩)] w fun e w'=>e=ak (aj (!Da xs n))/\w'=w:=by
 refine ret (ahe _ _ _ _ ?_);refine⟨l,hB.cells 0 [_] fun j v hj=>(by rw[bD];exact hj),(Ox h n).mono ?_⟩;rintro _ _ ⟨rfl,rfl⟩;exact⟨_,rfl,rfl,rfl⟩
theorem Oz{k0:Nat}(h:aA DT 5 w F l xs)(hB:aF w k0 38 [l.v])(hN:aA uv 1 w G sN ns):az aq 166 #[sN.v,.func (.func 101) #[] #[ae (some ⟨k0,0,none⟩)]] w fun e w'=>(∃i:Int,e=ak (O U i)/\(i>=0↔∃n,n∈ns/\¬Ot xs n))/\w'=w:=by
 refine(abu sN ⟨.func (.func 101) #[] #[ae (some ⟨k0,0,none⟩)],rfl⟩ (fun v w'=>(∃i:Int,v=O U i/\(i>=0↔∃n,n∈ns/\¬Ot xs n))/\w'=w) w ?_).mono ?_
 ·have hl:=hN.len;have Rn:=hN.cap;have DA:=hN.big;refine⟨fun kv i w'=>∃j:Nat,i=(j:Int)/\kv+j=ns.length/\j<=ns.length/\(∀n,n∈ns.take j->Ot xs n)/\w'=w,ns.length,⟨0,rfl,by omega,bd _,fun n hn=>by simp at hn,rfl⟩,?_⟩;rintro kv _ u ⟨j,rfl,Gl,hj,hh,hu⟩;obtain rfl:w=u:=hu.symm;refine⟨fun hc=>?_,fun hc=>⟨⟨-1,rfl,fun h=>absurd h (by decide),fun⟨n,hn,hb⟩=>absurd (hh n ?_) hb⟩,rfl⟩⟩
  ·have hc:=aQ hc;obtain⟨ad,y,cs,g1,g2,g3,g4,g5,g6⟩:=hN.get (ba j) (by omega);rw[aX]at g2;obtain⟨rfl,hy⟩:=g6;refine⟨ad,g1,y,g5,101,[],[ae (some ⟨k0,0,none⟩)],rfl,kn (by kernel_rfl),(SO h hB y).mono ?_⟩;rintro _ u ⟨rfl,hu⟩;obtain rfl:w=u:=hu.symm;refine⟨_,rfl,fun hb=>⟨⟨j,rfl,fun _=>⟨y,br g2,fun hh'=>?_⟩,fun _=>by omega⟩,rfl⟩,fun hb=>⟨kv-1,by omega,j+1,by rw[fH (by omega) (by omega)];rfl,by omega,by omega,fun n hn=>?_,rfl⟩⟩
   ·rw[qg.2 hh']at hb;cases hb
   ·rw[bB,g2,cH]at hn;rcases hn with hn | hn
    ·exact hh n hn
    ·simp only[Option.toList,aO]at hn;subst hn;exact qg.1 (by simpa using hb)
  ·have hc:=aU hc;rwa[bH (by omega)]
 ·rintro _ w' ⟨v,rfl,⟨i,rfl,h1⟩,h2⟩;exact⟨⟨i,rfl,h1⟩,h2⟩
def abL(xs:List mY)(ns:List Int):Prop:=ns=[]∨∃n,n∈ns/\¬Ot xs n
theorem Wl(h:aA DT 5 w F l xs)(hF:Fo xs)(hN:aA uv 1 w G sN ns):az aq 49 #[l.v,sN.v] w fun e w'=>(∃r:Int,e=ak (O U r)/\Mt xs ns r)/\ay [] w w':=by
 refine(ahm l sN (fun v w'=>(∃r:Int,v=O U r/\Mt xs ns r)/\ay [] w w') w ?_).mono ?_
 ·intro k0 w0 gD dQ ch;have hl:=hN.len;have Rn:=hN.cap;have DA:=hN.big;have HT:=h.len;have kL:∀{u:av},ay [] w u->aA DT 5 u F l xs:=fun hO=>SliceF.only lc (by decide) h hO (by simp);have kN:∀{u:av},ay [] w u->aA uv 1 u G sN ns:=fun hO=>SliceF.only xZ (by decide) hN hO (by simp);refine⟨fun b q u=>(b=true↔abL xs ns)/\l=q/\ay [] w u,?_,fun hc=>?_,fun hc hB=>?_⟩
  ·rintro b _ u ⟨hb,rfl,hO⟩;refine⟨fun hbt=>⟨⟨-1,rfl,.inl ⟨hb.1 hbt,rfl⟩⟩,hO⟩,fun hbf=>?_⟩;have hg:¬abL xs ns:=fun hh=>by rw[hb.2 hh]at hbf;cases hbf
   have gC:ns≠[]:=fun e=>hg (.inl e);have hh:∀n,n∈ns->Ot xs n:=fun n hn=>Classical.byContradiction fun hx=>hg (.inr ⟨n,hn,hx⟩);have hlp:0<ns.length:=rD.2 gC;obtain⟨ad,n0,cs,g1,g2,g3,g4,g5,g6⟩:=(kN hO).get (i:=0) (by omega) (by omega);obtain⟨rfl,_⟩:=g6;have g2:ns[0]? =some n0:=g2;have hn0:=hh n0 (br g2);obtain⟨m0,rfl⟩:∃m:Nat,n0=m:=⟨n0.toNat,by have:=hn0.1;omega⟩
   have ht1:ns.take 1=[(m0:Int)]:=by
    cases ns with
    | nil=>exact absurd rfl gC
    | cons a ns=>
     rw[bP,aV]at g2;subst g2;rfl
   refine⟨ad,g1,_,g5,⟨by omega,Rn⟩,fun kv i1 i2 q u=>∃m j:Nat,i1=(m:Int)/\i2=(j:Int)/\kv+j=ns.length-1/\j<=ns.length-1/\l=q/\ay [] w u/\Wg xs (ns.take (j+1)) m,ns.length-1,⟨m0,0,rfl,rfl,by omega,by omega,rfl,hO,?_⟩,?_⟩
   ·rw[ht1];refine⟨m0,rfl,fun n hn=>?_,fun j hj=>?_⟩
    ·simp only[aO]at hn;subst hn;exact⟨m0,rfl,hF.PK (by have:=hn0.2;omega)⟩
    ·obtain⟨k,e,s,_,AX,_⟩:=hj m0 (by simp);omega
   rintro kv _ _ _ u1 ⟨m,j,rfl,rfl,Gl,hj,rfl,cn,Yu⟩;have PO:=SliceF.cut (kN cn) (lo:=1) (hi:=sN.n) (m:=sN.c) (by omega) Rn (aW _) (aW _);have pj:(sN.cut 1 sN.n sN.c 1).n=ns.length-1:=by
    rw[PO.len,cP,bX];omega
   refine⟨fun hc=>?_,fun hc=>?_⟩
   ·have hc:=aQ hc;obtain⟨ad1,n3,cs,p1,p2,p3,p4,p5,p6⟩:=PO.get (ba j) (by omega);obtain⟨rfl,_⟩:=p6;rw[aX,List.getElem?_take_of_lt (by omega),fS]at p2;have p2:ns[j+1]? =some n3:=by rw[<-p2];congr 1;omega
    have hn3:=hh n3 (br p2);obtain⟨t,rfl⟩:∃m:Nat,n3=m:=⟨n3.toNat,by have:=hn3.1;omega⟩
    have nZ:ns.take (j+1+1)=ns.take (j+1)++[(t:Int)]:=by rw[bB,p2];rfl
    obtain⟨m',em,t1,t2⟩:=Yu;have em:m=m':=by omega
    subst em;refine⟨ad1,p1,_,p5,fun kv' i4 q u=>∃m:Nat,i4=(m:Int)/\m=kv'/\l=q/\ay [] w u/\(∀n,n∈ns.take (j+1)->∃k:Nat,n=k/\AW xs m k)/\∀j':Nat,(∀n,n∈ns.take (j+1+1)->∃k:Nat,n=k/\AW xs j' k)->j'<=m,m,⟨m,rfl,rfl,rfl,cn,t1,fun j' Q7=>t2 j' fun n hn=>Q7 n ?_⟩,?_⟩
    ·rw[nZ];exact List.mem_append_left _ hn
    rintro kv' _ _ u2 ⟨m2,rfl,rfl,rfl,cG,q1,q2⟩;refine(Fw (kL cG) hF m2 t).mono ?_;rintro _ u3 ⟨rfl,hu⟩;obtain rfl:u2=u3:=hu.symm;refine⟨_,rfl,bS.refl _ _,fun TJ=>?_,fun TJ=>?_⟩
    ·have TJ:¬∃i j:Nat,(m2:Int)=i/\(t:Int)=j/\AW xs i j:=fun e=>by rw[qh.2 e]at TJ;cases TJ
     have Kr:t<xs.length:=by have:=hn3.2;omega
     have tF:0<m2:=Nat.pos_of_ne_zero fun e=>TJ ⟨0,t,by omega,rfl,hF.PL Kr⟩;have QD:(m0:Int)∈ns.take (j+1):=by
      rw[List.mem_iff_getElem?];exact⟨0,by rw[List.getElem?_take_of_lt (by omega)];exact g2⟩
     have akn:m2<xs.length:=by
      obtain⟨k,_,s,e,_⟩:=q1 _ QD;exact Oq e
     obtain⟨y,hy⟩:=Ae akn;obtain⟨p,s,r1,r2,r3,r4,r5,r6⟩:=hF.par hy tF;obtain⟨ad2,b1,_,b3,_,_⟩:=Fv (kL cG) hy;have cpm:AW xs p m2:=⟨s,r3,by omega,r5⟩
     refine⟨ad2,b1,y.pa,b3,p,r1,p,r2,rfl,rfl,cG,fun n hn=>?_,fun j' Q7=>?_⟩
     ·obtain⟨k,e,hk⟩:=q1 n hn;exact⟨k,e,hF.WS cpm hk⟩
     ·have AX:=q2 j' Q7;have aqq:j'≠m2:=fun e=>by
       subst e;obtain⟨k,e,hk⟩:=Q7 t (by rw[nZ];simp);exact TJ ⟨j',k,rfl,e,hk⟩
      obtain⟨k,e,hk⟩:=Q7 m0 (by rw[nZ];exact List.mem_append_left _ QD);obtain⟨k',e',um⟩:=q1 m0 QD;have:k=k':=by omega
      subst this;obtain⟨s',v1,v2,v3⟩:=hF.WT hk um AX;exact r6 j' s' v1 (by omega) v3
    ·have TJ:Ls xs m2 t=true:=by simpa using TJ
     obtain⟨i',t',e1,e2,hct⟩:=qh.1 TJ;have e1:m2=i':=by omega
     have e2:t=t':=by omega
     subst e1 e2;refine⟨kv-1,by omega,m2,j+1,rfl,by rw[fH (by omega) (by omega)];rfl,by omega,by omega,rfl,cG,m2,rfl,fun n hn=>?_,q2⟩;rw[nZ,cH]at hn;rcases hn with hn | hn
     ·exact q1 n hn
     ·simp only[aO]at hn;subst hn;exact⟨t,rfl,hct⟩
   ·have hc:=aU hc;rw[bH (by omega)]at Yu;exact⟨⟨m,rfl,.inr ⟨⟨gC,hh⟩,Yu⟩⟩,cn⟩
  ·have hc:(sN.n:Int)=0:=by simpa using hc
   exact⟨⟨fun _=>.inl (bp (by omega)),fun _=>rfl⟩,rfl,ch⟩
  ·have hc:¬(sN.n:Int)=0:=by simpa using hc
   refine(abt sN ⟨.func (.func 101) #[] #[ae (some ⟨k0,0,none⟩)],rfl⟩ (fun v w'=>(∃b:Bool,v=aj b/\(b=true↔∃n,n∈ns/\¬Ot xs n))/\w'=w0) w0 ?_).mono ?_
   ·refine(Oz (kL ch) hB (kN ch)).mono ?_;rintro _ u ⟨⟨i,rfl,hi⟩,hu⟩;obtain rfl:w0=u:=hu.symm;exact⟨i,rfl,⟨_,rfl,by rw[kH];exact hi⟩,rfl⟩
   ·rintro _ u ⟨v,rfl,⟨b,rfl,hb⟩,hu⟩;obtain rfl:w0=u:=hu.symm;refine⟨b,rfl,l,hB,⟨fun h=>.inr (hb.1 h),fun h=>?_⟩,rfl,ch⟩;rcases h with h | h
    ·subst h;exact absurd (by rw[hl];rfl) hc
    ·exact hb.2 h
 ·rintro _ w' ⟨v,rfl,⟨r,rfl,h1⟩,h2⟩;exact⟨⟨r,rfl,h1⟩,h2⟩
end
end Go.Proofs.YtmhoiicofhlgbaaGreatDoor.Con
namespace Go.Kt
open Go renaming World->av,Value->aw
open Go Go.RowKit Go.MapKept
set_option linter.unusedSimpArgs false
set_option linter.unusedVariables false
structure Yv {κ:Type} (d:TypeDesc) (kv:κ->aw) (g:κ->Prop):Prop where
 is:∀k,IsKey d (kv k)
 inj:∀{k l},kv k=kv l->k=l
structure MapV {κ:Type} (kv:κ->aw) (g:κ->Prop) (w:av) (r:Nat) (m:κ->Option aw) (n:Nat):Prop where
 mem:∃es clock,w.heap[r]? =some (.map es clock)/\Stamped es clock/\es.size<=n/\(∀x,x∈es.toList->∃k,x.key=kv k/\g k)/\
  ∀k v,m k=some v↔∃x,x∈es.toList/\x.key=kv k/\x.val=v
section
variable {κ:Type} {d:TypeDesc} {kv:κ->aw} {g:κ->Prop} {P:Program} {w w':av} {r n:Nat} {m:κ->Option aw} {mty kt et:TypeId}
theorem MapV.keep(h:MapV kv g w r m n)(hk:w'.heap[r]? =w.heap[r]?):MapV kv g w' r m n:=by
 obtain⟨es,c,h1,h2⟩:=h.mem;exact⟨es,c,hk.trans h1,h2⟩
theorem MapV.le(h:MapV kv g w r m n){n':Nat}(hn:n<=n'):MapV kv g w r m n':=by
 obtain⟨es,c,h1,h2,h3,h4⟩:=h.mem;exact⟨es,c,h1,h2,bh h3 hn,h4⟩
theorem MapV.lt(h:MapV kv g w r m n):r<w.heap.size:=by
 obtain⟨es,c,h1,h2⟩:=h.mem;exact(lK.1 h1).1
theorem MapV.only(h:MapV kv g w r m n){bs:List Nat}(hO:Only bs w w')(hn:r∉bs):MapV kv g w' r m n:=h.keep (hO.block r h.lt hn)
theorem MapV.ext(h:MapV kv g w r m n){m':κ->Option aw}(he:∀k,m' k=m k):MapV kv g w r m' n:=by
 obtain⟨es,c,h1,h2,h3,h4,h5⟩:=h.mem;exact⟨es,c,h1,h2,h3,h4,fun k v=>by rw[he,h5]⟩
theorem abM(K:Yv d kv g){es:Array MapEntry}(h:∀x,x∈es.toList->∃k,x.key=kv k/\g k):∀x∈es.toList,IsKey d x.key:=fun x hx=>by
 obtain⟨k,e,_⟩:=h x hx;rw[e];exact K.is k
variable [DecidableEq κ]
end
abbrev kS(s:List UInt8):aw:=.string ⟨s.toArray⟩
abbrev gS(s:List UInt8):Prop:=s.length<=maxLen
theorem ahH:Yv .string kS gS:=⟨fun _=>trivial,fun h=>by simpa using h⟩
abbrev kN(k:Int):aw:=.int .i64 k
section
variable {κ:Type} {d:TypeDesc} {kv:κ->aw} {g:κ->Prop} {P:Program} {w w':av} {r n:Nat} {m:κ->Option aw} {mty kt et:TypeId}
theorem MapV.Te(K:Yv d kv g)(hm:P.underlying mty=some (.map kt et))(hd:P.underlying kt=some d){z:aw}(hz:∀w,(zeroValue et).run P w=.ok z w)(h:MapV kv g w r m n)(k:κ):
  (Instr.lookup mty (.map (some r)) (kv k) true).run P w=.ok (.tuple #[(m k).getD z,.bool (m k).isSome]) w:=by
 obtain⟨es,c,h1,h0,hn,h2,h4⟩:=h.mem;rcases findNow_spec (K.is k) es.toList 0 (abM K h2)with⟨g1,g2⟩ | ⟨j,e,g1,g2,g3⟩
 ·have hn:m k=none:=by
   cases hmk:m k with
   | none=>rfl
   | some v=>
    obtain⟨x,hx,hk,_⟩:=(h4 k v).1 hmk;exact absurd hk (g2 x hx)
  simp[Instr.lookup,run_underlying hm,MapKept.run_getObj_map h1,MapKept.run_checkKey hd (K.is k),MapKept.run_findKey hd g1,Result.andThen,hz,hn]
 ·have he:=br g2;have hmk:m k=some e.val:=(h4 k e.val).2 ⟨e,he,g3,rfl⟩;simp[Instr.lookup,run_underlying hm,MapKept.run_getObj_map h1,MapKept.run_checkKey hd (K.is k),MapKept.run_findKey hd g1,Result.andThen,hmk]
end
end Go.Kt
namespace Go.Proofs.YtmhoiicofhlgbaaGreatDoor.Con
open Go.Value renaming int->O,string->ab,pointer->ae,agg->ah,tuple->ai,bool->aj
open Go.IntKind renaming i64->U,wrap->ar
open Go.Ending renaming returned->ak
open _root_.ByteArray renaming mk->ao
open _root_.Go.Proofs.Tryz renaming prog->aq
open Go.Instr renaming buildSlice->au
open Go renaming World->av,Value->aw,Calls->az
open Go.Kt renaming Only->ay,SliceF->aA,Cells->aB,OnlyP->aD,Blk->aF
open Go Go.RowKit Go.Kt Go.Kt.V Go.Proofs.YtmhoiicofhlgbaaGreatDoor.Vc
set_option linter.unusedSimpArgs false
set_option linter.unusedVariables false
set_option maxHeartbeats 800000
set_option maxRecDepth 100000
def mI(l:List (aH)):aH->Option aw:=fun k=>if wc k l<l.length then some (.int U (wc k l:Nat))else none
theorem SP(l:List (aH))(x k:aH):mI (l++[x]) k=if x∈l then mI l k else if k=x then some (.int U (l.length:Nat))else mI l k:=by
 unfold mI;rw[aN,bg];by_cases hk:k∈l
 ·have h1:=tn.2 hk;rw[JI [x] hk,if_pos (by omega),if_pos h1];by_cases hx:x∈l
  ·rw[if_pos hx]
  ·rw[if_neg hx,if_neg fun e=>hx (by rw[<-e];exact hk)]
 ·have h1:¬wc k l<l.length:=fun h=>hk (tn.1 h);rw[if_neg h1];by_cases e:k=x
  ·subst e;rw[if_neg hk,if_pos rfl,JJ [] hk,if_pos (by omega)]
  ·have:¬wc k (l++[x])<(l++[x]).length:=fun h=>by
    have:=tn.1 h;rw[cH,aO]at this;exact this.elim hk e
   rw[aN,bg]at this;rw[if_neg this,if_neg e];split<;>rfl
theorem SQ(l:List (aH))(k:aH):(mI l k).isSome=decide (k∈l):=by
 unfold mI;by_cases hk:k∈l
 ·rw[if_pos (tn.2 hk),bF hk];rfl
 ·rw[if_neg fun h=>hk (tn.1 h),bn hk];rfl
abbrev Wm(w:av)(r:Nat)(l:List (aH)):Prop:=MapV kS gS w r (mI l) l.length
theorem Wm.at{w:av}{r:Nat}{l:List (aH)}(h:Wm w r l)(k:aH):(Instr.lookup 97 (.map (some r)) (ab (T k)) true).run aq w=.ok (ai #[O U (if wc k l<l.length then(wc k l:Nat)else 0:Int),aj (decide (k∈l))]) w:=by
 have:=h.Te (P:=aq) (mty:=97) (kt:=9) (et:=3) (z:=O U 0) ahH (by kernel_rfl) (by kernel_rfl) (fun w=>Tryz.zeroValue3 w) k;rw[SQ]at this;rw[this];unfold mI;split<;>rfl
theorem Wm.has{w:av}{r:Nat}{l:List (aH)}(h:Wm w r l){x:aH}(hx:x∈l):Wm w r (l++[x]):=by
 refine(h.ext fun k=>?_).le (by rw[aN];omega);rw[SP,if_pos hx]
structure Lo (w:av) (b m0 m1:Nat) (s:Sl) (nn vn:List (aH)) (f:Ft):Prop where
 blk:aF w b 99 [.map (some m0),s.v,.map (some m1),O U f.1,O U f.2]
 nm:Wm w m0 nn
 vr:Wm w m1 vn
 n0:m0<m1
 n1:m1<b
section
variable {w w':av} {b m0 m1:Nat} {s:Sl} {nn vn:List (aH)} {f:Ft}
theorem Lo.only(h:Lo w b m0 m1 s nn vn f){bs:List Nat}(hO:ay bs w w')(h0:b∉bs)(h1:m0∉bs)(h2:m1∉bs):Lo w' b m0 m1 s nn vn f:=⟨hO.blk h.blk h0,h.nm.only hO h1,h.vr.only hO h2,h.n0,h.n1⟩
end
def YU(P:aJ)(s:Sl)(w:av)(s':Sl)(w':av):Prop:=aD (fun k=>P k∨s.a=some ⟨k,0,none⟩) w w'/\∀k,s'.a=some ⟨k,0,none⟩->s.a=some ⟨k,0,none⟩∨w.heap.size<=k
theorem YU.trans{P:aJ}{s t u:Sl}{w w' rn:av}(h:YU P s w t w')(g:YU P t w' u rn):YU P s w u rn:=by
 refine⟨h.1.trans g.1 fun k hk=>?_,fun k hk=>?_⟩
 ·rcases hk with hk | hk
  ·exact .inl (.inl hk)
  ·exact(h.2 k hk).elim (fun h=>.inl (.inr h)) .inr
 ·rcases g.2 k hk with hk | hk
  ·exact h.2 k hk
  ·exact .inr (bh h.1.size hk)
theorem YU.of{P:aJ}{s:Sl}{w w':av}{bs:List Nat}(hO:ay bs w w')(hb:∀k,k∈bs->P k):YU P s w s w':=⟨hO.p fun k hk=>.inl (.inl (hb k hk)),fun k hk=>.inl hk⟩
end Go.Proofs.YtmhoiicofhlgbaaGreatDoor.Con
namespace Go.Kt
open Go renaming World->av,Value->aw
open Go Go.RowKit
set_option linter.unusedSimpArgs false
set_option linter.unusedVariables false
end Go.Kt
namespace Go.Proofs.YtmhoiicofhlgbaaGreatDoor.Con
open Go.Value renaming int->O,string->ab,pointer->ae,agg->ah,tuple->ai,bool->aj
open Go.IntKind renaming i64->U,wrap->ar
open Go.Ending renaming returned->ak
open _root_.ByteArray renaming mk->ao
open _root_.Go.Proofs.Tryz renaming prog->aq
open Go.Instr renaming buildSlice->au
open Go renaming World->av,Value->aw,Calls->az
open Go.Kt renaming Only->ay,SliceF->aA,Cells->aB,OnlyP->aD,Blk->aF
open Go Go.RowKit Go.Kt Go.Kt.V Go.Proofs.YtmhoiicofhlgbaaGreatDoor.Vc
set_option linter.unusedSimpArgs false
set_option linter.unusedVariables false
set_option maxHeartbeats 4000000
set_option maxRecDepth 100000
structure Lx (w:av) (b m0 m1:Nat) (F:aJ) (s:Sl) (xs:List mY) (vn:List (aH)) (f:Ft):Prop where
 lo:Lo w b m0 m1 s (xs.map fun x:mY=>x.nm) vn f
 sp:aA DT 5 w F s xs
 fo:Fo xs
 ln:xs.length<=64
 nF:∀k,F k->k≠b
theorem ahI(u:av){a b:Int}(ha:wa a)(hb:wa b):∃y w1,(au 106 2 #[.mk 0 (O U a),.mk 1 (O U b)]).run aq u=.ok (Sl.v y) w1/\ay [] u w1/\aA uv 1 w1 (fun _=>True) y [a,b]:=by
 obtain⟨y,w1,k1,k2,k3,_⟩:=lf (P:=aq) (t:=106) (e:=3) (i:=Tryz.t3) (z:=O U 0) (w:=u) (F:=fun _=>False) (vs:=[O U a,O U b]) (parts:=#[.mk 0 (O U a),.mk 1 (O U b)]) (len:=2) (xs:=[a,b]) (r:=uv) (size:=1) (by kernel_rfl) (by kernel_rfl) rfl rfl (by decide) rfl rfl (by decide) (by decide) xZ ⟨⟨rfl,rfl,ha⟩,⟨rfl,rfl,hb⟩,trivial⟩;exact⟨y,w1,k1,k3,(k2.slice xZ).mono xZ fun _ _=>trivial⟩
theorem gp.sl{B:Nat}{w:av}{s:Sl}{xs:List mY}(h:gp B w s xs):aA DT 5 w (fun k=>B<=k) s xs:=(h.slice lc).mono lc fun k hk=>hk.elim (fun h=>h.elim) fun h=>h.1
def ph:aH:=[99,104,97,114,116,32,99,32,123,32,105,110,105,116,105,97,108,32,97,59,32,115,116,97,116,101,32,97,32,123,32,105,110,105,116,105,97,108,32,98,59,32,115,116,97,116,101,32,98,32,123,32,125,32,115,116,97,116,101,32,100,32,123,32,125,32,125,32,112,97,114,97,108,108,101,108,32,112,32,123,32,115,116,97,116,101,32,113,32,123,32,125,32,115,116,97,116,101,32,114,32,123,32,125,32,125,32,125]
def tup(x:mY):Int×aH×Int×Int×Int:=(x.k,x.nm,x.pa,x.dp,x.en)
def eqT(x:Option (Int×aH×Int×Int×Int))(k:Int)(n:aH)(p d e:Int):Bool:=match x with
 | some (k',n',p',d',e')=>(decide (k'=k)&&decide (n'=n))&&(decide (p'=p/\d'=d/\e'=e))
 | none=>false
theorem Hs{x:Option (Int×aH×Int×Int×Int)}{k:Int}{n:aH}{p d e:Int}(h:eqT x k n p d e=true):x=some (k,n,p,d,e):=by
 unfold eqT at h;split at h
 ·simp only[aP]at h;obtain⟨⟨h1,h2⟩,h3⟩:=h;obtain⟨h3,h4,h5⟩:=aQ h3;rw[aQ h1,aQ h2,h3,h4,h5]
 ·cases h
def sm9:Bool:=((decide ((ia ph).2.1=0/\(iW (ia ph).1).2=0/\((ot (ia ph).1).map tup).length=7)&&eqT (((ot (ia ph).1).map tup)[4]?) 2 [112] 0 1 7&&eqT (((ot (ia ph).1).map tup)[1]?) 1 [97] 0 1 4&&eqT (((ot (ia ph).1).map tup)[2]?) 1 [98] 1 2 3)&&nCb (ia ph).1)&&ahG (ia ph).1
theorem Wn:sm9=true:=by kernel_rfl
theorem Db{xs:List mY}{i:Nat}{a:Int}{b:aH}{c d e:Int}(h:(xs.map tup)[i]? =some (a,b,c,d,e)):xs[i]? =some ⟨a,b,c,d,e⟩:=by
 rw[cX,eP]at h;obtain⟨⟨a',b',c',d',e'⟩,hx,he⟩:=h;unfold tup at he;simp only[dk]at he;obtain⟨rfl,rfl,rfl,rfl,rfl⟩:=he;exact hx
theorem OA(w:av)(hE:Er w)(hT:Tb w):az aq 17 #[] w fun e w'=>e=ak (aj true)/\ay [] w w':=by
 refine ret (ahj _ _ ?_);refine(Fl ph hE).mono ?_;rintro _ w0 ⟨vs,cs,rfl,hC,ch⟩;have tU:=Wn;unfold sm9 at tU;simp only[aP]at tU;obtain⟨⟨⟨⟨⟨tU,h4⟩,h1⟩,h2⟩,hn⟩,hz⟩:=tU;obtain⟨hp,hq,Gk⟩:=aQ tU;have hn:=ahF hn;have hz:=aQ hz;rw[bZ]at Gk;have h4:=Db (Hs h4);have h1:=Db (Hs h1);have h2:=Db (Hs h2);generalize ia ph=P at*
 obtain⟨xe,xl,xm,xk,rfl,_⟩:=hC.root;have z0:=ch.size;refine⟨vs,_,_,_,_,xe,xl,xm,xk,_,_,_,rfl,fun k0 k1 w1 gD dQ kg ju cn=>?_⟩;have z1:=cn.size;have o1:=ch.cd cn;have hC1:ChR true 15 w1 (Fr w.heap.size) P.1 vs (nf P.1.root.b.k P.1.root.b.nm P.1.root.b.ini P.1.root.b.dft xe xl xm xk P.1.root.b.a):=⟨hC.vars.keep eF (by decide) fun k _ bQ=>cn.block k bQ (by simp),(cj true 15).keep hC.root fun k _ bQ=>cn.block k bQ (by simp)⟩
 refine(Hr (D:=14) hC1.off hn hz (hE.only o1) (hT.only o1)).mono ?_;rintro _ w2 ⟨⟨s,rfl,hs,_⟩,cG⟩;have z2:=cG.size;have hs:=(hs hq).sl;have hF:=SI P.1;generalize ot P.1=xs at*
 have Th:s.n=7:=by rw[hs.len,Gk]
 obtain⟨ad,a1,a2,_⟩:=Fv hs h4;have o2:=o1.cd cG;refine⟨s,_,rfl,cG.same (by simp;omega),fun r w'=>r=true/\ay [] w w',fun r w' ⟨h,h'⟩=>⟨by rw[h],h'⟩,ad,fun _=>a1,_,_,_,_,_,fun _=>a2,fun _=>?_,fun hc=>?_⟩
 ·obtain⟨y,w4,k1,k2,k3⟩:=ahI w2 (a:=2) (b:=3) ⟨by omega,by omega⟩ ⟨by omega,by omega⟩;have z4:=k2.size;refine⟨y,w4,k1,k2.same (by simp;omega),(Wl (SliceF.only lc (by decide) hs k2 (by simp)) hF k3).mono ?_⟩;rintro _ w5 ⟨⟨r,rfl,hr⟩,eh⟩;have o5:=(o2.cd k2).cd eh;have z5:=eh.size;have hr:r=1:=by
   have c12:AW xs 1 2:=⟨_,h1,by omega,by decide⟩
   have X9:AW xs 1 3:=⟨_,h1,by omega,by decide⟩
   refine Wg.Aq (hr.ahS (by simp) fun n hn=>?_) (m:=[2,3]) (q:=1) ⟨1,rfl,fun n hn=>?_,fun j hj=>?_⟩ fun _=>Iff.rfl
   ·simp only[aY,bf,cb]at hn;rcases hn with rfl | rfl
    ·exact⟨by omega,by omega⟩
    ·exact⟨by omega,by omega⟩
   ·simp only[aY,bf,cb]at hn;rcases hn with rfl | rfl
    ·exact⟨2,rfl,c12⟩
    ·exact⟨3,rfl,X9⟩
   ·obtain⟨k,e,x,g1,g2,g3⟩:=hj 2 (by simp);obtain⟨k',e',x',g1',g2',g3'⟩:=hj 3 (by simp);have Q9:j≠2:=fun h=>by
     subst h;rw[h2,aV]at g1';subst g1';dsimp only at g3';omega
    omega
  subst hr;refine⟨_,rfl,eh.same (by simp;omega),fun _=>(Lu (SliceF.only lc (by decide) hs (k2.cd eh) (by simp)) hF 6 4).mono ?_,fun hc=>absurd hc (by decide)⟩;rintro _ w6 ⟨rfl,hu⟩;obtain rfl:w5=w6:=hu.symm;exact⟨_,rfl,bS.refl _ _,Ah.2 ⟨4,6,rfl,rfl,by omega,_,h4,by omega,by decide⟩,o5⟩
 ·exfalso;rw[Th,hq,hp]at hc;revert hc;simp only[show ao #[112]=T [112]from rfl,iO];decide
def sh(t:Tk):Tk:=⟨t.k,t.t,t.n,t.a+1⟩
inductive Sim:Ex->Ex->Prop
 | leaf (k n:Int) (s:aH) (op a b:Int):Sim (.mk k n s op [] a) (.mk k n s op [] b)
 | one (k n:Int) (s:aH) (op a b:Int) (x y:Ex):Sim x y->Sim (.mk k n s op [x] a) (.mk k n s op [y] b)
 | two (k n:Int) (s:aH) (op a b:Int) (x y x' y':Ex):Sim x x'->Sim y y'->Sim (.mk k n s op [x,y] a) (.mk k n s op [x',y'] b)
structure Wr (ts my:List Tk) (n:Nat):Prop where
 e:∀i,n<=i->(tk ts i).k=5
 s:∀i,i<n->(tk my (i+1)).k=(tk ts i).k/\(tk my (i+1)).t=(tk ts i).t/\(tk my (i+1)).n=(tk ts i).n
 c:(tk my (n+1)).k=4/\(tk my (n+1)).t=[41]
def rF(n:Nat)(r r':Pr):Prop:=∀x j,r=.ok (x,j)->(∃x',r'=.ok (x',j+1)/\Sim x x'/\j<=n)∨∃a,r'=.error (21,a)
section
variable {ts my:List Tk} {n:Nat}
theorem Wr.lt(h:Wr ts my n){i:Nat}(hk:(tk ts i).k≠5):i<n:=by
 refine bC fun hn=>hk (h.e i (by omega))
theorem Wr.Ko(h:Wr ts my n){i:Nat}(hi:i<n)(s:aH):sg my (i+1) s=sg ts i s:=by
 unfold sg;obtain⟨h1,h2,_⟩:=h.s i hi;rw[h1,h2]
theorem rF.map{r r':Pr}(h:rF n r r'){g g':Ex->Ex}(hg:∀x x',Sim x x'->Sim (g x) (g' x')):rF n (EY g r) (EY g' r'):=by
 intro x j hx;obtain⟨y,h1,rfl⟩:=yi hx;rcases h y j h1 with⟨x',h2,h3,h4⟩ | ⟨a,h2⟩
 ·exact .inl ⟨g' x',by rw[h2];rfl,hg _ _ h3,h4⟩
 ·exact .inr ⟨a,by rw[h2];rfl⟩
theorem rF.nest{r r':Pr}{d:Nat}{a a':Int}(h:d+1≠20->rF n r r'):rF n (iC d a r) (iC (d+1) a' r'):=by
 intro x j hx;obtain⟨h1,h2⟩:=pU hx;by_cases h3:d+1=20
 ·exact .inr ⟨a',by rw[iC,if_pos h3]⟩
 ·rw[iC,if_neg h3];exact h h3 x j h1
theorem rF.par(hw:Wr ts my n){r r':Pr}(h:rF n r r'):rF n (qJ ts r) (qJ my r'):=by
 intro x j hx;obtain⟨j',h1,h2,rfl⟩:=yj hx;rcases h x j' h1 with⟨x',h3,h4,h5⟩ | ⟨a,h3⟩
 ·have hl:=hw.lt (tK h2);exact .inl ⟨x',by rw[h3];simp only[qJ];rw[if_pos (by rw[hw.Ko hl];exact h2)],h4,hl⟩
 ·exact .inr ⟨a,by rw[h3];rfl⟩
theorem rF.err{e:Int×Int}{r':Pr}:rF n (.error e) r':=fun x j hx=>by cases hx
theorem rF.in_(hw:Wr ts my n)(i:Nat):rF n (zC ts i) (zC my (i+1)):=by
 intro x j hx;have TH:=hx;obtain⟨rfl,rfl⟩:=Hc TH;unfold zC at hx;split at hx
 ·rename_i h1;split at hx
  ·rename_i h2;split at hx
   ·rename_i h3;have hl:=hw.lt (tK h3);refine .inl ⟨.mk 3 0 (tk my (i+1+2)).t 0 [] (tk my (i+1)).a,?_,?_,hl⟩
    ·unfold zC;rw[if_pos (by rw[hw.Ko (by omega:i+1<n)];exact h1),if_pos (by rw[(hw.s (i+2) (by omega)).1];exact h2),if_pos (by rw[hw.Ko hl];exact h3)]
    ·have e:(tk my (i+1+2)).t=(tk ts (i+2)).t:=(hw.s (i+2) (by omega)).2.1;rw[e];exact .leaf ..
   ·cases hx
  ·cases hx
 ·cases hx
theorem rF.one(hw:Wr ts my n){E0 One E0' QE:Nat->Pr}{d i:Nat}(hE:d+1≠20->∀i,i<=n->rF n (E0 i) (E0' (i+1)))(hO:d+1≠20->∀i,i<=n->rF n (One i) (QE (i+1)))(hi:i<=n):rF n (nL ts E0 One d i) (nL my E0' QE (d+1) (i+1)):=by
 by_cases MF:i=n
 ·subst MF;have h5:=hw.e i (aW _);have hs:∀s,sg ts i s=false:=fun s=>by
   unfold sg;rw[h5];rfl
  have:nL ts E0 One d i=.error (fh ts i):=by
   unfold nL;rw[hs,hs,hs,if_neg (by decide),if_neg (by decide),if_neg (by rw[h5];decide),if_neg (by rw[h5];decide),if_neg (by rw[h5];rintro⟨h,_⟩;exact absurd h (by decide))]
  rw[this];exact rF.err
 ·have hl:i<n:=by omega
  obtain⟨k1,k2,k3⟩:=hw.s i hl;unfold nL;rw[hw.Ko hl,hw.Ko hl,hw.Ko hl,k1,k2,k3];split
  ·exact rF.map (rF.nest fun h=>hO h (i+1) hl) fun x x' hx=>.one _ _ _ _ _ _ _ _ hx
  ·split
   ·exact rF.nest fun h=>rF.par hw (hE h (i+1) hl)
   ·split
    ·intro x j hx;simp only[dG,dk]at hx;obtain⟨rfl,rfl⟩:=hx;exact .inl ⟨_,rfl,.leaf ..,hl⟩
    ·split
     ·intro x j hx;simp only[dG,dk]at hx;obtain⟨rfl,rfl⟩:=hx;exact .inl ⟨_,rfl,.leaf ..,hl⟩
     ·split
      ·exact rF.in_ hw i
      ·exact rF.err
end
theorem UC{ts:List Tk}{E:Nat->Pr}{k:Int}{x:Ex}{j:Nat}(h:jf ts k j=0):∀g,ir ts E k g x j=.ok (x,j)
 | 0=>rfl
 | g+1=>by rw[ir,if_pos h]
theorem Wo{ts:List Tk}{j:Nat}(h:(tk ts j).k=5)(k:Int):jf ts k j=0:=by
 refine bC fun hn=>?_;exact nX _ _ hn h
theorem abO{ts:List Tk}{j:Nat}{t:aH}(h:(tk ts j).t=t)(hn:∀op,op<16->dD op≠t∨op=0∨14<=op)(k:Int):jf ts k j=0:=by
 have:∀(f op:Nat),1<=op->op+f<=14->iQ ts k j f op=0:=by
  intro f
  induction f with
  | zero=>intro op _ _;rfl
  | succ f ih=>
   intro op h1 h2;rw[iQ,if_neg,ih (op+1) (by omega) (by omega)];rintro⟨_,hs⟩;simp only[sg,aP,bA]at hs;rcases hn op (by omega)with e | e | e
   ·exact e (by rw[<-h,hs.2])
   ·omega
   ·omega
 exact this 13 1 (by omega) (by omega)
theorem Sim.same{x y:Ex}(h:Sim x y):∀d,lQ false d x y=true:=by
 have hd:∀{k n:Int} {s:aH} {op:Int} {xs ys:List Ex} {a b:Int},xs.length=ys.length->zN false (.mk k n s op xs a) (.mk k n s op ys b)=false:=fun h=>by
  simp[zN,Ex.k,Ex.n,Ex.s,Ex.op,Ex.dj,Ex.a,h]
 induction h with
 | leaf k n s op a b=>
  intro d;cases d with
  | zero=>rfl
  | succ d=>rw[lQ,if_neg (by rw[hd rfl];decide)];rfl
 | one k n s op a b x y h ih=>
  intro d;cases d with
  | zero=>rfl
  | succ d=>
   rw[lQ,if_neg (by rw[hd (xs:=[x]) (ys:=[y]) rfl];decide)];simp only[Ex.dj,zM,ih d,cR]
 | two k n s op a b x y x' y' h1 h2 A0 DY=>
  intro d;cases d with
  | zero=>rfl
  | succ d=>
   rw[lQ,if_neg (by rw[hd (xs:=[x,y]) (ys:=[x',y']) rfl];decide)];simp only[Ex.dj,zM,A0 d,DY d,cR]
def kt(t:Tk):Int×aH:=(t.k,t.t)
theorem Gu{c:UInt8}{r:aH}(h1:mZ c=false)(h2:(c==47)=false):jq false (c::r)=0:=by
 rw[jq,if_neg (by rw[h1];decide),if_neg (by rw[h2,du];decide)]
theorem lD{c:UInt8}{r:aH}(h1:eG c=false)(h2:cN c=false)(h3:nc.contains c=true)(h4:pS (c::r)=false):kY (c::r)=.ok (4,[c],0,1):=by
 have e:kY (c::r)=if eG c then ly (c::r)else if cN c then qI (c::r)else mQ (c::r):=rfl
 have hn:iq (c::r)=1:=by
  unfold iq;rw[h4];dsimp only;rw[if_neg (by decide),if_pos h3]
 rw[e,h1,h2,if_neg (by decide),if_neg (by decide),mQ,hn];rfl
def soft(r:aH):Prop:=∀d,r.head? =some d->d≠61/\d≠62
theorem jR{c:UInt8}{r:aH}(hc:[38,124].contains c=false)(h:soft r):pS (c::r)=false:=by
 cases r with
 | nil=>rfl
 | cons d r=>
  obtain⟨h1,h2⟩:=h d rfl;have e1:(d==61)=false:=by simpa using h1
  have e2:(d==62)=false:=by simpa using h2
  show((d==61&&[60,62,61,33].contains c)||(d==c&&[38,124].contains c)||(c==45&&d==62))=false;rw[e1,e2,hc,du,gu,gu];rfl
structure De (ts:List Tk) (n m:Nat) (s:aH):Prop where
 a:∀i,i<n->(tk ts i).k=4/\(tk ts i).t=s
 b:∀i,n<=i->i<n+m->(tk ts i).k=4/\(tk ts i).t=[40]
 c:(tk ts (n+m)).k=1/\(tk ts (n+m)).t=[120]
 e:∀i,n+m<i->i<=n+m+m->(tk ts i).k=4/\(tk ts i).t=[41]
 z:(tk ts (n+m+m+1)).k=5
 l:ts.length=n+m+m+2
section
variable {ts:List Tk} {n m:Nat} {s:aH}
theorem OB{ts:List Tk}{i:Nat}{t s:aH}(h:(tk ts i).t=t)(gC:t≠s):sg ts i s=false:=by
 unfold sg;rw[h,bn gC,gu]
theorem Ht{ts:List Tk}{i:Nat}{t:aH}(h:(tk ts i).k=4/\(tk ts i).t=t):sg ts i t=true:=by
 unfold sg;rw[h.1,h.2,bF rfl];rfl
end
abbrev K3:=Int×aH×Int
def k3(t:Tk):K3:=(t.k,t.t,t.n)
theorem OC{p:UInt8->Prop}(h:∀n:Fin 256,p (UInt8.ofNat n.val))(c:UInt8):p c:=by
 have:=h ⟨c.toNat,c.toNat_lt⟩;simpa using this
theorem wH{p:UInt8->Bool}{r:aH}(hr:∀c,r.head? =some c->p c=false):∀(l:aH),(∀c,c∈l->p c=true)->(l++r).takeWhile p=l
 | [],_=>by
  cases r with
  | nil=>rfl
  | cons c r=>rw[ci,da,if_neg (by rw[hr c rfl];decide)]
 | c::l,hl=>by rw[cr,da,if_pos (hl c (by simp)),wH hr l fun x hx=>hl x (by simp[hx])]
theorem Fx{a b:aH}(h:a≠[]):(a++b).head? =a.head? :=by
 cases a with
 | nil=>exact absurd rfl h
 | cons c a=>rfl
theorem nR{u:Nat}(h:u<10):Lib.decDigits u=[UInt8.ofNat (48+u)]:=by rw[Lib.decDigits,dif_pos h]
theorem qi{u:Nat}(h:¬u<10):Lib.decDigits u=Lib.decDigits (u/10)++[UInt8.ofNat (48+u % 10)]:=by rw[Lib.decDigits,dif_neg h]
theorem vK{u:Nat}(h:u<10):(UInt8.ofNat (48+u)).toNat=48+u:=by
 rw[UInt8.toNat_ofNat'];omega
theorem UD{u:Nat}(h:u<10):cN (UInt8.ofNat (48+u))=true:=by
 unfold cN;rw[vK h];simp;omega
theorem yz(u:Nat):∀c,c∈Lib.decDigits u->cN c=true:=by
 induction u using Nat.strongRecOn with
 | _ u ih=>
  intro c hc;by_cases h:u<10
  ·rw[nR h,aO]at hc;subst hc;exact UD h
  ·rw[qi h,cH,aO]at hc;rcases hc with hc | rfl
   ·exact ih (u/10) (by omega) c hc
   ·exact UD (Nat.mod_lt _ (by decide))
theorem wI(u:Nat):Lib.decDigits u≠[]:=by
 by_cases h:u<10
 ·rw[nR h];simp
 ·rw[qi h];simp
theorem Hu(a:Nat)(l:aH)(c:UInt8):jU a (l++[c])=jU a l*10+(c.toNat-48):=by
 simp[jU,uV]
theorem SR(u:Nat):jU 0 (Lib.decDigits u)=u:=by
 induction u using Nat.strongRecOn with
 | _ u ih=>
  by_cases h:u<10
  ·rw[nR h];have:=vK h;simp only[jU,List.foldl_cons,List.foldl_nil];omega
  ·rw[qi h,Hu,ih (u/10) (by omega),vK (Nat.mod_lt _ (by decide))];omega
theorem OD(u:Nat)(h0:0<u):(Lib.decDigits u).head? ≠some 48:=by
 induction u using Nat.strongRecOn with
 | _ u ih=>
  by_cases h:u<10
  ·rw[nR h,gx];intro e;injection e with e;have:=bK UInt8.toNat e;rw[vK h]at this;have h48:(48:UInt8).toNat=48:=rfl;omega
  ·rw[qi h,Fx (wI _)];exact ih (u/10) (by omega) (by omega)
theorem OE(u:Nat)(h:1<(Lib.decDigits u).length):0<u:=by
 refine bC fun hn=>?_;have:u=0:=by omega
 subst this;rw[nR (by decide)]at h;simp at h
theorem Hv{c:UInt8}(h:cN c=true):dV c=true:=by unfold dV;rw[h,mA]
theorem OG{c:UInt8}(h:cN c=true):eG c=false:=by
 unfold cN at h;unfold eG;simp only[aP,bA]at h;simp;omega
theorem ou{n:Int}(h:0<=n):Lib.itoa n=Lib.decDigits n.toNat:=by
 unfold Lib.itoa;rw[if_neg (by omega)]
theorem OH{n:Int}(h0:0<=n)(h1:n<=9223372036854775807){r:aH}(hr:∀c,r.head? =some c->dV c=false):kY (Lib.itoa n++r)=.ok (3,[],n,(Lib.itoa n).length):=by
 rw[ou h0];generalize hu:n.toNat=u;have hn:n=(u:Int):=by omega
 have fy:=yz u;have gC:=wI u;have hw:=wH (p:=dV) hr (Lib.decDigits u) fun c hc=>Hv (fy c hc);have hd:=wH (p:=cN) (fun c h=>by
  have:=hr c h;unfold dV at this;exact(eK.1 this).2) (Lib.decDigits u) fy
 have hp:eY (Lib.decDigits u++r)=(u,(Lib.decDigits u).length,0):=by
  unfold eY;rw[hd,SR];rw[if_neg (by simp[gC]),if_neg,if_pos (by omega)];rintro(h | ⟨h2,h3⟩)
  ·exact gC h
  ·rw[Fx gC]at h3;exact OD u (OE u h2) h3
 have akq:qI (Lib.decDigits u++r)=.ok (3,[],n,(Lib.decDigits u).length):=by
  unfold qI;rw[hp,hw,if_neg (by simp),if_neg (by simp),hn]
 generalize hm:Lib.decDigits u=m at*
 cases m with
 | nil=>exact absurd rfl gC
 | cons c m=>
  have hc:=fy c (by simp);have e:kY (c::m++r)=if eG c then ly (c::m++r)else if cN c then qI (c::m++r)else mQ (c::m++r):=rfl
  rw[e,OG hc,hc,if_neg (by decide),if_pos rfl,akq]
theorem sB{l:aH}{i:Nat}{p r:aH}{k:Int}{t:aH}{n:Int}{ts:List Tk}(h:l.drop i=p++r)(hp:p≠[])(hb:jq false (p++r)=0)(ht:kY (p++r)=.ok (k,t,n,p.length))(hr:jC l (i+p.length)=.ok ts):jC l i=.ok (⟨k,t,n,(i:Nat)⟩::ts):=by
 have Zp:=rD.2 hp;have hi:i<l.length:=by
  have:=bK List.length h;rw[bX,aN]at this;omega
 rw[jx (by omega),h,hb,fp,if_neg (by omega),h,ht];dsimp only;rw[hr]
theorem jr{l:aH}{i:Nat}{p r:aH}(h:l.drop i=p++r):l.drop (i+p.length)=r:=by
 rw[<-jc,h,List.drop_left]
theorem xw{l:aH}{i:Nat}{p r:aH}(hi:i<=l.length)(h:l.drop i=p++r):i+p.length<=l.length:=by
 have:=bK List.length h;rw[bX,aN]at this;omega
def kx:Nat->Ex->Bool->aH
 | 0,_,_=>[]
 | d+1,x,wr=>clo wr (opn wr []++(
  if x.k=1 then Lib.itoa x.n
  else if x.k=2 then x.s
  else if x.k=3 then[105,110,40]++x.s++[41]
  else if x.k=4 then(match x.dj with
   | [y]=>dD x.op.toNat++kx d y (decide (bN y<6))
   | _=>[])
  else(match x.dj with
   | [y,z]=>kx d y (decide (bN y<bN x))++([32]++dD x.op.toNat++[32])++kx d z (decide (bN z<=bN x))
   | _=>[])))
theorem mq(wr:Bool)(l:aH):opn wr l=l++opn wr []:=by cases wr<;>simp[opn]
theorem OI(wr:Bool)(l m:aH):clo wr (l++m)=l++clo wr m:=by cases wr<;>simp[clo]
theorem Hw(wr:Bool)(l:aH):l.length<=(clo wr l).length:=by cases wr<;>simp[clo]
theorem Wp(wr:Bool)(l:aH):l.length<=(opn wr l).length:=by cases wr<;>simp[opn]
theorem Fy:∀(d:Nat) (x:Ex) (wr:Bool) (l:aH),l.length<=(nY d x wr l).length
 | 0,_,_,_=>aW _
 | d+1,x,wr,l=>by
  rw[nY];split
  ·exact aW _
  refine bh ?_ (Hw _ _);have h1:=Wp wr l;split
  ·rw[aN];omega
  ·split
   ·rw[aN];omega
   ·split
    ·rw[aN];omega
    ·split
     ·split
      ·rename_i y _;have:=Fy d y (decide (bN y<6)) (opn wr l++dD x.op.toNat);rw[aN]at this;omega
      ·exact aW _
     ·split
      ·rename_i y z _;have a1:=Fy d y (decide (bN y<bN x)) (opn wr l);have a2:=Fy d z (decide (bN z<=bN x)) (nY d y (decide (bN y<bN x)) (opn wr l)++([32]++dD x.op.toNat++[32]));rw[aN]at a2;omega
      ·exact aW _
theorem BE:∀(d:Nat) {x:Ex} (wr:Bool) (l:aH),cw d x=true->(nY d x wr l).length<=16384->nY d x wr l=l++kx d x wr
 | 0,x,wr,l,h,_=>by cases h
 | d+1,x,wr,l,h,hl=>by
  rw[cw,aP]at h;obtain⟨hh,ha⟩:=h;have h0:=Fy (d+1) x wr l;have hc:¬16384<l.length:=by omega
  rw[nY,if_neg hc]at hl⊢;rw[kx,<-OI];have uO:=bh (Hw wr _) hl;congr 1;by_cases k1:x.k=1
  ·rw[if_pos k1,if_pos k1,mq wr l,be]
  by_cases k2:x.k=2
  ·rw[if_neg k1,if_neg k1,if_pos k2,if_pos k2,mq wr l,be]
  by_cases k3:x.k=3
  ·rw[if_neg k1,if_neg k1,if_neg k2,if_neg k2,if_pos k3,if_pos k3,mq wr l,be]
  by_cases k4:x.k=4
  ·obtain⟨y,hy,_⟩:=sf hh k4;rw[if_neg k1,if_neg k2,if_neg k3,if_pos k4,hy]at uO;rw[if_neg k1,if_neg k1,if_neg k2,if_neg k2,if_neg k3,if_neg k3,if_pos k4,if_pos k4,hy];rw[hy]at ha;dsimp only at uO⊢;simp only[iT,cR]at ha;rw[BE d _ _ ha uO,mq wr l];simp only[be]
  ·obtain⟨_,y,z,hy,_⟩:=oo hh k1 k2 k3 k4;rw[if_neg k1,if_neg k2,if_neg k3,if_neg k4,hy]at uO;rw[if_neg k1,if_neg k1,if_neg k2,if_neg k2,if_neg k3,if_neg k3,if_neg k4,if_neg k4,hy];rw[hy]at ha;dsimp only at uO⊢;simp only[iT,cR,aP]at ha;have h1:=Fy d z (decide (bN z<=bN x)) (nY d y (decide (bN y<bN x)) (opn wr l)++([32]++dD x.op.toNat++[32]));rw[aN]at h1;rw[BE d _ _ ha.2 uO,BE d _ _ ha.1 (by omega),mq wr l];simp only[be]
def opk(wr:Bool):List K3:=if wr then[(4,[40],0)]else[]
def clk(wr:Bool):List K3:=if wr then[(4,[41],0)]else[]
def mW:Nat->Ex->Bool->List K3
 | 0,_,_=>[]
 | d+1,x,wr=>opk wr++(
  if x.k=1 then[(3,[],x.n)]
  else if x.k=2 then[(1,x.s,0)]
  else if x.k=3 then[(2,[105,110],0),(4,[40],0),(1,x.s,0),(4,[41],0)]
  else if x.k=4 then(match x.dj with
   | [y]=>(4,dD x.op.toNat,0)::mW d y (decide (bN y<6))
   | _=>[])
  else(match x.dj with
   | [y,z]=>mW d y (decide (bN y<bN x))++(4,dD x.op.toNat,0)::mW d z (decide (bN z<=bN x))
   | _=>[]))++clk wr
def ld(c:UInt8):Bool:=eG c||cN c||c==40||c==45||c==33
theorem Lv:∀n:Fin 256,ld (UInt8.ofNat n.val)=true->mZ (UInt8.ofNat n.val)=false/\(UInt8.ofNat n.val==47)=false/\UInt8.ofNat n.val≠61/\UInt8.ofNat n.val≠62:=by decide+kernel
theorem ky{c:UInt8}(h:ld c=true):mZ c=false/\(c==47)=false/\c≠61/\c≠62:=OC (p:=fun c=>ld c=true->mZ c=false/\(c==47)=false/\c≠61/\c≠62) Lv c h
def OJ(c:UInt8):Bool:=[32,41,59,93,44,10].contains c
def rl(r:aH):Prop:=∀c,r.head? =some c->OJ c=true
theorem SS:∀n:Fin 256,OJ (UInt8.ofNat n.val)=true->dV (UInt8.ofNat n.val)=false/\cN (UInt8.ofNat n.val)=false/\UInt8.ofNat n.val≠61/\UInt8.ofNat n.val≠62:=by decide+kernel
theorem Hx{c:UInt8}(h:OJ c=true):dV c=false/\cN c=false/\c≠61/\c≠62:=OC (p:=fun c=>OJ c=true->dV c=false/\cN c=false/\c≠61/\c≠62) SS c h
theorem rl.word{r:aH}(h:rl r):∀(l:aH),(∀c,c∈l->dV c=true)->(l++r).takeWhile dV=l
 | [],_=>by
  cases r with
  | nil=>rfl
  | cons c r=>
   rw[ci,da,if_neg (by rw[(Hx (h c rfl)).1];decide)]
 | c::l,hl=>by
  rw[cr,da,if_pos (hl c (by simp)),h.word l fun x hx=>hl x (by simp[hx])]
theorem JR{n:Int}(h0:0<=n)(h1:n<=9223372036854775807){r:aH}(hr:rl r):kY (Lib.itoa n++r)=.ok (3,[],n,(Lib.itoa n).length):=OH h0 h1 fun c h=>(Hx (hr c h)).1
theorem FA{s r:aH}(hn:cY s=true)(hr:rl r):kY (s++r)=.ok (1,s,0,s.length):=by
 unfold cY at hn;simp only[aP]at hn;obtain⟨⟨⟨h1,h2⟩,h3⟩,h4⟩:=hn;obtain⟨h1,h5⟩:=aQ h1;have h3:=aQ h3;have h4:iA.contains s=false:=by simpa using h4
 have hw:=hr.word s fun c hc=>by rw[<-h3]at hc;exact wA c hc
 have hwr:ly (s++r)=.ok (1,s,0,s.length):=by
  unfold ly;rw[hw,if_neg (by omega),h4];rfl
 cases s with
 | nil=>exact absurd rfl h1
 | cons c s=>
  have e:kY (c::s++r)=if eG c then ly (c::s++r)else if cN c then qI (c::s++r)else mQ (c::s++r):=rfl
  have h2:eG c=true:=h2;rw[e,h2,if_pos rfl,hwr]
theorem Wq{op:Nat}(h1:1<=op)(h2:op<=13)(r:aH):kY (dD op++32::r)=.ok (4,dD op,0,(dD op).length)/\jq false (dD op++32::r)=0:=by
 match op,h1,h2 with
 | 1,_,_=>exact⟨rfl,rfl⟩
 | 2,_,_=>exact⟨rfl,rfl⟩
 | 3,_,_=>exact⟨rfl,rfl⟩
 | 4,_,_=>exact⟨rfl,rfl⟩
 | 5,_,_=>exact⟨rfl,rfl⟩
 | 6,_,_=>exact⟨rfl,rfl⟩
 | 7,_,_=>exact⟨rfl,rfl⟩
 | 8,_,_=>exact⟨rfl,rfl⟩
 | 9,_,_=>exact⟨rfl,rfl⟩
 | 10,_,_=>exact⟨rfl,rfl⟩
 | 11,_,_=>exact⟨rfl,rfl⟩
 | 12,_,_=>exact⟨rfl,rfl⟩
 | 13,_,_=>exact⟨rfl,rfl⟩
theorem tu:∀(d:Nat) {x:Ex} (wr:Bool),cw d x=true->jQ d x->∃c t,kx d x wr=c::t/\ld c=true
 | 0,x,wr,h,_=>by cases h
 | d+1,x,true,h,_=>⟨40,_,rfl,by decide⟩
 | d+1,x,false,h,⟨hn,hs⟩=>by
  rw[cw,aP]at h;obtain⟨hh,ha⟩:=h;have e:kx (d+1) x false=(
  if x.k=1 then Lib.itoa x.n
  else if x.k=2 then x.s
  else if x.k=3 then[105,110,40]++x.s++[41]
  else if x.k=4 then(match x.dj with
   | [y]=>dD x.op.toNat++kx d y (decide (bN y<6))
   | _=>[])
  else(match x.dj with
   | [y,z]=>kx d y (decide (bN y<bN x))++([32]++dD x.op.toNat++[32])++kx d z (decide (bN z<=bN x))
   | _=>[])):=rfl
  rw[e];by_cases k1:x.k=1
  ·rw[if_pos k1];have h0:0<=x.n:=by
    rw[gn,if_pos k1]at hh;have:=(uh hh).1;split at this<;>omega
   rw[ou h0];cases hm:Lib.decDigits x.n.toNat with
   | nil=>exact absurd hm (wI _)
   | cons c m=>
    have:=yz x.n.toNat c (by rw[hm];simp);exact⟨c,m,rfl,by unfold ld;rw[this];simp⟩
  have name:cY x.s=true->∃c t,x.s=c::t/\ld c=true:=fun hn=>by
   unfold cY at hn;simp only[aP]at hn;obtain⟨⟨⟨h1,h2⟩,h3⟩,h4⟩:=hn;cases hs:x.s with
   | nil=>rw[hs]at h2;cases h2
   | cons c t=>
    rw[hs]at h2;have h2:eG c=true:=h2;exact⟨c,t,rfl,by unfold ld;rw[h2];simp⟩
  by_cases k2:x.k=2
  ·rw[if_neg k1,if_pos k2];exact name (jg hh (.inl k2))
  by_cases k3:x.k=3
  ·rw[if_neg k1,if_neg k2,if_pos k3];exact⟨105,_,rfl,by decide⟩
  by_cases k4:x.k=4
  ·obtain⟨y,hy,ho⟩:=sf hh k4;rw[if_neg k1,if_neg k2,if_neg k3,if_pos k4,hy];rcases ho with ho | ho
   ·rw[ho];exact⟨45,_,rfl,by decide⟩
   ·rw[ho];exact⟨33,_,rfl,by decide⟩
  ·obtain⟨_,y,z,hy,_⟩:=oo hh k1 k2 k3 k4;rw[if_neg k1,if_neg k2,if_neg k3,if_neg k4,hy];rw[hy]at ha hs;simp only[iT,cR,aP]at ha;obtain⟨c,t,h1,h2⟩:=tu d (decide (bN y<bN x)) ha.1 (hs y (by simp));dsimp only;rw[h1];exact⟨c,_,rfl,h2⟩
theorem ov{r:aH}(h:∃c t,r=c::t/\ld c=true):soft r:=by
 obtain⟨c,t,rfl,hs⟩:=h;intro d hd;simp only[gx,aV]at hd;subst hd;exact⟨(ky hs).2.2.1,(ky hs).2.2.2⟩
theorem rl.soft{r:aH}(h:rl r):soft r:=fun d hd=>(Hx (h d hd)).2.2
theorem tv{a b:aH}(h:∃c t,a=c::t/\ld c=true):∃c t,a++b=c::t/\ld c=true:=by
 obtain⟨c,t,rfl,hs⟩:=h;exact⟨c,t++b,rfl,hs⟩
theorem UE{l:aH}{i:Nat}{r:aH}(h:l.drop i=32::r)(hr:jq false r=0):jC l i=jC l (i+1):=by
 have hi:i<=l.length:=by
  refine bC fun hn=>?_;rw[dy (by omega)]at h;cases h
 rw[mg hi,h,jq,if_pos (by decide),hr]
theorem tw{l:aH}:∀(d:Nat) {x:Ex} (wr:Bool) (i:Nat) {r:aH} {ts:List Tk},cw d x=true->jQ d x->i<=l.length->l.drop i=kx d x wr++r->rl r->jC l (i+(kx d x wr).length)=.ok ts->∃us,jC l i=.ok (us++ts)/\us.map k3=mW d x wr
 | 0,x,wr,i,r,ts,h,_,_,_,_,_=>by cases h
 | d+1,x,wr,i,r,ts,h,⟨hn,hs⟩,hi,hl,hr,ht=>by
  have ri:=h;rw[cw,aP]at h;obtain⟨hh,ha⟩:=h;have core:∀(i:Nat) {r:aH} {ts:List Tk},i<=l.length->l.drop i=kx (d+1) x false++r->rl r->jC l (i+(kx (d+1) x false).length)=.ok ts->∃us,jC l i=.ok (us++ts)/\us.map k3=mW (d+1) x false:=by
   intro i r ts hi hl hr ht;have e:kx (d+1) x false=(
   if x.k=1 then Lib.itoa x.n
   else if x.k=2 then x.s
   else if x.k=3 then[105,110,40]++x.s++[41]
   else if x.k=4 then(match x.dj with
    | [y]=>dD x.op.toNat++kx d y (decide (bN y<6))
    | _=>[])
   else(match x.dj with
    | [y,z]=>kx d y (decide (bN y<bN x))++([32]++dD x.op.toNat++[32])++kx d z (decide (bN z<=bN x))
    | _=>[])):=rfl
   have e2:mW (d+1) x false=(
   if x.k=1 then[(3,[],x.n)]
   else if x.k=2 then[(1,x.s,0)]
   else if x.k=3 then[(2,[105,110],0),(4,[40],0),(1,x.s,0),(4,[41],0)]
   else if x.k=4 then(match x.dj with
    | [y]=>(4,dD x.op.toNat,0)::mW d y (decide (bN y<6))
    | _=>[])
   else(match x.dj with
    | [y,z]=>mW d y (decide (bN y<bN x))++(4,dD x.op.toNat,0)::mW d z (decide (bN z<=bN x))
    | _=>[]))++[]:=rfl
   rw[bL]at e2;obtain⟨c0,t0,Rn,aer⟩:=tu (d+1) false ri ⟨hn,hs⟩;have Zg:jq false (kx (d+1) x false++r)=0:=by
    rw[Rn,cr];exact Gu (ky aer).1 (ky aer).2.1
   have gC:kx (d+1) x false≠[]:=by rw[Rn];simp
   by_cases k1:x.k=1
   ·rw[if_pos k1]at e e2;have h0:0<=x.n:=by
     rw[gn,if_pos k1]at hh;have:=(uh hh).1;split at this<;>omega
    rw[e2];exact⟨[⟨3,[],x.n,(i:Nat)⟩],sB hl gC Zg (by rw[e];exact JR h0 hn.2 hr) ht,rfl⟩
   by_cases k2:x.k=2
   ·rw[if_neg k1,if_pos k2]at e e2;rw[e2];exact⟨[⟨1,x.s,0,(i:Nat)⟩],sB hl gC Zg (by rw[e];exact FA (jg hh (.inl k2)) hr) ht,rfl⟩
   by_cases MG:x.k=3
   ·rw[if_neg k1,if_neg k2,if_pos MG]at e e2;have ZA:=jg hh (.inr MG);obtain⟨cs,tss,jY,Yw⟩:∃c t,x.s=c::t/\ld c=true:=by
     have Yx:=ZA;unfold cY at Yx;simp only[aP]at Yx;obtain⟨⟨⟨_,h2⟩,_⟩,_⟩:=Yx;cases hs:x.s with
     | nil=>rw[hs]at h2;cases h2
     | cons c t=>
      rw[hs]at h2;have h2:eG c=true:=h2;exact⟨c,t,rfl,by unfold ld;rw[h2];simp⟩
    have a0:l.drop i=[105,110]++([40]++(x.s++([41]++r))):=by rw[hl,e];simp
    have a1:=jr a0;have a2:=jr a1;have a3:=jr a2;have len:(kx (d+1) x false).length=2+1+x.s.length+1:=by rw[e];simp;omega
    have ht:jC l (i+([105,110]:aH).length+([40]:aH).length+x.s.length+([41]:aH).length)=.ok ts:=by
     rw[<-ht,len];congr 1;simp only[aR,aZ];omega
    have b3:=sB (n:=0) a3 (by simp) (Gu (by decide) (by decide)) (lD (by decide) (by decide) (by decide) (jR (by decide) hr.soft)) ht;have b2:=sB (n:=0) (k:=1) (t:=x.s) a2 (by rw[jY];simp) (by rw[jY,cr];exact Gu (ky Yw).1 (ky Yw).2.1) (FA ZA fun c hc=>by simp only[eo,gx,aV]at hc;exact hc▸rfl) b3;have b1:=sB (n:=0) a1 (by simp) (Gu (by decide) (by decide)) (lD (by decide) (by decide) (by decide) (jR (by decide) (ov (tv (a:=x.s) (b:=[41]++r) ⟨cs,tss,jY,Yw⟩)))) b2;have b0:=sB (n:=0) (k:=2) (t:=[105,110]) a0 (by simp) (Gu (by decide) (by decide)) rfl b1;rw[e2];exact⟨[_,_,_,_],b0,rfl⟩
   by_cases k4:x.k=4
   ·obtain⟨y,hy,ho⟩:=sf hh k4;rw[if_neg k1,if_neg k2,if_neg MG,if_pos k4,hy]at e e2;dsimp only at e e2;rw[hy]at ha hs;simp only[iT,cR]at ha;have A5:=hs y (by simp);have lj:=tu d (decide (bN y<6)) ha A5;have a0:l.drop i=dD x.op.toNat++(kx d y (decide (bN y<6))++r):=by rw[hl,e,be]
    have a1:=jr a0;have ht:jC l (i+(dD x.op.toNat).length+(kx d y (decide (bN y<6))).length)=.ok ts:=by
     rw[<-ht,e,aN,fe]
    obtain⟨us,u1,u2⟩:=tw d (decide (bN y<6)) _ ha A5 (xw hi a0) a1 hr ht;have oB:kY (dD x.op.toNat++(kx d y (decide (bN y<6))++r))=.ok (4,dD x.op.toNat,0,(dD x.op.toNat).length)/\dD x.op.toNat≠[]/\jq false (dD x.op.toNat++(kx d y (decide (bN y<6))++r))=0:=by
     rcases ho with ho | ho
     ·rw[ho];exact⟨lD (c:=45) (by decide) (by decide) (by decide) (jR (by decide) (ov (tv (a:=kx d y (decide (bN y<6))) (b:=r) lj))),by decide,Gu (by decide) (by decide)⟩
     ·rw[ho];exact⟨lD (c:=33) (by decide) (by decide) (by decide) (jR (by decide) (ov (tv (a:=kx d y (decide (bN y<6))) (b:=r) lj))),by decide,Gu (by decide) (by decide)⟩
    rw[e2];exact⟨⟨4,dD x.op.toNat,0,(i:Nat)⟩::us,sB a0 oB.2.1 oB.2.2 oB.1 u1,by rw[bE,u2];rfl⟩
   ·obtain⟨_,y,z,hy,P0,Gz⟩:=oo hh k1 k2 MG k4;rw[if_neg k1,if_neg k2,if_neg MG,if_neg k4,hy]at e e2;dsimp only at e e2;rw[hy]at ha hs;simp only[iT,cR,aP]at ha;have A5:=hs y (by simp);have Rl:=hs z (by simp);obtain⟨cz,tz,hz1,DJ⟩:=tu d (decide (bN z<=bN x)) ha.2 Rl;have Gw:jq false (kx d z (decide (bN z<=bN x))++r)=0:=by
     rw[hz1,cr];exact Gu (ky DJ).1 (ky DJ).2.1
    have oB:=Wq (op:=x.op.toNat) (by omega) (by omega) (kx d z (decide (bN z<=bN x))++r);have Qe:dD x.op.toNat≠[]:=by
     have:∀q,q<14->1<=q->dD q≠[]:=by decide
     exact this _ (by omega) (by omega)
    have a0:l.drop i=kx d y (decide (bN y<bN x))++([32]++(dD x.op.toNat++([32]++(kx d z (decide (bN z<=bN x))++r)))):=by rw[hl,e];simp only[be]
    have a1:=jr a0;have a2:=jr a1;have a3:=jr a2;have a4:=jr a3;have i1:=xw hi a0;have i2:=xw i1 a1;have i3:=xw i2 a2;have i4:=xw i3 a3;have ht:jC l (i+(kx d y (decide (bN y<bN x))).length+([32]:aH).length+(dD x.op.toNat).length+([32]:aH).length+(kx d z (decide (bN z<=bN x))).length)=.ok ts:=by
     rw[<-ht,e];congr 1;simp only[aN,aR,aZ];omega
    obtain⟨vs,v1,v2⟩:=tw d (decide (bN z<=bN x)) _ ha.2 Rl i4 a4 hr ht;have b3:jC l (i+(kx d y (decide (bN y<bN x))).length+([32]:aH).length+(dD x.op.toNat).length)=.ok (vs++ts):=by
     exact(UE a3 Gw).trans v1
    have b2:=sB a2 Qe oB.2 oB.1 b3;have b1:=(UE a1 oB.2).trans b2;obtain⟨us,u1,u2⟩:=tw d (decide (bN y<bN x)) i ha.1 A5 hi a0 (fun c hc=>by simp only[eo,gx,aV]at hc;exact hc▸rfl) b1;rw[e2];exact⟨us++⟨4,dD x.op.toNat,0,_⟩::vs,by rw[u1,be];rfl,by rw[dF,bE,u2,v2];rfl⟩
  cases wr with
  | false=>exact core i hi hl hr ht
  | true=>
   have e:kx (d+1) x true=[40]++(kx (d+1) x false++[41]):=by
    unfold kx;simp[clo,opn]
   have e2:mW (d+1) x true=(4,[40],0)::(mW (d+1) x false++[(4,[41],0)]):=by
    unfold mW;simp[opk,clk]
   have lj:=tu (d+1) false ri ⟨hn,hs⟩;have a0:l.drop i=[40]++(kx (d+1) x false++([41]++r)):=by rw[hl,e];simp only[be]
   have a1:=jr a0;have a2:=jr a1;have ht:jC l (i+([40]:aH).length+(kx (d+1) x false).length+([41]:aH).length)=.ok ts:=by
    rw[<-ht,e];congr 1;simp only[aN,aR,aZ];omega
   have b2:=sB (n:=0) a2 (by simp) (Gu (by decide) (by decide)) (lD (by decide) (by decide) (by decide) (jR (by decide) hr.soft)) ht;obtain⟨us,u1,u2⟩:=core _ (xw hi a0) a1 (fun c hc=>by simp only[eo,gx,aV]at hc;exact hc▸rfl) b2;have b0:=sB (n:=0) a0 (by simp) (Gu (by decide) (by decide)) (lD (by decide) (by decide) (by decide) (jR (by decide) (ov (tv (a:=kx (d+1) x false) (b:=[41]++r) lj)))) u1;rw[e2];refine⟨⟨4,[40],0,(i:Nat)⟩::(us++[⟨4,[41],0,((i+([40]:aH).length+(kx (d+1) x false).length:Nat):Int)⟩]),by rw[b0];simp only[cr,be,ci,eo],?_⟩;rw[bE,dF,u2];rfl
def At(ts:List Tk)(i:Nat)(L:List K3):Prop:=∀j q,L[j]? =some q->k3 (tk ts (i+j))=q
section
variable {ts:List Tk} {i:Nat} {A B:List K3}
theorem At.left(h:At ts i (A++B)):At ts i A:=fun j q hj=>h j q (by rw[bJ (bc.1 hj).1];exact hj)
theorem At.right(h:At ts i (A++B)):At ts (i+A.length) B:=fun j q hj=>by
 have:=h (A.length+j) q (by rw[cf (by omega),dE];exact hj);rwa[<-fe]at this
theorem At.head{q:K3}(h:At ts i (q::A)):(tk ts i).k=q.1/\(tk ts i).t=q.2.1/\(tk ts i).n=q.2.2:=by
 have:=h 0 q rfl;rw[fp]at this;rw[<-this];exact⟨rfl,rfl,rfl⟩
theorem At.tail{q:K3}(h:At ts i (q::A)):At ts (i+1) A:=fun j p hj=>by
 have:=h (j+1) p hj;rwa[fe,jH 1 j]
theorem OK{p q:Nat}(hp:1<=p)(P1:p<=13)(hq:1<=q)(W5:q<=13)(h:dD p=dD q):p=q:=by
 have:∀p,p<14->∀q,q<14->1<=p->1<=q->dD p=dD q->p=q:=by decide
 exact this p (by omega) q (by omega) hp hq h
theorem abR{op:Nat}(h1:1<=op)(h2:op<=13)(hk:(tk ts i).k=4)(ht:(tk ts i).t=dD op)(k:Int):jf ts k i=if eL (op:Int)=k then(op:Int)else 0:=by
 have:∀(f q:Nat),1<=q->q+f<=14->iQ ts k i f q=if q<=op/\op<q+f/\eL (op:Int)=k then(op:Int)else 0:=by
  intro f
  induction f with
  | zero=>intro q _ _;rw[if_neg (by omega)];rfl
  | succ f ih=>
   intro q hq hf;rw[iQ,ih (q+1) (by omega) (by omega)];by_cases he:q=op
   ·subst he;have hs:sg ts i (dD q)=true:=Ht ⟨hk,ht⟩;by_cases hr:eL (q:Int)=k
    ·rw[if_pos ⟨hr,hs⟩,if_pos ⟨aW _,by omega,hr⟩]
    ·rw[if_neg (fun h=>hr h.1),if_neg (by omega),if_neg (fun h=>hr h.2.2)]
   ·have hs:¬sg ts i (dD q)=true:=fun hs=>he (by
     simp only[sg,aP,bA]at hs;exact OK hq (by omega) h1 h2 (by rw[<-ht,hs.2]))
    rw[if_neg (fun h=>hs h.2)];by_cases hc:q+1<=op/\op<q+1+f/\eL (op:Int)=k
    ·rw[if_pos hc,if_pos ⟨by omega,by omega,hc.2.2⟩]
    ·rw[if_neg hc,if_neg (fun h=>hc ⟨by omega,by omega,h.2.2⟩)]
 rw[jf,this 13 1 (by omega) (by omega)];by_cases hr:eL (op:Int)=k
 ·rw[if_pos hr,if_pos ⟨h1,by omega,hr⟩]
 ·rw[if_neg hr,if_neg (fun h=>hr h.2.2)]
theorem yA{op:Int}(h1:1<=op)(h2:op<=13):0<=eL op/\eL op<=5:=by
 unfold eL;split
 ·omega
 split
 ·omega
 split
 ·omega
 split
 ·omega
 split
 ·omega
 split
 ·omega
 ·omega
theorem JS{f d k0:Nat}{x:Ex}{j:Nat}(h:cQ ts f k0 d i=.ok (x,j))(h6:k0<=6):∀(m k:Nat),k+m=k0->(∀q:Int,(k:Int)<=q->q<(k0:Int)->jf ts q j=0)->cQ ts (f+m) k d i=.ok (x,j)
 | 0,k,hk,_=>by
  have:k=k0:=by omega
  subst this;exact h
 | m+1,k,hk,h0=>by
  rw[<-fe,cQ,if_neg (by omega),JS h h6 m (k+1) (by omega) fun q h1 h2=>h0 q (by omega) h2];simp only[zA];exact UC (h0 _ (iM _) (by omega)) _
theorem FB{f d k0:Nat}{e:Int×Int}(h:cQ ts f k0 d i=.error e)(h6:k0<=6):∀(m k:Nat),k+m=k0->cQ ts (f+m) k d i=.error e
 | 0,k,hk=>by
  have:k=k0:=by omega
  subst this;exact h
 | m+1,k,hk=>by
  rw[<-fe,cQ,if_neg (by omega),FB h h6 m (k+1) (by omega)];rfl
end
def UF(x:Ex)(j:Nat)(r:Pr):Prop:=(∃x',r=.ok (x',j)/\Sim x x')∨∃a,r=.error (21,a)
theorem UF.down{ts:List Tk}{i f d k0 k:Nat}{x:Ex}{j:Nat}(h:UF x j (cQ ts (f-(k0-k)) k0 d i))(hf:k0-k<=f)(h6:k0<=6)(hk:k<=k0)(h0:∀q:Int,(k:Int)<=q->q<(k0:Int)->jf ts q j=0):UF x j (cQ ts f k d i):=by
 have e:f=(f-(k0-k))+(k0-k):=by omega
 rcases h with⟨x',h1,h2⟩ | ⟨a,h1⟩
 ·exact .inl ⟨x',by rw[e];exact JS h1 h6 _ k (by omega) h0,h2⟩
 ·exact .inr ⟨a,by rw[e];exact FB h1 h6 _ k (by omega)⟩
abbrev PP(ts:List Tk)(d:Nat):Prop:=∀{x:Ex} (wr:Bool) (k dd i f:Nat),cw d x=true->At ts i (mW d x wr)->k<=6->(wr=false->(k:Int)<=bN x)->dd<=20->fx k dd<=f->i+(mW d x wr).length<ts.length->(∀q:Int,(k:Int)<=q->q<=5->jf ts q (i+(mW d x wr).length)=0)->UF x (i+(mW d x wr).length) (cQ ts f k dd i)
abbrev QQ(ts:List Tk)(d:Nat):Prop:=∀{x:Ex} (k dd i f:Nat),cw d x=true->x.k=5->(k:Int)=bN x->At ts i (mW d x false)->dd<=20->fx k dd<=f+1->i+(mW d x false).length<ts.length->(∀q:Int,(k:Int)<q->q<=5->jf ts q (i+(mW d x false).length)=0)->
 (∃x' g,ts.length-(i+(mW d x false).length)<=g/\cQ ts (f+1) k dd i=ir ts (cQ ts f (k+1) dd) k g x' (i+(mW d x false).length)/\Sim x x')∨∃a,cQ ts (f+1) k dd i=.error (21,a)
theorem Ai(x:Ex):x=.mk x.k x.n x.s x.op x.dj x.a:=by cases x;rfl
section
variable {ts:List Tk} {d:Nat}
theorem JU(hP:PP ts d)(hQ:QQ ts d):QQ ts (d+1):=by
 intro x k dd i f ri pv L2 cO PT hf bQ h0;rw[cw,aP]at ri;obtain⟨hh,ha⟩:=ri;obtain⟨_,y,z,hy,P0,Gz⟩:=oo hh (by omega) (by omega) (by omega) (by omega);have hnx:x.n=0/\x.s=[]:=by
  rw[gn,if_neg (by omega),if_neg (by omega),if_neg (by omega),if_pos pv,aP]at hh;have:=uh hh.2;exact⟨this.1,this.2.1⟩
 have hlx:bN x=eL x.op:=by rw[bN,if_pos pv]
 obtain⟨r0,r5⟩:=yA P0 Gz;have e2:mW (d+1) x false=(mW d y (decide (bN y<bN x))++(4,dD x.op.toNat,0)::mW d z (decide (bN z<=bN x))):=by
  rw[mW,if_neg (by omega),if_neg (by omega),if_neg (by omega),if_neg (by omega),hy];simp[opk,clk]
 rw[e2]at cO bQ h0⊢;rw[hy]at ha;simp only[iT,cR,aP]at ha;have Yy:=cO.left;have aes:=cO.right;have aks:=aes.tail;obtain⟨t1,t2,_⟩:=aes.head;rw[aN,aR]at bQ h0⊢;generalize Gx:i+(mW d y (decide (bN y<bN x))).length=j1 at*
 have hjz:i+((mW d y (decide (bN y<bN x))).length+((mW d z (decide (bN z<=bN x))).length+1))=j1+1+(mW d z (decide (bN z<=bN x))).length:=by omega
 rw[hjz]at bQ h0⊢;generalize Q9:j1+1+(mW d z (decide (bN z<=bN x))).length=j2 at*
 have oB:∀q:Int,jf ts q j1=if eL x.op=q then x.op else 0:=fun q=>by
  have:=abR (ts:=ts) (i:=j1) (op:=x.op.toNat) (by omega) (by omega) t1 t2 q;rwa[gw (by omega)]at this
 have hex:x=.mk 5 0 [] x.op [y,z] x.a:=by
  have:=Ai x;rw[pv,hnx.1,hnx.2,hy]at this;exact this
 have KH:fx (k+1) dd<=f:=by unfold fx at hf⊢;omega
 have aet:(∃y' g,ts.length-j1<=g/\cQ ts (f+1) k dd i=ir ts (cQ ts f (k+1) dd) k g y' j1/\Sim y y')∨∃a,cQ ts (f+1) k dd i=.error (21,a):=by
  by_cases hB:bN y=bN x
  ·have hwr:decide (bN y<bN x)=false:=bn (by omega);have hy5:y.k=5:=by
    refine bC fun hn=>?_;have:bN y=6:=by rw[bN,if_neg hn]
    omega
   rw[hwr]at Yy Gx;have:=hQ (x:=y) k dd i f ha.1 hy5 (by rw[hB];exact L2) Yy PT hf (by omega) (fun q h1 h2=>by rw[Gx,oB,if_neg (by omega)]);rw[Gx]at this;exact this
  ·have:=hP (x:=y) (decide (bN y<bN x)) (k+1) dd i f ha.1 Yy (by omega) (fun hw=>by have:=aU hw;omega) PT KH (by omega) (fun q h1 h2=>by rw[Gx,oB,if_neg (by omega)]);rw[Gx]at this;rw[cQ,if_neg (by omega)];rcases this with⟨y',h1,h2⟩ | ⟨a,h1⟩
   ·exact .inl ⟨y',ts.length-j1,aW _,by rw[h1];rfl,h2⟩
   ·exact .inr ⟨a,by rw[h1];rfl⟩
 refine aet.elim (fun⟨y',g,hg,h1,h2⟩=>?_) .inr;obtain⟨g,rfl⟩:∃m,g=m+1:=⟨g-1,by omega⟩
 have tU:jf ts (k:Int) j1=x.op:=by rw[oB,if_pos (by omega)]
 have hz:=hP (x:=z) (decide (bN z<=bN x)) (k+1) dd (j1+1) f ha.2 aks (by omega) (fun hw=>by have:=aU hw;omega) PT KH (by omega) (fun q h1 h2=>by rw[Q9];exact h0 q (by omega) h2);rw[Q9]at hz;rw[h1,ir,tU,if_neg (by omega)];rcases hz with⟨z',h3,h4⟩ | ⟨a,h3⟩
 ·refine .inl ⟨.mk 5 0 [] x.op [y',z'] y'.a,g,by omega,by rw[h3];rfl,?_⟩;rw[hex];exact .two _ _ _ _ _ _ _ _ _ _ h2 h4
 ·exact .inr ⟨a,by rw[h3];rfl⟩
theorem SU(hP:PP ts d)(hQ:QQ ts d):PP ts (d+1):=by
 have plain:∀{x:Ex} (k dd i f:Nat),cw (d+1) x=true->At ts i (mW (d+1) x false)->k<=6->(k:Int)<=bN x->dd<=20->fx k dd<=f->i+(mW (d+1) x false).length<ts.length->(∀q:Int,(k:Int)<=q->q<=5->jf ts q (i+(mW (d+1) x false).length)=0)->UF x (i+(mW (d+1) x false).length) (cQ ts f k dd i):=by
  intro x k dd i f ri cO U3 L2 PT hf bQ h0;have akt:=ri;rw[cw,aP]at ri;obtain⟨hh,ha⟩:=ri;by_cases pv:x.k=5
  ·obtain⟨_,y,z,hy,P0,Gz⟩:=oo hh (by omega) (by omega) (by omega) (by omega);have hlx:bN x=eL x.op:=by rw[bN,if_pos pv]
   obtain⟨r0,r5⟩:=yA P0 Gz;obtain⟨k0,gD⟩:∃k0:Nat,(k0:Int)=bN x:=⟨(bN x).toNat,by omega⟩
   refine UF.down (k0:=k0) ?_ (by unfold fx at hf;omega) (by omega) (by omega) fun q h1 h2=>h0 q h1 (by omega);obtain⟨f',hf'⟩:∃m,f-(k0-k)=m+1:=⟨f-(k0-k)-1,by unfold fx at hf;omega⟩
   rw[hf'];rcases JU hP hQ k0 dd i f' akt pv gD cO PT (by unfold fx at hf⊢;omega) bQ (fun q h1 h2=>h0 q (by omega) h2)with⟨x',g,hg,h1,h2⟩ | h
   ·exact .inl ⟨x',by rw[h1];exact UC (h0 _ (by omega) (by omega)) _,h2⟩
   ·exact .inr h
  ·have hlx:bN x=6:=by rw[bN,if_neg pv]
   refine UF.down (k0:=6) ?_ (by unfold fx at hf;omega) (by omega) (by omega) fun q h1 h2=>h0 q h1 (by omega);obtain⟨f',hf'⟩:∃m,f-(6-k)=m+1:=⟨f-(6-k)-1,by unfold fx at hf;omega⟩
   have KH:(20-dd)*8<=f':=by unfold fx at hf;omega
   rw[hf',cQ,if_pos rfl];unfold nL;by_cases k1:x.k=1
   ·have e2:mW (d+1) x false=[(3,[],x.n)]:=by rw[mW,if_pos k1];rfl
    rw[e2]at cO⊢;obtain⟨t1,t2,t3⟩:=cO.head;dsimp only at t1 t2 t3;rw[OB t2 (by decide),OB t2 (by decide),OB t2 (by decide),if_neg (by decide),if_neg (by decide),if_pos t1,t3];refine .inl ⟨_,rfl,?_⟩;rw[gn,if_pos k1]at hh;obtain⟨_,b2,b3,b4⟩:=uh hh;have hs:x.dj=[]:=bp (by omega);have:=Ai x;rw[k1,b2,b3,hs]at this;rw[this];exact .leaf ..
   by_cases k2:x.k=2
   ·have e2:mW (d+1) x false=[(1,x.s,0)]:=by rw[mW,if_neg k1,if_pos k2];rfl
    rw[e2]at cO⊢;obtain⟨t1,t2,t3⟩:=cO.head;dsimp only at t1 t2 t3;have D0:∀s,sg ts i s=false:=fun s=>by unfold sg;rw[t1];rfl
    rw[D0,D0,D0,if_neg (by decide),if_neg (by decide),if_neg (by rw[t1];decide),if_pos t1,t2];refine .inl ⟨_,rfl,?_⟩;rw[gn,if_neg k1,if_pos (.inl k2),aP]at hh;obtain⟨b1,b2,b3,b4⟩:=uh hh.2;have hs:x.dj=[]:=bp (by omega);have:=Ai x;rw[k2,b1,b3,hs]at this;rw[this];exact .leaf ..
   by_cases MG:x.k=3
   ·have e2:mW (d+1) x false=[(2,[105,110],0),(4,[40],0),(1,x.s,0),(4,[41],0)]:=by rw[mW,if_neg k1,if_neg k2,if_pos MG];rfl
    rw[e2]at cO⊢;obtain⟨t1,t2,t3⟩:=cO.head;obtain⟨u1,u2,u3⟩:=cO.tail.head;obtain⟨v1,v2,v3⟩:=cO.tail.tail.head;obtain⟨p1,p2,p3⟩:=cO.tail.tail.tail.head;dsimp only at t1 t2 t3 u1 u2 u3 v1 v2 v3 p1 p2 p3;have D0:∀s,sg ts i s=false:=fun s=>by unfold sg;rw[t1];rfl
    rw[D0,D0,D0,if_neg (by decide),if_neg (by decide),if_neg (by rw[t1];decide),if_neg (by rw[t1];decide),if_pos ⟨t1,t2⟩];unfold zC;rw[if_pos (Ht ⟨u1,u2⟩),if_pos v1,if_pos (Ht ⟨p1,p2⟩)];refine .inl ⟨_,rfl,?_⟩;rw[gn,if_neg k1,if_pos (.inr MG),aP]at hh;obtain⟨b1,b2,b3,b4⟩:=uh hh.2;have hs:x.dj=[]:=bp (by omega);have:=Ai x;rw[MG,b1,b3,hs]at this;have v2:(tk ts (i+2)).t=x.s:=v2;rw[v2,this];exact .leaf ..
   have k4:x.k=4:=bC fun k4=>pv (oo hh k1 k2 MG k4).1;obtain⟨y,hy,ho⟩:=sf hh k4;have e2:mW (d+1) x false=(4,dD x.op.toNat,0)::mW d y (decide (bN y<6)):=by
    rw[mW,if_neg k1,if_neg k2,if_neg MG,if_pos k4,hy];simp[opk,clk]
   rw[e2]at cO bQ⊢;rw[hy]at ha;simp only[iT,cR]at ha;obtain⟨t1,t2,t3⟩:=cO.head;dsimp only at t1 t2 t3;have hor:(sg ts i [45]||sg ts i [33])=true:=by
    rcases ho with ho | ho
    ·have:sg ts i [45]=true:=Ht ⟨t1,by rw[t2,ho];rfl⟩;rw[this,Ip]
    ·have:sg ts i [33]=true:=Ht ⟨t1,by rw[t2,ho];rfl⟩;rw[this,mA]
   rw[if_pos hor];by_cases yF:dd=20
   ·exact .inr ⟨(tk ts i).a,by rw[iC,if_pos yF];rfl⟩
   rw[iC,if_neg yF];rw[aR]at bQ⊢;have hj:i+((mW d y (decide (bN y<6))).length+1)=i+1+(mW d y (decide (bN y<6))).length:=by omega
   rw[hj]at bQ⊢;have hy6:bN y<=6:=by
    unfold bN eL;split
    ·split
     ·omega
     split
     ·omega
     split
     ·omega
     split
     ·omega
     split
     ·omega
     split
     ·omega
     ·omega
    ·omega
   rcases hP (x:=y) (decide (bN y<6)) 6 (dd+1) (i+1) f' ha cO.tail (aW _) (fun hw=>by have:=aU hw;omega) (by omega) (by unfold fx;omega) bQ (fun q h1 h2=>by omega)with⟨y',h1,h2⟩ | ⟨a,h1⟩
   ·refine .inl ⟨_,by rw[h1];rfl,?_⟩;rw[gn,if_neg k1,if_neg (by omega),if_pos k4]at hh;obtain⟨b1,b2,b3,b4⟩:=uh hh;have oB:(if(tk ts i).t=[33]then(15:Int)else 14)=x.op:=by
     rcases ho with ho | ho
     ·rw[t2,ho];rfl
     ·rw[t2,ho];rfl
    have:=Ai x;rw[k4,b1,b2,hy]at this;rw[oB,this];exact .one _ _ _ _ _ _ _ _ h2
   ·exact .inr ⟨a,by rw[h1];rfl⟩
 intro x wr k dd i f ri cO U3 L2 PT hf bQ h0;cases wr with
 | false=>exact plain k dd i f ri cO U3 (L2 rfl) PT hf bQ h0
 | true=>
  have e2:mW (d+1) x true=(4,[40],0)::(mW (d+1) x false++[(4,[41],0)]):=by
   unfold mW;simp[opk,clk]
  refine UF.down (k0:=6) ?_ (by unfold fx at hf;omega) (by omega) (by omega) fun q h1 h2=>h0 q h1 (by omega);rw[e2]at cO bQ⊢;obtain⟨f',hf'⟩:∃m,f-(6-k)=m+1:=⟨f-(6-k)-1,by unfold fx at hf;omega⟩
  have KH:(20-dd)*8<=f':=by unfold fx at hf;omega
  obtain⟨t1,t2,t3⟩:=cO.head;have MF:=cO.tail.left;obtain⟨p1,p2,p3⟩:=cO.tail.right.head;dsimp only at t1 t2 t3 p1 p2 p3;rw[hf',cQ,if_pos rfl];unfold nL;rw[OB t2 (by decide),OB t2 (by decide),Ht ⟨t1,t2⟩,if_neg (by decide),if_pos rfl];by_cases yF:dd=20
  ·exact .inr ⟨(tk ts i).a,by rw[iC,if_pos yF]⟩
  rw[iC,if_neg yF];rw[aR,aN,bg]at bQ⊢;have hj:i+((mW (d+1) x false).length+1+1)=i+1+(mW (d+1) x false).length+1:=by omega
  rw[hj]at bQ⊢;have aku:0<=bN x:=by
   unfold bN eL;split
   ·split
    ·omega
    split
    ·omega
    split
    ·omega
    split
    ·omega
    split
    ·omega
    split
    ·omega
    ·omega
   ·omega
  rcases plain 0 (dd+1) (i+1) f' ri MF (by omega) (by omega) (by omega) (by unfold fx;omega) (by omega) (fun q h1 h2=>abO p2 (by decide) q)with⟨x',h1,h2⟩ | ⟨a,h1⟩
  ·refine .inl ⟨x',?_,h2⟩;rw[h1];simp only[qJ];rw[if_pos (Ht ⟨p1,p2⟩)]
  ·exact .inr ⟨a,by rw[h1];rfl⟩
theorem FC(ts:List Tk):∀d,PP ts d/\QQ ts d
 | 0=>⟨(by intro x wr k dd i f h;cases h),(by intro x k dd i f h;cases h)⟩
 | d+1=>⟨SU (FC ts d).1 (FC ts d).2,JU (FC ts d).1 (FC ts d).2⟩
end
theorem FD{d:Nat}{x:Ex}(hs:cw d x=true)(hn:jQ d x)(hr:(fz (nY d x false [])).2.1=0):(nY d x false []).length<=16384/\Sim x (fz (nY d x false [])).1:=by
 have ey:(nY d x false []).length<=16384:=by
  refine bC fun hc=>?_;unfold fz at hr;have:cA (nY d x false [])=([],2, -1):=by rw[cA,if_pos (by omega)]
  rw[this,if_pos (by decide)]at hr;exact absurd hr (show ¬(2:Int)=0 by decide)
 refine⟨ey,?_⟩;have U7:=BE d false [] hs ey;rw[ci]at U7;rw[U7]at hr ey⊢;generalize hL:kx d x false=L at*
 have QF:jC L (0+L.length)=.ok [⟨5,[],0,((L.length:Nat):Int)⟩]:=by
  have hd:L.drop L.length=[]:=dy (aW _);have h5:jq false []=0:=rfl;rw[bD,jx (aW _),hd,h5,if_pos (by omega)];rfl
 obtain⟨us,h1,h2⟩:=tw (l:=L) d (x:=x) false 0 (r:=[]) hs hn (bd _) (by rw[fK,bL,hL]) (fun c hc=>by cases hc) (by rw[hL];exact QF);generalize Rs:us++[(⟨5,[],0,((L.length:Nat):Int)⟩:Tk)]=ts at*
 have t1:cA L=(ts,0,0):=by
  rw[cA,if_neg (by omega),h1]
 have ZB:us.length=(mW d x false).length:=by rw[<-h2,bZ]
 have Kr:ts.length=us.length+1:=by rw[<-Rs,aN,bg]
 have cO:At ts 0 (mW d x false):=fun j q hj=>by
  rw[<-h2,cX,eP]at hj;obtain⟨t,g1,rfl⟩:=hj;have:tk ts (0+j)=t:=by
   unfold tk;rw[<-Rs,bD,bJ (bc.1 g1).1,g1];rfl
  rw[this]
 have hke:(tk ts us.length).k=5:=by
  unfold tk;rw[<-Rs,cf (aW _),mB];rfl
 have aku:0<=bN x:=by
  unfold bN eL;split
  ·split
   ·omega
   split
   ·omega
   split
   ·omega
   split
   ·omega
   split
   ·omega
   split
   ·omega
   ·omega
  ·omega
 have hP:=(FC ts d).1 (x:=x) false 0 0 0 (fx 0 0) hs cO (by decide) (fun _=>by omega) (by decide) (aW _) (by omega) (fun q _ _=>Wo (by rw[bD,<-ZB];exact hke) q);have W4:pc ts 0=cQ ts (fx 0 0) 0 0 0:=rfl;rw[<-W4]at hP;have hrd:fz L=if(bU ts 0).2.2.1≠0 then(uN,(bU ts 0).2.2.1,(bU ts 0).2.2.2)else if(tk ts (bU ts 0).2.1.toNat).k≠5 then(uN,4,(tk ts (bU ts 0).2.1.toNat).a)else((bU ts 0).1,0,(bU ts 0).2.2.2):=by
  unfold fz;rw[t1];rfl
 rw[hrd]at hr⊢;have Tu:bU ts 0=if 0<ts.length/\jP ts+1=ts.length then(match pc ts 0 with
  | .error (c,p)=>(uN,0,c,p)
  | .ok (x,j)=>(x,(j:Int),0,0))else(uN,0,1, -1):=by
  unfold bU;by_cases hc:0<ts.length/\jP ts+1=ts.length
  ·rw[if_pos hc,if_pos ⟨iM _,by omega,hc.2⟩];rfl
  ·rw[if_neg hc,if_neg (fun hh=>hc ⟨by omega,hh.2.2⟩)]
 rw[Tu]at hr⊢;have hc:0<ts.length/\jP ts+1=ts.length:=bC fun hc=>by
  rw[if_neg hc,if_pos (by decide)]at hr;exact absurd hr (show ¬(1:Int)=0 by decide)
 rw[if_pos hc]at hr⊢;rcases hP with⟨x',g1,g2⟩ | ⟨a,g1⟩
 ·rw[g1]at hr⊢;dsimp only at hr⊢;rw[if_neg (by decide),aX,bD,<-ZB,hke,if_neg (by decide)];exact g2
 ·rw[g1]at hr;dsimp only at hr;rw[if_pos (by decide)]at hr;exact absurd hr (show ¬(21:Int)=0 by decide)
structure Em (ts my:List Tk) (n o:Nat):Prop where
 e:∀i,n<=i->(tk ts i).k=5
 s:∀i,i<n->(tk my (o+i)).k=(tk ts i).k/\(tk my (o+i)).t=(tk ts i).t/\(tk my (o+i)).n=(tk ts i).n
 c:(tk my (o+n)).k=4/\((tk my (o+n)).t=[59]∨(tk my (o+n)).t=[93])
def Rm(n o:Nat)(r r':Pr):Prop:=∀x j,r=.ok (x,j)->∃x',r'=.ok (x',o+j)/\Sim x x'/\j<=n
theorem FE(op:Nat):dD op≠[59]/\dD op≠[93]:=by
 rcases kC op 16 with h | h
 ·have:∀q,q<16->dD q≠[59]/\dD q≠[93]:=by decide
  exact this op h
 ·unfold dD;rw[cK (by exact h)];decide
section
variable {ts my:List Tk} {n o:Nat}
theorem Em.lt(h:Em ts my n o){i:Nat}(hk:(tk ts i).k≠5):i<n:=bC fun hn=>hk (h.e i (by omega))
theorem Em.Ko(h:Em ts my n o){i:Nat}(hi:i<n)(s:aH):sg my (o+i) s=sg ts i s:=by
 unfold sg;obtain⟨h1,h2,_⟩:=h.s i hi;rw[h1,h2]
theorem Em.sgn(h:Em ts my n o){i:Nat}(hi:i<=n){s:aH}(h1:s≠[59])(h2:s≠[93]):sg my (o+i) s=sg ts i s:=by
 rcases kC i n with hl | hl
 ·exact h.Ko hl s
 ·have:i=n:=by omega
  subst this;unfold sg;rw[h.e i (aW _)];have:decide ((tk my (o+i)).t=s)=false:=bn fun e=>by
   rcases h.c.2 with c | c
   ·exact h1 (by rw[<-e,c])
   ·exact h2 (by rw[<-e,c])
  rw[this,gu];rfl
theorem Em.opf(h:Em ts my n o){i:Nat}(hi:i<=n)(k:Int):∀(f op:Nat),iQ my k (o+i) f op=iQ ts k i f op
 | 0,_=>rfl
 | f+1,op=>by rw[iQ,iQ,h.sgn hi (FE op).1 (FE op).2,h.opf hi k f]
theorem Em.op(h:Em ts my n o){i:Nat}(hi:i<=n)(k:Int):jf my k (o+i)=jf ts k i:=h.opf hi k 13 1
theorem Rm.map{r r':Pr}(h:Rm n o r r'){g g':Ex->Ex}(hg:∀x x',Sim x x'->Sim (g x) (g' x')):Rm n o (EY g r) (EY g' r'):=by
 intro x j hx;obtain⟨y,h1,rfl⟩:=yi hx;obtain⟨x',h2,h3,h4⟩:=h y j h1;exact⟨g' x',by rw[h2];rfl,hg _ _ h3,h4⟩
theorem Rm.and{r r':Pr}{f f':Ex->Nat->Pr}(h:Rm n o r r')(hf:∀x x' j,r=.ok (x,j)->j<=n->Sim x x'->Rm n o (f x j) (f' x' (o+j))):Rm n o (zA r f) (zA r' f'):=by
 intro x j hx;obtain⟨y,m,h1,h5⟩:=vp hx;obtain⟨x',h2,h3,h4⟩:=h y m h1;rw[h2];exact hf y x' m h1 h4 h3 x j h5
theorem Rm.nest{r r':Pr}{d:Nat}{a a':Int}(h:Rm n o r r'):Rm n o (iC d a r) (iC d a' r'):=by
 intro x j hx;obtain⟨h1,h2⟩:=pU hx;have:d≠20:=fun e=>by rw[iC,if_pos e]at hx;cases hx
 rw[iC,if_neg this];exact h x j h1
theorem Rm.par(hw:Em ts my n o){r r':Pr}(h:Rm n o r r'):Rm n o (qJ ts r) (qJ my r'):=by
 intro x j hx;obtain⟨j',h1,h2,rfl⟩:=yj hx;obtain⟨x',h3,h4,h5⟩:=h x j' h1;have hl:=hw.lt (tK h2);exact⟨x',by rw[h3];simp only[qJ];rw[if_pos (by rw[hw.Ko hl];exact h2)];rfl,h4,hl⟩
theorem Rm.err{e:Int×Int}{r':Pr}:Rm n o (.error e) r':=fun x j hx=>by cases hx
theorem Rm.in_(hw:Em ts my n o)(i:Nat):Rm n o (zC ts i) (zC my (o+i)):=by
 intro x j hx;have TH:=hx;obtain⟨rfl,rfl⟩:=Hc TH;unfold zC at hx;split at hx
 ·rename_i h1;split at hx
  ·rename_i h2;split at hx
   ·rename_i h3;have hl:=hw.lt (tK h3);have e1:(tk my (o+i+2)).k=(tk ts (i+2)).k/\(tk my (o+i+2)).t=(tk ts (i+2)).t/\(tk my (o+i+2)).n=(tk ts (i+2)).n:=hw.s (i+2) (by omega);refine⟨.mk 3 0 (tk my (o+i+2)).t 0 [] (tk my (o+i)).a,?_,?_,hl⟩
    ·unfold zC;rw[if_pos (show sg my (o+i+1) [40]=true from(hw.Ko (i:=i+1) (by omega) _).trans h1),if_pos (by rw[e1.1];exact h2),if_pos (show sg my (o+i+3) [41]=true from(hw.Ko (i:=i+3) hl _).trans h3)];rfl
    ·rw[e1.2.1];exact .leaf ..
   ·cases hx
  ·cases hx
 ·cases hx
theorem Rm.one(hw:Em ts my n o){E0 One E0' QE:Nat->Pr}{d i:Nat}(hE:∀i,i<=n->Rm n o (E0 i) (E0' (o+i)))(hO:∀i,i<=n->Rm n o (One i) (QE (o+i)))(hi:i<=n):Rm n o (nL ts E0 One d i) (nL my E0' QE d (o+i)):=by
 by_cases MF:i=n
 ·subst MF;have h5:=hw.e i (aW _);have hs:∀s,sg ts i s=false:=fun s=>by
   unfold sg;rw[h5];rfl
  have:nL ts E0 One d i=.error (fh ts i):=by
   unfold nL;rw[hs,hs,hs,if_neg (by decide),if_neg (by decide),if_neg (by rw[h5];decide),if_neg (by rw[h5];decide),if_neg (by rw[h5];rintro⟨h,_⟩;exact absurd h (by decide))]
  rw[this];exact Rm.err
 ·have hl:i<n:=by omega
  obtain⟨k1,k2,k3⟩:=hw.s i hl;unfold nL;rw[hw.Ko hl,hw.Ko hl,hw.Ko hl,k1,k2,k3];split
  ·exact Rm.map (Rm.nest (hO (i+1) hl)) fun x x' hx=>.one _ _ _ _ _ _ _ _ hx
  ·split
   ·exact Rm.nest (Rm.par hw (hE (i+1) hl))
   ·split
    ·intro x j hx;simp only[dG,dk]at hx;obtain⟨rfl,rfl⟩:=hx;exact⟨_,rfl,.leaf ..,hl⟩
    ·split
     ·intro x j hx;simp only[dG,dk]at hx;obtain⟨rfl,rfl⟩:=hx;exact⟨_,rfl,.leaf ..,hl⟩
     ·split
      ·exact Rm.in_ hw i
      ·exact Rm.err
theorem Rm.loop(hw:Em ts my n o){E E':Nat->Pr}{k:Int}(hm:∀i x j,E i=.ok (x,j)->i<j)(hE:∀i,i<=n->Rm n o (E i) (E' (o+i))):∀(g g':Nat) (x x':Ex) (j:Nat),j<=n->n-j<g->n-j<g'->Sim x x'->Rm n o (ir ts E k g x j) (ir my E' k g' x' (o+j))
 | 0,_,_,_,j,_,h,_,_=>by omega
 | _,0,_,_,j,_,_,h,_=>by omega
 | g+1,g'+1,x,x',j,hj,h1,h2,hs=>by
  rw[ir,ir,hw.op hj];split
  ·intro y m hy;simp only[dG,dk]at hy;obtain⟨rfl,rfl⟩:=hy;exact⟨_,rfl,hs,hj⟩
  ·rename_i h0;have hl:=hw.lt (nX _ _ h0);refine Rm.and (hE (j+1) hl) fun y y' m hy hmn BZ=>?_;have:=hm _ _ _ hy;exact Rm.loop hw hm hE g g' _ _ m hmn (by omega) (by omega) (.two _ _ _ _ _ _ _ _ _ _ hs BZ)
theorem Rm.expr(hw:Em ts my n o)(hl:ts.length=n+1)(hl':o+n<my.length):∀(f k d i:Nat),i<=n->Rm n o (cQ ts f k d i) (cQ my f k d (o+i))
 | 0,k,d,i,_=>Rm.err
 | f+1,k,d,i,hi=>by
  rw[cQ,cQ];split
  ·exact Rm.one hw (fun i hi=>Rm.expr hw hl hl' f 0 (d+1) i hi) (fun i hi=>Rm.expr hw hl hl' f 6 (d+1) i hi) hi
  ·have hR:∀i,i<=n->Rm n o (cQ ts f (k+1) d i) (cQ my f (k+1) d (o+i)):=fun i hi=>Rm.expr hw hl hl' f (k+1) d i hi;refine Rm.and (hR i hi) fun x x' j hx hj hs=>?_;exact Rm.loop hw (fun i x j h=>jO _ _ _ _ h) hR _ _ _ _ _ hj (by omega) (by omega) hs
end
theorem Sim.trans{x y:Ex}(h:Sim x y):∀{z:Ex},Sim y z->Sim x z:=by
 induction h with
 | leaf k n s op a b=>intro z hz;cases hz;exact .leaf ..
 | one k n s op a b x y h ih=>intro z hz;cases hz with | one _ _ _ _ _ c _ z h2=>exact .one _ _ _ _ _ _ _ _ (ih h2)
 | two k n s op a b x y x' y' h1 h2 i1 i2=>intro z hz;cases hz with | two _ _ _ _ _ c _ _ z1 z2 k1 k2=>exact .two _ _ _ _ _ _ _ _ _ _ (i1 k1) (i2 k2)
def Pk(E:aH->Prop)(p:aH)(ks:List K3):Prop:=∀(l:aH) (i:Nat) (r:aH) (ts:List Tk),i<=l.length->l.drop i=p++r->E r->jC l (i+p.length)=.ok ts->∃us,jC l i=.ok (us++ts)/\us.map k3=ks
abbrev Tr:aH->Prop:=fun _=>True
def Mn(q:aH):Prop:=∃c t,q=c::t/\OJ c=true
section
variable {E E':aH->Prop} {p q:aH} {a b:List K3}
theorem Pk.nil(E:aH->Prop):Pk E [] []:=fun _ _ _ ts _ _ _ h=>⟨[],h,rfl⟩
theorem Pk.glue(h:Pk E p a)(k:Pk E' q b)(he:∀r,E' r->E (q++r)):Pk E' (p++q) (a++b):=by
 intro l i r ts hi hd hr ht;rw[be]at hd;obtain⟨us,h1,h2⟩:=k _ _ _ _ (xw hi hd) (jr hd) hr (by rw[fe,<-aN];exact ht);obtain⟨vs,h3,h4⟩:=h _ _ _ _ hi hd (he r hr) h1;exact⟨vs++us,by rw[be];exact h3,by rw[dF,h2,h4]⟩
theorem Pk.t(h:Pk Tr p a)(k:Pk E q b):Pk E (p++q) (a++b):=h.glue k fun _ _=>trivial
theorem Mn.AF(h:Mn q)(r:aH):rl (q++r):=by
 obtain⟨c,t,rfl,hc⟩:=h;intro d hd;rw[cr,gx,aV]at hd;subst hd;exact hc
theorem Pk.e(h:Pk rl p a)(k:Pk E q b)(hq:Mn q):Pk E (p++q) (a++b):=h.glue k fun r _=>hq.AF r
theorem OL{c:UInt8}(hc:mZ c=true):Pk Tr [c] []:=by
 intro l i r ts hi hd _ ht;refine⟨[],?_,rfl⟩;have Zu:l.drop i=c::r:=hd;have i1:i+1<=l.length:=xw hi hd;have d1:l.drop (i+1)=r:=jr hd;have e:jq false (c::r)=1+jq false r:=by rw[jq,if_pos hc]
 rw[mg hi,Zu,e,<-fe];rw[bg,mg i1,d1]at ht;exact ht
theorem Pk.sp(h:Pk E q b):Pk E (32::q) b:=(OL (c:=32) (by decide)).t h
theorem Pk.nl(h:Pk Tr p a):Pk Tr (p++[10]) a:=by
 have:=h.t (OL (c:=10) (by decide));rwa[bL]at this
theorem wJ{k:Int}{t:aH}{n:Int}(hp:p≠[])(h:∀r,E r->jq false (p++r)=0/\kY (p++r)=.ok (k,t,n,p.length)):Pk E p [(k,t,n)]:=fun l i r ts hi hd hr ht=>
 ⟨[⟨k,t,n,(i:Nat)⟩],sB hd hp (h r hr).1 (h r hr).2 ht,rfl⟩
theorem ahJ{c:UInt8}(h0:eG c=false)(h1:cN c=false)(h2:[60,62,61,33].contains c=false)(h3:[38,124].contains c=false)(h4:(c==45)=false)(h5:nc.contains c=true)(r:aH):kY (c::r)=.ok (4,[c],0,1):=by
 have hs:pS (c::r)=false:=by
  cases r with
  | nil=>rfl
  | cons d r=>
   show((d==61&&[60,62,61,33].contains c)||(d==c&&[38,124].contains c)||(c==45&&d==62))=false;rw[h2,h3,h4];simp
 exact lD h0 h1 h5 hs
def gX(c:UInt8):K3:=(4,[c],0)
def Ws:K3:=(4,[45,62],0)
theorem Pk.one(c:UInt8)(h0:eG c=false)(h1:cN c=false)(h2:[60,62,61,33].contains c=false)(h3:[38,124].contains c=false)(h4:(c==45)=false)(h5:nc.contains c=true)(h6:mZ c=false)(h7:(c==47)=false)(h:Pk E q b):Pk E (c::q) (gX c::b):=
 (wJ (p:=[c]) (E:=Tr) (by simp) fun r _=>⟨Gu h6 h7,ahJ h0 h1 h2 h3 h4 h5 r⟩).t h
theorem Pk.lb(h:Pk E q b):Pk E (123::q) (gX 123::b):=h.one 123 (by decide) (by decide) (by decide) (by decide) (by decide) (by decide) (by decide) (by decide)
theorem Pk.rb(h:Pk E q b):Pk E (125::q) (gX 125::b):=h.one 125 (by decide) (by decide) (by decide) (by decide) (by decide) (by decide) (by decide) (by decide)
theorem Pk.lk(h:Pk E q b):Pk E (91::q) (gX 91::b):=h.one 91 (by decide) (by decide) (by decide) (by decide) (by decide) (by decide) (by decide) (by decide)
theorem Pk.rk(h:Pk E q b):Pk E (93::q) (gX 93::b):=h.one 93 (by decide) (by decide) (by decide) (by decide) (by decide) (by decide) (by decide) (by decide)
theorem Pk.sc(h:Pk E q b):Pk E (59::q) (gX 59::b):=h.one 59 (by decide) (by decide) (by decide) (by decide) (by decide) (by decide) (by decide) (by decide)
theorem Pk.cm(h:Pk E q b):Pk E (44::q) (gX 44::b):=h.one 44 (by decide) (by decide) (by decide) (by decide) (by decide) (by decide) (by decide) (by decide)
theorem Pk.eq(h:Pk E q b)(hq:Mn q):Pk E (61::q) (gX 61::b):=
 (wJ (p:=[61]) (E:=rl) (by simp) fun r hr=>⟨Gu (by decide) (by decide),lD (by decide) (by decide) (by decide) (jR (by decide) hr.soft)⟩).e h hq
theorem Pk.to(h:Pk E q b):Pk E (45::62::q) (Ws::b):=
 (wJ (p:=[45,62]) (E:=Tr) (by simp) fun r _=>⟨Gu (by decide) (by decide),rfl⟩).t h
theorem uH:Mn (59::q):=⟨59,q,rfl,rfl⟩
theorem ic:Mn (32::q):=⟨32,q,rfl,rfl⟩
theorem Wt:Mn (93::q):=⟨93,q,rfl,rfl⟩
theorem Wu:Mn (44::q):=⟨44,q,rfl,rfl⟩
theorem JV{s:aH}(h1:s≠[])(h2:s.length<=24)(h3:∃c t,s=c::t/\eG c=true)(h4:∀c,c∈s->dV c=true):Pk rl s [(if iA.contains s then 2 else 1,s,0)]:=by
 obtain⟨c,t,rfl,hc⟩:=h3;refine wJ h1 fun r hr=>⟨?_,?_⟩
 ·have:=ky (c:=c) (by unfold ld;rw[hc];simp);exact Gu this.1 this.2.1
 ·have e:kY (c::t++r)=if eG c then ly (c::t++r)else if cN c then qI (c::t++r)else mQ (c::t++r):=rfl
  rw[e,hc,if_pos rfl];unfold ly;rw[hr.word _ h4,if_neg (by omega)]
theorem lG{s:aH}(hn:cY s=true):Pk rl s [(1,s,0)]:=by
 unfold cY at hn;simp only[aP]at hn;obtain⟨⟨⟨h1,h2⟩,h3⟩,h4⟩:=hn;obtain⟨h1,h5⟩:=aQ h1;have h3:=aQ h3;have h4:iA.contains s=false:=by simpa using h4
 have:=JV h1 h5 (by
  cases s with
  | nil=>exact absurd rfl h1
  | cons c t=>exact⟨c,t,rfl,h2⟩) (fun c hc=>by rw[<-h3]at hc;exact wA c hc)
 rw[h4]at this;exact this
theorem ow{s:aH}(h:(decide (s≠[]/\s.length<=24)&&(match s with | c::_=>eG c | []=>false)&&s.all dV&&iA.contains s)=true):Pk rl s [(2,s,0)]:=by
 simp only[aP]at h;obtain⟨⟨⟨h1,h2⟩,h3⟩,h4⟩:=h;obtain⟨h1,h5⟩:=aQ h1;have:=JV h1 h5 (by
  cases s with
  | nil=>exact absurd rfl h1
  | cons c t=>exact⟨c,t,rfl,h2⟩) (fun c hc=>(dT.1 h3) c hc)
 rw[h4]at this;exact this
theorem Hy{n:Int}(h0:0<=n)(h1:n<=9223372036854775807):Pk rl (Lib.itoa n) [(3,[],n)]:=by
 have gC:Lib.itoa n≠[]:=by rw[ou h0];exact wI _
 refine wJ gC fun r hr=>⟨?_,JR h0 h1 hr⟩
 rw[ou h0];cases hm:Lib.decDigits n.toNat with
 | nil=>exact absurd hm (wI _)
 | cons c m=>
  have hd:=yz n.toNat c (by rw[hm];simp);have:=ky (c:=c) (by unfold ld;rw[hd];simp);exact Gu this.1 this.2.1
def xN(v:Int):List K3:=if v<0 then[gX 45,(3,[], -v)]else[(3,[],v)]
theorem Wv{v:Int}(hv:wa v)(hm:v≠ -9223372036854775808):Pk rl (Lib.itoa v) (xN v):=by
 obtain⟨h1,h2⟩:=hv;unfold xN;by_cases h:v<0
 ·rw[if_pos h];have e:Lib.itoa v=45::Lib.itoa (-v):=by
   unfold Lib.itoa;rw[if_pos h,if_neg (by omega),show v.natAbs=(-v).toNat by omega]
  rw[e];have hp:=Hy (n:= -v) (by omega) (by omega);refine(wJ (p:=[45]) (E:=fun r=>soft r) (k:=4) (t:=[45]) (n:=0) (by simp) fun r hr=>⟨Gu (by decide) (by decide),lD (by decide) (by decide) (by decide) (jR (by decide) hr)⟩).glue hp fun r hr=>?_;show soft (Lib.itoa (-v)++r);rw[ou (n:= -v) (by omega)];cases hm:Lib.decDigits (-v).toNat with
  | nil=>exact absurd hm (wI _)
  | cons c m=>
   have hd:=yz (-v).toNat c (by rw[hm];simp);exact ov ⟨c,m++r,rfl,by unfold ld;rw[hd];simp⟩
 ·rw[if_neg h];exact Hy (by omega) (by omega)
end
def BF(x:Ex):List K3:=mW (zR x) x false
theorem UG{x:Ex}(h:pf x=true)(hn:Lg x):cw (zR x) x=true/\ta x=kx (zR x) x false/\(fz (ta x)).2.1=0/\(ta x).length<=16384/\Sim x (fz (ta x)).1:=by
 have h:=aQ h;obtain⟨h1,h2,h3⟩:=Fg h;obtain⟨h4,h5⟩:=FD h1 (hn _) h3;have h6:=BE _ false [] h1 h4;unfold ta;rw[h2];exact⟨h1,h6,h3,h4,h5⟩
theorem UH{x:Ex}(h:pf x=true)(hn:Lg x):Pk rl (ta x) (BF x):=by
 obtain⟨h1,h2,_⟩:=UG h hn;rw[h2];exact fun l i r ts hi hd hr ht=>tw (zR x) false i h1 (hn _) hi hd hr ht
def Gv(a:Ac):List K3:=
 if a.k=2 then(2,iR,0)::(1,a.n,0)::[gX 59]else(2,if a.k=1 then oC else j7,0)::(1,a.n,0)::gX 61::(BF a.x++[gX 59])
def xO:List Ac->List K3
 | []=>[]
 | a::l=>Gv a++xO l
def wh(l:List Ac):List K3:=gX 123::(xO l++[gX 125])
theorem abT{a:Ac}(h:fY a=true)(hn:Bx a):Pk Tr (xr a) (Gv a):=by
 unfold fY at h;simp only[aP]at h;obtain⟨⟨h1,h2⟩,h3⟩:=h;unfold xr Gv;by_cases hk:a.k=2
 ·rw[if_pos hk,if_pos hk];exact(ow (s:=iR) (by decide)).e (Pk.sp ((lG h2).e (Pk.sc (Pk.nil _)) uH)) ic
 ·rw[if_neg hk]at h3⊢;rw[if_neg hk];have tail:=Pk.sp ((lG h2).e (Pk.sp (Pk.eq (Pk.sp ((UH h3 hn).e (Pk.sc (Pk.nil Tr)) uH)) ic)) ic);by_cases h1k:a.k=1
  ·simp only[if_pos h1k];exact(ow (s:=oC) (by decide)).e tail ic
  ·simp only[if_neg h1k];exact(ow (s:=j7) (by decide)).e tail ic
theorem OM:∀{l:List Ac},l.all fY=true->(∀a,a∈l->Bx a)->Pk Tr (vB l) (xO l)
 | [],_,_=>Pk.nil _
 | a::l,h,hn=>by
  rw[jN,aP]at h;exact Pk.sp ((abT h.1 (hn a (by simp))).t (OM h.2 fun b hb=>hn b (by simp[hb])))
theorem OO{l:List Ac}(h:l.all fY=true)(hn:∀a,a∈l->Bx a):Pk Tr (uc l) (wh l):=
 Pk.lb ((OM h hn).t (Pk.sp (Pk.rb (Pk.nil _))))
def Hz:List (aH)->List K3
 | []=>[]
 | s::l=>gX 44::(1,s,0)::Hz l
def hdK(m:Mv):List K3:=if m.k=1 then[(2,xL,0),(1,m.ev,0)]else if m.k=3 then[(2,gJ,0),(3,[],m.wt)]else[(2,fX,0)]
def UI(m:Mv):List K3:=if m.gd then gX 91::(BF m.g++[gX 93])else[]
def HA(m:Mv):List K3:=match m.tg with
 | []=>[]
 | s::l=>Ws::(1,s,0)::Hz l
def JW(m:Mv):List K3:=hdK m++(UI m++((if m.acts=[]then[]else wh m.acts)++(HA m++[gX 59])))
theorem UJ:∀{l:List (aH)},l.all cY=true->Pk Tr (Bw l++[59]) (Hz l++[gX 59])/\Mn (Bw l++[59])
 | [],_=>⟨Pk.sc (Pk.nil _),uH⟩
 | s::l,h=>by
  rw[jN,aP]at h;obtain⟨h1,h2⟩:=UJ h.2;refine⟨?_,Wu⟩;have:=Pk.cm (Pk.sp ((lG h.1).e h1 h2));simpa[Bw,Hz]using this
theorem abV{m:Mv}(h:j8 m=true)(hn:MC m):Pk Tr (zV m) (JW m):=by
 unfold j8 at h;simp only[aP]at h;obtain⟨⟨⟨⟨⟨h1,h2⟩,h3⟩,h4⟩,h5⟩,h6⟩:=h;have h1:=aQ h1;have h6:=aQ h6;unfold zV JW;have t1:Pk Tr ((match m.tg with
  | []=>[]
  | s::l=>32::45::62::32::(s++Bw l))++[59]) (HA m++[gX 59])/\Mn ((match m.tg with
  | []=>[]
  | s::l=>32::45::62::32::(s++Bw l))++[59]):=by
  unfold HA;cases hm:m.tg with
  | nil=>exact⟨Pk.sc (Pk.nil _),uH⟩
  | cons s l=>
   rw[hm,jN,aP]at h5;obtain⟨g1,g2⟩:=UJ h5.2;refine⟨?_,ic⟩;have:=Pk.sp (Pk.to (Pk.sp ((lG h5.1).e g1 g2)));simpa using this
 generalize ((match m.tg with
  | []=>[]
  | s::l=>32::45::62::32::(s++Bw l))++[59]:aH)=R1 at*
 generalize HA m++[gX 59]=K1 at*
 have t2:Pk Tr ((if m.acts=[]then[]else 32::uc m.acts)++R1) ((if m.acts=[]then[]else wh m.acts)++K1)/\Mn ((if m.acts=[]then[]else 32::uc m.acts)++R1):=by
  by_cases ha:m.acts=[]
  ·rw[if_pos ha,if_pos ha];exact t1
  ·rw[if_neg ha,if_neg ha];exact⟨Pk.sp ((OO h4 hn.a).t t1.1),ic⟩
 generalize ((if m.acts=[]then[]else 32::uc m.acts)++R1:aH)=R2 at*
 generalize (if m.acts=[]then[]else wh m.acts)++K1=K2 at*
 have t3:Pk Tr (Lh m++R2) (UI m++K2)/\Mn (Lh m++R2):=by
  unfold Lh UI;cases hg:m.gd with
  | false=>exact t2
  | true=>
   rw[hg]at h3;refine⟨?_,ic⟩;have:=Pk.sp (Pk.lk ((UH h3 hn.g).e (Pk.rk t2.1) Wt));simpa using this
 generalize (Lh m++R2:aH)=R3 at*
 generalize UI m++K2=K3' at*
 unfold QY hdK;by_cases k1:m.k=1
 ·rw[if_pos k1]at h2⊢;rw[if_pos k1,be];exact(ow (s:=xL) (by decide)).e (Pk.sp ((lG h2).e t3.1 t3.2)) ic
 ·rw[if_neg k1,if_neg k1];by_cases k3:m.k=3
  ·rw[if_pos k3,if_pos k3,be];exact(ow (s:=gJ) (by decide)).e (Pk.sp ((Hy (by omega) hn.w.2).e t3.1 t3.2)) ic
  ·rw[if_neg k3,if_neg k3];exact(ow (s:=fX) (by decide)).e t3.1 t3.2
theorem OP{p:aH}{a:List K3}(h:Pk Tr p a):∀d,Pk Tr (si d++p) a
 | 0=>h
 | d+1=>Pk.sp (Pk.sp (OP h d))
theorem abW{d:Nat}{p:aH}{a:List K3}(h:Pk Tr p a):Pk Tr (V3 (d,p)) a:=OP h.nl d
def Lq(L:List Ln)(ks:List K3):Prop:=Pk Tr (xt L) ks
theorem Lq.nil:Lq [] []:=Pk.nil _
theorem Lq.AF{L M:List Ln}{a b:List K3}(h:Lq L a)(k:Lq M b):Lq (L++M) (a++b):=by
 unfold Lq xt;rw[List.flatMap_append];exact h.t k
theorem Lq.one{d:Nat}{p:aH}{a:List K3}(h:Pk Tr p a):Lq [(d,p)] a:=by
 unfold Lq xt;rw[List.flatMap_cons,List.flatMap_nil,bL];exact abW h
theorem Lq.cons{d:Nat}{p:aH}{a:List K3}{L:List Ln}{b:List K3}(h:Pk Tr p a)(k:Lq L b):Lq ((d,p)::L) (a++b):=(Lq.one h).AF k
def HB(b:Nb):List K3:=if b.ini=[]then[]else[(2,dX,0),(1,b.ini,0),gX 59]
def Q1(b:Nb):List K3:=if b.en=[]then[]else(2,gf,0)::wh b.en
def Lw(b:Nb):List K3:=if b.lv=[]then[]else(2,gj,0)::wh b.lv
def uI:List Mv->List K3
 | []=>[]
 | m::l=>JW m++uI l
def wK(b:Nb):List K3:=HB b++(Q1 b++(Lw b++uI b.mv))
mutual
def Ly:Nd->List K3
 | .mk b l=>
  if kZ b.k then(2,kW b.k,0)::(1,b.nm,0)::Ws::(1,b.dft,0)::[gX 59]
  else(2,kW b.k,0)::(1,b.nm,0)::gX 123::(wK b++(jX l++[gX 125]))
def jX:List Nd->List K3
 | []=>[]
 | x::l=>Ly x++jX l
end
structure ZC (b:Nb):Prop where
 nm:cY b.nm=true
 ini:b.ini=[]∨cY b.ini=true
 en:b.en.all fY=true
 lv:b.lv.all fY=true
 mv:b.mv.all j8=true
theorem OQ{b:Nb}{n:Nat}(h:tN b n=true)(hh:kZ b.k=false):(b.k=1∨b.k=2)/\b.dft=[]/\ZC b:=by
 unfold tN at h;rw[hh]at h;simp only[aP,fR,jb,cq,bA]at h;obtain⟨h0,⟨⟨⟨h1,h2⟩,h3⟩,h4⟩,h5⟩:=h;exact⟨h1.1,h1.2,h0,h2,h3,h4,h5⟩
theorem abX{b:Nb}{n:Nat}(h:tN b n=true)(hh:kZ b.k=true):cY b.nm=true/\cY b.dft=true/\b.ini=[]/\b.en=[]/\b.lv=[]/\b.mv=[]/\n=0:=by
 unfold tN at h;rw[hh]at h;simp only[aP,if_true,bA]at h;obtain⟨h0,h1,h2,h3,h4,h5,h6⟩:=h;exact⟨h0,h1,h2,h3,h4,bp h5,h6⟩
theorem UK{d:Nat}{b:Nb}(h:ZC b)(hn:U5 b):Lq (AV d b) (wK b):=by
 unfold AV wK;refine Lq.AF ?_ (Lq.AF ?_ (Lq.AF ?_ ?_))
 ·unfold tP HB;by_cases hi:b.ini=[]
  ·rw[if_pos hi,if_pos hi];exact Lq.nil
  ·rw[if_neg hi,if_neg hi];exact Lq.one ((ow (s:=dX) (by decide)).e (Pk.sp ((lG (h.ini.resolve_left hi)).e (Pk.sc (Pk.nil _)) uH)) ic)
 ·unfold Jo Q1;by_cases hi:b.en=[]
  ·rw[if_pos hi,if_pos hi];exact Lq.nil
  ·rw[if_neg hi,if_neg hi];exact Lq.one ((ow (s:=gf) (by decide)).e (Pk.sp (OO h.en hn.en)) ic)
 ·unfold Li Lw;by_cases hi:b.lv=[]
  ·rw[if_pos hi,if_pos hi];exact Lq.nil
  ·rw[if_neg hi,if_neg hi];exact Lq.one ((ow (s:=gj) (by decide)).e (Pk.sp (OO h.lv hn.lv)) ic)
 ·unfold mvL;have hm:=h.mv;have hk:=hn.mv;generalize b.mv=l at*
  induction l with
  | nil=>exact Lq.nil
  | cons m l ih=>
   rw[jN,aP]at hm;exact Lq.cons (abV hm.1 (hk m (by simp))) (ih hm.2 fun x hx=>hk x (by simp[hx]))
theorem JX(k:Int):Pk rl (kW k) [(2,kW k,0)]:=by
 unfold kW;split
 ·exact ow (by decide)
 split
 ·exact ow (by decide)
 split
 ·exact ow (by decide)
 ·exact ow (by decide)
mutual
theorem abY:∀(d:Nat) (x:Nd),kw d x=true->xu x->Lq (AE d x) (Ly x)
 | d,.mk b l,h,hn=>by
  rw[kw]at h;rw[xu]at hn;rw[AE,Ly];simp only[aP]at h;obtain⟨⟨_,h1⟩,h2⟩:=h;cases hh:kZ b.k with
  | true=>
   obtain⟨a1,a2,_⟩:=abX h1 hh;rw[if_pos rfl,if_pos rfl];exact Lq.one ((JX b.k).e (Pk.sp ((lG a1).e (Pk.sp (Pk.to (Pk.sp ((lG a2).e (Pk.sc (Pk.nil _)) uH)))) ic)) ic)
  | false=>
   obtain⟨_,_,hs⟩:=OQ h1 hh;rw[if_neg (by decide),if_neg (by decide)];exact Lq.cons ((JX b.k).e (Pk.sp ((lG hs.nm).e (Pk.sp (Pk.lb (Pk.nil _))) ic)) ic) ((UK hs hn.1).AF ((HC (d+1) l h2 hn.2).AF (Lq.one (Pk.rb (Pk.nil _)))))
theorem HC:∀(d:Nat) (l:List Nd),iv d l=true->tQ l->Lq (mU d l) (jX l)
 | d,[],_,_=>by
  rw[mU,jX];exact Lq.nil
 | d,x::l,h,hn=>by
  rw[iv,aP]at h;rw[tQ]at hn;rw[mU,jX];exact(abY d x h.1 hn.1).AF (HC d l h.2 hn.2)
end
def OS(v:Vr):List K3:=(2,tM,0)::(1,v.n,0)::gX 61::(xN v.v++[gX 59])
def tS:List Vr->List K3
 | []=>[]
 | v::l=>OS v++tS l
def YV(c:Ch):List K3:=(2,eS,0)::(1,c.root.b.nm,0)::gX 123::(tS c.vars++(wK c.root.b++(jX c.root.kids++[gX 125])))
theorem abZ{c:Ch}(h:pZ c=true)(hn:MD c):Lq (yw c) (YV c):=by
 unfold pZ at h;simp only[aP]at h;obtain⟨⟨h1,h2⟩,h3⟩:=h;replace h3:=aQ h3;obtain⟨vars,⟨b,l⟩⟩:=c;have hr:=hn.r;rw[xu]at hr;rw[kw]at h2;simp only[aP]at h2;obtain⟨⟨_,h4⟩,h5⟩:=h2;have hk:b.k=1:=h3.1;have hh:kZ b.k=false:=by rw[hk];rfl
 obtain⟨_,_,hs⟩:=OQ h4 hh;unfold yw YV;have hv:Lq (vars.map fun v=>(1,QZ v)) (tS vars):=by
  have hv:=hn.v;dsimp only at h1 hv;clear h3 hn h4 h5 hr
  induction vars with
  | nil=>exact Lq.nil
  | cons v m ih=>
   rw[jN,aP,aP]at h1;refine Lq.cons ?_ (ih h1.2 fun x hx=>hv x (by simp[hx]));exact(ow (s:=tM) (by decide)).e (Pk.sp ((lG h1.1.1).e (Pk.sp (Pk.eq (Pk.sp ((Wv (hv v (by simp)) (aQ h1.1.2)).e (Pk.sc (Pk.nil _)) uH)) ic)) ic)) ic
 exact Lq.cons ((ow (s:=eS) (by decide)).e (Pk.sp ((lG hs.nm).e (Pk.sp (Pk.lb (Pk.nil _))) ic)) ic) (hv.AF ((UK hs hr.1).AF ((HC 1 l h5 hr.2).AF (Lq.one (Pk.rb (Pk.nil _))))))
theorem Dc{p:Prop}:false=true->p:=fun h=>by cases h
theorem Aj{α:Type}{R:α->α->Prop}:iY R [] []:=⟨rfl,fun i x y hx _=>by simp at hx⟩
theorem SW{α:Type}{R:α->α->Prop}{x y:α}{xs ys:List α}(h:R x y)(k:iY R xs ys):iY R (x::xs) (y::ys):=⟨by rw[aR,aR,k.1],fun i a b ha hb=>by
 cases i with
 | zero=>
  simp only[bP,aV]at ha hb;subst ha hb;exact h
 | succ i=>exact k.2 i a b (by simpa using ha) (by simpa using hb)⟩
def dx(s:Sx)(n:Nat)(a m k:Nat):Sx:={s with i:=s.i+n,a:=s.a-a,m:=s.m-m,n:=s.n-k}
theorem cT(s:Sx)(n a m k n' a' m' k':Nat):dx (dx s n a m k) n' a' m' k'=dx s (n+n') (a+a') (m+m') (k+k'):=by
 unfold dx;simp only[Sx.mk.injEq,true_and];refine⟨by omega,?_,?_,?_⟩<;>omega
theorem Ww(s:Sx):dx s 0 0 0 0=s:=by
 unfold dx;cases s;simp
theorem iw(s:Sx):db s=dx s 1 0 0 0:=by
 unfold db dx;cases s;simp
theorem FF{ts:List Tk}(h:pb ts)(h0:0<ts.length):jP ts+1=ts.length:=by
 have h1:=yp ts;have h2:jP ts<ts.length:=by
  refine bC fun hn=>?_;have:=vq ts (ts.length-1) (by omega);exact this ((h _ (by omega)).2 (by omega))
 exact(h _ h2).1 (vu ts h2)
theorem UL{ts:List Tk}{i:Nat}(h:(tk ts i).k≠5):i<ts.length:=bC fun hn=>h (by
 unfold tk;rw[cK (by omega)];rfl)
def Mo(q:K3)(l:List (aH)):Nat:=if q.1≠2/\q.1≠4 then 0 else if wc q.2.1 l<l.length then wc q.2.1 l+1 else 0
section
variable {ts:List Tk} {s:Sx} {q:K3} {A:List K3}
theorem dB(h0:s.fc=0)(h:At ts s.i (q::A))(l:List (aH)):cu ts s l=Mo q l:=by
 obtain⟨h1,h2,_⟩:=h.head;unfold cu Mo;rw[h1,h2];by_cases hc:q.1≠2/\q.1≠4
 ·rw[if_pos (.inr hc),if_pos hc]
 ·rw[if_neg (fun h=>h.elim (fun e=>e h0) hc),if_neg hc]
theorem iK(h0:s.fc=0){x:aH}(h:At ts s.i (q::A))(hq:Mo q [x]=1):dS ts s x=dx s 1 0 0 0:=by
 unfold dS;rw[dB h0 h,hq,if_neg (by decide),iw]
theorem tA(h0:s.fc=0){k:Int}(h:At ts s.i (q::A))(hq:q.1=k):(fA ts s k).1.t=q.2.1/\(fA ts s k).1.n=q.2.2/\(fA ts s k).2=dx s 1 0 0 0:=by
 obtain⟨h1,h2,h3⟩:=h.head;unfold fA;rw[if_neg (fun hn=>hn.elim (fun e=>e h0) fun e=>e (by rw[h1,hq])),iw];exact⟨h2,h3,rfl⟩
theorem tB(h0:s.fc=0){x:aH}(h:At ts s.i ((1,x,0)::A)):gZ ts s=(x,dx s 1 0 0 0):=by
 obtain⟨a,b,c⟩:=tA (k:=1) h0 h rfl;unfold gZ;rw[a,c]
theorem vL{x:Int}(h1:1<=x)(h2:x<=1000):we x=x-1:=by
 unfold we;rw[fH (by omega) (by omega)]
end
theorem BG{x:Ex}(h:mT x=true):QX false x uN:=by
 obtain⟨k,n,s,op,l,a⟩:=x;unfold mT at h;simp only[aP,dz,bA]at h;obtain⟨⟨⟨⟨h1,h2⟩,h3⟩,h4⟩,h5⟩:=h;obtain rfl:k=0:=h1;obtain rfl:n=0:=h2;obtain rfl:s=[]:=h3;obtain rfl:op=0:=h4;have h6:(l.length:Int)=0:=h5;obtain rfl:l=[]:=bp (by omega);exact fun d=>(Sim.leaf 0 0 [] 0 a 0).same d
section
variable {ts:List Tk} (hE:pb ts)
include hE
theorem OT{s:Sx}(h0:s.fc=0){x:Ex}(h:pf x=true)(hn:Lg x){q:K3}{A:List K3}(cO:At ts s.i (BF x++q::A))(hq:q.1=4/\(q.2.1=[59]∨q.2.1=[93])):
  QX false x (mR ts s).1/\(mR ts s).2=dx s (BF x).length 0 0 0:=by
 obtain⟨h1,h2,h3,h4,h5⟩:=UG h hn;have hL:=h2;generalize ta x=L at*
 have QF:jC L (0+L.length)=.ok [⟨5,[],0,((L.length:Nat):Int)⟩]:=by
  have hd:L.drop L.length=[]:=dy (aW _);have h5:jq false []=0:=rfl;rw[bD,jx (aW _),hd,h5,if_pos (by omega)];rfl
 obtain⟨us,g1,g2⟩:=tw (l:=L) (zR x) (x:=x) false 0 (r:=[]) h1 (hn _) (bd _) (by rw[fK,bL,hL]) (fun c hc=>by cases hc) (by rw[<-hL];exact QF);generalize hte:us++[(⟨5,[],0,((L.length:Nat):Int)⟩:Tk)]=te at*
 have t1:cA L=(te,0,0):=by rw[cA,if_neg (by omega),g1]
 have ZB:us.length=(BF x).length:=by unfold BF;rw[<-g2,bZ]
 have Kr:te.length=us.length+1:=by rw[<-hte,aN,bg]
 have hEt:pb te:=by
  have:=(uE (l:=L) (by rw[t1])).1;rw[t1]at this;exact this
 have hep:=FF hEt (by omega);unfold fz at h3 h5;rw[t1]at h3 h5;dsimp only at h3 h5;rw[if_neg (by decide)]at h3 h5;by_cases c1:(bU te 0).2.2.1≠0
 ·rw[if_pos c1]at h3;exact absurd h3 c1
 rw[if_neg c1]at h3 h5;by_cases c2:(tk te (bU te 0).2.1.toNat).k≠5
 ·rw[if_pos c2]at h3;exact absurd h3 (show ¬(4:Int)=0 by decide)
 rw[if_neg c2]at h5;have c1:=uU.1 c1;have c2:=uU.1 c2;dsimp only at h5;have hp:bU te 0=(match pc te 0 with
  | .error (c,p)=>(uN,0,c,p)
  | .ok (x,j)=>(x,(j:Int),0,0)):=by
  unfold bU;rw[if_pos ⟨iM 0,by omega,hep⟩];rfl
 have hM:Em te ts us.length s.i:=by
  refine⟨fun i hi=>?_,fun i hi=>?_,?_⟩
  ·unfold tk;rw[<-hte];rcases Nat.eq_or_lt_of_le hi with e | e
   ·rw[<-e,cf (aW _),mB];rfl
   ·rw[cK (by rw[aN,bg];omega)];rfl
  ·have xD:i<(BF x).length:=by omega
   have e1:=cO.left i _ (bG xD);have e2:k3 (tk te i)=(BF x)[i]:=by
    have:(us.map k3)[i]? =some (BF x)[i]:=by
     rw[g2];exact bG xD
    rw[cX,eP]at this;obtain⟨t,w1,w2⟩:=this;rw[<-w2];unfold tk;rw[<-hte,bJ hi,w1];rfl
   have e3:=e1.trans e2.symm;unfold k3 at e3;simp only[dk]at e3;exact e3
  ·have:=cO.right.head;rw[<-ZB]at this;rw[this.1,this.2.1];exact hq
 cases hr:pc te 0 with
 | error e=>
  obtain⟨c,p⟩:=e;rw[hr]at hp;exfalso;rw[hp]at c1 c2;have hc:c=0:=c1;subst hc;exact mh _ _ _ _ hr rfl
 | ok y=>
  obtain⟨x0,j⟩:=y;rw[hr]at hp;dsimp only at hp;rw[hp]at c2 h5;dsimp only at c2 h5;have bQ:s.i+us.length<ts.length:=by
   refine UL fun e=>?_;have:=cO.right.head.1;rw[<-ZB]at this;rw[this,hq.1]at e;exact absurd e (by decide)
  obtain⟨x',k1,k2,MG⟩:=Rm.expr hM Kr bQ (fx 0 0) 0 0 0 (bd _) x0 j hr;have hj:j=us.length:=by
   rw[aX]at c2;have:=(hEt j (by omega)).1 c2;omega
  subst hj;have Gy:bU ts s.i=(x',((s.i+us.length:Nat):Int),0,0):=by
   unfold bU;rw[if_pos ⟨ba _,by omega,FF hE (by omega)⟩,aX];unfold pc;rw[fp]at k1;rw[k1]
  unfold mR;rw[if_neg (fun e=>e h0),Gy];dsimp only;rw[if_neg (fun e=>e rfl)];refine⟨(h5.trans k2).same,?_⟩;rw[aX,ZB];unfold dx;simp
theorem SX{s:Sx}(h0:s.fc=0)(ha:1<=s.a)(hb:s.a<=1000):rV ts s=dx s 0 1 0 0:=by
 unfold rV dx;rw[if_neg (by omega),vL ha hb];simp
theorem ab0{s:Sx}(h0:s.fc=0)(ha:1<=s.a)(hb:s.a<=1000){a:Ac}(h:fY a=true)(hn:Bx a){A:List K3}(cO:At ts s.i (Gv a++A)):AcE false a (oh ts s).1/\(oh ts s).2=dx s (Gv a).length 1 0 0:=by
 unfold fY at h;simp only[aP]at h;obtain⟨⟨h1,h2⟩,h3⟩:=h;have h1:=aQ h1;obtain⟨k,n,x,at_⟩:=a;dsimp only at h1 h2 h3;have aev:∃w A',Gv ⟨k,n,x,at_⟩++A=(2,w,0)::(1,n,0)::A'/\(Mo (2,w,0) [oC,iR,j7]:Nat)=k.toNat:=by
  unfold Gv;by_cases hk:k=2
  ·rw[if_pos hk];exact⟨_,_,rfl,by rw[hk];decide⟩
  ·rw[if_neg hk];by_cases kg:k=1
   ·rw[if_pos kg];exact⟨_,_,rfl,by rw[kg];decide⟩
   ·rw[if_neg kg];have:k=3:=by omega
    exact⟨_,_,rfl,by rw[this];decide⟩
 obtain⟨w,A',e1,e2⟩:=aev;have L9:=cO;rw[e1]at L9;have hw:=dB h0 L9 [oC,iR,j7];rw[e2]at hw;have Rt:(k.toNat:Int)=k:=gw (by omega);unfold oh;rw[hw,if_neg (by omega),SX (ts:=ts) hE h0 ha hb,if_neg (fun e=>e h0)];rw[iw,cT,tB (s:=dx s (0+1) (1+0) (0+0) (0+0)) h0 L9.tail];dsimp only;unfold He;by_cases hk:k=2
 ·subst hk;rw[if_pos (show Int.toNat 2=2 from rfl)];have h3:mT x=true:=by simpa using h3
  have ea:Gv ⟨2,n,x,at_⟩=[(2,iR,0),(1,n,0),gX 59]:=rfl;rw[ea]at cO⊢;have h59:=cO.tail.tail;rw[iK (s:=dx (dx s (0+1) (1+0) (0+0) (0+0)) 1 0 0 0) h0 h59 (by decide),cT,cT];exact⟨⟨rfl,rfl,BG h3,Dc⟩,rfl⟩
 ·rw[if_neg (by omega)];rw[if_neg hk]at h3;have ea:Gv ⟨k,n,x,at_⟩=(2,if k=1 then oC else j7,0)::(1,n,0)::gX 61::(BF x++[gX 59]):=by
   unfold Gv;rw[if_neg hk]
  rw[ea]at cO⊢;have Kx:=cO.tail.tail;rw[iK (s:=dx (dx s (0+1) (1+0) (0+0) (0+0)) 1 0 0 0) h0 Kx (by decide),cT,cT];have hx:At ts (s.i+1+1+1) ((BF x++[gX 59])++A):=Kx.tail;rw[be]at hx;obtain⟨r1,r2⟩:=OT hE (s:=dx s (0+1+1+1) (1+0+0+0) (0+0+0+0) (0+0+0+0)) h0 h3 hn (q:=gX 59) (A:=A) hx ⟨rfl,.inl rfl⟩;rw[r2];have h59:=hx.right;rw[iK (s:=dx (dx s (0+1+1+1) (1+0+0+0) (0+0+0+0) (0+0+0+0)) (BF x).length 0 0 0) h0 h59 (by decide),cT,cT];refine⟨⟨Rt.symm,rfl,r1,Dc⟩,?_⟩;simp only[aR,aN,aZ];congr 1;omega
theorem UM:∀(l:List Ac) (f:Nat) (acc:List Ac) {s:Sx},s.fc=0->l.length<f->(l.length:Int)<=s.a->s.a<=1000->l.all fY=true->(∀a,a∈l->Bx a)->∀{A:List K3},At ts s.i (xO l++gX 125::A)->
  ∃r,oL ts f acc s=(acc++r,dx s ((xO l).length+1) l.length 0 0)/\iY (AcE false) l r
 | [],f,acc,s,h0,hf,ha,hb,h,hn,A,cO=>by
  obtain⟨f,rfl⟩:∃g,f=g+1:=⟨f-1,by rw[aZ]at hf;omega⟩
  have cO:At ts s.i (gX 125::A):=cO;rw[oL,if_neg (fun e=>e h0),dB h0 cO,if_pos (by decide),iw];exact⟨[],by rw[bL];rfl,Aj⟩
 | a::l,f,acc,s,h0,hf,ha,hb,h,hn,A,cO=>by
  rw[aR]at hf ha;obtain⟨f,rfl⟩:∃g,f=g+1:=⟨f-1,by omega⟩
  rw[jN,aP]at h;have cO:At ts s.i ((Gv a++xO l)++gX 125::A):=cO;rw[be]at cO;have hw:cu ts s [[125]]=0:=by
   have:∃w B,Gv a++(xO l++gX 125::A)=(2,w,0)::B/\Mo (2,w,0) [[125]]=0:=by
    unfold Gv;split
    ·exact⟨_,_,rfl,by decide⟩
    ·split
     ·exact⟨_,_,rfl,by decide⟩
     ·exact⟨_,_,rfl,by decide⟩
   obtain⟨w,B,e1,e2⟩:=this;have L9:=cO;rw[e1]at L9;rw[dB h0 L9,e2]
  obtain⟨r1,r2⟩:=ab0 hE h0 (by omega) hb h.1 (hn a (by simp)) cO;rw[oL,if_neg (fun e=>e h0),hw,if_neg (fun e=>e rfl),r2];obtain⟨r,e1,e2⟩:=UM l f (acc++[(oh ts s).1]) (s:=dx s (Gv a).length 1 0 0) h0 (by omega) (by unfold dx;dsimp only;omega) (by unfold dx;dsimp only;omega) h.2 (fun b hb=>hn b (by simp[hb])) cO.right;refine⟨(oh ts s).1::r,?_,SW r1 e2⟩;rw[e1,cT,be];simp only[xO,aN,aR,eo];congr 2<;>omega
theorem FG:∀l:List Ac,l.length<=(xO l).length
 | []=>aW _
 | a::l=>by
  have h1:=FG l;have h2:1<=(Gv a).length:=by
   unfold Gv;split<;>simp
  rw[xO,aN,aR];omega
theorem At.inr{s:Sx}{L:List K3}{q:K3}{A:List K3}(cO:At ts s.i (L++q::A))(hq:q.1≠5):s.i+L.length<ts.length:=UL (by rw[cO.right.head.1];exact hq)
theorem Wx{s:Sx}(h0:s.fc=0){l:List Ac}(ha:(l.length:Int)<=s.a)(hb:s.a<=1000)(h:l.all fY=true)(hn:∀a,a∈l->Bx a){A:List K3}(cO:At ts s.i (wh l++A)):
  ∃r,gK ts s=(r,dx s (wh l).length l.length 0 0)/\iY (AcE false) l r:=by
 unfold gK;have cO:At ts s.i (gX 123::((xO l++[gX 125])++A)):=cO;rw[be]at cO;have h1:=cO.tail;have bQ:=At.inr hE (s:=dx s 1 0 0 0) (L:=xO l) h1 (by decide);rw[iK h0 cO (by decide)];have:=FG (ts:=ts) hE l;obtain⟨r,e1,e2⟩:=UM hE l (ts.length+1) [] (s:=dx s 1 0 0 0) h0 (by omega) (by unfold dx;dsimp only;omega) (by unfold dx;dsimp only;omega) h hn h1;refine⟨r,?_,e2⟩;rw[e1,cT,ci];unfold wh;simp only[aR,aN,aZ];congr 2
 ·omega
 ·omega
theorem ab1:∀(l:List (aH)) (f:Nat) (acc:List (aH)) {s:Sx},s.fc=0->l.length<f->∀{A:List K3},At ts s.i (Hz l++gX 59::A)->pW ts f [44] acc s=(acc++l,dx s (Hz l).length 0 0 0)
 | [],f,acc,s,h0,hf,A,cO=>by
  obtain⟨f,rfl⟩:∃g,f=g+1:=⟨f-1,by rw[aZ]at hf;omega⟩
  have cO:At ts s.i (gX 59::A):=cO;rw[pW,dB h0 cO,if_pos (by decide),bL];show(acc,s)=(acc,dx s 0 0 0 0)
  rw[Ww]
 | x::l,f,acc,s,h0,hf,A,cO=>by
  rw[aR]at hf;obtain⟨f,rfl⟩:∃g,f=g+1:=⟨f-1,by omega⟩
  have cO:At ts s.i (gX 44::(1,x,0)::(Hz l++gX 59::A)):=cO;rw[pW,dB h0 cO,if_neg (by decide),iw,tB (s:=dx s 1 0 0 0) h0 cO.tail];dsimp only;rw[cT,ab1 l f (acc++[x]) (s:=dx s (1+1) (0+0) (0+0) (0+0)) h0 (by omega) cO.tail.tail,cT,be];simp only[Hz,aR,eo];congr 2;omega
theorem JY:∀l:List (aH),l.length<=(Hz l).length
 | []=>aW _
 | x::l=>by
  have:=JY l;rw[Hz,aR,aR,aR];omega
theorem JZ{s:Sx}(h0:s.fc=0)(m m0:Mv){A:List K3}(cO:At ts s.i ((HA m++[gX 59])++A))(ZD:m0.tg=[]):zI ts m0 s=({m0 with tg:=m.tg},dx s (HA m++[gX 59]).length 0 0 0):=by
 unfold zI;rw[be]at cO;have pw:=cO;unfold HA at cO⊢;cases hm:m.tg with
 | nil=>
  rw[hm]at cO;have cO:At ts s.i (gX 59::A):=cO;rw[pW,dB h0 cO,if_pos (by decide)];dsimp only;rw[iK h0 cO (by decide)];rfl
 | cons x l=>
  rw[hm]at cO;have cO:At ts s.i (Ws::(1,x,0)::(Hz l++gX 59::A)):=cO;have bQ:=At.inr hE (s:=dx s 2 0 0 0) (L:=Hz l) cO.tail.tail (by decide);have:=JY (ts:=ts) hE l;rw[pW,dB h0 cO,if_neg (by decide),iw,tB (s:=dx s 1 0 0 0) h0 cO.tail];dsimp only;rw[cT,ab1 hE l ts.length ([]++[x]) (s:=dx s (1+1) (0+0) (0+0) (0+0)) h0 (by omega) cO.tail.tail,cT];dsimp only;rw[iK (s:=dx s (1+1+(Hz l).length) (0+0+0) (0+0+0) (0+0+0)) h0 (q:=gX 59) (A:=A) (by
   have:=cO.tail.tail.right;have e:s.i+1+1+(Hz l).length=(dx s (1+1+(Hz l).length) (0+0+0) (0+0+0) (0+0+0)).i:=by unfold dx;dsimp only;omega
   rw[<-e];exact this) (by decide),cT]
  simp only[aR,aN,aZ,ci,eo];congr 2;omega
theorem J6{s:Sx}(h0:s.fc=0)(m m0:Mv)(ha:(m.acts.length:Int)<=s.a)(hb:s.a<=1000)(h:m.acts.all fY=true)(hn:∀x,x∈m.acts->Bx x){A:List K3}(cO:At ts s.i (((if m.acts=[]then[]else wh m.acts)++(HA m++[gX 59]))++A))(ZD:m0.tg=[])(h0a:m0.acts=[]):
  ∃r,xq ts m0 s=({m0 with acts:=r,tg:=m.tg},dx s ((if m.acts=[]then[]else wh m.acts)++(HA m++[gX 59])).length m.acts.length 0 0)/\iY (AcE false) m.acts r:=by
 obtain⟨k0,v0,t0,d0,x0,ac0,g0,p0⟩:=m0;dsimp only at ZD h0a;subst ZD h0a;unfold xq;by_cases he:m.acts=[]
 ·rw[if_pos he]at cO⊢;have hw:cu ts s [[123]]=0:=by
   have pw:=cO;unfold HA at pw;cases hm:m.tg with
   | nil=>
    rw[hm]at pw;rw[dB h0 (q:=gX 59) (A:=A) pw];decide
   | cons x l=>
    rw[hm]at pw;rw[dB h0 (q:=Ws) (A:=_) pw];decide
  rw[hw,if_pos rfl,JZ hE h0 m _ cO rfl];refine⟨[],?_,by rw[he];exact Aj⟩;rw[he];rfl
 ·rw[if_neg he]at cO⊢;rw[be]at cO;have hw:cu ts s [[123]]=1:=by
   rw[dB h0 (q:=gX 123) cO];decide
  obtain⟨r,e1,e2⟩:=Wx hE h0 ha hb h hn cO;rw[hw,if_neg (by decide),e1];dsimp only;rw[JZ hE (s:=dx s (wh m.acts).length m.acts.length 0 0) h0 m _ cO.right rfl,cT];refine⟨r,?_,e2⟩;simp only[aN,fp]
theorem Dd{s:Sx}(h0:s.fc=0)(m m0:Mv)(ha:(m.acts.length:Int)<=s.a)(hb:s.a<=1000)(h:j8 m=true)(hn:MC m){A:List K3}(cO:At ts s.i ((UI m++((if m.acts=[]then[]else wh m.acts)++(HA m++[gX 59])))++A))
  (ZD:m0.tg=[]) (h0a:m0.acts=[]) (h0g:m0.gd=false) (h0x:m0.g=uN):
  ∃g r,ol ts m0 s=({m0 with gd:=m.gd,g:=g,acts:=r,tg:=m.tg},dx s (UI m++((if m.acts=[]then[]else wh m.acts)++(HA m++[gX 59]))).length m.acts.length 0 0)/\QX false m.g g/\iY (AcE false) m.acts r:=by
 unfold j8 at h;simp only[aP]at h;obtain⟨⟨⟨⟨⟨_,_⟩,h3⟩,h4⟩,_⟩,_⟩:=h;obtain⟨k0,v0,t0,d0,x0,ac0,g0,p0⟩:=m0;dsimp only at ZD h0a h0g h0x;subst ZD h0a h0g h0x;unfold ol;unfold UI at cO⊢;cases hg:m.gd with
 | false=>
  rw[hg]at h3 cO;simp only[fR,jb,ci]at h3 cO⊢;have hw:cu ts s [[91]]=0:=by
   have pw:=cO;by_cases he:m.acts=[]
   ·rw[if_pos he]at pw;unfold HA at pw;cases hm:m.tg with
    | nil=>
     rw[hm]at pw;rw[dB h0 (q:=gX 59) (A:=A) pw];decide
    | cons x l=>
     rw[hm]at pw;rw[dB h0 (q:=Ws) (A:=_) pw];decide
   ·rw[if_neg he]at pw;rw[dB h0 (q:=gX 123) (A:=_) pw];decide
  obtain⟨r,e1,e2⟩:=J6 hE h0 m ⟨k0,v0,t0,false,uN,[],[],p0⟩ ha hb h4 hn.a cO rfl rfl;rw[hw,if_pos rfl,e1];exact⟨uN,r,rfl,BG h3,e2⟩
 | true=>
  rw[hg]at h3 cO;simp only[if_true]at h3 cO⊢;have cO:At ts s.i (gX 91::(BF m.g++gX 93::(((if m.acts=[]then[]else wh m.acts)++(HA m++[gX 59]))++A))):=by simpa using cO
  have hw:cu ts s [[91]]=1:=by
   rw[dB h0 cO];decide
  obtain⟨r1,r2⟩:=OT hE (s:=dx s 1 0 0 0) h0 h3 hn.g (q:=gX 93) cO.tail ⟨rfl,.inr rfl⟩;rw[hw,if_neg (by decide),iw,r2,cT,iK (s:=dx s (1+(BF m.g).length) (0+0) (0+0) (0+0)) h0 (q:=gX 93) (by
   have:=cO.tail.right;have e:s.i+1+(BF m.g).length=(dx s (1+(BF m.g).length) (0+0) (0+0) (0+0)).i:=by unfold dx;dsimp only;omega
   rw[<-e];exact this) (by decide),cT]
  obtain⟨r,e1,e2⟩:=J6 hE (s:=dx s (1+(BF m.g).length+1) (0+0+0) (0+0+0) (0+0+0)) h0 m ⟨k0,v0,t0,true,(mR ts (dx s 1 0 0 0)).1,[],[],p0⟩ (by unfold dx;dsimp only;omega) (by unfold dx;dsimp only;omega) h4 hn.a (by
   have:=cO.tail.right.tail;have e:s.i+1+(BF m.g).length+1=(dx s (1+(BF m.g).length+1) (0+0+0) (0+0+0) (0+0+0)).i:=by unfold dx;dsimp only;omega
   rw[<-e];exact this) rfl rfl
  rw[e1,cT];refine⟨_,r,?_,r1,e2⟩;congr 2<;>(try simp only[aR,aN,aZ])<;>omega
theorem SY{s:Sx}(h0:s.fc=0)(ha:1<=s.m)(hb:s.m<=1000):qK ts s=dx s 0 0 1 0:=by
 unfold qK dx;rw[if_neg (by omega),vL ha hb];simp
theorem ahK{s:Sx}(h0:s.fc=0){m:Mv}(ha:(m.acts.length:Int)<=s.a)(hb:s.a<=1000)(xQ:1<=s.m)(tF:s.m<=1000)(h:j8 m=true)(hn:MC m){A:List K3}(cO:At ts s.i (JW m++A)):
  cu ts s [xL,fX,gJ]=m.k.toNat/\1<=m.k/\MvE false m (lP ts m.k s).1/\(lP ts m.k s).2=dx s (JW m).length m.acts.length 1 0:=by
 have h':=h;unfold j8 at h';simp only[aP]at h';obtain⟨⟨⟨⟨⟨h1,h2⟩,_⟩,_⟩,_⟩,h6⟩:=h';have h1:=aQ h1;have h6:=aQ h6;unfold JW at cO⊢;rw[be]at cO;unfold lP;rw[SY (ts:=ts) hE h0 xQ tF,if_neg (fun e=>e h0)];generalize hR:UI m++((if m.acts=[]then[]else wh m.acts)++(HA m++[gX 59]))=R at*
 unfold hdK at cO⊢;by_cases k1:m.k=1
 ·rw[if_pos k1]at cO h2⊢;rw[if_pos k1];have cO:At ts s.i ((2,xL,0)::(1,m.ev,0)::(R++A)):=cO;refine⟨by rw[dB h0 cO,k1];decide,by omega,?_⟩;rw[iw,cT,tB (s:=dx s (0+1) (0+0) (1+0) (0+0)) h0 cO.tail];dsimp only;rw[cT];obtain⟨g,r,e1,e2,e3⟩:=Dd hE (s:=dx s (0+1+1) (0+0+0) (1+0+0) (0+0+0)) h0 m {NM m.k (tk ts s.i).a with ev:=m.ev} (by unfold dx;dsimp only;omega) (by unfold dx;dsimp only;omega) h hn (by rw[hR];exact cO.tail.tail) rfl rfl rfl rfl;rw[e1,hR,cT];refine⟨⟨rfl,rfl,?_,rfl,e2,e3,rfl,Dc⟩,?_⟩
  ·show m.wt=0;omega
  ·dsimp only;congr 1<;>(try simp only[aR,aN,aZ])<;>omega
 ·rw[if_neg k1]at cO h2⊢;rw[if_neg k1];have h2:=aQ h2;by_cases k3:m.k=3
  ·rw[if_pos k3]at cO⊢;rw[if_pos k3];have cO:At ts s.i ((2,gJ,0)::(3,[],m.wt)::(R++A)):=cO;refine⟨by rw[dB h0 cO,k3];decide,by omega,?_⟩;obtain⟨c1,c2,c3⟩:=tA (s:=dx s (0+1) (0+0) (1+0) (0+0)) (k:=3) h0 cO.tail rfl;rw[iw,cT,c2,c3];dsimp only;rw[cT];obtain⟨g,r,e1,e2,e3⟩:=Dd hE (s:=dx s (0+1+1) (0+0+0) (1+0+0) (0+0+0)) h0 m {NM m.k (tk ts s.i).a with wt:=m.wt} (by unfold dx;dsimp only;omega) (by unfold dx;dsimp only;omega) h hn (by rw[hR];exact cO.tail.tail) rfl rfl rfl rfl;rw[e1,hR,cT];refine⟨⟨rfl,h2,rfl,rfl,e2,e3,rfl,Dc⟩,?_⟩;dsimp only;congr 1<;>(try simp only[aR,aN,aZ])<;>omega
  ·rw[if_neg k3]at cO⊢;rw[if_neg k3];have cO:At ts s.i ((2,fX,0)::(R++A)):=cO;have k2:m.k=2:=by omega
   refine⟨by rw[dB h0 cO,k2];decide,by omega,?_⟩;rw[iw,cT];obtain⟨g,r,e1,e2,e3⟩:=Dd hE (s:=dx s (0+1) (0+0) (1+0) (0+0)) h0 m (NM m.k (tk ts s.i).a) (by unfold dx;dsimp only;omega) (by unfold dx;dsimp only;omega) h hn (by rw[hR];exact cO.tail) rfl rfl rfl rfl;rw[e1,hR,cT];refine⟨⟨rfl,h2,?_,rfl,e2,e3,rfl,Dc⟩,?_⟩
   ·show m.wt=0;omega
   ·dsimp only;congr 1<;>(try simp only[aR,aN,aZ])<;>omega
end
def OU(x y:Nd):Prop:=∀d,Ui false d x y
theorem Df{b b':Nb}{l l':List Nd}(h:NbE false b b')(k:iY OU l l'):OU (.mk b l) (.mk b' l'):=fun d=>by
 cases d with
 | zero=>trivial
 | succ d=>exact⟨h,k.1,fun i x y hx hy=>k.2 i x y hx hy d⟩
def xx(q:K3):Prop:=Mo q [xL,fX,gJ]=0/\Mo q [dX,gf,gj]=0/\q.1≠5
def sC(l:List Mv):Nat:=(l.map fun m=>m.acts.length).sum
theorem Wy(b:Nb):wg b=b.en.length+(b.lv.length+sC b.mv):=by unfold wg sC;omega
section
variable {ts:List Tk} (hE:pb ts)
include hE
theorem Wz{s:Sx}(h0:s.fc=0)(n:Nb){h:xV}(hi:h.i=false){x:aH}{A:List K3}(cO:At ts s.i ((2,dX,0)::(1,x,0)::gX 59::A)):dA ts n h s=(true,{n with ini:=x},{h with i:=true},dx s 3 0 0 0):=by
 unfold dA;have w1:cu ts s [xL,fX,gJ]=0:=by rw[dB h0 cO];decide
 have w2:cu ts s [dX,gf,gj]=1:=by rw[dB h0 cO];decide
 rw[w1,if_neg (fun e=>e rfl),w2];show(if h.i=true then(false,n,h,jD ts s)else(true,{n with ini:=(gZ ts (db s)).1},{h with i:=true},dS ts (gZ ts (db s)).2 [59]))=_;rw[hi,if_neg (by decide),iw,tB (s:=dx s 1 0 0 0) h0 cO.tail];dsimp only;rw[iK (s:=dx (dx s 1 0 0 0) 1 0 0 0) h0 cO.tail.tail (by decide),cT,cT]
theorem ab2{s:Sx}(h0:s.fc=0)(n:Nb){h:xV}(hi:h.e=false){l:List Ac}(ha:(l.length:Int)<=s.a)(hb:s.a<=1000)(hl:l.all fY=true)(hn:∀a,a∈l->Bx a){A:List K3}(cO:At ts s.i ((2,gf,0)::(wh l++A))):
  ∃r,dA ts n h s=(true,{n with en:=r},{h with e:=true},dx s ((wh l).length+1) l.length 0 0)/\iY (AcE false) l r:=by
 unfold dA;have w1:cu ts s [xL,fX,gJ]=0:=by rw[dB h0 cO];decide
 have w2:cu ts s [dX,gf,gj]=2:=by rw[dB h0 cO];decide
 rw[w1,if_neg (fun e=>e rfl),w2];obtain⟨r,e1,e2⟩:=Wx hE (s:=dx s 1 0 0 0) h0 (by unfold dx;dsimp only;omega) (by unfold dx;dsimp only;omega) hl hn cO.tail
 suffices hh:(if h.e=true then(false,n,h,jD ts s)else(true,{n with en:=(gK ts (db s)).1},{h with e:=true},(gK ts (db s)).2))=(true,{n with en:=r},{h with e:=true},dx s ((wh l).length+1) l.length 0 0)from⟨r,hh,e2⟩
 rw[hi,if_neg (by decide),iw,e1];dsimp only;rw[cT];congr 4<;>omega
theorem ab3{s:Sx}(h0:s.fc=0)(n:Nb){h:xV}(hi:h.l=false){l:List Ac}(ha:(l.length:Int)<=s.a)(hb:s.a<=1000)(hl:l.all fY=true)(hn:∀a,a∈l->Bx a){A:List K3}(cO:At ts s.i ((2,gj,0)::(wh l++A))):
  ∃r,dA ts n h s=(true,{n with lv:=r},{h with l:=true},dx s ((wh l).length+1) l.length 0 0)/\iY (AcE false) l r:=by
 unfold dA;have w1:cu ts s [xL,fX,gJ]=0:=by rw[dB h0 cO];decide
 have w2:cu ts s [dX,gf,gj]=3:=by rw[dB h0 cO];decide
 rw[w1,if_neg (fun e=>e rfl),w2];obtain⟨r,e1,e2⟩:=Wx hE (s:=dx s 1 0 0 0) h0 (by unfold dx;dsimp only;omega) (by unfold dx;dsimp only;omega) hl hn cO.tail
 suffices hh:(if h.l=true then(false,n,h,jD ts s)else(true,{n with lv:=(gK ts (db s)).1},{h with l:=true},(gK ts (db s)).2))=(true,{n with lv:=r},{h with l:=true},dx s ((wh l).length+1) l.length 0 0)from⟨r,hh,e2⟩
 rw[hi,if_neg (by decide),iw,e1];dsimp only;rw[cT];congr 4<;>omega
theorem ab4{s:Sx}(h0:s.fc=0)(n:Nb)(h:xV){m:Mv}(ha:(m.acts.length:Int)<=s.a)(hb:s.a<=1000)(xQ:1<=s.m)(tF:s.m<=1000)(hm:j8 m=true)(hn:MC m){A:List K3}(cO:At ts s.i (JW m++A)):
  ∃r,dA ts n h s=(true,{n with mv:=n.mv++[r]},h,dx s (JW m).length m.acts.length 1 0)/\MvE false m r:=by
 obtain⟨h1,h2,h3,h4⟩:=ahK hE h0 ha hb xQ tF hm hn cO;unfold dA;rw[h1,if_pos (by omega),gw (by omega),h4];exact⟨_,rfl,h3⟩
theorem SZ{s:Sx}(h0:s.fc=0)(n:Nb)(h:xV){q:K3}{A:List K3}(hq:xx q)(cO:At ts s.i (q::A)):dA ts n h s=(false,n,h,s):=by
 unfold dA;rw[dB h0 cO,dB h0 cO,hq.1,hq.2.1,if_neg (fun e=>e rfl)];rfl
theorem vM{s:Sx}(h0:s.fc=0){f:Nat}{n n':Nb}{h h':xV}{s':Sx}(hc:dA ts n h s=(true,n',h',s')):fO ts (f+1) n h s=fO ts f n' h' s':=by
 rw[fO,if_neg (fun e=>e h0),hc];rfl
theorem OW:∀(l:List Mv) (f:Nat) (n:Nb) (h:xV) {s:Sx},s.fc=0->l.length<f->(sC l:Int)<=s.a->s.a<=1000->(l.length:Int)<=s.m->s.m<=1000->l.all j8=true->(∀m,m∈l->MC m)->∀{q:K3} {A:List K3},xx q->At ts s.i (uI l++q::A)->
  ∃r,fO ts f n h s=({n with mv:=n.mv++r},dx s (uI l).length (sC l) l.length 0)/\iY (MvE false) l r
 | [],f,n,h,s,h0,hf,ha,hb,xQ,tF,hl,hn,q,A,hq,cO=>by
  obtain⟨f,rfl⟩:∃g,f=g+1:=⟨f-1,by rw[aZ]at hf;omega⟩
  have cO:At ts s.i (q::A):=cO;rw[fO,if_neg (fun e=>e h0),SZ hE h0 n h hq cO];refine⟨[],?_,Aj⟩;rw[bL];show(n,s)=(n,dx s 0 0 0 0)
  rw[Ww]
 | m::l,f,n,h,s,h0,hf,ha,hb,xQ,tF,hl,hn,q,A,hq,cO=>by
  rw[aR]at hf xQ;obtain⟨f,rfl⟩:∃g,f=g+1:=⟨f-1,by omega⟩
  rw[jN,aP]at hl;have es:sC (m::l)=m.acts.length+sC l:=by unfold sC;rw[bE,ck]
  rw[es]at ha;have cO:At ts s.i ((JW m++uI l)++q::A):=cO;rw[be]at cO;obtain⟨x,e1,e2⟩:=ab4 hE h0 n h (by omega) hb (by omega) tF hl.1 (hn m (by simp)) cO;rw[vM hE h0 e1];obtain⟨r,e3,e4⟩:=OW l f {n with mv:=n.mv++[x]} h (s:=dx s (JW m).length m.acts.length 1 0) h0 (by omega) (by unfold dx;dsimp only;omega) (by unfold dx;dsimp only;omega) (by unfold dx;dsimp only;omega) (by unfold dx;dsimp only;omega) hl.2 (fun y hy=>hn y (by simp[hy])) hq cO.right;refine⟨x::r,?_,SW e2 e4⟩;rw[e3,cT,es];simp only[uI,aN,aR,be,eo];congr 2;omega
theorem FH:∀l:List Mv,l.length<=(uI l).length
 | []=>aW _
 | m::l=>by
  have h1:=FH l;have h2:1<=(JW m).length:=by
   unfold JW hdK;rw[aN];split
   ·simp only[aR];omega
   ·split<;>(simp only[aR];omega)
  rw[uI,aN,aR];omega
theorem UN{f:Nat}{n:Nb}{h:xV}{s:Sx}{b:Nb}(h0:s.fc=0)(hf:(Lw b).length+b.mv.length<f)(ha:(b.lv.length+sC b.mv:Nat)<=s.a)(hb:s.a<=1000)(xQ:(b.mv.length:Int)<=s.m)(tF:s.m<=1000)(hs:ZC b)(hn:U5 b){q:K3}{A:List K3}(hq:xx q)(cO:At ts s.i (Lw b++(uI b.mv++q::A)))(hl:h.l=false)(xd:n.lv=[]):
  ∃r1 r2,fO ts f n h s=({n with lv:=r1,mv:=n.mv++r2},dx s ((Lw b).length+(uI b.mv).length) (b.lv.length+sC b.mv) b.mv.length 0)/\iY (AcE false) b.lv r1/\iY (MvE false) b.mv r2:=by
 obtain⟨nk,nn,ni,nd,ne,nl,nm,na⟩:=n;dsimp only at xd;subst xd;unfold Lw at cO hf⊢;by_cases he:b.lv=[]
 ·rw[if_pos he]at cO hf⊢;rw[aZ]at hf;obtain⟨r,e1,e2⟩:=OW hE b.mv f _ h h0 (by omega) (by omega) hb xQ tF hs.mv hn.mv hq cO;refine⟨[],r,?_,by rw[he];exact Aj,e2⟩;rw[e1,he];simp only[aZ,bD]
 ·rw[if_neg he]at cO hf⊢;simp only[aR]at hf;obtain⟨f,rfl⟩:∃g,f=g+1:=⟨f-1,by omega⟩
  obtain⟨r1,e1,e2⟩:=ab3 hE h0 _ hl (by omega) hb hs.lv hn.lv cO;rw[vM hE h0 e1];obtain⟨r2,e3,e4⟩:=OW hE b.mv f _ _ (s:=dx s ((wh b.lv).length+1) b.lv.length 0 0) h0 (by omega) (by unfold dx;dsimp only;omega) (by unfold dx;dsimp only;omega) (by unfold dx;dsimp only;omega) (by unfold dx;dsimp only;omega) hs.mv hn.mv hq (by
   have h5:=cO.tail.right;have e:s.i+1+(wh b.lv).length=(dx s ((wh b.lv).length+1) b.lv.length 0 0).i:=by unfold dx;dsimp only;omega
   rw[<-e];exact h5)
  refine⟨r1,r2,?_,e2,e4⟩;rw[e3,cT,aR];congr 2;omega
theorem UO{f:Nat}{n:Nb}{h:xV}{s:Sx}{b:Nb}(h0:s.fc=0)(hf:(Q1 b).length+((Lw b).length+b.mv.length)<f)(ha:(b.en.length+(b.lv.length+sC b.mv):Nat)<=s.a)(hb:s.a<=1000)(xQ:(b.mv.length:Int)<=s.m)(tF:s.m<=1000)(hs:ZC b)(hn:U5 b){q:K3}{A:List K3}(hq:xx q)(cO:At ts s.i (Q1 b++(Lw b++(uI b.mv++q::A))))(he0:h.e=false)(hl:h.l=false)(A6:n.en=[])(xd:n.lv=[]):
  ∃r0 r1 r2,fO ts f n h s=({n with en:=r0,lv:=r1,mv:=n.mv++r2},dx s ((Q1 b).length+((Lw b).length+(uI b.mv).length)) (b.en.length+(b.lv.length+sC b.mv)) b.mv.length 0)/\iY (AcE false) b.en r0/\iY (AcE false) b.lv r1/\iY (MvE false) b.mv r2:=by
 obtain⟨nk,nn,ni,nd,ne,nl,nm,na⟩:=n;dsimp only at xd A6;subst xd A6;unfold Q1 at cO hf⊢;by_cases he:b.en=[]
 ·rw[if_pos he]at cO hf⊢;rw[aZ]at hf;obtain⟨r1,r2,e1,e2,e3⟩:=UN hE (f:=f) (h:=h) (n:=⟨nk,nn,ni,nd,[],[],nm,na⟩) h0 (by omega) (by omega) hb xQ tF hs hn hq cO hl rfl;refine⟨[],r1,r2,?_,by rw[he];exact Aj,e2,e3⟩;rw[e1,he];simp only[aZ,bD]
 ·rw[if_neg he]at cO hf⊢;simp only[aR]at hf;obtain⟨f,rfl⟩:∃g,f=g+1:=⟨f-1,by omega⟩
  obtain⟨r0,e1,e2⟩:=ab2 hE h0 _ he0 (by omega) hb hs.en hn.en cO;rw[vM hE h0 e1];obtain⟨r1,r2,e3,e4,e5⟩:=UN hE (n:=⟨nk,nn,ni,nd,r0,[],nm,na⟩) (h:={h with e:=true}) (s:=dx s ((wh b.en).length+1) b.en.length 0 0) h0 (f:=f) (by omega) (by unfold dx;dsimp only;omega) (by unfold dx;dsimp only;omega) (by unfold dx;dsimp only;omega) (by unfold dx;dsimp only;omega) hs hn hq (by
   have h5:=cO.tail.right;have e:s.i+1+(wh b.en).length=(dx s ((wh b.en).length+1) b.en.length 0 0).i:=by unfold dx;dsimp only;omega
   rw[<-e];exact h5) hl rfl
  refine⟨r0,r1,r2,?_,e2,e4,e5⟩;rw[e3,cT,aR];congr 2<;>omega
theorem ahL{f:Nat}{n:Nb}{s:Sx}{b:Nb}(h0:s.fc=0)(hf:(HB b).length+((Q1 b).length+((Lw b).length+b.mv.length))<f)(ha:(wg b:Int)<=s.a)(hb:s.a<=1000)(xQ:(b.mv.length:Int)<=s.m)(tF:s.m<=1000)(hs:ZC b)(hn:U5 b){q:K3}{A:List K3}(hq:xx q)(cO:At ts s.i (wK b++q::A))(TK:n.ini=[])(A6:n.en=[])(xd:n.lv=[])(rq:n.mv=[]):
  ∃r0 r1 r2,fO ts f n ⟨false,false,false⟩ s=({n with ini:=b.ini,en:=r0,lv:=r1,mv:=r2},dx s (wK b).length (wg b) b.mv.length 0)/\iY (AcE false) b.en r0/\iY (AcE false) b.lv r1/\iY (MvE false) b.mv r2:=by
 rw[Wy]at ha⊢;obtain⟨nk,nn,ni,nd,ne,nl,nm,na⟩:=n;dsimp only at TK xd A6 rq;subst TK xd A6 rq;unfold wK at cO⊢;have cO:At ts s.i (HB b++(Q1 b++(Lw b++(uI b.mv++q::A)))):=by simpa[be]using cO
 simp only[aN];unfold HB at cO hf⊢;by_cases he:b.ini=[]
 ·rw[if_pos he]at cO hf⊢;rw[aZ]at hf;obtain⟨r0,r1,r2,e1,e2⟩:=UO hE (f:=f) (n:=⟨nk,nn,[],nd,[],[],[],na⟩) (h:=⟨false,false,false⟩) h0 (by omega) ha hb xQ tF hs hn hq cO rfl rfl rfl rfl;refine⟨r0,r1,r2,?_,e2⟩;rw[e1,he];simp only[aZ,bD,ci]
 ·rw[if_neg he]at cO hf⊢;simp only[aR]at hf;obtain⟨f,rfl⟩:∃g,f=g+1:=⟨f-1,by omega⟩
  have e1:=Wz hE h0 ⟨nk,nn,[],nd,[],[],[],na⟩ (h:=⟨false,false,false⟩) rfl cO;rw[vM hE h0 e1];obtain⟨r0,r1,r2,e3,e4⟩:=UO hE (n:=⟨nk,nn,b.ini,nd,[],[],[],na⟩) (h:=⟨true,false,false⟩) (s:=dx s 3 0 0 0) h0 (f:=f) (by omega) (by unfold dx;dsimp only;omega) (by unfold dx;dsimp only;omega) (by unfold dx;dsimp only;omega) (by unfold dx;dsimp only;omega) hs hn hq cO.tail.tail.tail rfl rfl rfl rfl;refine⟨r0,r1,r2,?_,e4⟩;rw[e3,cT];simp only[aR,aZ,ci];congr 2<;>omega
theorem Ak{s:Sx}(h0:s.fc=0)(k:Int){nm:aH}{A:List K3}(cO:At ts s.i ((1,nm,0)::A))(hn1:1<=s.n)(hn2:s.n<=1000)(hd:s.d≠0):∃a,eE ts k s=({Ug with k:=k,nm:=nm,a:=a},dx s 1 0 0 1):=by
 have hu:AR ts s=dx s 0 0 0 1:=by
  unfold AR dx;rw[if_neg (by omega),vL hn1 hn2];simp
 have hr:oO ts s=dx s 0 0 0 1:=by
  unfold oO;rw[if_pos cO.head.1,hu,if_neg (show ¬(dx s 0 0 0 1).d=0 from hd)]
 obtain⟨c1,c2,c3⟩:=tA (s:=dx s 0 0 0 1) (k:=1) h0 (q:=(1,nm,0)) (A:=A) cO rfl;refine⟨(fA ts (dx s 0 0 0 1) 1).1.a,?_⟩;unfold eE;rw[hr,c1,c3,cT]
theorem WA{k:Int}(h1:1<=k)(h2:k<=4):Mo (2,kW k,0) om=k.toNat:=by
 have:k=1∨k=2∨k=3∨k=4:=by omega
 rcases this with rfl | rfl | rfl | rfl<;>decide
theorem Dg{d:Nat}{b:Nb}{l:List Nd}(h:kw d (.mk b l)=true):1<=b.k/\b.k<=4:=by
 rw[kw]at h;simp only[aP]at h;cases hh:kZ b.k with
 | true=>
  have:=aQ hh;omega
 | false=>
  have:=(OQ h.1.2 hh).1;omega
theorem vN(x:Nd):∃B,Ly x=(2,kW x.b.k,0)::B:=by
 obtain⟨b,l⟩:=x;rw[Ly];split
 ·exact⟨_,rfl⟩
 ·exact⟨_,rfl⟩
abbrev OX(ts:List Tk)(f:Nat):Prop:=∀(x:Nd) (deep:Nat) {s:Sx} {A:List K3},kw deep x=true->xu x->s.fc=0->s.d=12-(deep:Int)->13<=deep+f->(ke x:Int)<=s.n->s.n<=1000->(th x:Int)<=s.a->s.a<=1000->(tf x:Int)<=s.m->s.m<=1000->At ts s.i ((Ly x).tail++A)->
 ∃r,jJ ts f x.b.k s=(r,dx s ((Ly x).length-1) (th x) (tf x) (ke x))/\OU x r
theorem OY{N:Nat}(hN:OX ts N):∀(l:List Nd) (f:Nat) (acc:List Nd) (deep:Nat) {s:Sx},iv deep l=true->tQ l->s.fc=0->s.d=12-(deep:Int)->13<=deep+N->l.length<f->(eZ l:Int)<=s.n->s.n<=1000->(j9 l:Int)<=s.a->s.a<=1000->(lC l:Int)<=s.m->s.m<=1000->∀{A:List K3},At ts s.i (jX l++gX 125::A)->
  ∃r,qZ ts (jJ ts N) f acc s=(acc++r,dx s (jX l).length (j9 l) (lC l) (eZ l))/\iY OU l r
 | [],f,acc,deep,s,h,hn,h0,hd,PS,hf,n1,n2,a1,a2,m1,m2,A,cO=>by
  obtain⟨f,rfl⟩:∃g,f=g+1:=⟨f-1,by rw[aZ]at hf;omega⟩
  rw[jX]at cO⊢;have cO:At ts s.i (gX 125::A):=cO;rw[qZ,dB h0 cO,if_pos (by decide),j9,lC,eZ];exact⟨[],by rw[bL,aZ,Ww],Aj⟩
 | x::l,f,acc,deep,s,h,hn,h0,hd,PS,hf,n1,n2,a1,a2,m1,m2,A,cO=>by
  rw[aR]at hf;obtain⟨f,rfl⟩:∃g,f=g+1:=⟨f-1,by omega⟩
  rw[iv,aP]at h;rw[tQ]at hn;rw[eZ]at n1⊢;rw[j9]at a1⊢;rw[lC]at m1⊢;rw[jX]at cO⊢;rw[be]at cO;obtain⟨B,hB⟩:=vN (ts:=ts) hE x;have hk:=Dg (ts:=ts) hE (d:=deep) (b:=x.b) (l:=x.kids) (by obtain⟨b,k⟩:=x;exact h.1);have hw:cu ts s om=x.b.k.toNat:=by
   have pw:=cO;rw[hB]at pw;rw[dB h0 pw];exact WA (ts:=ts) hE hk.1 hk.2
  have Rt:(x.b.k.toNat:Int)=x.b.k:=gw (by omega);have h1:At ts (dx s 1 0 0 0).i ((Ly x).tail++(jX l++gX 125::A)):=by
   have pw:=cO;rw[hB]at pw⊢;exact pw.tail
  have ey:1<=(Ly x).length:=by rw[hB,aR];omega
  obtain⟨r,e1,e2⟩:=hN x deep (s:=dx s 1 0 0 0) h.1 hn.1 h0 hd PS (by unfold dx;dsimp only;omega) (by unfold dx;dsimp only;omega) (by unfold dx;dsimp only;omega) (by unfold dx;dsimp only;omega) (by unfold dx;dsimp only;omega) (by unfold dx;dsimp only;omega) h1;rw[qZ,hw,if_neg (by omega),Rt,iw,e1];dsimp only;rw[cT];obtain⟨r2,e3,e4⟩:=OY hN l f (acc++[r]) deep (s:=dx s (1+((Ly x).length-1)) (0+th x) (0+tf x) (0+ke x)) h.2 hn.2 h0 hd PS (by omega) (by unfold dx;dsimp only;omega) (by unfold dx;dsimp only;omega) (by unfold dx;dsimp only;omega) (by unfold dx;dsimp only;omega) (by unfold dx;dsimp only;omega) (by unfold dx;dsimp only;omega) (by
   have h5:=cO.right;have e:s.i+(Ly x).length=(dx s (1+((Ly x).length-1)) (0+th x) (0+tf x) (0+ke x)).i:=by unfold dx;dsimp only;omega
   rw[<-e];exact h5)
  refine⟨r::r2,?_,SW e2 e4⟩;rw[e3,cT,be,aN];simp only[eo];congr 2<;>omega
theorem FI:∀l:List Nd,l.length<=(jX l).length
 | []=>bd _
 | x::l=>by
  have:=FI l;obtain⟨B,hB⟩:=vN (ts:=ts) hE x;rw[jX,hB,aN,aR,aR];omega
theorem FJ(l:List Nd)(h:∀x,x∈l->1<=x.b.k/\x.b.k<=4)(A:List K3):∃q B,jX l++gX 125::A=q::B/\xx q:=by
 cases l with
 | nil=>
  rw[jX];exact⟨_,_,rfl,by unfold xx;decide⟩
 | cons x l=>
  obtain⟨B,hB⟩:=vN (ts:=ts) hE x;rw[jX,hB];refine⟨_,_,rfl,?_⟩;obtain⟨h1,h2⟩:=h x (by simp);have:x.b.k=1∨x.b.k=2∨x.b.k=3∨x.b.k=4:=by omega
  unfold xx;rcases this with e | e | e | e<;>rw[e]<;>decide
theorem vO{d:Nat}:∀{l:List Nd},iv d l=true->∀x,x∈l->1<=x.b.k/\x.b.k<=4
 | [],_,x,hx=>by simp at hx
 | y::l,h,x,hx=>by
  rw[iv,aP]at h;rcases aY.1 hx with rfl | hx
  ·obtain⟨b,k⟩:=x;exact Dg (ts:=ts) hE h.1
  ·exact vO h.2 x hx
theorem OZ{N:Nat}(hN:OX ts N){b:Nb}{l:List Nd}{deep:Nat}{s:Sx}{n:Nb}(hl:iv (deep+1) l=true)(Yz:tQ l)(hs:ZC b)(hn:U5 b)(h0:s.fc=0)(hd:s.d=12-(deep:Int))(hdp:deep<12)(PS:13<=deep+1+N)
  (n1:(eZ l:Int)<=s.n) (n2:s.n<=1000) (a1:(wg b+j9 l:Nat)<=s.a) (a2:s.a<=1000) (m1:(b.mv.length+lC l:Nat)<=s.m) (m2:s.m<=1000) {A:List K3} (cO:At ts s.i ((wK b++(jX l++[gX 125]))++A)) (TK:n.ini=[]) (A6:n.en=[]) (xd:n.lv=[]) (rq:n.mv=[]):
  ∃r0 r1 r2 r,oM ts (jJ ts N) n s=(.mk {n with ini:=b.ini,en:=r0,lv:=r1,mv:=r2} r,dx s (wK b++(jX l++[gX 125])).length (wg b+j9 l) (b.mv.length+lC l) (eZ l))/\iY (AcE false) b.en r0/\iY (AcE false) b.lv r1/\iY (MvE false) b.mv r2/\iY OU l r:=by
 have cO:At ts s.i (wK b++(jX l++gX 125::A)):=by simpa[be]using cO
 obtain⟨q,B,hq1,W5⟩:=FJ hE l (vO hE hl) A;have MF:=At.inr hE (s:=s) (L:=wK b++jX l) (q:=gX 125) (A:=A) (by simpa[be]using cO) (by decide);rw[aN]at MF;have Qf:=FH (ts:=ts) hE b.mv;have L2:=FI (ts:=ts) hE l;have aqD:(HB b).length+((Q1 b).length+((Lw b).length+(uI b.mv).length))=(wK b).length:=by unfold wK;simp only[aN]
 have QG:we s.d=s.d-1:=vL (by omega) (by omega);have hi1:VV (s.d-1)=s.d:=by
  unfold VV;rw[fH (by omega) (by omega)];omega
 have QH:=cO;rw[hq1]at QH;obtain⟨r0,r1,r2,e1,e2,e3,e4⟩:=ahL hE (f:=ts.length+1) (n:=n) (s:={s with d:=s.d-1}) h0 (by omega) (by dsimp only;omega) a2 (by dsimp only;omega) m2 hs hn W5 QH TK A6 xd rq;obtain⟨r,e5,e6⟩:=OY hE hN l (ts.length+1) [] (deep+1) (s:=dx {s with d:=s.d-1} (wK b).length (wg b) b.mv.length 0) hl Yz h0 (by unfold dx;dsimp only;omega) PS (by omega) (by unfold dx;dsimp only;omega) (by unfold dx;dsimp only;omega) (by unfold dx;dsimp only;omega) (by unfold dx;dsimp only;omega) (by unfold dx;dsimp only;omega) (by unfold dx;dsimp only;omega) cO.right;refine⟨r0,r1,r2,r,?_,e2,e3,e4,e6⟩;unfold oM;dsimp only;rw[QG,e1];dsimp only;rw[e5];dsimp only;have e7:({dx (dx {s with d:=s.d-1} (wK b).length (wg b) b.mv.length 0) (jX l).length (j9 l) (lC l) (eZ l)with d:=VV (dx (dx {s with d:=s.d-1} (wK b).length (wg b) b.mv.length 0) (jX l).length (j9 l) (lC l) (eZ l)).d}:Sx)=dx s ((wK b).length+(jX l).length) (wg b+j9 l) (b.mv.length+lC l) (0+eZ l):=by
  rw[cT];unfold dx;dsimp only;rw[hi1]
 rw[e7,iK (s:=dx s ((wK b).length+(jX l).length) (wg b+j9 l) (b.mv.length+lC l) (0+eZ l)) h0 (q:=gX 125) (A:=A) (by
  have h5:=cO.right.right;rw[fe]at h5;exact h5) (by decide),cT,ci]
 simp only[aN,aR,aZ];congr 2<;>omega
theorem O0:∀f,OX ts f
 | 0=>by
  intro x deep s A h hn h0 hd PS;obtain⟨b,l⟩:=x;rw[kw]at h;simp only[aP]at h;have:=aQ h.1.1;omega
 | f+1=>by
  intro x deep s A h hn h0 hd PS n1 n2 a1 a2 m1 m2 cO;obtain⟨b,l⟩:=x;have hk:=Dg (ts:=ts) hE h;rw[kw]at h;rw[xu]at hn;rw[ke]at n1⊢;rw[th]at a1⊢;rw[tf]at m1⊢;simp only[aP]at h;obtain⟨⟨h1,h2⟩,h3⟩:=h;have h1:=aQ h1;show ∃r,jJ ts (f+1) b.k s=_/\_;rw[Ly]at cO⊢;rw[jJ];cases hh:kZ b.k with
  | true=>
   obtain⟨g1,g2,g3,g4,g5,g6,g7⟩:=abX h2 hh;have h34:=aQ hh;have hl:l=[]:=bp g7;subst hl;rw[hh,if_pos rfl]at cO;have cO:At ts s.i ((1,b.nm,0)::Ws::(1,b.dft,0)::gX 59::A):=cO;obtain⟨a,e1⟩:=Ak hE h0 b.k cO (by omega) n2 (by omega);rw[if_pos (by omega),if_pos rfl,e1];dsimp only;rw[iK (s:=dx s 1 0 0 1) h0 cO.tail (by decide),cT,tB (s:=dx s (1+1) (0+0) (0+0) (1+0)) h0 cO.tail.tail];dsimp only;rw[iK (s:=dx (dx s (1+1) (0+0) (0+0) (1+0)) 1 0 0 0) h0 cO.tail.tail.tail (by decide),cT,cT];refine⟨_,?_,Df (b':={Ug with k:=b.k,nm:=b.nm,a:=a,dft:=b.dft}) ⟨rfl,rfl,g3,rfl,by rw[g4];exact Aj,by rw[g5];exact Aj,by rw[g6];exact Aj,Dc⟩ Aj⟩;congr 1;rw[j9,lC,eZ];have:wg b=0:=by unfold wg;rw[g4,g5,g6];rfl
   rw[this,g6];rfl
  | false=>
   obtain⟨g1,g2,hs⟩:=OQ h2 hh;rw[hh,if_neg (by decide)]at cO;have cO:At ts s.i ((1,b.nm,0)::gX 123::((wK b++(jX l++[gX 125]))++A)):=cO;obtain⟨a,e1⟩:=Ak hE h0 b.k cO (by omega) n2 (by omega);rw[if_neg (by omega),if_neg (by decide),e1];dsimp only;rw[iK (s:=dx s 1 0 0 1) h0 cO.tail (by decide),cT];obtain⟨r0,r1,r2,r,e2,e3,e4,e5,e6⟩:=OZ hE (O0 f) (deep:=deep) (s:=dx s (1+1) (0+0) (0+0) (1+0)) (n:={Ug with k:=b.k,nm:=b.nm,a:=a}) h3 hn.2 hs hn.1 h0 hd h1 (by omega) (by unfold dx;dsimp only;omega) (by unfold dx;dsimp only;omega) (by unfold dx;dsimp only;omega) (by unfold dx;dsimp only;omega) (by unfold dx;dsimp only;omega) (by unfold dx;dsimp only;omega) cO.tail.tail rfl rfl rfl rfl;rw[e2,cT];refine⟨_,?_,Df (b':={Ug with k:=b.k,nm:=b.nm,a:=a,ini:=b.ini,en:=r0,lv:=r1,mv:=r2}) ⟨rfl,rfl,rfl,g2,e3,e4,e5,Dc⟩ e6⟩;congr 2<;>(try simp only[aR])<;>omega
theorem ab5{s:Sx}(h0:s.fc=0){v:Int}(hv:wa v)(hm:v≠ -9223372036854775808){q:K3}{A:List K3}(cO:At ts s.i (xN v++q::A)):
  ∃g:Nat,cu ts s [[45]]=g/\(if g=0 then(fA ts (if g=0 then s else db s) 3).1.n else ar U (-(fA ts (if g=0 then s else db s) 3).1.n))=v/\(fA ts (if g=0 then s else db s) 3).2=dx s (xN v).length 0 0 0:=by
 obtain⟨h1,h2⟩:=hv;unfold xN at cO⊢;by_cases hn:v<0
 ·rw[if_pos hn]at cO⊢;have cO:At ts s.i (gX 45::(3,[], -v)::q::A):=cO;obtain⟨c1,c2,c3⟩:=tA (s:=dx s 1 0 0 0) (k:=3) h0 cO.tail rfl;refine⟨1,by rw[dB h0 cO];decide,?_,?_⟩
  ·rw[if_neg (by decide),if_neg (by decide),iw,c2];dsimp only;rw[Int.neg_neg,fH h1 h2]
  ·rw[if_neg (by decide),iw,c3,cT];rfl
 ·rw[if_neg hn]at cO⊢;have cO:At ts s.i ((3,[],v)::q::A):=cO;obtain⟨c1,c2,c3⟩:=tA (s:=s) (k:=3) h0 cO rfl;exact⟨0,by rw[dB h0 cO];rfl,by rw[if_pos rfl,if_pos rfl,c2],by rw[if_pos rfl,c3];rfl⟩
theorem ab6{s:Sx}(h0:s.fc=0)(v1:1<=s.v)(v2:s.v<=1000){v:Vr}(hv:wa v.v)(hm:v.v≠ -9223372036854775808){A:List K3}(cO:At ts s.i ((OS v).tail++A)):
  ∃r,rX ts s=(r,dx {s with v:=s.v-1} (OS v).tail.length 0 0 0)/\VrE false v r:=by
 have cO:At ts s.i ((1,v.n,0)::gX 61::((xN v.v++[gX 59])++A)):=cO;have hu:AU ts s={s with v:=s.v-1}:=by
  unfold AU;rw[if_neg (by omega),vL v1 v2]
 unfold rX;dsimp only;rw[if_pos cO.head.1,hu];generalize PN:({s with v:=s.v-1}:Sx)=s1;have e0:s1.fc=0:=by rw[<-PN];exact h0
 have cO:At ts s1.i ((1,v.n,0)::gX 61::((xN v.v++[gX 59])++A)):=by rw[<-PN];exact cO
 obtain⟨c1,c2,c3⟩:=tA (s:=s1) (k:=1) e0 cO rfl;rw[c1,c3,iK (s:=dx s1 1 0 0 0) e0 cO.tail (by decide),cT];have h2:At ts (dx s1 (1+1) (0+0) (0+0) (0+0)).i (xN v.v++gX 59::A):=by
  have:=cO.tail.tail;rw[be]at this;exact this
 obtain⟨g,g1,g2,g3⟩:=ab5 hE (s:=dx s1 (1+1) (0+0) (0+0) (0+0)) e0 hv hm h2;rw[g1,g2,g3,cT,iK (s:=dx s1 (1+1+(xN v.v).length) (0+0+0) (0+0+0) (0+0+0)) e0 (q:=gX 59) (A:=A) (by
  have h5:=h2.right;have e:(dx s1 (1+1) (0+0) (0+0) (0+0)).i+(xN v.v).length=(dx s1 (1+1+(xN v.v).length) (0+0+0) (0+0+0) (0+0+0)).i:=by unfold dx;dsimp only;omega
  rw[<-e];exact h5) (by decide),cT]
 refine⟨⟨v.n,v.v,(fA ts s1 1).1.a⟩,?_,⟨rfl,rfl,Dc⟩⟩;unfold OS;simp only[List.tail_cons,aR,aN,aZ];congr 2;omega
theorem O1:∀(l:List Vr) (f:Nat) (acc:List Vr) {s:Sx},s.fc=0->l.length<f->(l.length:Int)<=s.v->s.v<=1000->(∀v,v∈l->wa v.v/\v.v≠ -9223372036854775808)->∀{q:K3} {A:List K3},Mo q [tM]=0->At ts s.i (tS l++q::A)->
  ∃r,rY ts f acc s=(acc++r,dx {s with v:=s.v-l.length} (tS l).length 0 0 0)/\iY (VrE false) l r
 | [],f,acc,s,h0,hf,v1,v2,hv,q,A,hq,cO=>by
  obtain⟨f,rfl⟩:∃g,f=g+1:=⟨f-1,by rw[aZ]at hf;omega⟩
  have cO:At ts s.i (q::A):=cO;rw[rY,dB h0 cO,if_pos hq];refine⟨[],?_,Aj⟩;rw[bL];unfold dx tS;simp
 | v::l,f,acc,s,h0,hf,v1,v2,hv,q,A,hq,cO=>by
  rw[aR]at hf v1;obtain⟨f,rfl⟩:∃g,f=g+1:=⟨f-1,by omega⟩
  have cO:At ts s.i ((OS v++tS l)++q::A):=cO;rw[be]at cO;have QH:At ts s.i ((2,tM,0)::((OS v).tail++(tS l++q::A))):=cO;obtain⟨r,e1,e2⟩:=ab6 hE (s:=dx s 1 0 0 0) h0 (by unfold dx;dsimp only;omega) (by unfold dx;dsimp only;omega) (hv v (by simp)).1 (hv v (by simp)).2 QH.tail;rw[rY,dB h0 QH,if_neg (by decide),iw,e1];dsimp only;have e3:dx {dx s 1 0 0 0 with v:=(dx s 1 0 0 0).v-1} (OS v).tail.length 0 0 0=dx {s with v:=s.v-1} (OS v).length 0 0 0:=by
   unfold dx OS;simp only[List.tail_cons,aR,Sx.mk.injEq,true_and];refine⟨by omega,?_,?_,?_⟩<;>omega
  rw[e3];obtain⟨r2,e4,e5⟩:=O1 l f (acc++[r]) (s:=dx {s with v:=s.v-1} (OS v).length 0 0 0) h0 (by omega) (by unfold dx;dsimp only;omega) (by unfold dx;dsimp only;omega) (fun x hx=>hv x (by simp[hx])) hq cO.right;refine⟨r::r2,?_,SW e2 e5⟩;rw[e4,be,aR];simp only[eo];congr 1;unfold dx;simp only[tS,aN,Sx.mk.injEq,true_and];refine⟨by omega,by omega,?_,?_,?_⟩<;>omega
theorem FK:∀l:List Vr,l.length<=(tS l).length
 | []=>aW _
 | v::l=>by
  have:=FK l;rw[tS,aN,aR];unfold OS;rw[aR];omega
theorem S0{c:Ch}(h:pZ c=true)(hn:MD c)(cO:At ts 0 (YV c++[(5,[],0)])):(rZ ts).2.fc=0/\∀d,ChE false d c (rZ ts).1:=by
 unfold pZ at h;simp only[aP]at h;obtain⟨⟨h1,h2⟩,h3⟩:=h;replace h3:=aQ h3;obtain⟨vars,⟨b,l⟩⟩:=c;have hv:=hn.v;have hr:=hn.r;rw[xu]at hr;rw[kw]at h2;simp only[aP]at h2;obtain⟨⟨_,h4⟩,h5⟩:=h2;dsimp only at h1 h3 hv;obtain⟨q1,q2,q3,q4,q5⟩:=h3;have hk:b.k=1:=q1;rw[ke]at q3;rw[tf]at q4;rw[th]at q5;have hh:kZ b.k=false:=by rw[hk];rfl
 obtain⟨_,g2,hs⟩:=OQ h4 hh;have wV:∀v,v∈vars->wa v.v/\v.v≠ -9223372036854775808:=fun v hx=>by
  have:=(dT.1 h1) v hx;simp only[aP,bA]at this;exact⟨hv v hx,this.2⟩
 unfold YV at cO;have cO:At ts uf.i ((2,eS,0)::(1,b.nm,0)::gX 123::(tS vars++((wK b++(jX l++[gX 125]))++[(5,[],0)]))):=by
  have e:(2,eS,0)::(1,b.nm,0)::gX 123::(tS vars++((wK b++(jX l++[gX 125]))++[(5,[],0)]))=(2,eS,0)::(1,b.nm,0)::gX 123::(tS vars++(wK b++(jX l++[gX 125])))++[(5,[],0)]:=by simp[be]
  rw[e];exact cO
 have z0:uf.fc=0:=rfl;unfold rZ;dsimp only;rw[iK (s:=uf) z0 cO (by decide)];obtain⟨a,e1⟩:=Ak hE (s:=dx uf 1 0 0 0) z0 1 cO.tail (by decide) (by decide) (by decide);rw[e1];dsimp only;rw[iK (s:=dx (dx uf 1 0 0 0) 1 0 0 1) z0 cO.tail.tail (by decide),cT,cT];have YA:At ts (dx uf (1+1+1) (0+0+0) (0+0+0) (0+1+0)).i (tS vars++((wK b++(jX l++[gX 125]))++[(5,[],0)])):=cO.tail.tail.tail;obtain⟨q,B,hq,hqv⟩:∃q B,(wK b++(jX l++[gX 125]))++[((5,[],0):K3)]=q::B/\Mo q [tM]=0/\q.1≠5:=by
  obtain⟨q,B,j1,j2⟩:=FJ hE l (vO hE h5) [((5,[],0):K3)];have jv:Mo q [tM]=0:=by
   cases l with
   | nil=>
    rw[jX]at j1;have:q=gX 125:=by injection j1 with j _;exact j.symm
    rw[this];decide
   | cons x l=>
    obtain⟨C,hC⟩:=vN (ts:=ts) hE x;rw[jX,hC]at j1;have:q=(2,kW x.b.k,0):=by injection j1 with j _;exact j.symm
    obtain⟨x1,x2⟩:=vO (ts:=ts) hE h5 x (by simp);have x3:x.b.k=1∨x.b.k=2∨x.b.k=3∨x.b.k=4:=by omega
    rw[this];rcases x3 with e | e | e | e<;>rw[e]<;>decide
  have e:(wK b++(jX l++[gX 125]))++[((5,[],0):K3)]=wK b++(jX l++gX 125::[(5,[],0)]):=by simp[be]
  rw[e,j1];unfold wK HB Q1 Lw;by_cases i1:b.ini=[]
  ·rw[if_pos i1];by_cases i2:b.en=[]
   ·rw[if_pos i2];by_cases i3:b.lv=[]
    ·rw[if_pos i3];cases rq:b.mv with
     | nil=>exact⟨q,B,rfl,jv,j2.2.2⟩
     | cons m ms=>
      have:∃w C,JW m=(2,w,0)::C/\Mo (2,w,0) [tM]=0:=by
       unfold JW hdK;split
       ·exact⟨_,_,rfl,by decide⟩
       ·split
        ·exact⟨_,_,rfl,by decide⟩
        ·exact⟨_,_,rfl,by decide⟩
      obtain⟨w,C,u1,u2⟩:=this;rw[uI,u1];exact⟨_,_,rfl,u2,(by decide:(2:Int)≠5)⟩
    ·rw[if_neg i3];exact⟨_,_,rfl,by decide,(by decide:(2:Int)≠5)⟩
   ·rw[if_neg i2];exact⟨_,_,rfl,by decide,(by decide:(2:Int)≠5)⟩
  ·rw[if_neg i1];exact⟨_,_,rfl,by decide,(by decide:(2:Int)≠5)⟩
 have YC:=YA;rw[hq]at YC;have ey:=FK (ts:=ts) hE vars;have MF:=At.inr hE YC hqv.2;obtain⟨rv,e2,e3⟩:=O1 hE vars (ts.length+1) [] (s:=dx uf (1+1+1) (0+0+0) (0+0+0) (0+1+0)) z0 (by omega) (by unfold dx uf;dsimp only;omega) (by decide) wV hqv.1 YC;rw[e2];dsimp only;obtain⟨r0,r1,r2,r,e4,e5,e6,e7,e8⟩:=OZ hE (O0 hE 14) (deep:=0) (s:=dx {dx uf (1+1+1) (0+0+0) (0+0+0) (0+1+0)with v:=(dx uf (1+1+1) (0+0+0) (0+0+0) (0+1+0)).v-vars.length} (tS vars).length 0 0 0) (n:={Ug with k:=1,nm:=b.nm,a:=a}) h5 hr.2 hs hr.1 z0 rfl (by decide) (by decide) (by unfold dx uf;dsimp only;omega) (by unfold dx uf;dsimp only;omega) (by unfold dx uf;dsimp only;omega) (by unfold dx uf;dsimp only;omega) (by unfold dx uf;dsimp only;omega) (by unfold dx uf;dsimp only;omega) YA.right rfl rfl rfl rfl;rw[e4];dsimp only;rw[cT];refine⟨?_,fun d=>⟨by rw[ci];exact e3,Df (b':={Ug with k:=1,nm:=b.nm,a:=a,ini:=b.ini,en:=r0,lv:=r1,mv:=r2}) ⟨hk,rfl,rfl,g2,e5,e6,e7,Dc⟩ e8 d⟩⟩;unfold Hf;rw[if_neg]
 ·exact z0
 ·rintro⟨_,gC⟩;refine gC ?_;have h6:=YA.right.right.head.1;rw[fe]at h6;exact h6
end
theorem Lz{c:Ch}(h:pZ c=true)(hn:MD c)(hl:(xt (yw c)).length<=16384):(ia (xt (yw c))).2.1=0/\∀d,ChE false d c (ia (xt (yw c))).1:=by
 have hq:=abZ h hn;unfold Lq at hq;generalize xt (yw c)=L at*
 have QF:jC L (0+L.length)=.ok [⟨5,[],0,((L.length:Nat):Int)⟩]:=by
  have hd:L.drop L.length=[]:=dy (aW _);have h5:jq false []=0:=rfl;rw[bD,jx (aW _),hd,h5,if_pos (by omega)];rfl
 obtain⟨us,h1,h2⟩:=hq L 0 [] _ (bd _) (by rw[fK,bL]) trivial QF;generalize Rs:us++[(⟨5,[],0,((L.length:Nat):Int)⟩:Tk)]=ts at*
 have t1:cA L=(ts,0,0):=by rw[cA,if_neg (by omega),h1]
 have hE:pb ts:=by
  have:=(uE (l:=L) (by rw[t1])).1;rw[t1]at this;exact this
 have hm:ts.map k3=YV c++[(5,[],0)]:=by rw[<-Rs,dF,h2];rfl
 have cO:At ts 0 (YV c++[(5,[],0)]):=fun j q hj=>by
  rw[<-hm,cX,eP]at hj;obtain⟨t,g1,rfl⟩:=hj;have:tk ts (0+j)=t:=by
   unfold tk;rw[bD,g1];rfl
  rw[this]
 obtain⟨c1,c2⟩:=S0 hE h hn cO;unfold ia;rw[t1];dsimp only;rw[if_neg (by decide),if_neg (by rw[c1];decide)];exact⟨rfl,c2⟩
end Go.Proofs.YtmhoiicofhlgbaaGreatDoor.Con
namespace Go.Kt
open Go renaming World->av,Value->aw
open Go Go.RowKit Go.ChangeShapes Go.WideShapes
set_option linter.unusedSimpArgs false
set_option linter.unusedVariables false
def ny{α β:Type}(r:Rp α)(q:Rp β):Rp (α×β):=fun w F x cs=>∃c d,cs=c++d/\r w F x.1 c/\q w F x.2 d
def O2:Rp Unit:=fun _ _ _ cs=>cs=[]
def ab7:Rp Bool:=fun _ _ b cs=>cs=[.bool b]
section
variable {H:Type} {enc:TypeId×aw->H} {P:Program}
theorem ui(hl:laidOutB P=true){W W':av}{sp:Nat->Bool}(hb:Below W.heap.size W W'):∀{ts:List TypeId} {vs:List aw} {ds:List (DataW H)} {ps:List MemPlace},
  (∀t,t∈ts->P.readableRec t=true/\t<P.types.size)->DataW.TrodAll enc P W 0 (fun _=>true) true ts vs ds ps->(∀x,x∈ps->x.block<W.heap.size)->(∀x,x∈ps->sp x.block=true)->DataW.TrodAll enc P W' 0 sp true ts vs ds ps
 | [],vs,ds,ps,_,h,_,_=>by
  obtain⟨rfl,rfl,rfl⟩:=trodAll_nil h;exact trodAll_mk0
 | t::ts,vs,ds,ps,hr,h,bQ,Yj=>by
  obtain⟨v,KB,d,ds',p,q,rfl,rfl,rfl,h1,h2⟩:=trodAll_cons h;obtain⟨r1,r2⟩:=hr t (by simp);exact trodAll_cons_mk (WideElems.Trod_stays hl r1 r2 h1 (fun x hx=>hb.same (bQ x (by simp[hx]))) fun x hx=>Yj x (by simp[hx]))
   (ui hl hb (fun u hu=>hr u (by simp[hu])) h2 (fun x hx=>bQ x (by simp[hx])) fun x hx=>Yj x (by simp[hx]))
theorem law_post{f:Func}{s:ChangeSpec}{fresh handsOn again:Bool}{W W':av}{args:Array aw}{ds gs:List (DataW H)}{before:List MemPlace}{tb:TypeId}
  (hW:DataW.Whole enc P f.params.toList s.vars false W args.toList ds gs before) (hv:s.vars=[])
  (X6:(s.fn H (ds++gs)).results=[.lit (.bool true)]) (hargs:(s.fn H (ds++gs)).args=ds) (wV:(s.fn H (ds++gs)).vars=[])
  (ht:f.resultTypes=#[tb]) (hu:P.underlying tb=some .bool) (hl:laidOutB P=true) (YD:(f.params.toList.all fun t=>P.readableRec t&&decide (t<P.types.size))=true) (hO:Only [] W W'):
  s.post enc P f false fresh handsOn again W args (.bool true) W':=by
 have hb:Below W.heap.size W W':=hO.below (aW _) (by simp);have aex:∀t,t∈f.params.toList->P.readableRec t=true/\t<P.types.size:=fun t ht=>by simpa using dT.1 YD t ht
 have bQ:=fun p hp=>hW.lt p hp;obtain⟨p,q,hA,hV,rfl,hz,hn⟩:=id hW;rw[hv]at hV;obtain⟨rfl,rfl⟩:=trodVars_none hV;rw[bL]at*
 have Zn:∀sp:Nat->Bool,(∀x∈p,sp x.block=true)->DataW.TrodAll enc P W' 0 sp true f.params.toList args.toList (s.fn H ds).args p:=fun sp Yj=>by
  rw[hargs];exact ui hl hb aex hA (fun x hx=>by simpa using bQ x hx) Yj
 have hV':∀sp:Nat->Bool,DataW.TrodVars enc P W' sp s.vars (s.fn H ds).vars []:=fun sp=>by
  rw[hv,wV];simp[DataW.TrodVars]
 have Vg:∀(b:Nat) (sp:Nat->Bool) (hd:Bool),DataW.TrodAll enc P W' b sp hd f.resultTypes.toList ((Value.bool true).resultList f.resultTypes.size) (s.fn H ds).results []:=fun b sp hd=>by
  rw[X6,ht];exact trodAll_cons_mk (shut_bool hu true) trodAll_mk0
 have hold:∀x∈p,(fun b=>decide (b<W.heap.size)) x.block=true:=fun x hx=>by simpa using bQ x hx
 refine⟨ds,[],p,[],p,[],hW,by simpa using Vg _ _ _,by simpa using Zn _ hold,by simpa using hV' _,World.keptBut_mono (fun x hx=>⟨hx,by simpa using hx⟩) (hb.frame (· ∈p)),fun _=>?_⟩;refine⟨ok_one ht rfl (okWide_bool_mk hu true),_,_,([]++p)++[],⟨[]++p,[],trodAll_append (Zn _ (fun _ _=>rfl)) (Vg _ _ _),hV' _,rfl,?_,?_⟩,?_⟩
 ·intro b off hp;have hp:MemPlace.cell b off∈p:=by simpa using hp
  rw[hb.frozen (p:=⟨b,off,none⟩) (bQ _ hp)];exact hz b off hp
 ·intro ha;cases ha
 ·intro x hp _;simpa using hp
variable {W:av} {base:Nat} {spare:Nat->Bool} {held:Bool} {α:Type}
def BH(enc:TypeId×aw->H)(P:Program)(W:av)(base:Nat)(spare:Nat->Bool)(held:Bool)(t:TypeId)(r:Rp α):Prop:=
 ∀(eX:Nat) (cs:List aw) (x:DataW H×List MemPlace),DataW.trod enc P W base spare held eX t cs=some x->(∀n,n∈x.1.weights P t->n<=reachBytes)->∃a:α,r W (fun _=>True) a cs
theorem gM{t:TypeId}(ht:P.underlying t=some (.int .i64)):BH enc P W base spare held t uv:=fun eX cs x h _=>by
 obtain⟨n,rfl,rfl,hw⟩:=DataW.trod_int ht h;refine⟨n,rfl,?_⟩;simpa[Lit.wf,IntKind.min,IntKind.max,IntKind.signed,IntKind.bits,wa]using hw
def YW(r:Rp α)(size bytes:Nat):Rp (List α):=fun w F xs cs=>∃s:Sl,cs=[s.v]/\SliceF r size w F s xs/\xs.length*bytes<=140737488351232
theorem sD{e:TypeId}:∀{l:List (DataW H)} {d:DataW H},d∈l->∀n,n∈d.weights P e->n∈DataW.weightsAll P e l
 | d0::l,d,hd,n,hn=>by
  simp only[DataW.weightsAll,cH];rcases aY.1 hd with rfl | hd
  ·exact .inl hn
  ·exact .inr (sD hd n hn)
 | [],d,hd,_,_=>by simp at hd
theorem xy{β:Type}{p:Nat->β->Prop}:∀(n:Nat),(∀i,i<n->∃b,p i b)->∃l:List β,l.length=n/\∀i b,l[i]? =some b->p i b
 | 0,_=>⟨[],rfl,fun i b h=>by simp at h⟩
 | n+1,h=>by
  obtain⟨l,h1,h2⟩:=xy n fun i hi=>h i (by omega);obtain⟨b,hb⟩:=h n (by omega);refine⟨l++[b],by simp[h1],fun i c hc=>?_⟩;by_cases hi:i<l.length
  ·rw[bJ hi]at hc;exact h2 i c hc
  ·rw[cf (by omega)]at hc;have:i=n:=by
    have:=(bc.1 hc).1;simp at this;omega
   subst this;simp[h1]at hc;rw[<-hc];exact hb
theorem BH.map{β:Type}{t:TypeId}{r:Rp α}{q:Rp β}(h:BH enc P W base spare held t r)(f:α->β)(hf:∀a cs,r W (fun _=>True) a cs->q W (fun _=>True) (f a) cs):BH enc P W base spare held t q:=fun eX cs x hx hw=>by
 obtain⟨a,ha⟩:=h eX cs x hx hw;exact⟨f a,hf a cs ha⟩
theorem HD{t:TypeId}(ht:P.underlying t=some .bool):BH enc P W base spare held t ab7:=fun eX cs x h _=>by
 obtain⟨b,rfl,rfl⟩:=DataW.trod_bool ht h;exact⟨b,rfl⟩
theorem weights_of{ts:List TypeId}{ds:List (DataW H)}(h:(DataW.weightsEach P ts ds).all (· <=reachBytes)=true)(j:Nat){t:TypeId}{d:DataW H}(ht:ts[j]? =some t)(hd:ds[j]? =some d):∀n,n∈d.weights P t->n<=reachBytes:=
 fun n hn=>by simpa using dT.1 h n (DataW.weights_mem_each ht hd n hn)
end
end Go.Kt
