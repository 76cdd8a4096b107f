import Derived.Test.YtbkjcdocjfknfaaGreatDoorQt11
set_option linter.unusedSectionVars false
namespace Go.Proofs.YtbkjcdocjfknfaaGreatDoor.Con
open Go.Value renaming int->O,string->ab,pointer->ae,agg->ah,tuple->ai,bool->aj
open Go.IntKind renaming i64->U,wrap->ar
open Go.Ending renaming returned->ak
open _root_.ByteArray renaming mk->ao
open _root_.Go.Proofs.Tryz renaming prog->aq
open Go.Instr renaming buildSlice->au
open Go renaming World->av,Value->aw,Calls->az
open Go.Kt renaming Only->ay,SliceF->aA,Cells->aB,OnlyP->aD,Blk->aF
open Go Go.RowKit Go.Kt Go.Kt.V Go.Proofs.YtbkjcdocjfknfaaGreatDoor.Vc Go.ChangeShapes Go.WideShapes
set_option linter.unusedSimpArgs false
set_option linter.unusedVariables false
set_option maxHeartbeats 4000000
set_option maxRecDepth 100000
set_option linter.unusedSectionVars false
theorem FD{D E:Type}{B:D->Nat}{sz:E->Nat}{Q:Nat->E->Prop}:∀(xs:List D) (o:Nat),(∀j y,xs[j]? =some y->∃e,Q (o+j) e/\sz e<=B y)->
  ∃l:List E,l.length=xs.length/\(∀j e,l[j]? =some e->Q (o+j) e)/\(l.map sz).sum<=(xs.map B).sum
 | [],o,_=>⟨[],rfl,fun j p h=>by simp at h,aV _⟩
 | x::xs,o,h=>by
  obtain⟨e,h1,h2⟩:=h 0 x rfl;obtain⟨l,h3,h4,h5⟩:=FD (B:=B) (sz:=sz) (Q:=Q) xs (o+1) fun j y hj=>by
   have:=h (j+1) y hj;rwa[dJ,ku 1 j]
  refine⟨e::l,by rw[bf,bf,h3],fun j p hj=>?_,?_⟩
  ·cases j with
   | zero=>
    simp only[ck,aX]at hj;subst hj;exact h1
   | succ j=>
    have:=h4 j p hj;rwa[dJ,ku 1 j]at this
  ·rw[bE,cj,bE,cj];exact iK h2 h5
theorem xW{n:Nat}:∀{l:List Nat},n∈l->n<=l.sum
 | [],h=>by simp at h
 | x::l,h=>by
  rw[cj];rcases aQ.1 h with rfl | h
  ·omega
  ·have:=xW h;omega
theorem FE{E:Type}(f:E->Nat):∀(l:List E),∃m,∀p,p∈l->f p<=m
 | []=>⟨0,fun p h=>by simp at h⟩
 | x::l=>by
  obtain⟨m,h⟩:=FE f l;refine⟨max (f x) m,fun p hp=>?_⟩;rcases aQ.1 hp with rfl | hp
  ·exact OZ _ _
  ·exact bh (h p hp) (Kl _ _)
theorem H4{α β:Type}{r:Rp α}{q:Rp β}{size:Nat}{w:av}{F:aJ}{s:Sl}{xs:List α}(f:α->β)(h:aA r size w F s xs)(hf:∀x cs,x∈xs->r w F x cs->q w F (f x) cs):aA q size w F s (xs.map f):=by
 refine⟨by rw[bC];exact h.len,h.cap,h.nil0,h.big,fun j y hj=>?_⟩;rw[cF,fg]at hj;obtain⟨x,hx,rfl⟩:=hj;obtain⟨bs,cs,g1,g2,g3,g4,g5⟩:=h.at_ j x hx;exact⟨bs,cs,g1,g2,g3,g4,hf x cs (bG hx) g5⟩
theorem zK{α:Type}{r:Rp α}{size:Nat}{w:av}{F:aJ}{s:Sl}{xs:List α}(h:aA r size w F s xs){x:α}(hx:x∈xs):∃cs,r w F x cs:=h.mem hx
def rXU:Rp (Ex×Nat):=fun w F x cs=>rE false w F x.1 cs/\UK x.1/\zx x.1<=x.2
def Q5:Rp (Ac×Nat):=fun w F x cs=>pj false w F x.1 cs/\SO x.1/\Jw x.1<=x.2
def Vg:Rp (Mv×Nat):=fun w F x cs=>Ff false w F x.1 cs/\mvN x.1/\Fx x.1<=x.2
def af7:Rp (Vr×Nat):=fun w F x cs=>O4 w F x.1 cs/\rn x.1.v/\x.1.n.length+1<=x.2
theorem H5:∀l:List Ex,Jo l=(l.map zx).sum
 | []=>rfl
 | x::l=>by rw[Jo,bE,cj,H5 l]
theorem DL:∀l:List Ac,ir l=(l.map Jw).sum
 | []=>rfl
 | x::l=>by rw[ir,bE,cj,DL l]
theorem DM:∀l:List Mv,uJ l=(l.map Fx).sum
 | []=>rfl
 | x::l=>by rw[uJ,bE,cj,DM l]
theorem DN:∀l:List Vr,oT l=(l.map fun v=>v.n.length+1).sum
 | []=>rfl
 | x::l=>by rw[oT,bE,cj,DN l]
theorem DP:∀l:List Nd,fX l=(l.map lm).sum
 | []=>by rw[fX];rfl
 | x::l=>by rw[fX,bE,cj,DP l]
theorem wm{α:Type}{f:α->Nat}:∀{l:List (α×Nat)},(∀x,x∈l->f x.1<=x.2)->((l.map (·.1)).map f).sum<=(l.map fun x=>x.2).sum
 | [],_=>aV _
 | x::l,h=>by
  rw[bE,bE,cj,bE,cj];exact iK (h x (by simp)) (wm fun y hy=>h y (by simp[hy]))
theorem Vh(s:aK):s.data.toList.length=s.size:=by rw[kE];rfl
section
variable {H:Type} {enc:TypeId×aw->H} {W:av} {base:Nat} {spare:Nat->Bool} {held:Bool} {B:DataW H->Nat}
def Nj(enc:TypeId×aw->H)(W:av)(base:Nat)(spare:Nat->Bool)(held:Bool)(t:TypeId):Rp (DataW H):=fun _ _ x cs=>∃ep p,DataW.trod enc aq W base spare held ep t cs=some (x,p)/\∀n,n∈x.weights aq t->n<=reachBytes
theorem DQ(hB:IsBulk B)(t:TypeId):gF B enc aq W base spare held t (Nj enc W base spare held t) B:=fun ep cs x h hw=>⟨x.1,⟨ep,x.2,h,hw⟩,aV _⟩
theorem JB(hB:IsBulk B):gF B enc aq W base spare held 64 (lp rInt (lp rInt (lp Nh (lp rInt (lp (S7 (Nj enc W base spare held 64) 6 72) (lp rInt Ng))))))
  fun x=>(1+(1+((x.2.2.1.size+1)+(1+(((x.2.2.2.2.1.map B).sum+1)+(1+0))))))+1:=by
 have h:=gW (enc:=enc) (P:=aq) (W:=W) (base:=base) (spare:=spare) (held:=held) (T:=6) hB Tryz.underlying64 (by kernel_rfl)
  (db (s:=1) rfl (by kernel_rfl) (fj hB (opens_int Tryz.underlying3)) (db (s:=1) rfl (by kernel_rfl) (fj hB (opens_int Tryz.underlying3)) (db (s:=1) rfl (by kernel_rfl) (iz hB Tryz.underlying9) (db (s:=1) rfl (by kernel_rfl) (fj hB (opens_int Tryz.underlying3)) (db (s:=1) rfl (by kernel_rfl) (fP (size:=6) (bytes:=72) hB Tryz.underlying62 (by kernel_rfl) (by kernel_rfl) (DQ hB _)) (db (s:=1) rfl (by kernel_rfl) (fj hB (opens_int Tryz.underlying3)) (qT rfl)))))))
 exact h
theorem Nk(hB:IsBulk B):∀(N:Nat) {x:DataW H} {cs:aI} {F:aJ},B x<=N->Nj enc W base spare held 64 W F x cs->∃(e:Ex) (d:Nat),Hp false d W (fun _=>True) e cs/\UK e/\zx e<=B x
 | 0,x,cs,F,h,_=>by have:=hB.one x;omega
 | N+1,x,cs,F,h,⟨ep,p,ht,hw⟩=>by
  obtain⟨⟨k,n,s,op,xs,a,u⟩,hr,hm⟩:=JB (enc:=enc) (W:=W) (base:=base) (spare:=spare) (held:=held) hB ep cs (x,p) ht hw;obtain⟨c1,r1,rfl,⟨rfl,i1⟩,c2,r2,rfl,⟨rfl,i2⟩,c3,r3,rfl,⟨rfl,i3⟩,c4,r4,rfl,⟨rfl,i4⟩,c5,r5,rfl,⟨sl,rfl,pL,_⟩,c6,r6,rfl,⟨rfl,i6⟩,hu⟩:=hr;have hu:r6=[]:=hu;subst hu;dsimp only at hm pL i1 i2 i3;have Kg:∀y,y∈xs->B y<=(xs.map B).sum:=fun y hy=>xW (List.mem_map_of_mem hy);obtain⟨l,l1,l2,l3⟩:=FD (B:=B) (sz:=fun e:Ex×Nat=>zx e.1) (Q:=fun j e=>∃base cs,sl.a=some base/\cs.length=6/\aB W (base.add (j*6)) cs/\Hp false e.2 W (fun _=>True) e.1 cs/\UK e.1) xs 0 fun j y hj=>by
   rw[bJ];obtain⟨bs,ds,g1,g2,g3,g4,g5⟩:=pL.at_ j y hj;obtain⟨e,d,t1,t2,t3⟩:=Nk hB N (x:=y) (by have:=Kg y (bG hj);omega) g5;exact⟨(e,d),⟨bs,ds,g1,g3,g4,t1,t2⟩,t3⟩
  obtain⟨m,hmx⟩:=FE (fun e:Ex×Nat=>e.2) l;refine⟨.mk k n s.data.toList op (l.map (·.1)) a,m+1,⟨sl,?_,?_,fun h=>(by cases h)⟩,fun d=>?_,?_⟩
  ·have e:oO k n s.data.toList op sl a=[O U k,O U n,ab s,O U op,sl.v,O U a]:=by
    show[_,_,Value.string (T s.data.toList),_,_,_]=_;rw[<-vE s]
   exact e.symm
  ·refine⟨by rw[Ex.eN,bC,l1];exact pL.len,pL.cap,pL.nil0,pL.big,fun j e hj=>?_⟩;rw[Ex.eN,cF,fg]at hj;obtain⟨q,q1,rfl⟩:=hj;obtain⟨bs,ds,g1,g2,g3,g4,g5⟩:=l2 j q q1;rw[bJ]at g3;exact⟨bs,ds,g1,trivial,g2,g3,Fe (hmx q (bG q1)) g4⟩
  ·cases d with
   | zero=>trivial
   | succ d=>
    refine⟨i2,fun y hy=>?_⟩;obtain⟨q,q1,rfl⟩:=eT.1 hy;obtain⟨j,hj⟩:=ig q1;obtain⟨bs,ds,g1,g2,g3,g4,g5⟩:=l2 j q hj;exact g5 d
  ·rw[A5];show Jo (l.map (·.1))+(s.data.toList.length+1)<=_;rw[H5,ii,Vh];have e:(l.map (zx∘fun x=>x.1)).sum=(l.map fun e:Ex×Nat=>zx e.1).sum:=rfl;omega
theorem zL(hB:IsBulk B):gF B enc aq W base spare held 64 rXU fun x=>x.2:=fun ep cs x h hw=>by
 obtain⟨e,d,h1,h2,h3⟩:=Nk hB (B x.1) (x:=x.1) (F:=fun _=>True) (aV _) ⟨ep,x.2,h,hw⟩;exact⟨(e,B x.1),⟨⟨d,h1⟩,h2,h3⟩,aV _⟩
theorem uN(hB:IsBulk B):gF B enc aq W base spare held 196 Q5 fun x=>x.2:=by
 have h:=gW (enc:=enc) (P:=aq) (W:=W) (base:=base) (spare:=spare) (held:=held) (T:=9) hB Tryz.underlying196 (by kernel_rfl)
  (db (s:=1) rfl (by kernel_rfl) (fj hB (opens_int Tryz.underlying3)) (db (s:=1) rfl (by kernel_rfl) (iz hB Tryz.underlying9) (db (s:=6) rfl (by kernel_rfl) (zL hB) (db (s:=1) rfl (by kernel_rfl) (fj hB (opens_int Tryz.underlying3)) (qT rfl)))))
 refine h.map (fun x=>((⟨x.1,x.2.1.data.toList,x.2.2.1.1,x.2.2.2.1⟩:Ac),x.2.2.1.2+(x.2.1.size+1))) ?_;rintro⟨k,n,⟨e,m⟩,a,u⟩ cs ⟨c1,r1,rfl,⟨rfl,i1⟩,c2,r2,rfl,⟨rfl,i2⟩,c3,r3,rfl,⟨he,hn,hz⟩,c4,r4,rfl,⟨rfl,i4⟩,hu⟩;have hu:r4=[]:=hu;subst hu;refine⟨⟨⟨c3,?_,he⟩,hn,?_⟩,by dsimp only;omega⟩
 ·show _=_::Value.string (T n.data.toList)::_;rw[<-vE n];simp
 ·show zx e+(n.data.toList.length+1)<=_;rw[Vh];dsimp only at hz⊢;omega
theorem FF{w:av}{F:aJ}{s:Sl}{xs:List (Ac×Nat)}(h:aA Q5 9 w F s xs):iE false (pj false) 9 196 w F s (xs.map (·.1))/\(∀a,a∈xs.map (·.1)->SO a)/\ir (xs.map (·.1))<=(xs.map fun x=>x.2).sum:=by
 refine⟨⟨H4 (·.1) h fun x cs _ hx=>hx.1,fun h=>(by cases h)⟩,fun a ha=>?_,?_⟩
 ·obtain⟨x,hx,rfl⟩:=eT.1 ha;obtain⟨cs,hc⟩:=zK h hx;exact hc.2.1
 ·rw[DL];exact wm fun x hx=>by
   obtain⟨cs,hc⟩:=zK h hx;exact hc.2.2
theorem JC(hB:IsBulk B):gF B enc aq W base spare held 147 Vg fun x=>x.2:=by
 have h:=gW (enc:=enc) (P:=aq) (W:=W) (base:=base) (spare:=spare) (held:=held) (T:=13) hB Tryz.underlying147 (by kernel_rfl)
  (db (s:=1) rfl (by kernel_rfl) (fj hB (opens_int Tryz.underlying3)) (db (s:=1) rfl (by kernel_rfl) (iz hB Tryz.underlying9) (db (s:=1) rfl (by kernel_rfl) (fj hB (opens_int Tryz.underlying3)) (db (s:=1) rfl (by kernel_rfl) (fj hB (FC Tryz.underlying4)) (db (s:=6) rfl (by kernel_rfl) (zL hB)
  (db (s:=1) rfl (by kernel_rfl) (fP (size:=9) (bytes:=104) hB Tryz.underlying23 (by kernel_rfl) (by kernel_rfl) (uN hB)) (db (s:=1) rfl (by kernel_rfl) (fP (size:=1) (bytes:=16) hB Tryz.underlying31 (by kernel_rfl) (by kernel_rfl) (iz hB Tryz.underlying9)) (db (s:=1) rfl (by kernel_rfl) (fj hB (opens_int Tryz.underlying3)) (qT rfl)))))))))
 refine h.map (fun x=>((⟨x.1,x.2.1.data.toList,x.2.2.1,x.2.2.2.1,x.2.2.2.2.1.1,x.2.2.2.2.2.1.map (·.1),x.2.2.2.2.2.2.1.map fun s=>s.data.toList,x.2.2.2.2.2.2.2.1⟩:Mv),(((x.2.2.2.2.2.1.map fun x=>x.2).sum+x.2.2.2.2.1.2)+((x.2.2.2.2.2.2.1.map fun s=>s.size+1).sum+(x.2.1.size+1))))) ?_;rintro⟨k,ev,wt,gd,⟨g,m⟩,ac,tg,a,u⟩ cs ⟨c1,r1,rfl,⟨rfl,i1⟩,c2,r2,rfl,⟨rfl,i2⟩,c3,r3,rfl,⟨rfl,i3⟩,c4,r4,rfl,h4,c5,r5,rfl,⟨he,hn,hz⟩,c6,r6,rfl,⟨qC,rfl,F7,_⟩,c7,r7,rfl,⟨tsl,rfl,sE,_⟩,c8,r8,rfl,⟨rfl,i8⟩,hu⟩;have hu:r8=[]:=hu;have h4:c4=[aj gd]:=h4;subst hu h4;obtain⟨a1,a2,a3⟩:=FF F7;have aiV:aA im 1 W (fun _=>True) tsl (tg.map fun s=>s.data.toList):=H4 (fun s=>s.data.toList) sE fun x cs _ hx=>by
  obtain⟨rfl,_⟩:=hx;show _=[Value.string (T x.data.toList)]
  rw[<-vE x]
 refine⟨⟨⟨c5,qC,tsl,?_,he,a1,⟨aiV,fun h=>(by cases h)⟩⟩,⟨hn,a2,i3⟩,?_⟩,by dsimp only;omega⟩
 ·show _=_::Value.string (T ev.data.toList)::_;rw[<-vE ev];simp
 ·show(ir (ac.map (·.1))+zx g)+(DC (tg.map fun s=>s.data.toList)+(ev.data.toList.length+1))<=_;have e:DC (tg.map fun s=>s.data.toList)=(tg.map fun s=>s.size+1).sum:=by
   unfold DC;rw[ii];congr 1
  rw[e,Vh];dsimp only at hz a3⊢;omega
theorem Vi{w:av}{F:aJ}{s:Sl}{xs:List (Mv×Nat)}(h:aA Vg 13 w F s xs):iE false (Ff false) 13 147 w F s (xs.map (·.1))/\(∀a,a∈xs.map (·.1)->mvN a)/\uJ (xs.map (·.1))<=(xs.map fun x=>x.2).sum:=by
 refine⟨⟨H4 (·.1) h fun x cs _ hx=>hx.1,fun h=>(by cases h)⟩,fun a ha=>?_,?_⟩
 ·obtain⟨x,hx,rfl⟩:=eT.1 ha;obtain⟨cs,hc⟩:=zK h hx;exact hc.2.1
 ·rw[DM];exact wm fun x hx=>by
   obtain⟨cs,hc⟩:=zK h hx;exact hc.2.2
theorem JD(hB:IsBulk B):gF B enc aq W base spare held 95 af7 fun x=>x.2:=by
 have h:=gW (enc:=enc) (P:=aq) (W:=W) (base:=base) (spare:=spare) (held:=held) (T:=3) hB Tryz.underlying95 (by kernel_rfl)
  (db (s:=1) rfl (by kernel_rfl) (iz hB Tryz.underlying9) (db (s:=1) rfl (by kernel_rfl) (fj hB (opens_int Tryz.underlying3)) (db (s:=1) rfl (by kernel_rfl) (fj hB (opens_int Tryz.underlying3)) (qT rfl))))
 refine h.map (fun x=>((⟨x.1.data.toList,x.2.1,x.2.2.1⟩:Vr),x.1.size+1)) ?_;rintro⟨n,v,a,u⟩ cs ⟨c1,r1,rfl,⟨rfl,i1⟩,c2,r2,rfl,⟨rfl,i2⟩,c3,r3,rfl,⟨rfl,i3⟩,hu⟩;have hu:r3=[]:=hu;subst hu;refine⟨⟨?_,i2,?_⟩,by dsimp only;omega⟩
 ·show _=[Value.string (T n.data.toList),_,_]
  rw[<-vE n];rfl
 ·show n.data.toList.length+1<=_;rw[Vh];exact aV _
theorem JE(hB:IsBulk B):gF B enc aq W base spare held 27 (lp rInt (lp Nh (lp Nh (lp Nh (lp (S7 Q5 9 104) (lp (S7 Q5 9 104) (lp (S7 Vg 13 168) (lp (S7 (Nj enc W base spare held 27) 9 160) (lp rInt Ng)))))))))
  fun x=>(1+((x.2.1.size+1)+((x.2.2.1.size+1)+((x.2.2.2.1.size+1)+(((x.2.2.2.2.1.map fun x=>x.2).sum+1)+(((x.2.2.2.2.2.1.map fun x=>x.2).sum+1)+(((x.2.2.2.2.2.2.1.map fun x=>x.2).sum+1)+(((x.2.2.2.2.2.2.2.1.map B).sum+1)+(1+0)))))))))+1:=by
 have h:=gW (enc:=enc) (P:=aq) (W:=W) (base:=base) (spare:=spare) (held:=held) (T:=9) hB Tryz.underlying27 (by kernel_rfl)
  (db (s:=1) rfl (by kernel_rfl) (fj hB (opens_int Tryz.underlying3)) (db (s:=1) rfl (by kernel_rfl) (iz hB Tryz.underlying9) (db (s:=1) rfl (by kernel_rfl) (iz hB Tryz.underlying9) (db (s:=1) rfl (by kernel_rfl) (iz hB Tryz.underlying9)
  (db (s:=1) rfl (by kernel_rfl) (fP (size:=9) (bytes:=104) hB Tryz.underlying23 (by kernel_rfl) (by kernel_rfl) (uN hB)) (db (s:=1) rfl (by kernel_rfl) (fP (size:=9) (bytes:=104) hB Tryz.underlying23 (by kernel_rfl) (by kernel_rfl) (uN hB))
  (db (s:=1) rfl (by kernel_rfl) (fP (size:=13) (bytes:=168) hB Tryz.underlying24 (by kernel_rfl) (by kernel_rfl) (JC hB)) (db (s:=1) rfl (by kernel_rfl) (fP (size:=9) (bytes:=160) hB Tryz.underlying25 (by kernel_rfl) (by kernel_rfl) (DQ hB _)) (db (s:=1) rfl (by kernel_rfl) (fj hB (opens_int Tryz.underlying3)) (qT rfl))))))))))
 exact h
theorem H6:∀{l:List Nd},(∀x,x∈l->Ht x)->xH l
 | [],_=>by rw[xH];trivial
 | x::l,h=>by
  rw[xH];exact⟨h x (by simp),H6 fun y hy=>h y (by simp[hy])⟩
theorem Nl(hB:IsBulk B):∀(N:Nat) {x:DataW H} {cs:aI} {F:aJ},B x<=N->Nj enc W base spare held 27 W F x cs->∃(e:Nd) (d:Nat),mr false d W (fun _=>True) e cs/\Ht e/\lm e<=B x
 | 0,x,cs,F,h,_=>by have:=hB.one x;omega
 | N+1,x,cs,F,h,⟨ep,p,ht,hw⟩=>by
  obtain⟨⟨k,nm,ini,dft,en,lv,mv,xs,a,u⟩,hr,hm⟩:=JE (enc:=enc) (W:=W) (base:=base) (spare:=spare) (held:=held) hB ep cs (x,p) ht hw;obtain⟨c1,r1,rfl,⟨rfl,i1⟩,c2,r2,rfl,⟨rfl,i2⟩,c3,r3,rfl,⟨rfl,i3⟩,c4,r4,rfl,⟨rfl,i4⟩,c5,r5,rfl,⟨ens,rfl,B9,_⟩,c6,r6,rfl,⟨lvs,rfl,Ca,_⟩,c7,r7,rfl,⟨mvs,rfl,ot,_⟩,c8,r8,rfl,⟨sl,rfl,pL,_⟩,c9,r9,rfl,⟨rfl,i9⟩,hu⟩:=hr;have hu:r9=[]:=hu;subst hu;dsimp only at hm pL B9 Ca ot;have Kg:∀y,y∈xs->B y<=(xs.map B).sum:=fun y hy=>xW (List.mem_map_of_mem hy);obtain⟨l,l1,l2,l3⟩:=FD (B:=B) (sz:=fun e:Nd×Nat=>lm e.1) (Q:=fun j e=>∃base cs,sl.a=some base/\cs.length=9/\aB W (base.add (j*9)) cs/\mr false e.2 W (fun _=>True) e.1 cs/\Ht e.1) xs 0 fun j y hj=>by
   rw[bJ];obtain⟨bs,ds,g1,g2,g3,g4,g5⟩:=pL.at_ j y hj;obtain⟨e,d,t1,t2,t3⟩:=Nl hB N (x:=y) (by have:=Kg y (bG hj);omega) g5;exact⟨(e,d),⟨bs,ds,g1,g3,g4,t1,t2⟩,t3⟩
  obtain⟨m,hmx⟩:=FE (fun e:Nd×Nat=>e.2) l;obtain⟨a1,a2,a3⟩:=FF B9;obtain⟨b1,b2,b3⟩:=FF Ca;obtain⟨d1,d2,d3⟩:=Vi ot;refine⟨.mk ⟨k,nm.data.toList,ini.data.toList,dft.data.toList,en.map (·.1),lv.map (·.1),mv.map (·.1),a⟩ (l.map (·.1)),m+1,⟨ens,lvs,mvs,sl,?_,⟨a1,b1,d1⟩,?_,fun h=>(by cases h)⟩,?_,?_⟩
  ·show _=[_,Value.string (T nm.data.toList),Value.string (T ini.data.toList),Value.string (T dft.data.toList),_,_,_,_,_]
   rw[<-vE nm,<-vE ini,<-vE dft];rfl
  ·refine⟨by rw[Nd.kids,bC,l1];exact pL.len,pL.cap,pL.nil0,pL.big,fun j e hj=>?_⟩;rw[Nd.kids,cF,fg]at hj;obtain⟨q,q1,rfl⟩:=hj;obtain⟨bs,ds,g1,g2,g3,g4,g5⟩:=l2 j q q1;rw[bJ]at g3;exact⟨bs,ds,g1,trivial,g2,g3,UJ (hmx q (bG q1)) g4⟩
  ·rw[Ht];refine⟨⟨a2,b2,d2⟩,H6 fun y hy=>?_⟩;obtain⟨q,q1,rfl⟩:=eT.1 hy;obtain⟨j,hj⟩:=ig q1;obtain⟨bs,ds,g1,g2,g3,g4,g5⟩:=l2 j q hj;exact g5
  ·rw[lm,DP,ii];unfold zG;dsimp only;rw[Vh,Vh,Vh];have e:(l.map (lm∘fun x=>x.1)).sum=(l.map fun e:Nd×Nat=>lm e.1).sum:=rfl;omega
def af8:Rp (Nd×Nat):=fun w F x cs=>∃d,mr false d w F x.1 cs/\Ht x.1/\lm x.1<=x.2
theorem JF(hB:IsBulk B):gF B enc aq W base spare held 27 af8 fun x=>x.2:=fun ep cs x h hw=>by
 obtain⟨e,d,h1,h2,h3⟩:=Nl hB (B x.1) (x:=x.1) (F:=fun _=>True) (aV _) ⟨ep,x.2,h,hw⟩;exact⟨(e,B x.1),⟨d,h1,h2,h3⟩,aV _⟩
def rChU:Rp (Ch×Nat):=fun w F x cs=>∃(D:Nat) (vs:Sl) (ui:aI),cs=vs.v::ui/\ChR false D w F x.1 vs ui/\PC x.1/\oT x.1.vars+lm x.1.root<=x.2
theorem opensB_ch(hB:IsBulk B):gF B enc aq W base spare held 29 rChU fun x=>x.2:=by
 have h:=gW (enc:=enc) (P:=aq) (W:=W) (base:=base) (spare:=spare) (held:=held) (T:=10) hB Tryz.underlying29 (by kernel_rfl)
  (db (s:=1) rfl (by kernel_rfl) (fP (size:=3) (bytes:=32) hB Tryz.underlying22 (by kernel_rfl) (by kernel_rfl) (JD hB)) (db (s:=9) rfl (by kernel_rfl) (JF hB) (qT rfl)))
 refine h.map (fun x=>((⟨x.1.map (·.1),x.2.1.1⟩:Ch),(x.1.map fun x=>x.2).sum+x.2.1.2)) ?_;rintro⟨vs,⟨nd,m⟩,u⟩ cs ⟨c1,r1,rfl,⟨vsl,rfl,yC,_⟩,c2,r2,rfl,⟨d,hnd,hn,hz⟩,hu⟩;have hu:r2=[]:=hu;subst hu;rw[bN];refine⟨⟨d,vsl,c2,rfl,⟨⟨H4 (·.1) yC fun x cs _ hx=>hx.1,fun h=>(by cases h)⟩,hnd⟩,⟨fun v hv=>?_,hn⟩,?_⟩,by dsimp only;omega⟩
 ·obtain⟨x,hx,rfl⟩:=eT.1 hv;obtain⟨cs,hc⟩:=zK yC hx;exact hc.2.1
 ·show oT (vs.map (·.1))+lm nd<=_;rw[DN];have:=wm (f:=fun v:Vr=>v.n.length+1) (l:=vs) fun x hx=>by
   obtain⟨cs,hc⟩:=zK yC hx;exact hc.2.2
  dsimp only at hz⊢;omega
end
def qs(xs L:List du)(a:Nat):Prop:=∀(i:Nat) (x:du),L[i]? =some x->xs[a+i]? =some x
theorem qs.left{xs L M:List du}{a:Nat}(h:qs xs (L++M) a):qs xs L a:=fun i x hi=>h i x (by rw[bM (jm hi)];exact hi)
theorem qs.right{xs L M:List du}{a:Nat}(h:qs xs (L++M) a):qs xs M (a+L.length):=fun i x hi=>by
 rw[dJ];exact h _ x (by rw[bX (by omega),dH];exact hi)
theorem oV{c:Ch}(h:(fz c).1=0):(fI c).2=0/\Dx c=[]:=by
 unfold fz at h;by_cases hp:(fI c).2≠0
 ·rw[if_pos hp]at h;exact absurd h hp
 ·rw[if_neg hp]at h;exact⟨Gi.1 hp,MB (MH c) h⟩
section
variable {w w':av} {F G:aJ} {s:Sl} {xs:List du}
theorem Q6{k0:Nat}(x:du)(n:aH)(hB:aF w k0 9 [ab (T n)]):az aq 177 #[ah (U9 x).toArray,ae (some ⟨k0,0,none⟩)] w fun e w'=>e=ak (aj (decide (x.nm=n)))/\ay [] w w':=by
 refine ret (afz _ _ _ _ _ _ _ _ ?_);intro k1 w0 hk iq hO;exact⟨_,(hO.blk hB (by simp)).cells 0 [_] fun j v hj=>(by rw[bJ];exact hj),by rw[kH],hO⟩
theorem FG{n:aH}{j:Nat}{x:du}(hj:xs[j]? =some x)(h:∀y,y∈xs.take j->y.nm≠n)(e:x.nm=n):fW xs n=j:=by
 unfold fW;have hl:=jm hj;have:rA n (xs.map fun x:du=>x.nm)=j:=by
  have e1:xs.map (fun x:du=>x.nm)=(xs.take j).map (fun x:du=>x.nm)++n::(xs.drop (j+1)).map fun x:du=>x.nm:=by
   rw[<-e,<-bE,<-cN];congr 1;rw[<-(aY.1 hj).2,List.getElem_cons_drop,dD]
  rw[e1,Ba]
  ·rw[bC,cO];omega
  ·intro hm;obtain⟨y,hy,e'⟩:=eT.1 hm;exact h y hy e'
 rw[this,if_pos hl]
theorem Vj(h:aA xT 5 w F s xs)(n:aH):az aq 129 #[s.v,ab (T n)] w fun e w'=>e=ak (O U (fW xs n))/\ay [] w w':=by
 refine ret (afy _ _ _ _ ?_);intro k0 w0 gH eW cE wy;have hl:=h.len;have PD:=h.cap;have yj:=h.big;refine(ZC s ⟨.func (.func 177) #[] #[ae (some ⟨k0,0,none⟩)],rfl⟩ (fun v w'=>v=O U (fW xs n)/\ay [] w0 w') w0 ?_).mono (by
  rintro _ w' ⟨v,rfl,rfl,hO⟩;exact⟨_,rfl,_,hO.blk wy (by simp),rfl,cE.cp hO⟩)
 refine⟨fun kv i u=>∃j:Nat,i=(j:Int)/\kv+j=xs.length/\j<=xs.length/\(∀y,y∈xs.take j->y.nm≠n)/\ay [] w0 u,xs.length,⟨0,rfl,by omega,bp _,by simp,Only.refl _ _⟩,?_⟩;rintro kv _ u ⟨j,rfl,u5,hj,hh,hO⟩;refine⟨fun hc=>?_,fun hc=>?_⟩
 ·have hc:=aP hc;obtain⟨x,hx⟩:=mf (xs:=xs) (i:=j) (by omega);obtain⟨ad,a1,a2,_⟩:=pu (SliceF.only ey (by decide) h (cE.cp hO) (by simp)) hx;refine⟨ad,a1,_,_,_,_,_,a2,177,[],[ae (some ⟨k0,0,none⟩)],rfl,gN (by kernel_rfl),(Q6 x n (hO.blk wy (by simp))).mono ?_⟩;rintro _ u1 ⟨rfl,cA⟩;refine⟨_,rfl,fun hb=>⟨?_,hO.cp cA⟩,fun hb=>⟨kv-1,by omega,j+1,by rw[fQ (by omega) (by omega)];rfl,by omega,by omega,fun y hy=>?_,hO.cp cA⟩⟩
  ·rw[FG hx hh (aP hb)]
  ·rw[bH,hx,cr]at hy;rcases hy with hy | hy
   ·exact hh y hy
   ·simp only[Option.toList,aN]at hy;subst hy;exact aU hb
 ·have hc:=aU hc;rw[bA (by omega)]at hh;refine⟨?_,hO⟩;rcases mN xs n with⟨e,_⟩ | ⟨i,x,_,hx,e⟩
  ·rw[e]
  ·exact absurd e (hh x (bG hx))
end
end Go.Proofs.YtbkjcdocjfknfaaGreatDoor.Con
set_option linter.unusedSectionVars false
namespace Go.Proofs.YtbkjcdocjfknfaaGreatDoor.Con
open Go.Value renaming int->O,string->ab,pointer->ae,agg->ah,tuple->ai,bool->aj
open Go.IntKind renaming i64->U,wrap->ar
open Go.Ending renaming returned->ak
open _root_.ByteArray renaming mk->ao
open _root_.Go.Proofs.Tryz renaming prog->aq
open Go.Instr renaming buildSlice->au
open Go renaming World->av,Value->aw,Calls->az
open Go.Kt renaming Only->ay,SliceF->aA,Cells->aB,OnlyP->aD,Blk->aF
open Go Go.RowKit Go.Kt Go.Kt.V Go.Proofs.YtbkjcdocjfknfaaGreatDoor.Vc
set_option linter.unusedSimpArgs false
set_option linter.unusedVariables false
set_option maxHeartbeats 1600000
set_option maxRecDepth 100000
set_option linter.unusedSectionVars false
def sL(xs:List du)(s:aH):Int:=if s=[]then -1 else fW xs s
def Nn(xs:List du)(l:List Int):Nat->Int
 | 0=> -1
 | n+1=>if(l.all fun k=>nR xs n k)=true then n else Nn xs l n
def Vk(xs:List du)(n:Int):Bool:=decide (0<=n)&&decide (n<xs.length)
theorem DR{xs:List du}{n:Int}:Vk xs n=true↔vM xs n:=by
 unfold Vk vM;rw[aR,bW,bW]
def Vl(xs:List du)(l:List Int):Int:=if l=[]∨(l.any fun n=>!Vk xs n)=true then -1 else Nn xs l xs.length
theorem tS(xs:List du)(l:List Int):∀n:Nat,(Nn xs l n= -1/\∀m,m<n->(l.all fun k=>nR xs m k)=false)∨∃m:Nat,Nn xs l n=m/\m<n/\(l.all fun k=>nR xs m k)=true/\∀j,m<j->j<n->(l.all fun k=>nR xs j k)=false
 | 0=>.inl ⟨rfl,fun m h=>by omega⟩
 | n+1=>by
  unfold Nn;by_cases h:(l.all fun k=>nR xs n k)=true
  ·rw[if_pos h];exact .inr ⟨n,rfl,by omega,h,fun j h1 h2=>by omega⟩
  ·rw[if_neg h];have h:(l.all fun k=>nR xs n k)=false:=by simpa using h
   rcases tS xs l n with⟨h1,h2⟩ | ⟨m,h1,h2,h3,h4⟩
   ·exact .inl ⟨h1,fun m hm=>(Nat.lt_succ_iff_lt_or_eq.1 hm).elim (h2 m) fun e=>by rw[e];exact h⟩
   ·exact .inr ⟨m,h1,by omega,h3,fun j h5 h6=>(Nat.lt_succ_iff_lt_or_eq.1 h6).elim (h4 j h5) fun e=>by rw[e];exact h⟩
theorem wo{xs:List du}{l:List Int}{m:Nat}:(l.all fun k=>nR xs m k)=true↔∀n:Int,n∈l->∃k:Nat,n=k/\rC xs m k:=by
 rw[eb];constructor
 ·intro h n hn;obtain⟨i,j,h1,h2,h3⟩:=qj.1 (h n hn);have:i=m:=by omega
  subst this;exact⟨j,h2,h3⟩
 ·intro h n hn;obtain⟨k,h1,h2⟩:=h n hn;exact qj.2 ⟨m,k,rfl,h1,h2⟩
theorem Fo.aak{xs:List du}(F:Fo xs){l:List Int}{r:Int}(h:Mt xs l r):r=Vl xs l:=by
 unfold Vl;rcases h with⟨h1,h2⟩ | ⟨⟨h1,h2⟩,m,h3,h4,h5⟩
 ·rw[if_pos,h2];rcases h1 with h1 | ⟨n,hn,hb⟩
  ·exact .inl h1
  ·refine .inr (Ko.2 ⟨n,hn,?_⟩);rw[dK,dL];exact fun h=>hb (DR.1 h)
 ·rw[if_neg]
  ·obtain⟨n,hn⟩:=List.exists_mem_of_ne_nil l h1;obtain⟨k,_,hk⟩:=h4 n hn;have hm:m<xs.length:=by
    obtain⟨s,hs,_⟩:=hk;exact jm hs
   rcases tS xs l xs.length with⟨_,g⟩ | ⟨q,g1,g2,g3,g4⟩
   ·have:=g m hm;rw[wo.2 h4]at this;cases this
   ·have hq:=h5 q (wo.1 g3);have:m<=q:=by
     refine oh fun hl=>?_;have:=g4 m hl hm;rw[wo.2 h4]at this;cases this
    rw[g1,h3];omega
  ·rintro(h | h)
   ·exact h1 h
   ·obtain⟨n,hn,hb⟩:=Ko.1 h;rw[DR.2 (h2 n hn)]at hb;cases hb
def DS(xs:List du)(l:List Int):Nat->Int->Int
 | 0,d=>d
 | n+1,d=>if 0<d/\(mX xs d≠1∨d∈l)then DS xs l n (Fk xs d)else d
def Bk(xs:List du)(src:Int)(tg:List Int):Int:=if tg=[]then -1 else DS xs (src::tg) xs.length (Vl xs (src::tg))
structure Ro where
 src:Int
 slot:Int
 k:Int
 ev:aH
 wt:Int
 tg:List Int
 dom:Int
def JG(xs:List du)(a i:Nat)(m:Mv):Ro:=⟨a,i,m.k,m.ev,m.wt,m.tg.map (sL xs),Bk xs a (m.tg.map (sL xs))⟩
def wq(xs:List du)(a:Nat):Nat->List Mv->List Ro
 | _,[]=>[]
 | i,m::l=>JG xs a i m::wq xs a (i+1) l
mutual
def B3(xs:List du):Nat->Nd->List Ro
 | a,.mk b l=>wq xs a 0 b.mv++kj xs (a+1) l
def kj(xs:List du):Nat->List Nd->List Ro
 | _,[]=>[]
 | a,x::l=>B3 xs a x++kj xs (a+gp x) l
end
mutual
def B4:Nd->List Nb
 | .mk b l=>b::vQ l
def vQ:List Nd->List Nb
 | []=>[]
 | x::l=>B4 x++vQ l
end
structure Pl where
 sp:List du
 ini:List Int
 dft:List Int
 ro:List Ro
def vp(c:Ch):Pl:=⟨eY c,(B4 c.root).map fun b=>sL (eY c) b.ini,(B4 c.root).map fun b=>sL (eY c) b.dft,B3 (eY c) 0 c.root⟩
theorem Bl:∀l m:List Nd,vQ (l++m)=vQ l++vQ m
 | [],m=>by rw[cf,vQ,cf]
 | x::l,m=>by rw[bZ,vQ,vQ,Bl l m,bF]
mutual
theorem tT:∀x,(B4 x).length=gp x
 | .mk b l=>by rw[B4,gp,bf,tU]
theorem tU:∀l,(vQ l).length=di l
 | []=>by rw[vQ,di];rfl
 | x::l=>by rw[vQ,di,aO,tT,tU]
end
theorem xX(xs:List du):∀(l m:List Nd) (a:Nat),kj xs a (l++m)=kj xs a l++kj xs (a+di l) m
 | [],m,a=>by rw[cf,kj,cf,di,dx]
 | x::l,m,a=>by rw[bZ,kj,kj,xX xs l m,bF,di,dJ]
theorem xY(xs:List du)(a:Nat):∀(l:List Mv) (i:Nat) (m:Mv),wq xs a i (l++[m])=wq xs a i l++[JG xs a (i+l.length) m]
 | [],i,m=>rfl
 | x::l,i,m=>by
  rw[bZ,wq,wq,xY xs a l,bZ,bf];congr 4;omega
theorem kB(xs:List du)(a:Nat):∀(l:List Mv) (i:Nat),(wq xs a i l).length=l.length
 | [],_=>rfl
 | x::l,i=>by rw[wq,bf,bf,kB xs a l]
theorem fD.sl{B:Nat}{w:av}{s:Sl}{xs:List Int}(h:fD B w s xs):aA rInt 1 w (fun k=>B<=k) s xs:=(h.slice cx).mono cx fun k hk=>hk.elim (fun h=>h.elim) fun h=>h.1
theorem oW{w:av}{F:aJ}{s:Sl}{l:List Int}(h:aA rInt 1 w F s l){i:Nat}{x:Int}(hx:l[i]? =some x):∃ad,dy s (i:Int) 1 ad/\aB w ad [O U x]:=by
 have bQ:=(aY.1 hx).1;have hl:=h.len;obtain⟨ad,y,cs,g1,g2,g3,g4,g5,g6⟩:=h.get (bm i) (by omega);rw[aZ,hx]at g2;injection g2 with g2;subst g2;obtain⟨rfl,_⟩:=g6;exact⟨ad,g1,g5⟩
theorem kI{w w':av}{F:aJ}{s:Sl}{l:List Int}(h:aA rInt 1 w F s l)(hO:ay [] w w'):aA rInt 1 w' F s l:=SliceF.only cx (by decide) h hO (by simp)
def eE(s:Sl)(k:Nat):Prop:=s.a=some ⟨k,0,none⟩
theorem Np{w:av}{F:aJ}{s:Sl}{l:List Int}(h:aA rInt 1 w F s l)(c:Int):
  az aq 99 #[Sl.v s,O U c] w fun e w'=>∃i:Int,e=ak (O U i)/\decide (i>=0)=decide (c∈l)/\ay [] w w':=by
 refine(ZL s c (fun v w'=>∃i:Int,v=O U i/\decide (i>=0)=decide (c∈l)/\ay [] w w') w ?_).mono (by
  rintro e w' ⟨v,rfl,i,rfl,h⟩;exact⟨i,rfl,h⟩)
 have eH:=h.len;have pE:=h.big;have mY:=h.cap;refine⟨fun nv i w'=>∃n:Nat,n<=l.length/\i=(n:Int)/\nv=l.length-n/\(∀x,x∈l.take n->x≠c)/\w'=w,l.length,⟨0,bp _,rfl,rfl,by simp,rfl⟩,?_⟩;rintro nv _ u ⟨n,hn,rfl,rfl,hp,hu⟩;obtain rfl:w=u:=hu.symm;refine⟨fun hc=>?_,fun hc=>?_⟩
 ·have bQ:(n:Int)<s.n:=aP hc;have hnl:n<l.length:=by omega
  obtain⟨ad,g1,g5⟩:=oW h (bB hnl);refine⟨ad,g1,_,g5,fun he=>⟨_,rfl,?_,Only.refl _ _⟩,fun he=>⟨l.length-(n+1),by omega,n+1,by omega,by rw[fQ (by omega) (by omega)];rfl,rfl,?_,rfl⟩⟩
  ·have he:c=l[n]:=by simpa using he
   rw[bI (by omega)];symm;rw[dz,he];exact oq hnl
  ·have he:c≠l[n]:=by simpa using he
   intro y hy;rw[bH,bB hnl]at hy;simp only[lM,cr,aN]at hy;rcases hy with hy | rfl
   ·exact hp y hy
   ·exact fun e=>he e.symm
 ·have sP:¬((n:Int)<s.n):=aU hc;rw[bA (by omega)]at hp;refine⟨_,rfl,?_,Only.refl _ _⟩;rw[bq (by omega)];exact(bq fun hh=>hp c hh rfl).symm
theorem DT{w:av}{F:aJ}{s:Sl}{l:List Int}(h:aA rInt 1 w F s l)(c:Int):
  az aq 56 #[Sl.v s,O U c] w fun e w'=>e=ak (aj (decide (c∈l)))/\ay [] w w':=by
 refine ret (ZJ _ _ _ _ ?_);refine(Np h c).mono ?_;rintro _ w1 ⟨i,rfl,hi,hO⟩;exact⟨i,rfl,by rw[hi],hO⟩
theorem Z8(u:av){a:Int}(ha:rn a):∃y w1,(au 32 1 #[.mk 0 (O U a)]).run aq u=.ok (Sl.v y) w1/\ay [] u w1/\fD u.heap.size w1 y [a]:=by
 obtain⟨y,w1,k1,k2,k3,_⟩:=gV (P:=aq) (t:=32) (e:=3) (i:=Tryz.t3) (z:=O U 0) (w:=u) (F:=fun _=>False) (vs:=[O U a]) (parts:=#[.mk 0 (O U a)]) (len:=1) (xs:=[a]) (r:=rInt) (size:=1) (by kernel_rfl) (by kernel_rfl) rfl rfl (by decide) rfl rfl (by decide) (by decide) cx ⟨⟨rfl,rfl,ha⟩,trivial⟩;exact⟨y,w1,k1,k3,k2⟩
theorem Z9{A:Nat}{u:av}{s y:Sl}{is js:List Int}{G:aJ}(h:fD A u s is)(hA:A<=u.heap.size)(hy:aA rInt 1 u G y js)(hG:∀k,G k->¬eE s k)(hm:is.length+js.length<=1000000000):
  ∃s' w2,(Builtin.append_ #[32,32] 32 #[Sl.v s,Sl.v y]).run aq u=.ok (Sl.v s') w2/\fD A w2 s' (is++js)/\aD (eE s) u w2:=by
 obtain⟨s',w2,g1,g2,gs,g3,g4,g5⟩:=oA (P:=aq) (t:=32) (ty:=32) (e:=3) (i:=Tryz.t3) (bytes:=8) (size:=1) (r:=rInt) (F:=fun _=>True) (y:=y) (ys:=js) (by kernel_rfl) (by kernel_rfl) rfl rfl rfl rfl cx (h.mono cx fun k hk=>trivial) (hy.mono cx fun k hk=>⟨trivial,hG k hk⟩) hA (by omega) (by decide);exact⟨s',w2,g1,fD.of g2,g3.p fun g hg=>.inl (g4 g hg).1⟩
theorem Vm{A:Nat}{u:av}{s:Sl}{is:List Int}(h:fD A u s is)(hA:A<=u.heap.size){n:Int}(hn:rn n)(hm:is.length<=20000000):
  ∃y w1,(au 32 1 #[.mk 0 (O U n)]).run aq u=.ok (Sl.v y) w1/\ay [] u w1/\∃s' w2,(Builtin.append_ #[32,32] 32 #[Sl.v s,Sl.v y]).run aq w1=.ok (Sl.v s') w2/\fD A w2 s' (is++[n])/\aD (eE s) w1 w2/\∀k,eE s' k->eE s k∨u.heap.size<=k:=by
 obtain⟨y,w1,k1,k3,s',w2,g1,g2,⟨gs,g3,g4⟩,g5⟩:=ja (P:=aq) (t:=32) (ty:=32) (e:=3) (i:=Tryz.t3) (bytes:=8) (size:=1) (r:=rInt) (G:=fun _=>False) (v:=O U n) (x:=n) (by kernel_rfl) (by kernel_rfl) rfl rfl rfl rfl (by decide) (by decide) (by decide) cx h hA rfl ⟨rfl,hn⟩ (fun _ h=>h.elim) (by omega);refine⟨y,w1,k1,k3,s',w2,g1,fD.of g2,g3.p fun g hg=>.inl (g4 g hg).1,fun k hk=>?_⟩;unfold eE at hk⊢;rcases g5 with e | ⟨g,e,h⟩
 ·exact .inl (by rw[<-e];exact hk)
 ·rw[e]at hk;injection hk with hk;injection hk with hk;exact .inr (by omega)
section
variable {w w':av} {F G:aJ} {s:Sl} {xs:List du} {b:Nat} {ty:TypeId} {x1 x2 x3:aw}
theorem Nq(hB:aF w b ty [s.v,x1,x2,x3])(h:aA xT 5 w F s xs)(n:aH):az aq 88 #[ae (some ⟨b,0,none⟩),ab (T n)] w fun e w'=>e=ak (O U (sL xs n))/\ay [] w w':=by
 refine ret (afK _ _ _ _ ?_);have q0:((T n).toList==(ao #[]).toList)=decide (n=[]):=kH n [];rw[q0];refine⟨fun hc=>⟨?_,Only.refl _ _⟩,fun hc=>⟨s,Blk.dT hB 0 rfl,(Vj h n).mono ?_⟩⟩
 ·unfold sL;rw[if_pos (aP hc)]
 ·rintro _ w0 ⟨rfl,hO⟩;exact⟨_,rfl,by unfold sL;rw[if_neg (aU hc)],hO⟩
theorem Vn(xs:List du)(n:aH):sL xs n= -1∨∃j:Nat,sL xs n=j/\j<xs.length:=by
 unfold sL;split
 ·exact .inl rfl
 ·exact xV xs n
theorem JH(hB:aF w b ty [s.v,x1,x2,x3])(h:aA xT 5 w F s xs)(hF:Fo xs)(tY:xs.length<=1000000){sT:Sl}{tg:List Int}(hT:aA rInt 1 w G sT tg)(hm:tg.length<=20000000){a:Nat}(ha:a<=1000000):
  az aq 89 #[ae (some ⟨b,0,none⟩),O U (a:Int),sT.v] w fun e w'=>e=ak (O U (Bk xs a tg))/\ay [] w w':=by
 refine ret (afL _ _ _ _ _ ?_);have hl:=hT.len;refine⟨fun hc=>⟨?_,Only.refl _ _⟩,fun hc=>?_⟩
 ·have hc:(sT.n:Int)=0:=by simpa using hc
  have:tg=[]:=ca (by omega);unfold Bk;rw[if_pos this]
 have hc:¬(sT.n:Int)=0:=by simpa using hc
 have gL:tg≠[]:=fun e=>hc (by rw[e]at hl;simp at hl;omega);obtain⟨y,w0,k1,k3,k2⟩:=Z8 w (a:=(a:Int)) ⟨by omega,by omega⟩;have z0:=k3.size;have hT0:aA rInt 1 w0 (fun k=>G k/\k<w.heap.size) sT tg:=kI (SliceF.inHeap cx hT (by decide)) k3;obtain⟨q,w1,g1,g2,g3⟩:=Z9 k2 z0 hT0 (fun k hk e=>by have:=(k2.blk e).1;dsimp only at this;omega) (by rw[bK];omega);have o1:ay [] w w1:=(k3.oZ (g3.mono (G:=fun k=>w.heap.size<=k) fun k _ e=>by have:=(k2.blk e).1;exact this)).only fun k hk=>hk;refine⟨y,w0,k1,q,w1,g1,s,Blk.dT (o1.blk hB (by simp)) 0 rfl,(M4 (SliceF.only ey (by decide) h o1 (by simp)) hF (g2.slice cx)).mono ?_⟩;rintro _ w2 ⟨⟨r,rfl,hr⟩,cR⟩;have o2:=o1.cp cR;have er:=hF.aak hr;have e1:[(a:Int)]++tg=(a:Int)::tg:=rfl;rw[e1]at er g2;have hrl:r<xs.length:=by
  have hl:=hF.ne;rw[er];unfold Vl;split
  ·omega
  ·rcases tS xs ((a:Int)::tg) xs.length with⟨g,_⟩ | ⟨m,g1,g2,_,_⟩<;>omega
 refine⟨r,rfl,fun kv d u=>DS xs ((a:Int)::tg) kv d=Bk xs a tg/\d<xs.length/\d<=kv/\ay [] w u/\ay [] w1 u,xs.length,⟨?_,hrl,by omega,o2,cR⟩,?_⟩
 ·unfold Bk;rw[if_neg gL,er]
 rintro kv d w3 ⟨hd,zQ,hdk,o3,p3⟩;refine⟨fun c u=>c=decide (0<d/\(mX xs d≠1∨d∈(a:Int)::tg))/\ay [] w u/\ay [] w1 u,?_,fun sF=>?_,fun sF=>?_⟩
 ·rintro _ w4 ⟨rfl,o4,p4⟩;refine⟨fun hb=>?_,fun hb=>⟨?_,o4⟩⟩
  ·have hb:=aP hb;obtain⟨i,rfl⟩:∃i:Nat,d=i:=⟨d.toNat,by omega⟩
   obtain⟨x,hx⟩:=mf (xs:=xs) (i:=i) (by omega);obtain⟨ad,a1,_,a3,_⟩:=pu (SliceF.only ey (by decide) h o4 (by simp)) hx;have hp:=hF.NX hx;obtain⟨n,rfl⟩:∃n,kv=n+1:=⟨kv-1,by omega⟩
   refine⟨s,Blk.dT (o4.blk hB (by simp)) 0 rfl,ad,a1,x.pa,a3,n,by omega,?_,by omega,by omega,o4,p4⟩;rw[DS,if_pos hb,nS hx]at hd;exact hd
  ·have hb:=aU hb;congr 1;rw[<-hd];cases kv with
   | zero=>rfl
   | succ n=>rw[DS,if_neg hb]
 ·have sF:=aP sF;obtain⟨i,rfl⟩:∃i:Nat,d=i:=⟨d.toNat,by omega⟩
  obtain⟨x,hx⟩:=mf (xs:=xs) (i:=i) (by omega);obtain⟨ad,a1,a2,_⟩:=pu (SliceF.only ey (by decide) h o3 (by simp)) hx;refine⟨s,Blk.dT (o3.blk hB (by simp)) 0 rfl,ad,a1,x.k,a2.dT 0 _ rfl,fun hk=>⟨?_,o3,p3⟩,fun hk=>(DT (kI (g2.slice cx) p3) _).mono ?_⟩
  ·have hk:x.k≠1:=by simpa using hk
   exact(bI ⟨sF,.inl (by rw[jo hx];exact hk)⟩).symm
  ·have hk:x.k=1:=by simpa using hk
   rintro _ w5 ⟨rfl,eJ⟩;refine⟨_,rfl,?_,o3.cp eJ,p3.cp eJ⟩;rw[gw,jo hx];exact⟨fun h=>⟨sF,.inr h⟩,fun h=>h.2.resolve_left fun h'=>h' hk⟩
 ·have sF:=aU sF;exact⟨(bq fun h=>sF h.1).symm,o3,p3⟩
end
def rRo:Rp Ro:=fun w F x cs=>∃tg:Sl,cs=[O U x.src,O U x.slot,O U x.k,ab (T x.ev),O U x.wt,tg.v,O U x.dom]/\aA rInt 1 w F tg x.tg
theorem iP:rRo.Ok where
 keep:=by
  rintro w w' F x cs ⟨d,h1,h2⟩ hk;exact⟨d,h1,h2.keep cx (by decide) hk⟩
 inHeap:=by
  rintro w F x cs ⟨d,h1,h2⟩;exact⟨d,h1,h2.inHeap cx (by decide)⟩
 mono:=by
  rintro w F G x cs ⟨d,h1,h2⟩ hk;exact⟨d,h1,h2.mono cx hk⟩
 one:=by
  rintro w F x cs ⟨d,rfl,_⟩ v hv;simp only[aQ,aW,bP]at hv;rcases hv with rfl | rfl | rfl | rfl | rfl | rfl | rfl<;>rfl
def Q3(a c d:Sl)(k:Nat):Prop:=eE a k∨eE c k∨eE d k
structure La (w:av) (b:Nat) (F:aJ) (s si sd sr:Sl) (xs:List du) (ini dft:List Int) (ro:List Ro):Prop where
 blk:aF w b 101 [s.v,si.v,sd.v,sr.v]
 sp:aA xT 5 w F s xs
 hF:∀k,F k->k<w.heap.size/\k≠b/\¬Q3 si sd sr k
 i:fD (b+1) w si ini
 d:fD (b+1) w sd dft
 r:Own rRo 7 73 (b+1) w (fun k=>b<k/\¬eE si k/\¬eE sd k) sr ro
 ap:∀k,eE si k->¬eE sd k/\¬eE sr k
 ap2:∀k,eE sd k->¬eE sr k
section
variable {w w':av} {F:aJ} {s si sd sr:Sl} {xs:List du} {b:Nat} {ini dft:List Int} {ro:List Ro}
theorem La.lt(h:La w b F s si sd sr xs ini dft ro):b<w.heap.size:=h.blk.lt
theorem La.bi(h:La w b F s si sd sr xs ini dft ro):∀k,eE si k->b<k/\k<w.heap.size:=fun k e=>by have:=h.i.blk e;dsimp only at this;omega
theorem La.bd(h:La w b F s si sd sr xs ini dft ro):∀k,eE sd k->b<k/\k<w.heap.size:=fun k e=>by have:=h.d.blk e;dsimp only at this;omega
theorem La.br(h:La w b F s si sd sr xs ini dft ro):∀k,eE sr k->b<k/\k<w.heap.size:=fun k e=>by have:=h.r.blk e;dsimp only at this;omega
theorem La.o0(h:La w b F s si sd sr xs ini dft ro)(hO:ay [] w w'):La w' b F s si sd sr xs ini dft ro:=
 ⟨hO.blk h.blk (by simp),SliceF.only ey (by decide) h.sp hO (by simp),fun k hk=>⟨cb (h.hF k hk).1 hO.size,(h.hF k hk).2⟩,h.i.keep cx fun k _ bQ=>hO.block k bQ (by simp),h.d.keep cx fun k _ bQ=>hO.block k bQ (by simp),h.r.keep iP fun k _ bQ=>hO.block k bQ (by simp),h.ap,h.ap2⟩
theorem La.agm(h:La w b F s si sd sr xs ini dft ro){n:Int}(hn:rn n)(hm:ini.length<=20000000):
  ∃y w1,(au 32 1 #[.mk 0 (O U n)]).run aq w=.ok (Sl.v y) w1/\ay [] w w1/\∃s' w2,(Builtin.append_ #[32,32] 32 #[Sl.v si,Sl.v y]).run aq w1=.ok (Sl.v s') w2/\aD (eE si) w1 w2/\(∀k,eE s' k->eE si k∨w.heap.size<=k)/\aF w2 b 101 [s.v,si.v,sd.v,sr.v]/\
   ∀w3,ay [b] w2 w3->aF w3 b 101 [s.v,s'.v,sd.v,sr.v]->La w3 b F s s' sd sr xs (ini++[n]) dft ro:=by
 have bQ:=h.lt;obtain⟨y,w1,k1,k3,s',w2,g1,g2,g3,g4⟩:=Vm h.i (by omega) hn hm;have z1:=k3.size;have z2:=g3.size;refine⟨y,w1,k1,k3,s',w2,g1,g3,g4,g3.blk (k3.blk h.blk (by simp)) fun e=>by have:=h.bi b e;omega,fun w3 hO hB=>?_⟩;have hk:∀k,k<w.heap.size->k≠b->¬eE si k->w3.heap[k]? =w.heap[k]? :=fun k h1 h2 h3=>by
  rw[hO.block k (by omega) (by simpa using h2),g3.block k (by omega) h3,k3.block k h1 (by simp)]
 refine⟨hB,h.sp.keep ey (by decide) fun k rL hl=>hk k hl (h.hF k rL).2.1 fun e=>(h.hF k rL).2.2 (.inl e),fun k rL=>⟨by have:=(h.hF k rL).1;have:=hO.size;omega,(h.hF k rL).2.1,fun hq=>hq.elim (fun e=>(g4 k e).elim (fun e=>(h.hF k rL).2.2 (.inl e)) fun e=>by have:=(h.hF k rL).1;omega) fun e=>(h.hF k rL).2.2 (.inr e)⟩,g2.keep cx fun k iq hl=>hO.block k hl (by have:=iq.resolve_left id;simp;omega),h.d.keep cx fun k iq hl=>?_,((h.r.inHeap iP).keep iP fun k iq hl=>?_).mono iP fun k iq=>⟨iq.1.1,fun e=>?_,iq.1.2.2⟩,fun k e=>?_,h.ap2⟩
 ·have:=iq.resolve_left id;exact hk k hl (by omega) fun e=>(h.ap k e).1 this.2
 ·rcases iq with iq | iq
  ·exact hk k hl (by have:=iq.1.1;omega) iq.1.2.1
  ·exact hk k hl (by omega) fun e=>(h.ap k e).2 iq.2
 ·rcases g4 k e with e | e
  ·exact iq.1.2.1 e
  ·have:=iq.2;omega
 ·rcases g4 k e with e | e
  ·exact h.ap k e
  ·exact⟨fun e'=>by have:=h.bd k e';omega,fun e'=>by have:=h.br k e';omega⟩
theorem La.agn(h:La w b F s si sd sr xs ini dft ro){n:Int}(hn:rn n)(hm:dft.length<=20000000):
  ∃y w1,(au 32 1 #[.mk 0 (O U n)]).run aq w=.ok (Sl.v y) w1/\ay [] w w1/\∃s' w2,(Builtin.append_ #[32,32] 32 #[Sl.v sd,Sl.v y]).run aq w1=.ok (Sl.v s') w2/\aD (eE sd) w1 w2/\(∀k,eE s' k->eE sd k∨w.heap.size<=k)/\aF w2 b 101 [s.v,si.v,sd.v,sr.v]/\
   ∀w3,ay [b] w2 w3->aF w3 b 101 [s.v,si.v,s'.v,sr.v]->La w3 b F s si s' sr xs ini (dft++[n]) ro:=by
 have bQ:=h.lt;obtain⟨y,w1,k1,k3,s',w2,g1,g2,g3,g4⟩:=Vm h.d (by omega) hn hm;have z1:=k3.size;have z2:=g3.size;refine⟨y,w1,k1,k3,s',w2,g1,g3,g4,g3.blk (k3.blk h.blk (by simp)) fun e=>by have:=h.bd b e;omega,fun w3 hO hB=>?_⟩;have hk:∀k,k<w.heap.size->k≠b->¬eE sd k->w3.heap[k]? =w.heap[k]? :=fun k h1 h2 h3=>by
  rw[hO.block k (by omega) (by simpa using h2),g3.block k (by omega) h3,k3.block k h1 (by simp)]
 refine⟨hB,h.sp.keep ey (by decide) fun k rL hl=>hk k hl (h.hF k rL).2.1 fun e=>(h.hF k rL).2.2 (.inr (.inl e)),fun k rL=>⟨by have:=(h.hF k rL).1;have:=hO.size;omega,(h.hF k rL).2.1,fun hq=>hq.elim (fun e=>(h.hF k rL).2.2 (.inl e)) fun hq=>hq.elim (fun e=>(g4 k e).elim (fun e=>(h.hF k rL).2.2 (.inr (.inl e))) fun e=>by have:=(h.hF k rL).1;omega) fun e=>(h.hF k rL).2.2 (.inr (.inr e))⟩,h.i.keep cx fun k iq hl=>?_,g2.keep cx fun k iq hl=>hO.block k hl (by have:=iq.resolve_left id;simp;omega),((h.r.inHeap iP).keep iP fun k iq hl=>?_).mono iP fun k iq=>⟨iq.1.1,iq.1.2.1,fun e=>?_⟩,fun k e=>⟨fun e'=>?_,(h.ap k e).2⟩,fun k e=>?_⟩
 ·have:=iq.resolve_left id;exact hk k hl (by omega) (h.ap k this.2).1
 ·rcases iq with iq | iq
  ·exact hk k hl (by have:=iq.1.1;omega) iq.1.2.2
  ·exact hk k hl (by omega) fun e=>h.ap2 k e iq.2
 ·rcases g4 k e with e | e
  ·exact iq.1.2.2 e
  ·have:=iq.2;omega
 ·rcases g4 k e' with e' | e'
  ·exact(h.ap k e).1 e'
  ·have:=h.bi k e;omega
 ·rcases g4 k e with e | e
  ·exact h.ap2 k e
  ·exact fun e'=>by have:=h.br k e';omega
theorem La.ago(h:La w b F s si sd sr xs ini dft ro){x:Ro}{tg:Sl}{G:aJ}(hT:aA rInt 1 w G tg x.tg)(hG:∀k,G k->b<k/\¬eE si k/\¬eE sd k/\¬eE sr k)(hm:ro.length<=20000000):
  ∃y w1,(au 53 1 #[.mk 0 (ah #[O U x.src,O U x.slot,O U x.k,ab (T x.ev),O U x.wt,tg.v,O U x.dom])]).run aq w=.ok (Sl.v y) w1/\ay [] w w1/\∃s' w2,(Builtin.append_ #[53,53] 53 #[Sl.v sr,Sl.v y]).run aq w1=.ok (Sl.v s') w2/\aD (eE sr) w1 w2/\(∀k,eE s' k->eE sr k∨w.heap.size<=k)/\aF w2 b 101 [s.v,si.v,sd.v,sr.v]/\
   ∀w3,ay [b] w2 w3->aF w3 b 101 [s.v,si.v,sd.v,s'.v]->La w3 b F s si sd s' xs ini dft (ro++[x]):=by
 have bQ:=h.lt;obtain⟨y,w1,k1,k3,s',w2,g1,g2,⟨gs,g3',g4'⟩,g5⟩:=ja (P:=aq) (t:=53) (ty:=53) (e:=73) (i:=Tryz.t73) (bytes:=80) (size:=7) (r:=rRo) (G:=G) (v:=ah #[O U x.src,O U x.slot,O U x.k,ab (T x.ev),O U x.wt,tg.v,O U x.dom]) (x:=x) (by kernel_rfl) (by kernel_rfl) rfl rfl rfl rfl (by decide) (by decide) (by decide) iP h.r (by omega) rfl ⟨tg,rfl,hT⟩ (fun k hk _=>by have:=hG k hk;exact⟨⟨this.1,this.2.1,this.2.2.1⟩,this.2.2.2⟩) (by omega);have g3:aD (eE sr) w1 w2:=g3'.p fun g hg=>.inl (g4' g hg).1;have g4:∀k,eE s' k->eE sr k∨w.heap.size<=k:=fun k hk=>by
  unfold eE at hk⊢;rcases g5 with e | ⟨g,e,h⟩
  ·exact .inl (by rw[<-e];exact hk)
  ·rw[e]at hk;injection hk with hk;injection hk with hk;exact .inr (by omega)
 have z1:=k3.size;have z2:=g3.size;refine⟨y,w1,k1,k3,s',w2,g1,g3,g4,g3.blk (k3.blk h.blk (by simp)) fun e=>by have:=h.br b e;omega,fun w3 hO hB=>?_⟩;have hk:∀k,k<w.heap.size->k≠b->¬eE sr k->w3.heap[k]? =w.heap[k]? :=fun k h1 h2 h3=>by
  rw[hO.block k (by omega) (by simpa using h2),g3.block k (by omega) h3,k3.block k h1 (by simp)]
 refine⟨hB,h.sp.keep ey (by decide) fun k rL hl=>hk k hl (h.hF k rL).2.1 fun e=>(h.hF k rL).2.2 (.inr (.inr e)),fun k rL=>⟨by have:=(h.hF k rL).1;have:=hO.size;omega,(h.hF k rL).2.1,fun hq=>hq.elim (fun e=>(h.hF k rL).2.2 (.inl e)) fun hq=>hq.elim (fun e=>(h.hF k rL).2.2 (.inr (.inl e))) fun e=>(g4 k e).elim (fun e=>(h.hF k rL).2.2 (.inr (.inr e))) fun e=>by have:=(h.hF k rL).1;omega⟩,h.i.keep cx fun k iq hl=>?_,h.d.keep cx fun k iq hl=>?_,(g2.keep iP fun k iq hl=>hO.block k hl ?_).mono iP fun k iq=>?_,fun k e=>⟨(h.ap k e).1,fun e'=>?_⟩,fun k e e'=>?_⟩
 ·have:=iq.resolve_left id;exact hk k hl (by omega) (h.ap k this.2).2
 ·have:=iq.resolve_left id;exact hk k hl (by omega) (h.ap2 k this.2)
 ·simp only[aN];rcases iq with(iq | iq) | iq<;>omega
 ·rcases iq with iq | iq
  ·exact iq
  ·exact⟨by omega,fun e=>by have:=h.bi k e;omega,fun e=>by have:=h.bd k e;omega⟩
 ·rcases g4 k e' with e' | e'
  ·exact(h.ap k e).2 e'
  ·have:=h.bi k e;omega
 ·rcases g4 k e' with e' | e'
  ·exact h.ap2 k e e'
  ·have:=h.bd k e;omega
end
section
def pB(b:Nat)(Q:aJ)(w:av)(Q':aJ)(w':av):Prop:=aD (fun k=>k=b∨Q k) w w'/\∀k,Q' k->Q k∨w.heap.size<=k
theorem pB.refl(b:Nat)(Q:aJ)(w:av):pB b Q w Q w:=⟨OnlyP.refl _ _,fun _ h=>.inl h⟩
theorem pB.trans{b:Nat}{Q R S:aJ}{u v w:av}(h:pB b Q u R v)(g:pB b R v S w):pB b Q u S w:=by
 refine⟨h.1.trans g.1 fun k hk=>?_,fun k hk=>?_⟩
 ·rcases hk with hk | hk
  ·exact .inl (.inl hk)
  ·exact(h.2 k hk).elim (fun h=>.inl (.inr h)) .inr
 ·rcases g.2 k hk with hk | hk
  ·exact h.2 k hk
  ·exact .inr (bh h.1.size hk)
theorem pB.cp{b:Nat}{Q R:aJ}{u v w:av}(h:pB b Q u R v)(hO:ay [] v w):pB b Q u R w:=⟨h.1.cp hO,h.2⟩
theorem pB.of0{b:Nat}{Q R:aJ}{u v w:av}(hO:ay [] u v)(h:pB b Q v R w):pB b Q u R w:=⟨hO.oZ h.1,fun k hk=>(h.2 k hk).imp id fun h=>bh hO.size h⟩
theorem uO{y:Nd}:∀{l:List Nd} {j:Nat},l[j]? =some y->fX (l.take j)+lm y<=fX l
 | [],j,h=>by simp at h
 | x::l,0,h=>by
  rw[ck,aX]at h;subst h;rw[cK,fX,fX];omega
 | x::l,j+1,h=>by
  rw[cz]at h;have:=uO h;rw[ec,fX,fX];omega
mutual
theorem Vo(xs:List du):∀(x:Nd) (a:Nat),(B3 xs a x).length<=lm x
 | .mk b l,a=>by
  have:=Bm xs l (a+1);have:=jK b.mv;rw[B3,aO,kB,lm];unfold zG;omega
theorem Bm(xs:List du):∀(l:List Nd) (a:Nat),(kj xs a l).length<=fX l
 | [],a=>by rw[kj];exact bp _
 | x::l,a=>by
  have:=Vo xs x a;have:=Bm xs l (a+gp x);rw[kj,aO,fX];omega
end
section
variable {b:Nat} {F:aJ} {s:Sl} {xs:List du}
theorem La.q3{w:av}{si sd sr:Sl}{ini dft:List Int}{ro:List Ro}(h:La w b F s si sd sr xs ini dft ro):∀k,Q3 si sd sr k->b<k/\k<w.heap.size:=fun k hk=>hk.elim (h.bi k) fun hk=>hk.elim (h.bd k) (h.br k)
theorem S8(IP:Fo xs)(tY:xs.length<=64):∀(D:Nat) {w:av} {G:aJ} {x:Nd} {cs:aI} {si sd sr:Sl} {ini dft:List Int} {ro:List Ro},mr false D w G x cs->(∀k,G k->k<b)->La w b F s si sd sr xs ini dft ro->
  lm x<=8388608->ini.length+gp x<=1000000->dft.length=ini.length->ro.length+lm x<=16777216->
  az aq 43 #[ae (some ⟨b,0,none⟩),ah cs.toArray] w fun e w'=>e=ak (ai #[])/\∃si' sd' sr',La w' b F s si' sd' sr' xs (ini++(B4 x).map fun c=>sL xs c.ini) (dft++(B4 x).map fun c=>sL xs c.dft) (ro++B3 xs ini.length x)/\pB b (Q3 si sd sr) w (Q3 si' sd' sr') w'
 | 0,_,_,_,_,_,_,_,_,_,_,h,_,_,_,_,_,_=>h.elim
 | D+1,w,G,.mk bb ks,cs,si,sd,sr,ini,dft,ro,⟨en,lv,mv,kids,lQ,⟨_,_,ot⟩,gH⟩,hG,hL,hz,hn,zQ,hro=>by
  have hk:=gH.1;have ot:=ot.1;clear gH;dsimp only[Nd.kids,Nd.b]at hk lQ ot;subst lQ;rw[gp]at hn;rw[lm]at hz hro;have RI:=hk.len;have KQ:=ot.len;have hnn:=nQ ks;have wx:=jK bb.mv;have aoZ:uJ bb.mv<=zG bb:=by unfold zG;omega
  refine ret (afJ _ _ _ _ _ _ _ _ _ _ _ _ ?_);intro k0 w0 gH eW cE;have z0:=cE.size;have BM:=hL.lt;have hq:=hL.q3;have Pn:=hL.o0 cE;have inA:∀n,rn (sL xs n):=fun n=>by
   rcases Vn xs n with h | ⟨j,h,hj⟩
   ·rw[h];exact⟨by decide,by decide⟩
   ·rw[h];exact⟨by omega,by omega⟩
  have Pe:si.n=ini.length:=hL.i.len;have sw:∀{Q':aJ} {u v:av} {bs:List Nat} {P:aJ},pB b (Q3 si sd sr) w0 Q' u->aD P u v->(∀k,P k->k=b∨Q' k)->(∀k,k∈bs->k<w0.heap.size/\w.heap.size<=k)->bS bs u v:=fun{Q' u v bs P} m hO hP hb=>hO.same fun x hx=>by
   have hx:=hb x hx;refine⟨by have:=m.1.size;omega,fun hh=>?_⟩;rcases hP x hh with rfl | hh
   ·omega
   ·rcases m.2 x hh with hh | hh
    ·have:=hq x hh;omega
    ·omega
  refine⟨si,Blk.dT Pn.blk 1 rfl,fun w1 cA=>⟨fun k=>k=b,rfl,si,Blk.dT (cA.blk Pn.blk (by simp)) 1 rfl,?_⟩⟩;have Yj:=Pn.o0 cA;have z1:=cA.size;have m1:pB b (Q3 si sd sr) w0 (Q3 si sd sr) w1:=(pB.refl _ _ _).cp cA;refine(Nq Yj.blk Yj.sp bb.ini).mono ?_;rintro _ w2 ⟨rfl,cR⟩;have hL2:=Yj.o0 cR;have m2:=m1.cp cR;obtain⟨y,w3,p1,p2,s1,w4,p3,p4,p5,p6,p7⟩:=hL2.agm (inA bb.ini) (by omega);have z2:=cR.size;have z3:=p2.size;have z4:=p4.size;refine⟨_,rfl,cR.same (by simp;omega),bL.only cR,y,w3,p1,p2.same (by simp;omega),bL.only p2,s1,w4,p3,sw (m2.cp p2) p4 (fun k hk=>.inr (.inl hk)) (by simp;omega),fun k hk bQ=>?_,b,1,_,_,rfl,p6,ci rfl,by omega,fun w5 eJ uX w6 eh=>?_⟩
  ·subst hk;exact p4.block _ bQ fun e=>by have:=hL.bi _ e;omega
  have TQ:=p7 w5 eJ uX;have z5:=eJ.size;have m5:pB b (Q3 si sd sr) w0 (Q3 s1 sd sr) w5:=by
   refine m2.trans ⟨(p2.oZ (p4.mono (G:=fun k=>k=b∨Q3 si sd sr k) fun k _ hk=>.inr (.inl hk))).trans (eJ.p (F:=fun k=>k=b) (by simp)) fun k hk=>.inl (.inl hk),fun k hk=>?_⟩;rcases hk with hk | hk
   ·exact(p5 k hk).imp .inl fun h=>by omega
   ·exact .inl (.inr hk)
  have Ki:=TQ.o0 eh;have z6:=eh.size;have m6:=m5.cp eh;refine⟨fun k=>k=b,rfl,sd,Blk.dT Ki.blk 2 rfl,(Nq Ki.blk Ki.sp bb.dft).mono ?_⟩;rintro _ w7 ⟨rfl,fm⟩;have BX:=Ki.o0 fm;have m7:=m6.cp fm;obtain⟨y8,w8,r1,r2,s2,w9,r3,r4,r5,r6,r7⟩:=BX.agn (inA bb.dft) (by omega);have z7:=fm.size;have z8:=r2.size;have z9:=r4.size;refine⟨_,rfl,fm.same (by simp;omega),bL.only fm,y8,w8,r1,r2.same (by simp;omega),bL.only r2,s2,w9,r3,sw (m7.cp r2) r4 (fun k hk=>.inr (.inr (.inl hk))) (by simp;omega),fun k hk bQ=>?_,b,2,_,_,rfl,r6,ci rfl,by omega,fun dw dR ua=>?_⟩
  ·subst hk;exact r4.block _ bQ fun e=>by have:=BX.bd _ e;omega
  have Xc:=r7 dw dR ua;have Ob:=dR.size;have m10:pB b (Q3 si sd sr) w0 (Q3 s1 s2 sr) dw:=by
   refine m7.trans ⟨(r2.oZ (r4.mono (G:=fun k=>k=b∨Q3 s1 sd sr k) fun k _ hk=>.inr (.inr (.inl hk)))).trans (dR.p (F:=fun k=>k=b) (by simp)) fun k hk=>.inl (.inl hk),fun k hk=>?_⟩;rcases hk with hk | hk | hk
   ·exact .inl (.inl hk)
   ·exact(r5 k hk).imp (fun h=>.inr (.inl h)) fun h=>by omega
   ·exact .inl (.inr (.inr hk))
  have hq0:∀{Q':aJ} {u:av},pB b (Q3 si sd sr) w0 Q' u->¬Q' k0:=fun m e=>by
   rcases m.2 k0 e with h | h
   ·have:=hq k0 h;omega
   ·omega
  have iq:∀{u:av} {Q':aJ},pB b (Q3 si sd sr) w0 Q' u->aA (mr false D) 9 u G kids ks:=fun m=>SliceF.kU (cw false D) (by decide) hk (cE.oZ m.1) fun k RY _=>by
   have:=hG k RY;exact fun h=>h.elim (by omega) fun h=>by have:=hq k h;omega
  have hm':∀{u:av} {Q':aJ},pB b (Q3 si sd sr) w0 Q' u->aA (Ff false) 13 u G mv bb.mv:=fun m=>SliceF.kU (kc false) (by decide) ot (cE.oZ m.1) fun k RY _=>by
   have:=hG k RY;exact fun h=>h.elim (by omega) fun h=>by have:=hq k h;omega
  refine⟨fun kv i u=>∃(j:Nat) (q:Sl),i=(j:Int)/\kv+j=bb.mv.length/\j<=bb.mv.length/\La u b F s s1 s2 q xs (ini++[sL xs bb.ini]) (dft++[sL xs bb.dft]) (ro++wq xs ini.length 0 (bb.mv.take j))/\pB b (Q3 si sd sr) w0 (Q3 s1 s2 q) u,bb.mv.length,⟨0,sr,rfl,by omega,bp _,by rw[cK,wq,bN];exact Xc,m10⟩,?_⟩;rintro kv _ dr ⟨j,q,rfl,u5,hj,vW,m11⟩;have BS:=m11.1.size;refine⟨fun hc=>?_,fun hc=>?_⟩
  ·have hc:=aP hc;obtain⟨ad,m,ds,a1,a2,a3,a4,a5,a6⟩:=(hm' m11).get (bm j) (by omega);rw[aZ]at a2;obtain⟨gc,qC,tg,rfl,TP,F7,sE⟩:=a6;obtain⟨sl,rfl⟩:=gR TP;have sE:=sE.1;have NZ:=sE.len;have hmz:Fx m<=uJ bb.mv:=qm (bG a2);have htz:=wk m.tg;unfold Fx at hmz;refine⟨ad,a1,_,_,_,_,_,_,_,_,sl,_,qC,tg,_,a5,fun k9 iu dX hk9 W5 ab1 OT eM=>?_⟩;have z12:=eM.size;refine⟨fun Xf i a2' sl2 k2 ev wt l dm u=>∃t:Nat,i=(t:Int)/\a2'=(ini.length:Int)/\sl2=(j:Int)/\k2=m.k/\ev=T m.ev/\wt=m.wt/\dm=0/\Xf+t=m.tg.length/\t<=m.tg.length/\fD dX.heap.size u l ((m.tg.take t).map (sL xs))/\ay [] dr u/\dX.heap.size<=u.heap.size,m.tg.length,⟨0,rfl,by rw[Pe],rfl,rfl,rfl,rfl,rfl,by omega,bp _,Own.nil _ _ _ _ _ _,eM,aV _⟩,?_⟩;rintro Xf _ _ _ _ _ _ l _ eS ⟨t,rfl,rfl,rfl,rfl,rfl,rfl,rfl,RZ,ht,hT,ez,Ol⟩;have sP:∀k,eE l k->dX.heap.size<=k:=fun k e=>(hT.blk e).1;have Xg:=vW.o0 ez;have Yd:((m.tg.take t).map (sL xs)).length=t:=by rw[bC,cO];omega
   refine⟨fun mB=>?_,fun mB=>?_⟩
   ·have mB:=aP mB;obtain⟨RV,x2,cs2,b1,b2,b3,b4,b5,b6⟩:=(SliceF.only cG (by decide) sE ez (by simp)).get (bm t) (by omega);rw[aZ]at b2;unfold im at b6;subst b6;refine⟨RV,b1,_,b5,fun eZ dN=>⟨fun k=>k<dX.heap.size,OT,?_⟩⟩;have TA:=dN.size;have ab2:=Xg.o0 dN;refine(Nq ab2.blk ab2.sp x2).mono ?_;rintro _ fU ⟨rfl,ix⟩;have z15:=ix.size;have aiX:fD dX.heap.size fU l _:=(hT.keep cx fun k _ bQ=>dN.block k bQ (by simp)).keep cx fun k _ bQ=>ix.block k bQ (by simp);obtain⟨y2,gy,c1,c2,l2,fR,c3,c4,c5,c6⟩:=Vm aiX (by omega) (inA x2) (by rw[Yd];omega);have z16:=c2.size;have z17:=c5.size;have o17:ay [] dr fR:=((((ez.cp dN).cp ix).cp c2).oZ (c5.mono (G:=fun k=>dr.heap.size<=k) fun k _ e=>by have:=sP k e;omega)).only fun k hk=>hk;refine⟨_,rfl,ix.same (by simp;omega),bL.only ix,y2,gy,c1,c2.same (by simp;omega),bL.only c2,l2,fR,c3,c5.same fun x hx=>?_,fun k hk _=>c5.block k (by omega) fun e=>(by have:=sP k e;omega),fun gI lf=>⟨Xf-1,by omega,t+1,by rw[fQ (by omega) (by omega)];rfl,rfl,rfl,rfl,rfl,rfl,rfl,by omega,by omega,?_,o17.trans lf fun x hx=>.inr (by simp only[aN]at hx;omega),by have:=lf.size;omega⟩⟩
    ·simp only[aQ,aW,bP]at hx;rcases hx with rfl | rfl | rfl
     ·exact⟨by omega,fun e=>by have:=sP _ e;omega⟩
     ·exact⟨by omega,fun e=>by have:=sP _ e;omega⟩
     ·exact⟨by omega,fun e=>by have:=sP _ e;omega⟩
    ·rw[bH,b2,cN];exact c4.keep cx fun k hk bQ=>lf.block k bQ (by have:=hk.resolve_left id;simp;omega)
   ·have mB:=aU mB;have hte:t=m.tg.length:=by omega
    subst hte;rw[bA (aV _)]at hT Yd;rw[Pe];refine(JH Xg.blk Xg.sp IP (by omega) (hT.slice cx) (by rw[Yd];omega) (a:=ini.length) (by omega)).mono ?_;rintro _ iL ⟨rfl,jN⟩;have z19:=jN.size;refine⟨_,rfl,jN.same (by simp;omega),fun gJ lJ=>⟨fun k=>k=b,rfl,?_⟩⟩;have z20:=lJ.size;have o20:ay [] dr gJ:=(ez.cp jN).trans lJ fun x hx=>.inr (by simp only[aN]at hx;omega);have ab3:=vW.o0 o20;have aiY:fD dX.heap.size gJ l _:=(hT.keep cx fun k _ bQ=>jN.block k bQ (by simp)).keep cx fun k hk bQ=>lJ.block k bQ (by have:=hk.resolve_left id;simp;omega);obtain⟨y3,jO,d1,d2,q',mR,d3,d4,d5,d6,d7⟩:=ab3.ago (x:=JG xs ini.length j m) (aiY.slice cx) (fun k hk=>by
     have hk:=hk.resolve_left id;exact⟨by omega,fun e=>by have:=vW.bi k e;omega,fun e=>by have:=vW.bd k e;omega,fun e=>by have:=vW.br k e;omega⟩) (by rw[aO,kB,cO];omega)
    have z21:=d2.size;have z22:=d4.size;refine⟨q,Blk.dT ab3.blk 3 rfl,y3,jO,d1,d2.same (by simp;omega),bL.only d2,q',mR,d3,d4.same fun x hx=>?_,fun k hk bQ=>?_,b,3,_,_,rfl,d6,ci rfl,by omega,by omega,by omega,fun mw ob aiZ=>⟨kv-1,by omega,j+1,q',by rw[fQ (by omega) (by omega)];rfl,by omega,by omega,?_,?_⟩⟩
    ·simp only[aQ,aW,bP]at hx;rcases hx with rfl | rfl | rfl
     ·exact⟨by omega,fun e=>hq0 m11 (.inr (.inr e))⟩
     ·exact⟨by omega,fun e=>by have:=vW.br _ e;omega⟩
     ·exact⟨by omega,fun e=>by have:=vW.br _ e;omega⟩
    ·subst hk;exact d4.block _ bQ fun e=>by have:=vW.br _ e;omega
    ·have e:bb.mv.take (j+1)=bb.mv.take j++[m]:=by rw[bH,a2];rfl
     have hl:(bb.mv.take j).length=j:=by rw[cO];omega
     rw[e,xY,hl,bJ,<-bF];exact d7 mw ob aiZ
    ·refine(m11.cp o20).trans ⟨(d2.oZ (d4.mono (G:=fun k=>k=b∨Q3 s1 s2 q k) fun k _ hk=>.inr (.inr (.inr hk)))).trans (ob.p (F:=fun k=>k=b) (by simp)) fun k hk=>.inl (.inl hk),fun k hk=>?_⟩;rcases hk with hk | hk | hk
     ·exact .inl (.inl hk)
     ·exact .inl (.inr (.inl hk))
     ·exact(d5 k hk).imp (fun h=>.inr (.inr h)) fun h=>by omega
  ·have hc:=aU hc;have og:j=bb.mv.length:=by omega
   subst og;rw[bA (aV _)]at vW;clear u5;refine⟨fun kv i u=>∃(j:Nat) (qi qd qr:Sl),i=(j:Int)/\kv+j=ks.length/\j<=ks.length/\La u b F s qi qd qr xs (ini++(sL xs bb.ini::(vQ (ks.take j)).map fun c=>sL xs c.ini)) (dft++(sL xs bb.dft::(vQ (ks.take j)).map fun c=>sL xs c.dft)) (ro++(wq xs ini.length 0 bb.mv++kj xs (ini.length+1) (ks.take j)))/\pB b (Q3 si sd sr) w0 (Q3 qi qd qr) u,ks.length,⟨0,s1,s2,q,rfl,by omega,bp _,by rw[cK,vQ,kj,bN];exact vW,m11⟩,?_⟩;rintro kv _ mS ⟨j,qi,qd,qr,rfl,u5,hj,R0,m24⟩;have z24:=m24.1.size;refine⟨fun mB=>?_,fun mB=>?_⟩
   ·have mB:=aP mB;obtain⟨ad,y,ds,a1,a2,a3,a4,a5,a6⟩:=(iq m24).get (bm j) (by omega);rw[aZ]at a2;have PG:=a6;obtain⟨D',rfl⟩:∃D',D=D'+1:=by
     cases D with
     | zero=>exact a6.elim
     | succ D'=>exact⟨D',rfl⟩
    obtain⟨uY,uZ,pO,jv,rfl,_⟩:=PG;have pC:=lO a2;have hyz:lm y<=fX ks:=mg (bG a2);have hzt:=uO a2;refine⟨ad,a1,_,_,_,_,uY,uZ,pO,jv,_,a5,fun vB kX ao4 ab4 qB=>?_⟩;have z25:=qB.size;have ab5:=R0.o0 qB;have IH:(ini++(sL xs bb.ini::(vQ (ks.take j)).map fun c=>sL xs c.ini)).length=ini.length+1+di (ks.take j):=by
     rw[aO,bf,bC,tU];omega
    have ab6:(dft++(sL xs bb.dft::(vQ (ks.take j)).map fun c=>sL xs c.dft)).length=dft.length+1+di (ks.take j):=by
     rw[aO,bf,bC,tU];omega
    have hrl:(ro++(wq xs ini.length 0 bb.mv++kj xs (ini.length+1) (ks.take j))).length<=ro.length+(zG bb+fX (ks.take j)):=by
     have:=Bm xs (ks.take j) (ini.length+1);rw[aO,aO,kB];omega
    refine(S8 IP tY (D'+1) ((cw false (D'+1)).keep a6 fun k _ bQ=>qB.block k bQ (by simp)) hG ab5 (by omega) (by rw[IH];omega) (by rw[IH,ab6];omega) (by omega)).mono ?_;rintro _ my ⟨rfl,ti,td,tr,Xh,m26⟩;have z26:=m26.1.size;have ao5:=ab5.q3;have ai2:=hq0 m24;refine⟨rfl,m26.1.same fun x hx=>?_,kv-1,by omega,j+1,ti,td,tr,by rw[fQ (by omega) (by omega)];rfl,by omega,by omega,?_,(m24.cp qB).trans m26⟩
    ·simp only[aQ,aW,bP]at hx;rcases hx with rfl | rfl
     ·exact⟨by omega,fun h=>h.elim (by omega) ai2⟩
     ·exact⟨ab4,fun h=>h.elim (by omega) fun h=>by have:=R0.q3 _ h;omega⟩
    ·have e:ks.take (j+1)=ks.take j++[y]:=by rw[bH,a2];rfl
     rw[IH]at Xh;rw[e,Bl,vQ,vQ,bN,xX,kj,kj,bN,cN,cN,<-bF (wq xs ini.length 0 bb.mv),<-bF ro];rw[bF,bF,bZ,bZ]at Xh;exact Xh
   ·have mB:=aU mB;have og:j=ks.length:=by omega
    subst og;rw[bA (aV _)]at R0;refine⟨rfl,qi,qd,qr,?_,pB.of0 cE m24⟩;rw[B4,B3,bE,bE];exact R0
end
structure PlR (w:av) (F:aJ) (s si sd sr:Sl) (p:Pl):Prop where
 sp:aA xT 5 w F s p.sp
 ini:aA rInt 1 w F si p.ini
 dft:aA rInt 1 w F sd p.dft
 ro:aA rRo 7 w F sr p.ro
theorem PlR.o0{w w':av}{F:aJ}{s si sd sr:Sl}{p:Pl}(h:PlR w F s si sd sr p)(hO:ay [] w w'):PlR w' F s si sd sr p:=
 ⟨SliceF.only ey (by decide) h.sp hO (by simp),SliceF.only cx (by decide) h.ini hO (by simp),SliceF.only cx (by decide) h.dft hO (by simp),SliceF.only iP (by decide) h.ro hO (by simp)⟩
theorem Nr{c:Ch}(h:(fz c).1=0):fz c=(0,0):=by
 obtain⟨h1,h2⟩:=oV h;unfold fz;rw[if_neg (fun e=>e h1),h2];rfl
theorem Vp{w:av}{F:aJ}{D:Nat}{c:Ch}{vs:Sl}{cs:aI}(hx:ChR false (D+1) w F c vs cs)(hn:PC c)(hs:oT c.vars+lm c.root<=8388608)(hE:Er w)(hT:Tb w):
  az aq 19 #[ah (vs.v::cs).toArray] w fun e w'=>(∃s si sd sr:Sl,e=ak (ai #[ah #[s.v,si.v,sd.v,sr.v],ah #[O U (fz c).1,O U (fz c).2]])/\((fz c).1=0->PlR w' (fun k=>w.heap.size<=k) s si sd sr (vp c)))/\ay [] w w':=by
 obtain⟨en,lv,mv,kids,lQ,_⟩:=hx.root;subst lQ;refine(afH vs c.root.b.k (T c.root.b.nm) (T c.root.b.ini) (T c.root.b.dft) en lv mv kids c.root.b.a (fun v w'=>(∃s si sd sr:Sl,v=ai #[ah #[s.v,si.v,sd.v,sr.v],ah #[O U (fz c).1,O U (fz c).2]]/\((fz c).1=0->PlR w' (fun k=>w.heap.size<=k) s si sd sr (vp c)))/\ay [] w w') w ?_).mono (by rintro _ w' ⟨v,rfl,⟨s,si,sd,sr,rfl,h⟩,h'⟩;exact⟨⟨s,si,sd,sr,rfl,h⟩,h'⟩);intro k0 k1 k2 w0 gH eW lr jq qZ uc cE;have z0:=cE.size;have keep:∀{u:av},ay [] w u->ChR false (D+1) u F c vs (me c.root.b.k c.root.b.nm c.root.b.ini c.root.b.dft en lv mv kids c.root.b.a):=fun hO=>⟨hx.vars.keep fe (by decide) fun k _ bQ=>hO.block k bQ (by simp),(cw false _).keep hx.root fun k _ bQ=>hO.block k bQ (by simp)⟩
 refine(DK (keep cE) hn hs (hE.only cE) (hT.only cE)).mono ?_;rintro _ w1 ⟨rfl,cA⟩;have z1:=cA.size;have o1:=cE.cp cA;refine⟨_,_,rfl,cA.same (by simp;omega),fun hc k3 w2 vU ud cR n1 n2 n3 n4 n5 n6=>?_,fun hc k4 k5 w4 yF Ef zT Eh dA=>?_⟩
 ·have hc:(fz c).1≠0:=by simpa using hc
  refine⟨fun k=>k=k3,rfl,fun h=>n5 h,fun h=>n6 h,fun w3 dl=>⟨⟨Sl.nil,Sl.nil,Sl.nil,Sl.nil,rfl,fun h=>absurd h hc⟩,(o1.cp cR).trans dl fun x hx=>.inr (by simp only[aQ,aW,bP]at hx;omega)⟩⟩
 have hc:(fz c).1=0:=by simpa using hc
 have hp:=(oV hc).1;have hnd:=nV hp;have z4:=dA.size;have o4:=o1.cp dA;refine(M1 (keep o4) hn hs (hE.only o4) (hT.only o4)).mono ?_;rintro _ w5 ⟨⟨s,rfl,h1,_⟩,eJ⟩;have hS:=h1 hp;have z5:=eJ.size;have o5:=o4.cp eJ;refine⟨s,_,rfl,eJ.same (by simp;omega),fun w6 eh PB n1 n2 n3 n4=>?_⟩;have z6:=eh.size;have o6:ay [] w w6:=o5.trans eh fun x hx=>.inr (by simp only[aN]at hx;omega);have hr6:mr false (D+1) w6 (fun k=>k<w.heap.size) c.root (me c.root.b.k c.root.b.nm c.root.b.ini c.root.b.dft en lv mv kids c.root.b.a):=
  (cw false _).keep ((cw false _).mono ((cw false _).inHeap hx.root) fun k hk=>hk.2) fun k _ bQ=>o6.block k bQ (by simp)
 have Kh:aA xT 5 w6 (fun k=>w4.heap.size<=k/\k<w5.heap.size) s (eY c):=SliceF.only ey (by decide) ((SliceF.inHeap ey (hS.slice ey) (by decide)).mono ey fun k hk=>⟨(hk.1.resolve_left id).1,hk.2⟩) eh fun k hk _ hm=>by simp only[aN]at hm;omega
 have Xi:∀k,¬Q3 Sl.nil Sl.nil Sl.nil k:=fun k hk=>by rcases hk with hk | hk | hk<;>cases hk
 have hLa:La w6 k5 (fun k=>w4.heap.size<=k/\k<w5.heap.size) s Sl.nil Sl.nil Sl.nil (eY c) [] [] []:=⟨PB,Kh,fun k hk=>⟨by omega,by omega,Xi k⟩,Own.nil _ _ _ _ _ _,Own.nil _ _ _ _ _ _,Own.nil _ _ _ _ _ _,fun k h=>(by cases h),fun k h=>(by cases h)⟩
 have eH:(eY c).length=gp c.root:=by unfold eY;rw[lD]
 refine(S8 (wh c) (by omega) (D+1) hr6 (fun k hk=>by omega) hLa (by omega) (by rw[cu];omega) rfl (by rw[cu];omega)).mono ?_;rintro _ w7 ⟨rfl,si,sd,sr,BX,m7⟩;have z7:=m7.1.size;refine⟨rfl,m7.1.same fun x hx=>?_,s,si,sd,sr,BX.blk,fun w8 fp vT=>⟨⟨s,si,sd,sr,by rw[Nr hc],fun _=>?_⟩,?_⟩⟩
 ·simp only[aQ,aW,bP]at hx;refine⟨by omega,fun h=>h.elim (by omega) (Xi x)⟩
 ·have kp:∀k,k<w7.heap.size->k∉[k2,k1]->w8.heap[k]? =w7.heap[k]? :=fun k h1 h2=>fp.block k h1 h2;simp only[cf]at BX;rw[show([]:List Int).length=0 from rfl]at BX;refine⟨(BX.sp.keep ey (by decide) fun k hk bQ=>kp k bQ (by simp;omega)).mono ey fun k hk=>by omega,((BX.i.slice cx).keep cx (by decide) fun k hk bQ=>kp k bQ ?_).mono cx fun k hk=>?_,((BX.d.slice cx).keep cx (by decide) fun k hk bQ=>kp k bQ ?_).mono cx fun k hk=>?_,((BX.r.slice iP).keep iP (by decide) fun k hk bQ=>kp k bQ ?_).mono iP fun k hk=>?_⟩
  ·have:=hk.resolve_left id;simp;omega
  ·have:=hk.resolve_left id;omega
  ·have:=hk.resolve_left id;simp;omega
  ·have:=hk.resolve_left id;omega
  ·rcases hk with hk | hk
   ·have:=hk.1;simp;omega
   ·simp;omega
  ·rcases hk with hk | hk
   ·have:=hk.1;omega
   ·omega
 ·refine((o6.oZ (m7.1.mono (G:=fun k=>w.heap.size<=k) fun k _ hk=>hk.elim (by omega) fun h=>absurd h (Xi k))).only fun k hk=>hk).trans fp fun x hx=>.inr (by simp only[aQ,aW,bP]at hx;omega)
end
end Go.Proofs.YtbkjcdocjfknfaaGreatDoor.Con
set_option linter.unusedSectionVars false
namespace Go.Proofs.YtbkjcdocjfknfaaGreatDoor.Con
open Go.Value renaming int->O,string->ab,pointer->ae,agg->ah,tuple->ai,bool->aj
open Go.IntKind renaming i64->U,wrap->ar
open Go.Ending renaming returned->ak
open _root_.ByteArray renaming mk->ao
open _root_.Go.Proofs.Tryz renaming prog->aq
open Go.Instr renaming buildSlice->au
open Go renaming World->av,Value->aw,Calls->az
open Go.Kt renaming Only->ay,SliceF->aA,Cells->aB,OnlyP->aD,Blk->aF
open Go Go.RowKit Go.Kt Go.Kt.V
set_option linter.unusedSimpArgs false
set_option linter.unusedVariables false
set_option maxRecDepth 100000
def Kc(xs:List du)(d:Int)(c:Nat):Prop:=∃t,xs[c]? =some t/\t.pa=d
def Sb(xs:List du)(d:Int)(x:Nat):Prop:=d<x/\x<xs.length/\(d= -1∨∃k:Nat,d=k/\rC xs k x)
def SS(xs:List du)(x:Nat):Prop:=∃t,xs[x]? =some t/\(t.k=1∨t.k=2)
def Kx(xs:List du)(S:aJ)(d:Int):Prop:=∀c c',Kc xs d c->Kc xs d c'->S c->S c'->c=c'
section
variable {xs:List du} (F:Fo xs) {d d':Int} {c c' k n x:Nat} {t:du} {D:Int->Prop} {S G:aJ}
include F
theorem Fo.Ix(h:Kc xs d c):Sb xs d c:=by
 obtain⟨t,h1,rfl⟩:=h;have hl:=jm h1;by_cases h0:0<c
 ·obtain⟨p,s,g1,g2,g3,_,g5,_⟩:=F.par h1 h0;exact⟨by omega,hl,.inr ⟨p,g2,s,g3,by omega,g5⟩⟩
 ·have:c=0:=by omega
  subst this;have:=(F.rt t h1).1;exact⟨by omega,hl,.inl this⟩
end
def kd(xs:List du)(i:Int):Int:=((xs[i.toNat]?).map fun s:du=>s.k).getD 0
theorem S9{xs:List du}{i:Nat}{s:du}(h:xs[i]? =some s):kd xs (i:Int)=s.k:=by
 unfold kd;rw[aZ,h];rfl
def stK(k:Int):Bool:=(k==1)||(k==2)
def rY(xs:List du)(n:Nat):List Int:=(Fj xs n xs.length).filter fun k=>stK (kd xs k)
structure Sd (xs:List du):Prop where
 fo:Fo xs
 le:xs.length<=64
 kn:∀(i:Nat) (s:du),xs[i]? =some s->1<=s.k/\s.k<=4
 rt:∃s,xs[0]? =some s/\s.k=1
 pr:∀(i:Nat) (s:du),xs[i]? =some s->s.k=2->rY xs i≠[]
theorem Ns{xs:List du}{i n:Nat}{k:Int}:k∈Fj xs i n↔∃(q:Nat) (t:du),k=q/\q<n/\xs[q]? =some t/\t.pa=i:=by
 unfold Fj;rw[eT];constructor
 ·rintro⟨q,hq,rfl⟩;rw[pH,jQ]at hq;have:=aP hq.2;cases hx:xs[q]? with
  | none=>rw[hx]at this;cases this
  | some t=>
   rw[hx]at this;injection this with this;exact⟨q,t,rfl,hq.1,hx,this⟩
 ·rintro⟨q,t,rfl,h1,h2,h3⟩;exact⟨q,by rw[pH,jQ];exact⟨h1,bI (by rw[h2];exact bO some h3)⟩,rfl⟩
theorem nY{xs:List du}{i:Nat}{k:Int}:k∈rY xs i↔∃(q:Nat) (t:du),k=q/\xs[q]? =some t/\t.pa=i/\stK t.k=true:=by
 unfold rY;rw[pH,Ns];constructor
 ·rintro⟨⟨q,t,rfl,_,h2,h3⟩,h4⟩;rw[S9 h2]at h4;exact⟨q,t,rfl,h2,h3,h4⟩
 ·rintro⟨q,t,rfl,h2,h3,h4⟩;exact⟨⟨q,t,rfl,jm h2,h2,h3⟩,by rw[S9 h2];exact h4⟩
theorem DU:∀{l m:List Int},l.Pairwise (· <·)->m.Pairwise (· <·)->(∀x,x∈l↔x∈m)->l=m
 | [],[],_,_,_=>rfl
 | [],y::m,_,_,h=>absurd ((h y).2 (.head _)) (by simp)
 | x::l,[],_,_,h=>absurd ((h x).1 (.head _)) (by simp)
 | x::l,y::m,hl,hm,h=>by
  rw[List.pairwise_cons]at hl hm;have hxy:x=y:=by
   have h1:=(h x).1 (.head _);have h2:=(h y).2 (.head _);rw[aQ]at h1 h2;rcases h1 with h1 | h1
   ·exact h1
   rcases h2 with h2 | h2
   ·exact h2.symm
   have:=hl.1 y h2;have:=hm.1 x h1;omega
  subst hxy;rw[DU hl.2 hm.2 fun z=>?_];have hz:=h z;rw[aQ,aQ]at hz;constructor
  ·intro Pk;rcases hz.1 (.inr Pk)with e | e
   ·subst e;exact absurd (hl.1 z Pk) (by omega)
   ·exact e
  ·intro Pk;rcases hz.2 (.inr Pk)with e | e
   ·subst e;exact absurd (hm.1 z Pk) (by omega)
   ·exact e
def Es(n:Nat)(p:Nat->Bool):List Int:=((List.range n).filter p).map fun k:Nat=>(k:Int)
theorem DV(n:Nat)(p:Nat->Bool):Es (n+1) p=Es n p++if p n then[(n:Int)]else[]:=by
 unfold Es;rw[List.range_succ,gz,cN];cases h:p n<;>simp[h]
theorem H7(n:Nat)(p:Nat->Bool):(Es n p).length<=n:=by
 unfold Es;rw[bC];exact bh (yy _ _) (by rw[Gl];exact aV _)
theorem Bn{n:Nat}{p:Nat->Bool}{x:Int}:x∈Es n p↔∃k:Nat,x=k/\k<n/\p k=true:=by
 unfold Es;rw[eT];constructor
 ·rintro⟨k,hk,rfl⟩;rw[pH,jQ]at hk;exact⟨k,rfl,hk⟩
 ·rintro⟨k,rfl,hk⟩;exact⟨k,by rw[pH,jQ];exact hk,rfl⟩
theorem Nt(n:Nat)(p:Nat->Bool):(Es n p).Pairwise (· <·):=by
 unfold Es;rw[List.pairwise_map];refine List.Pairwise.imp (R:=(· <·)) (fun h=>by omega) ?_;exact List.Pairwise.filter _ List.pairwise_lt_range
def lvP(xs:List du)(act:List Int)(n:Nat):Bool:=decide ((n:Int)∈act)&&(kd xs n==1)&&((rY xs n).length==0)
def lvs(xs:List du)(act:List Int):List Int:=Es xs.length (lvP xs act)
def onC(xs:List du)(act:List Int)(n:Nat):Nat:=(rY xs n).countP fun r=>decide (r∈act)
def af9(xs:List du)(act:List Int)(n:Nat):Bool:=if kd xs n=2 then onC xs act n==(rY xs n).length else onC xs act n==min 1 (rY xs n).length
structure ai3 (xs:List du) (act:List Int) (x:Int):Prop where
 ge:0<=x
 lt:x<xs.length
 st:stK (kd xs x)=true
 up:x=0∨∀s,xs[x.toNat]? =some s->s.pa∈act
 on:af9 xs act x.toNat=true
structure Lg (xs:List du) (act:List Int):Prop where
 rt:(0:Int)∈act
 rise:act.Pairwise (· <·)
 at_:∀x,x∈act->ai3 xs act x
end Go.Proofs.YtbkjcdocjfknfaaGreatDoor.Con
set_option linter.unusedSectionVars false
namespace Go.Proofs.YtbkjcdocjfknfaaGreatDoor.Con
open Go.Value renaming int->O,string->ab,pointer->ae,agg->ah,tuple->ai,bool->aj
open Go.IntKind renaming i64->U,wrap->ar
open Go.Ending renaming returned->ak
open _root_.ByteArray renaming mk->ao
open _root_.Go.Proofs.Tryz renaming prog->aq
open Go.Instr renaming buildSlice->au
open Go renaming World->av,Value->aw,Calls->az
open Go.Kt renaming Only->ay,SliceF->aA,Cells->aB,OnlyP->aD,Blk->aF
open Go Go.RowKit Go.Kt Go.Kt.V Go.Proofs.YtbkjcdocjfknfaaGreatDoor.Vc
set_option linter.unusedSimpArgs false
set_option linter.unusedVariables false
set_option linter.unusedSectionVars false
set_option maxHeartbeats 800000
set_option maxRecDepth 100000
def rZ(n:Int):Nat:=if 0<=n/\n<=63 then 2 ^ n.toNat else 0
def Ky(m:Nat)(n:Int):Nat:=m||| rZ n
def mP(l:List Int):Nat:=l.foldl Ky 0
theorem xZ(n:Int)(i:Nat):(rZ n).testBit i=decide (i<64/\n=i):=by
 unfold rZ;split
 ·rw[Nat.testBit_two_pow,gw];omega
 ·rw[gx];exact(bq (by omega)).symm
theorem lH(n:Int):rZ n<2 ^ 64:=by
 unfold rZ;split
 ·exact Nat.pow_lt_pow_right (by decide) (by omega)
 ·decide
theorem yd:∀(l:List Int) (m i:Nat),(l.foldl Ky m).testBit i=(m.testBit i||decide (i<64/\(i:Int)∈l))
 | [],m,i=>by simp
 | n::l,m,i=>by
  rw[List.foldl_cons,yd l,Ky,Nat.testBit_or,xZ,Bool.or_assoc];congr 1;rw[<-Bool.decide_or,gw,aQ];constructor
  ·rintro(⟨h,rfl⟩ | ⟨h,h2⟩)
   ·exact⟨h,.inl rfl⟩
   ·exact⟨h,.inr h2⟩
  ·rintro⟨h,h2 | h2⟩
   ·exact .inl ⟨h,h2.symm⟩
   ·exact .inr ⟨h,h2⟩
theorem qU(l:List Int)(i:Nat):(mP l).testBit i=decide (i<64/\(i:Int)∈l):=by
 unfold mP;rw[yd,gx,Bool.false_or]
theorem aga{x:Nat}(h:∀i,x.testBit i=true->i<64):x<2 ^ 64:=Nat.lt_pow_two_of_testBit x fun i hi=>by
 cases hx:x.testBit i with
 | true=>have:=h i hx;omega
 | false=>rfl
theorem H8(l:List Int){m:Nat}(hm:m<2 ^ 64):l.foldl Ky m<2 ^ 64:=aga fun i hi=>by
 rw[yd,cD,bW]at hi;rcases hi with hi | hi
 ·refine Nat.lt_of_not_le fun pC=>?_;rw[Nat.testBit_lt_two_pow (cb hm (Nat.pow_le_pow_right (by decide) pC))]at hi;cases hi
 ·exact hi.1
theorem tV(l:List Int):mP l<2 ^ 64:=H8 l (by decide)
def ia(x:Nat):List Int:=Es 64 fun i=>x.testBit i
theorem lP{x:Nat}{n:Int}:n∈ia x↔∃k:Nat,n=k/\k<64/\x.testBit k=true:=Bn
theorem sf(x:Nat):(ia x).Pairwise (· <·):=Nt _ _
theorem zM(x:Nat):(ia x).length<=64:=H7 _ _
theorem FH{x:Nat}(h:x<2 ^ 64):mP (ia x)=x:=eX fun i=>by
 rw[qU];by_cases hi:i<64
 ·cases hx:x.testBit i with
  | true=>exact bI ⟨hi,lP.2 ⟨i,rfl,hi,hx⟩⟩
  | false=>
   refine bq fun hm=>?_;obtain⟨k,hk,_,hb⟩:=lP.1 hm.2;have:k=i:=by omega
   rw[this,hx]at hb;cases hb
 ·rw[Nat.testBit_lt_two_pow (cb h (Nat.pow_le_pow_right (by decide) (oh hi)))];exact bq fun hm=>hi hm.1
theorem DW{x:Nat}(h0:x≠0)(h:x<2 ^ 64):x.testBit (Go.Lib.ctz 64 x)=true/\Go.Lib.ctz 64 x<64/\(∀i,i<Go.Lib.ctz 64 x->x.testBit i=false)/\∀i,(x&&& (x-1)).testBit i=(x.testBit i&&decide (i≠Go.Lib.ctz 64 x)):=by
 obtain⟨m,h1,h2⟩:=Go.Lib.ctzFrom_spec 64 x (Em h0) h;have e:Go.Lib.ctz 64 x=Go.Lib.ctzFrom 64 x:=by unfold Go.Lib.ctz;rw[if_neg h0]
 rw[e];generalize Go.Lib.ctzFrom 64 x=k at*
 have hp:0<2 ^ k:=Nat.pow_pos (by decide);have hb:∀i,i<k->x.testBit i=false:=fun i hi=>by
  rw[h1,Nat.mul_comm,Nat.testBit_mul_two_pow,bq (by omega),dZ]
 have hk:x.testBit k=true:=by
  rw[h1,Nat.mul_comm,Nat.testBit_mul_two_pow,bI (aV _),mD,dk];simp
 refine⟨hk,h2,hb,fun i=>?_⟩;rw[O0];rcases Nat.lt_trichotomy i k with hi | rfl | hi
 ·rw[hb i hi,dZ,dZ]
 ·rw[hk,dk,dk,bq (fun h=>h rfl)];have e:(x-1)/2 ^ i=2*m:=by
   rw[h1,Nat.mul_add,iR,Nat.add_sub_assoc hp];rw[Nat.mul_add_div hp,Nat.div_eq_of_lt (by omega),dx]
  rw[fh,e];exact bq (by omega)
 ·rw[bI (by omega:i≠k),jw];obtain⟨d,rfl⟩:∃d,i=k+(1+d):=⟨i-k-1,by omega⟩
  have e1:x/2 ^ (k+(1+d))=m/2 ^ d:=by
   rw[Kr,<-mE,Kr,<-mE,h1,Nat.mul_div_cancel_left _ hp];congr 1;omega
  have e2:(x-1)/2 ^ (k+(1+d))=m/2 ^ d:=by
   rw[Kr,<-mE,Kr,<-mE,h1,Nat.mul_add,iR,Nat.add_sub_assoc hp,Nat.mul_add_div hp,Nat.div_eq_of_lt (by omega:2 ^ k-1<2 ^ k),dx];congr 1;omega
  rw[fh,fh,e1,e2,Bool.and_self]
theorem Vq{x:Nat}(h0:x≠0):x&&& (x-1)<x:=Nat.lt_of_le_of_lt Nat.and_le_right (by omega)
theorem FI{x:Nat}(h0:x≠0)(h:x<2 ^ 64):ia x=(Go.Lib.ctz 64 x:Int)::ia (x&&& (x-1)):=by
 obtain⟨h1,h2,h3,h4⟩:=DW h0 h;refine DU (sf x) ?_ fun n=>?_
 ·rw[List.pairwise_cons];refine⟨fun n hn=>?_,sf _⟩;obtain⟨k,rfl,hk,hb⟩:=lP.1 hn;rw[h4,aR,bW]at hb;have:¬k<Go.Lib.ctz 64 x:=fun hl=>by rw[h3 k hl]at hb;cases hb.1
  omega
 ·rw[aQ,lP,lP];constructor
  ·rintro⟨k,rfl,hk,hb⟩;by_cases he:k=Go.Lib.ctz 64 x
   ·exact .inl (by rw[he])
   ·exact .inr ⟨k,rfl,hk,by rw[h4,hb,bI he,Bool.and_self]⟩
  ·rintro(rfl | ⟨k,rfl,hk,hb⟩)
   ·exact⟨_,rfl,h2,h1⟩
   ·rw[h4,aR]at hb;exact⟨k,rfl,hk,hb.1⟩
def Vt(xs:List du)(S n:Nat):Prop:=(kd xs n=2->∀r,r∈rY xs n->S.testBit r.toNat=true)/\(kd xs n=1->rY xs n=[]∨∃r,r∈rY xs n/\S.testBit r.toNat=true)
theorem Vt.mono{xs:List du}{S S' n:Nat}(h:Vt xs S n)(hs:∀m,S.testBit m=true->S'.testBit m=true):Vt xs S' n:=
 ⟨fun e r hr=>hs _ (h.1 e r hr),fun e=>(h.2 e).imp id fun⟨r,hr,hb⟩=>⟨r,hr,hs _ hb⟩⟩
def DX(xs:List du)(i:Nat):Nat:=mP (Es xs.length fun k=>decide (k<i)&&Jq xs k i)
def H9(xs:List du)(i:Nat):Nat:=mP (Es xs.length fun k=>decide (i<k)&&Jq xs i k)
def Ta(xs:List du)(i:Nat):Nat:=mP (rY xs i)
theorem Bo(m n i:Nat)(hn:n<64):(Ky m n).testBit i=(m.testBit i||decide (n=i)):=by
 unfold Ky;rw[Nat.testBit_or,xZ];congr 1;rw[gw];omega
section
variable {xs:List du} (F:Fo xs) (hl:xs.length<=64)
include F hl
theorem Ia{p:Nat->Bool}{k:Nat}:(mP (Es xs.length p)).testBit k=(decide (k<xs.length)&&p k):=by
 rw[qU];cases h:(decide (k<xs.length)&&p k)with
 | true=>
  rw[aR,bW]at h;exact bI ⟨by omega,Bn.2 ⟨k,rfl,h⟩⟩
 | false=>
  refine bq fun⟨_,hm⟩=>?_;obtain⟨q,e,hq,hp⟩:=Bn.1 hm;have:q=k:=by omega
  subst this;rw[bI hq,hp]at h;cases h
theorem qV{i k:Nat}:(DX xs i).testBit k=true↔k<i/\rC xs k i:=by
 unfold DX;rw[Ia F hl,aR,aR,bW,bW,nT];exact⟨fun h=>h.2,fun h=>⟨by obtain⟨_,_,e,_⟩:=h;exact jm e,h⟩⟩
theorem tW{i k:Nat}:(H9 xs i).testBit k=true↔i<k/\rC xs i k:=by
 unfold H9;rw[Ia F hl,aR,aR,bW,bW,nT];exact⟨fun h=>h.2,fun h=>⟨F.NS h.2,h⟩⟩
theorem Ib{i k:Nat}:(Ta xs i).testBit k=true↔(k:Int)∈rY xs i:=by
 unfold Ta;rw[qU,bW];refine⟨fun h=>h.2,fun h=>⟨?_,h⟩⟩;obtain⟨q,t,e,h1,_⟩:=nY.1 h;have:=jm h1;omega
theorem DY:DX xs 0=0:=eX fun k=>by
 rw[gx,dL,Ne,qV F hl];omega
theorem Q7{i p:Nat}{t:du}(h:xs[i]? =some t)(hp:t.pa=p):DX xs i=Ky (DX xs p) p:=eX fun k=>by
 have hi:=jm h;have h0:0<i:=by
  refine Em fun e=>?_;subst e;have:=(F.rt t h).1;omega
 obtain⟨q,s,e1,e2,e3,_,e5,e6⟩:=F.par h h0;have:q=p:=by omega
 subst this;have hc:rC xs q i:=⟨s,e3,by omega,e5⟩
 rw[Bo _ _ _ (by omega),bT,cD,bW,qV F hl,qV F hl];constructor
 ·rintro⟨h1,u,u1,u2,u3⟩;have:=e6 k u u1 h1 u3;by_cases he:q=k
  ·exact .inr he
  ·exact .inl ⟨by omega,F.NW ⟨u,u1,u2,u3⟩ hc this⟩
 ·rintro(⟨h1,h2⟩ | rfl)
  ·exact⟨by omega,F.NV h2 hc⟩
  ·exact⟨e1,hc⟩
def Et(xs:List du)(i:Nat):Nat->Nat
 | 0=>0
 | k+1=>if i<k/\Jq xs i k=true then Ky (Et xs i k) k else Et xs i k
def Ic(xs:List du)(i:Nat):Nat->Nat
 | 0=>0
 | k+1=>if(k:Int)∈rY xs i then Ky (Ic xs i k) k else Ic xs i k
theorem Ie{i:Nat}:∀(n:Nat),n<=xs.length->∀k,(Et xs i n).testBit k=true↔k<n/\i<k/\rC xs i k
 | 0,_,k=>by unfold Et;rw[gx];exact⟨fun h=>(by cases h),fun h=>by omega⟩
 | n+1,h,k=>by
  unfold Et;have ih:=Ie (i:=i) n (by omega) k;split
  ·rename_i hc;rw[Bo _ _ _ (by omega),cD,ih,bW];constructor
   ·rintro(⟨a,b⟩ | rfl)
    ·exact⟨by omega,b⟩
    ·exact⟨by omega,hc.1,nT.1 hc.2⟩
   ·rintro⟨a,b⟩;by_cases he:n=k
    ·exact .inr he
    ·exact .inl ⟨by omega,b⟩
  ·rename_i hc;rw[ih];refine⟨fun⟨a,b⟩=>⟨by omega,b⟩,fun⟨a,b,c⟩=>⟨?_,b,c⟩⟩;by_cases he:n=k
   ·subst he;exact absurd ⟨b,nT.2 c⟩ hc
   ·omega
theorem Ig{i:Nat}:∀(n:Nat),n<=xs.length->∀k,(Ic xs i n).testBit k=true↔k<n/\(k:Int)∈rY xs i
 | 0,_,k=>by unfold Ic;rw[gx];exact⟨fun h=>(by cases h),fun h=>by omega⟩
 | n+1,h,k=>by
  unfold Ic;have ih:=Ig (i:=i) n (by omega) k;split
  ·rename_i hc;rw[Bo _ _ _ (by omega),cD,ih,bW];constructor
   ·rintro(⟨a,b⟩ | rfl)
    ·exact⟨by omega,b⟩
    ·exact⟨by omega,hc⟩
   ·rintro⟨a,b⟩;by_cases he:n=k
    ·exact .inr he
    ·exact .inl ⟨by omega,b⟩
  ·rename_i hc;rw[ih];refine⟨fun⟨a,b⟩=>⟨by omega,b⟩,fun⟨a,b⟩=>⟨?_,b⟩⟩;by_cases he:n=k
   ·subst he;exact absurd b hc
   ·omega
theorem Q8{i n:Nat}{t:du}(h:xs[i]? =some t)(hn:t.en=n):Et xs i n=H9 xs i:=eX fun k=>by
 have pC:=(F.up i t h).2;rw[bT,Ie F hl n (by omega),tW F hl];refine⟨fun h=>h.2,fun⟨a,u,u1,u2,u3⟩=>⟨?_,a,u,u1,u2,u3⟩⟩;rw[h,aX]at u1;subst u1;omega
theorem Q9{i n:Nat}{t:du}(h:xs[i]? =some t)(hn:t.en=n):Ic xs i n=Ta xs i:=eX fun k=>by
 have pC:=(F.up i t h).2;rw[bT,Ig F hl n (by omega),Ib F hl];refine⟨fun h=>h.2,fun a=>⟨?_,a⟩⟩;obtain⟨q,u,e,h1,h2,_⟩:=nY.1 a;have:q=k:=by omega
 subst this;obtain⟨_,_,h3 | ⟨m,e,v,v1,v2,v3⟩⟩:=F.Ix ⟨u,h1,h2⟩
 ·omega
 ·have:m=i:=by omega
  subst this;rw[h,aX]at v1;subst v1;omega
theorem zN{i:Nat}:∀n,n<=i+1->Et xs i n=0
 | 0,_=>rfl
 | n+1,h=>by unfold Et;rw[if_neg (by omega),zN n (by omega)]
theorem zO{i:Nat}:∀n,n<=i+1->n<=xs.length->Ic xs i n=0
 | 0,_,_=>rfl
 | n+1,h,h'=>by
  unfold Ic;rw[if_neg,zO n (by omega) (by omega)];intro hm;obtain⟨q,u,e,h1,h2,_⟩:=nY.1 hm;have:=(F.Ix ⟨u,h1,h2⟩).1;omega
theorem Ra{i:Nat}:DX xs i&&& H9 xs i=0:=eX fun k=>by
 rw[O0,gx,dL];intro h;rw[aR,qV F hl,tW F hl]at h;omega
theorem Rb{i:Nat}:Ta xs i&&& H9 xs i=Ta xs i:=eX fun k=>by
 rw[O0,bT,aR,tW F hl];refine⟨fun h=>h.1,fun h=>⟨h,?_⟩⟩;rw[Ib F hl]at h;obtain⟨q,u,e,h1,h2,_⟩:=nY.1 h;have:q=k:=by omega
 subst this;obtain⟨g1,_,h3 | ⟨m,e,h3⟩⟩:=F.Ix ⟨u,h1,h2⟩
 ·omega
 ·have:m=i:=by omega
  subst this;exact⟨by omega,h3⟩
theorem Rc{i k:Nat}:(H9 xs i).testBit k=(DX xs k).testBit i:=by
 rw[bT,tW F hl,qV F hl]
end
mutual
def Vu:Nd->List Nd
 | .mk b l=>.mk b l::nsL l
def nsL:List Nd->List Nd
 | []=>[]
 | x::l=>Vu x++nsL l
end
mutual
theorem Ih:∀x,(Vu x).length=gp x
 | .mk b l=>by rw[Vu,gp,bf,Ii]
theorem Ii:∀l,(nsL l).length=di l
 | []=>by rw[nsL,di];rfl
 | x::l=>by rw[nsL,di,aO,Ih,Ii]
end
def agb(xs:List du)(vs:List (aH))(a:Nat)(x:Nd):Prop:=∃pa dp,qs xs (A7 a pa dp x) a/\yB xs x.b x.kids a=[]/\(∀m,m∈x.b.mv->Ep xs vs m=[])/\Fh x.b x.kids.length=true/\∀y,y∈x.kids->∃d,re d y=true
structure Snd (c:Ch) (xs:List du) (vs:List (aH)):Prop where
 fo:Fo xs
 le:xs.length<=64
 len:xs.length=gp c.root
 nd:(xs.map fun x:du=>x.nm).Nodup
 rt:c.root.b.k=1
 nice:∀i y,(Vu c.root)[i]? =some y->agb xs vs i y
section
variable {c:Ch} {xs:List du} {vs:List (aH)} (N:Snd c xs vs)
include N
theorem Snd.at_{i:Nat}{t:du}(h:xs[i]? =some t):∃b l pa dp,(Vu c.root)[i]? =some (.mk b l)/\t=⟨b.k,b.nm,pa,dp,((i+gp (.mk b l):Nat):Int)⟩/\qs xs (rB (i+1) i (dp+1) l) (i+1)/\yB xs b l i=[]/\(∀m,m∈b.mv->Ep xs vs m=[])/\Fh b l.length=true/\∀y,y∈l->∃d,re d y=true:=by
 have hi:i<(Vu c.root).length:=by rw[Ih,<-N.len];exact jm h
 obtain⟨y,hy⟩:∃y,(Vu c.root)[i]? =some y:=⟨_,bB hi⟩
 obtain⟨pa,dp,h1,h2,h3,h4,h5⟩:=N.nice i y hy;obtain⟨b,l⟩:=y;have ab7:=h1;rw[A7]at h1;have h0:=h1 0 _ rfl;rw[dx,h,aX]at h0;refine⟨b,l,pa,dp,hy,?_,fun j x hj=>?_,h2,h3,h4,h5⟩
 ·rw[h0];congr 1;rw[gp];omega
 ·have:=h1 (j+1) x hj;rwa[show i+(j+1)=i+1+j by omega]at this
theorem Snd.hk(n k:Nat)(h:Kc xs n k):SS xs n:=by
 have hb:=N.fo.Ix h;obtain⟨h1,h2,h3⟩:=hb;rcases h3 with h3 | ⟨m,e,u,u1,u2,u3⟩
 ·omega
 ·have:m=n:=by omega
  subst this;refine⟨u,u1,?_⟩;obtain⟨b,l,pa,dp,_,rfl,_,_,_,hb,_⟩:=N.at_ u1;dsimp only at u3⊢;unfold Fh at hb;by_cases hh:kR b.k=true
  ·rw[if_pos hh]at hb;simp only[aR]at hb;have:=(aP hb.2.2).2.2.2.2;have:l=[]:=List.length_eq_zero_iff.1 this;subst this;rw[gp,di]at u3;omega
  ·rw[if_neg hh]at hb;simp only[aR]at hb;exact(aP hb.2.1.1.1.1).1
end
def Cn(xs:List du)(G:aJ):Prop:=∀(n:Nat) (t:du) (c c' g g':Nat),xs[n]? =some t->t.k=1->Kc xs n c->Kc xs n c'->G g->G g'->rC xs c g->rC xs c' g'->c=c'
abbrev Mem:=Int->Option (List Int)
def Tc(xs:List du)(M:Mem):Prop:=∀(n:Nat) (t:du) (l:List Int),xs[n]? =some t->kR t.k=true->M n=some l->l≠[]/\(∀g,g∈l->∃k:Nat,g=k/\SS xs k/\Sb xs t.pa k)/\Cn xs fun k=>(k:Int)∈l
theorem Tc.none(xs:List du):Tc xs fun _=>none:=fun _ _ _ _ _ h=>by cases h
structure Ce where
 k:Int
 pa:Int
 up:Nat
 dn:Nat
 rg:Nat
 ini:Int
 dft:Int
 f0:Nat
 f1:Nat
def Nu(p:Pl)(a e:Nat)(b:Nb):Ce:=⟨b.k,Fk p.sp a,DX p.sp a,H9 p.sp a,Ta p.sp a,(p.ini[a]?).getD 0,(p.dft[a]?).getD 0,e,e+b.mv.length⟩
mutual
def JI:Nd->Nat
 | .mk b l=>b.mv.length+oX l
def oX:List Nd->Nat
 | []=>0
 | x::l=>JI x+oX l
end
mutual
def Kz(p:Pl):Nat->Nat->Nd->List Ce
 | a,e,.mk b l=>Nu p a e b::mj p (a+1) (e+b.mv.length) l
def mj(p:Pl):Nat->Nat->List Nd->List Ce
 | _,_,[]=>[]
 | a,e,x::l=>Kz p a e x++mj p (a+gp x) (e+JI x) l
end
def Ij(xs:List du)(r:Ro):Nat:=if 0<=r.dom then H9 xs r.dom.toNat else 0
mutual
theorem Bp(xs:List du):∀(x:Nd) (a:Nat),(B3 xs a x).length=JI x
 | .mk b l,a=>by rw[B3,JI,aO,kB,ye xs l]
theorem ye(xs:List du):∀(l:List Nd) (a:Nat),(kj xs a l).length=oX l
 | [],a=>by rw[kj,oX];rfl
 | x::l,a=>by rw[kj,oX,aO,Bp xs x,ye xs l]
end
mutual
theorem wu(p:Pl):∀(x:Nd) (a e:Nat),(Kz p a e x).length=gp x
 | .mk b l,a,e=>by rw[Kz,gp,bf,yf p l]
theorem yf(p:Pl):∀(l:List Nd) (a e:Nat),(mj p a e l).length=di l
 | [],a,e=>by rw[mj,di];rfl
 | x::l,a,e=>by rw[mj,di,aO,wu p x,yf p l]
end
theorem DZ(p:Pl):∀(l m:List Nd) (a e:Nat),mj p a e (l++m)=mj p a e l++mj p (a+di l) (e+oX l) m
 | [],m,a,e=>by rw[cf,mj,cf,di,oX,dx,dx]
 | x::l,m,a,e=>by rw[bZ,mj,mj,DZ p l m,bF,di,oX,dJ,dJ]
mutual
theorem Nv(p:Pl):∀(x:Nd) (a e i:Nat) (c:Ce),(Kz p a e x)[i]? =some c->∃b f,(B4 x)[i]? =some b/\c=Nu p (a+i) f b/\f+b.mv.length<=e+JI x
 | .mk b l,a,e,i,c,h=>by
  rw[Kz]at h;rw[B4,JI];cases i with
  | zero=>
   rw[ck,aX]at h;exact⟨b,e,rfl,h.symm,by omega⟩
  | succ i=>
   rw[cz]at h;obtain⟨b',f,h1,h2,h3⟩:=Bq p l _ _ i c h;exact⟨b',f,by rw[cz];exact h1,by rw[h2];congr 1;omega,by omega⟩
theorem Bq(p:Pl):∀(l:List Nd) (a e i:Nat) (c:Ce),(mj p a e l)[i]? =some c->∃b f,(vQ l)[i]? =some b/\c=Nu p (a+i) f b/\f+b.mv.length<=e+oX l
 | [],a,e,i,c,h=>by rw[mj]at h;cases h
 | x::l,a,e,i,c,h=>by
  rw[mj]at h;rw[vQ,oX];have hl:=wu p x a e;have hb:=tT x;by_cases hi:i<gp x
  ·rw[bM (by omega)]at h;obtain⟨b',f,h1,h2,h3⟩:=Nv p x _ _ i c h;exact⟨b',f,by rw[bM (by omega)];exact h1,h2,by omega⟩
  ·rw[bX (by omega),hl]at h;obtain⟨b',f,h1,h2,h3⟩:=Bq p l _ _ _ c h;exact⟨b',f,by rw[bX (by omega),hb];exact h1,by rw[h2];congr 1;omega,by omega⟩
end
theorem Ik{xs:List du}(F:Fo xs)(l:List Int):∀(n:Nat) {d:Int},d<xs.length->DS xs l n d<=d∨DS xs l n d<0
 | 0,d,_=>.inl (lU _)
 | n+1,d,h=>by
  unfold DS;split
  ·rename_i hc;obtain⟨k,rfl⟩:∃k:Nat,d=k:=⟨d.toNat,by omega⟩
   obtain⟨t,ht⟩:=mf (xs:=xs) (i:=k) (by omega);have:=F.NX ht;rw[nS ht];rcases Ik F l n (d:=t.pa) (by omega)with h | h
   ·exact .inl (by omega)
   ·exact .inr h
  ·exact .inl (lU _)
theorem Re{xs:List du}(F:Fo xs){a:Nat}(tg:List Int):Bk xs a tg<=a:=by
 unfold Bk;split
 ·omega
 ·rename_i h;have hm:Vl xs ((a:Int)::tg)<=a/\Vl xs ((a:Int)::tg)<xs.length:=by
   have hl:=F.ne;unfold Vl;split
   ·omega
   ·rcases tS xs ((a:Int)::tg) xs.length with⟨g,_⟩ | ⟨m,g1,g2,g3,_⟩
    ·omega
    ·obtain⟨k,e,s,_,h1,_⟩:=wo.1 g3 a (.head _);omega
  rcases Ik F ((a:Int)::tg) xs.length hm.2 with h | h<;>omega
theorem Bs(n:Int):IntKind.u64.wrap n=n % 18446744073709551616:=by simp[ar,IntKind.bits,IntKind.signed]
theorem Il{n:Nat}(h:n<18446744073709551616):IntKind.u64.wrap (n:Int)=n:=by rw[Bs];omega
theorem Bt(n:Nat):(2:Int) ^ n=((2 ^ n:Nat):Int):=by rw[Int.natCast_pow];rfl
theorem Im(x n:Nat)(hn:n<64):((x:Nat):Int).fdiv (2 ^ (min (Int.toNat (n:Int)) 64))=((x/2 ^ n:Nat):Int):=by
 rw[aZ,O1 (by omega),Bt,Int.fdiv_eq_ediv_of_nonneg _ (bm _),Int.natCast_ediv]
theorem wv{x n:Nat}(hx:x<18446744073709551616)(hn:n<64):bits .and .u64 (((x:Nat):Int).fdiv (2 ^ (min (Int.toNat (n:Int)) 64))) 1=((x.testBit n).toNat:Int):=by
 have hl:x/2 ^ n<=x:=Nat.div_le_self _ _;rw[Im x n hn,show(1:Int)=((1:Nat):Int)from rfl,u64_and_nat _ _ (by omega) (by decide),Nat.and_one_is_mod,fh];rcases Nat.mod_two_eq_zero_or_one (x/2 ^ n)with h | h<;>rw[h]<;>rfl
def Dj(w:av):Prop:=Lib.TabIs aq w "math/bits.deBruijn64tab" .u8 (Lib.deBruijn64tab.map fun x:Nat=>(x:Int))
theorem dj_num:Tryz.prog.globalNamed "math/bits.deBruijn64tab" =some 0:=by kernel_rfl
theorem Dj.keep{w w':av}(h:Dj w)(hk:0<w.heap.size->w'.heap[0]? =w.heap[0]?):Dj w':=by
 unfold Dj Lib.TabIs World.var? at h⊢;rw[dj_num]at h⊢;simp only[kr]at h⊢;rw[hk]
 ·exact h
 ·refine ch fun hn=>?_;rw[dU (by omega)]at h;cases h
theorem Dj.only{w w':av}(h:Dj w)(hO:ay [] w w'):Dj w':=h.keep fun bQ=>hO.block _ bQ (by simp)
theorem agc{w : av}(hD : Dj w){x : Nat}(hx : x < 18446744073709551616) : az aq 40 #[.int .u64 (x : Int)] w fun e w' => e = ak (O U (Lib.ctz 64 x : Nat)) /\ w' = w := by
  refine ret (afO _ _ _ ?_)
  refine ⟨fun hc => ?_, fun hc => ?_⟩
  · have hc : x = 0 := by have : (x : Int) = 0 := by simpa using hc
                          omega
    subst hc
    exact ⟨rfl, rfl⟩
  have hc : x ≠ 0 := by have : ¬ (x : Int) = 0 := by simpa using hc
                        omega
  obtain ⟨h1, h2⟩ := Lib.lowest_bit 64 x hc hx
  obtain ⟨h3, h4⟩ := Lib.deBruijn64_at _ h2
  have key : (IntKind.u64.wrap ((bits .and .u64 (x : Int) (IntKind.u64.wrap (0 - (x : Int)))) * 285870213051353865)).fdiv 288230376151711744 = ((2 ^ Lib.ctz 64 x * 285870213051353865 % 18446744073709551616 / 288230376151711744 : Nat) : Int) := by
    have e1 : IntKind.u64.wrap (0 - (x : Int)) = ((2 ^ 64 - x : Nat) : Int) := by rw [Bs]; omega
    rw [e1, u64_and_nat _ _ hx (by omega), h1, Bs, Int.fdiv_eq_ediv_of_nonneg _ (by omega)]
    generalize 2 ^ Lib.ctz 64 x = p
    omega
  generalize hi : 2 ^ Lib.ctz 64 x * 285870213051353865 % 18446744073709551616 / 288230376151711744 = i at *
  have hl : i < (Lib.deBruijn64tab.map fun x : Nat => (x : Int)).length := h3
  have vC := Lib.TabIs.cell hD dj_num i hl
  refine ⟨⟨0, i, none⟩, ?_, (Lib.ctz 64 x : Nat), fun j v hj => ?_, ?_, rfl⟩
  · rw [key]
    refine ⟨by omega, by omega, ?_⟩
    rw [aZ, iR, eU, bJ]
  · cases j with
    | zero =>
      rw [ck, aX] at hj
      subst hj
      have e : (Lib.deBruijn64tab.map fun x : Nat => (x : Int)).getD i 0 = (Lib.ctz 64 x : Nat) := by
        rw [<- h4, rm, rm, cF]
        cases Lib.deBruijn64tab[i]? <;> rfl
      rw [e] at vC
      exact vC
    | succ j => simp at hj
  · congr 1
    exact fQ (by omega) (by omega)
theorem Bw(w:av)(n:Int):az aq 39 #[O U n] w fun e w'=>e=ak (.int .u64 (rZ n:Nat))/\w'=w:=by
 refine ret (ZH _ _ _ ?_);refine⟨fun hc=>⟨?_,rfl⟩,fun hc=>?_⟩
 ·rw[cD,dz,dz]at hc;unfold rZ;rw[if_neg (by omega)];rfl
 ·rw[pb,fK,fK]at hc;refine⟨by omega,?_,rfl⟩;have hb:=lH n;have e:rZ n=2 ^ n.toNat:=by unfold rZ;rw[if_pos (by omega)]
  congr 1;rw[O1 (by omega),Int.one_mul,Bt,<-e];exact Il hb
theorem Bx{w:av}{F:aJ}{s:Sl}{l:List Int}(h:aA rInt 1 w F s l):az aq 14 #[s.v] w fun e w'=>e=ak (.int .u64 (mP l:Nat))/\w'=w:=by
 refine ret (ZE _ _ _ ?_);have hl:=h.len;have PD:=h.cap;have yj:=h.big;refine⟨fun kv m i u=>∃j:Nat,i=(j:Int)/\kv+j=l.length/\j<=l.length/\m=(((l.take j).foldl Ky 0:Nat):Int)/\u=w,l.length,⟨0,rfl,by omega,bp _,rfl,rfl⟩,?_⟩;rintro kv _ _ u ⟨j,rfl,u5,hj,rfl,hu⟩;obtain rfl:w=u:=hu.symm;refine⟨fun hc=>?_,fun hc=>?_⟩
 ·have hc:=aP hc;have lK:j<l.length:=by omega
  obtain⟨ad,a1,a2⟩:=oW h (bB lK);refine⟨ad,a1,_,a2,(Bw w l[j]).mono ?_⟩;rintro _ u ⟨rfl,hu⟩;obtain rfl:w=u:=hu.symm;refine⟨_,rfl,kv-1,by omega,j+1,by rw[fQ (by omega) (by omega)];rfl,by omega,by omega,?_,rfl⟩;rw[u64_or_nat _ _ (H8 _ (by decide)) (lH _),bH,bB lK,Gj];rfl
 ·have hc:=aU hc;rw[bA (by omega)];exact⟨rfl,rfl⟩
theorem D0{w : av}(hD : Dj w){x : Nat}(hx : x < 18446744073709551616) : az aq 15 #[.int .u64 (x : Int)] w fun e w' => (∃ s : Sl, e = ak s.v /\ fD w.heap.size w' s (ia x)) /\ ay [] w w' := by
  refine (ZF x (fun v w' => (∃ s : Sl, v = s.v /\ fD w.heap.size w' s (ia x)) /\ ay [] w w') w ?_).mono (by rintro _ w' ⟨v, rfl, ⟨s, rfl, h⟩, h'⟩; exact ⟨⟨s, rfl, h⟩, h'⟩)
  refine ⟨fun kv m l u => ∃ (y : Nat) (L : List Int), m = (y : Int) /\ y < 18446744073709551616 /\ kv = y /\ fD w.heap.size u l L /\ L ++ ia y = ia x /\ ay [] w u, x, ⟨x, [], rfl, hx, rfl, Own.nil _ _ _ _ _ _, rfl, Only.refl _ _⟩, ?_⟩
  rintro y _ l w0 ⟨y', L, rfl, hy, hk, hL, hn, cE⟩
  obtain rfl : y = y' := hk
  refine ⟨fun hc => ?_, fun hc => ?_⟩
  · have hc : y ≠ 0 := by have : ¬ (y : Int) = 0 := by simpa using hc
                          omega
    refine (agc (hD.only cE) hy).mono ?_
    rintro _ u ⟨rfl, hu⟩
    obtain rfl : w0 = u := hu.symm
    have eH : L.length <= 64 := by
      have := bO List.length hn
      rw [aO] at this
      have := zM x
      omega
    have lq := (DW hc hy).2.1
    obtain ⟨y1, w2, k1, k3, s', w3, g1, g2, g3, g4⟩ := Z1 w hL cE (Lib.ctz 64 y : Nat) ⟨by omega, by omega⟩ (by omega)
    refine ⟨_, rfl, y1, w2, k1, s', w3, g1, y &&& (y - 1), Vq hc, y &&& (y - 1), L ++ [((Lib.ctz 64 y : Nat) : Int)], ?_, Nat.lt_of_le_of_lt Nat.and_le_left hy, rfl, g2, ?_, g3⟩
    · have e : IntKind.u64.wrap ((y : Int) - 1) = ((y - 1 : Nat) : Int) := by rw [Bs]; omega
      rw [e, u64_and_nat _ _ hy (by omega)]
    · rw [bF, List.singleton_append, <- FI hc hy]
      exact hn
  · have hc : y = 0 := by have : (y : Int) = 0 := by simpa using hc
                          omega
    subst hc
    have e : ia 0 = [] := List.eq_nil_iff_forall_not_mem.2 fun n hn => by
      obtain ⟨k, _, _, hb⟩ := lP.1 hn
      rw [gx] at hb
      cases hb
    rw [e, bN] at hn
    rw [hn] at hL
    exact ⟨⟨l, rfl, hL⟩, cE⟩
end Go.Proofs.YtbkjcdocjfknfaaGreatDoor.Con
namespace Go.Kt
open Go renaming World->av,Value->aw
open Go Go.RowKit
set_option linter.unusedSimpArgs false
set_option linter.unusedVariables false
section
variable {P:Program} {w:av}
theorem uQ{α:Type}{r:Rp α}{size bytes:Nat}{F:Nat->Prop}{y:Sl}{ys:List α}{e t ty:TypeId}{i:TypeInfo}{z:aw}(ht:P.underlying t=some (.slice e))(hi:P.info? e=some i)(hz:i.zero=some z)(jM:i.size=size)(JL:i.bytes=bytes)(D7:z.cells.size=size)(h0:0<size)
  (hr:r.Ok) (hy:SliceF r size w F y ys) (hm:ys.length*bytes<=140737488355328) (yj:0<bytes):
  ∃x1 w1,(Instr.buildSlice t 0 #[]).run P w=.ok (Sl.v x1) w1/\Only [] w w1/\∃x2 w2,(Builtin.append_ #[t,t] ty #[Sl.v x1,Sl.v y]).run P w1=.ok (Sl.v x2) w2/\Own r size e w.heap.size w2 F x2 ys/\OnlyP (fun k=>w.heap.size<=k) w1 w2:=by
 have hO:Only [] w (w.alloc (.cells #[] e)):=Only.alloc _ _;have od:Own r size e w.heap.size (w.alloc (.cells #[] e)) (fun k=>F k/\k<w.heap.size) (⟨some ⟨w.heap.size,0,none⟩,0,0⟩:Sl) []:=
  .inr ⟨w.heap.size,[],[],rfl,aV _,Blk.alloc w e [],by simp,rfl,aV _,bp _,trivial⟩
 have hyk:SliceF r size (w.alloc (.cells #[] e)) (fun k=>(F k/\k<w.heap.size)/\(⟨some ⟨w.heap.size,0,none⟩,0,0⟩:Sl).a≠some ⟨k,0,none⟩) y ys:=
  ((hy.inHeap hr h0).keep hr h0 fun k _ bQ=>hO.block k bQ (by simp)).mono hr fun k hk=>⟨hk,fun h=>by
   injection h with h;injection h with h;have:=hk.2;omega⟩
 refine⟨⟨some ⟨w.heap.size,0,none⟩,0,0⟩,_,EP w ht hi,hO,?_⟩;obtain⟨s',w',g1,g2,gs,g3,g4,g5⟩:=oA (ty:=ty) ht hi hz jM JL D7 hr od hyk hO.size (by simpa using hm) yj;exact⟨s',w',g1,(by simpa using g2.mono hr fun k hk=>hk.1),g3.p fun g hg=>.inl (g4 g hg).2.1⟩
end
end Go.Kt
namespace Go.Proofs.YtbkjcdocjfknfaaGreatDoor.Con
open Go.Value renaming int->O,string->ab,pointer->ae,agg->ah,tuple->ai,bool->aj
open Go.IntKind renaming i64->U,wrap->ar
open Go.Ending renaming returned->ak
open _root_.ByteArray renaming mk->ao
open _root_.Go.Proofs.Tryz renaming prog->aq
open Go.Instr renaming buildSlice->au
open Go renaming World->av,Value->aw,Calls->az
open Go.Kt renaming Only->ay,SliceF->aA,Cells->aB,OnlyP->aD,Blk->aF
open Go Go.RowKit Go.Kt Go.Kt.V Go.Proofs.YtbkjcdocjfknfaaGreatDoor.Vc
set_option linter.unusedSimpArgs false
set_option linter.unusedVariables false
set_option linter.unusedSectionVars false
set_option maxHeartbeats 1600000
set_option maxRecDepth 100000
def Rf{α:Type}(r:Rp α):Rp (Option α):=fun w F x cs=>(∀v,v∈cs->v.oneCell'=true)/\∀y,x=some y->r w F y cs
theorem qW{α:Type}{r:Rp α}(hr:r.Ok):(Rf r).Ok where
 keep h hk:=⟨h.1,fun y e=>hr.keep (h.2 y e) hk⟩
 inHeap h:=⟨h.1,fun y e=>hr.inHeap (h.2 y e)⟩
 mono h hk:=⟨h.1,fun y e=>hr.mono (h.2 y e) hk⟩
 one h:=h.1
theorem Io{α:Type}{xs:List α}{j:Nat}(h:j<xs.length):(List.replicate j none++(xs.drop j).map some).set j none=List.replicate (j+1) none++(xs.drop (j+1)).map some:=by
 rw[gU h,bE,ni _ _ (by rw[gD];omega),gD,mD,Ek,List.replicate_succ',bF];rfl
theorem Bz{α:Type}{xs:List α}{j:Nat}(h:j<xs.length):(List.replicate j none++(xs.drop j).map some)[j]? =some (some xs[j]):=by
 rw[bX (by rw[gD];omega),gD,mD,gU h];rfl
theorem Nw{α:Type}{r:Rp α}{size:Nat}{w:av}{F:aJ}{s:Sl}{xs:List α}{e:TypeId}{B:Nat}(hr:r.Ok)(h:Own r size e B w F s xs):Own (Rf r) size e B w F s (xs.map some):=
 Own.map some h fun g x cs _ hx=>⟨hr.one hx,fun y e=>by
  injection e with e;subst e;exact hx⟩
theorem Ip{d:Nat}{w:av}{F:aJ}{s:Sl}{xs:List Ex}(h:aA (uG d) 6 w F s xs)(hm:xs.length<=1048576000):az aq 122 #[s.v] w fun e w'=>(∃t:Sl,e=ak t.v/\Own (uG d) 6 64 w.heap.size w' F t xs)/\ay [] w w':=by
 refine(afN s (fun v w'=>(∃t:Sl,v=t.v/\Own (uG d) 6 64 w.heap.size w' F t xs)/\ay [] w w') w ?_).mono (by rintro _ w' ⟨v,rfl,⟨t,rfl,h⟩,h'⟩;exact⟨⟨t,rfl,h⟩,h'⟩);refine⟨fun hc=>?_,fun _=>?_⟩
 ·have:=ER h (sH.1 hc);subst this;exact⟨⟨Sl.nil,rfl,Own.nil _ _ _ _ _ _⟩,Only.refl _ _⟩
 obtain⟨x1,w1,p1,p2,x2,w2,p3,p4,p5⟩:=uQ (P:=aq) (w:=w) (t:=62) (ty:=62) (e:=64) (i:=Tryz.t64) (bytes:=72) (size:=6) (r:=uG d) (by kernel_rfl) (by kernel_rfl) rfl rfl rfl rfl (by decide) (iO d) h (by omega) (by decide);exact⟨x1,w1,p1,x2,w2,p3,⟨x2,rfl,p4⟩,(p2.oZ p5).only fun k hk=>hk⟩
theorem D1:∀(d:Nat) {w:av} {F:aJ} {s:Sl} {xs:List Ex},aA (uG d) 6 w F s xs->lC (jG d) xs<=1048576000->
  az aq 82 #[s.v] w fun e w'=>(∃t:Sl,e=ak t.v)/\ay [] w w':=by
 intro d
 induction d with
 | zero=>
  intro w F s xs h hc;have hx:xs=[]:=by
   cases xs with
   | nil=>rfl
   | cons x xs=>
    obtain⟨base,cs,_,_,_,_,h5⟩:=h.at_ 0 x rfl;exact h5.elim
  subst hx;refine(SC s (fun v w'=>(∃t:Sl,v=t.v)/\ay [] w w') w ?_).mono (by rintro _ w' ⟨v,rfl,⟨t,rfl⟩,h'⟩;exact⟨⟨t,rfl⟩,h'⟩);refine(Ip h (by simp)).mono ?_;rintro _ w0 ⟨⟨t,rfl,hT⟩,hO⟩;have hn:t.n=0:=hT.len;refine⟨t,rfl,fun kv i u=>i=0/\u=w0,0,⟨rfl,rfl⟩,?_⟩;rintro kv _ u ⟨rfl,hu⟩;obtain rfl:w0=u:=hu.symm;exact⟨fun bQ=>absurd (aP bQ) (by omega),fun _=>⟨⟨t,rfl⟩,hO⟩⟩
 | succ d ih=>
  intro w F s xs h hc;have tY:=Hb (d:=d) (xs:=xs);refine(SC s (fun v w'=>(∃t:Sl,v=t.v)/\ay [] w w') w ?_).mono (by rintro _ w' ⟨v,rfl,⟨t,rfl⟩,h'⟩;exact⟨⟨t,rfl⟩,h'⟩);refine(Ip h (by omega)).mono ?_;rintro _ w0 ⟨⟨t,rfl,hT⟩,hO⟩;have z0:=hO.size;have hn:t.n=xs.length:=hT.len;have hcp:=hT.cap;refine⟨t,rfl,fun kv i u=>∃j:Nat,i=(j:Int)/\kv+j=xs.length/\j<=xs.length/\Own (Rf (uG (d+1))) 6 64 w.heap.size u F t (List.replicate j none++(xs.drop j).map some)/\ay [] w u,xs.length,⟨0,rfl,by omega,bp _,Nw (iO _) hT,hO⟩,?_⟩;rintro kv _ w1 ⟨j,rfl,u5,hj,W9,cA⟩;have z1:=cA.size;refine⟨fun bQ=>?_,fun _=>⟨⟨t,rfl⟩,cA⟩⟩;have bQ:=aP bQ;have lK:j<xs.length:=by omega
  obtain⟨g,cells,cs,a1,a2,a3,a4,a5,a6,_⟩:=Own.NK (qW (iO _)) W9 (Bz lK);obtain⟨sx,rfl,hsx⟩:=a6.2 _ rfl;have hcx:lC (jG d) xs[j].eN<=1048576000:=by
   have:=Mc (d:=d+1) (oq lK);rw[jG]at this;omega
  refine⟨_,a2,sx,a5.dT 4 _ rfl,(ih hsx hcx).mono ?_⟩;rintro _ w2 ⟨⟨l2,rfl⟩,cR⟩;have z2:=cR.size;have hT2:=W9.keep (qW (iO _)) fun k _ bQ=>cR.block k bQ (by simp);obtain⟨g',Gb,cs2,b1,b2,b3,b4,b5,b6,b7⟩:=Own.NK (qW (iO _)) hT2 (Bz lK);have RP:=(hT2.blk b1).1;dsimp only at RP;have c:=b7 4 l2.v none (fun _=>False) (by decide) ⟨fun v hv=>by
   rcases sI hv with hv | rfl
   ·exact b6.1 v hv
   ·rfl,fun y e=>by cases e⟩ (fun k hk _=>hk.elim)
  refine⟨l2,rfl,_,b2,g',j*6+4,Gb,_,rfl,b3,c.1,fun w3 dl um=>⟨kv-1,by omega,j+1,by rw[fQ (by omega) (by omega)];rfl,by omega,by omega,?_,(cA.cp cR).trans dl fun x hx=>.inr (by simp only[aN]at hx;omega)⟩⟩;have:=c.2 w3 dl um;rwa[Io lK]at this
theorem Vv{w:av}{F:aJ}{s:Sl}{xs:List Ac}(h:aA (pj false) 9 w F s xs)(hm:xs.length<=1048576000):az aq 121 #[s.v] w fun e w'=>(∃t:Sl,e=ak t.v/\Own (pj false) 9 196 w.heap.size w' F t xs)/\ay [] w w':=by
 refine(afM s (fun v w'=>(∃t:Sl,v=t.v/\Own (pj false) 9 196 w.heap.size w' F t xs)/\ay [] w w') w ?_).mono (by rintro _ w' ⟨v,rfl,⟨t,rfl,h⟩,h'⟩;exact⟨⟨t,rfl,h⟩,h'⟩);refine⟨fun hc=>?_,fun _=>?_⟩
 ·have:=ER h (sH.1 hc);subst this;exact⟨⟨Sl.nil,rfl,Own.nil _ _ _ _ _ _⟩,Only.refl _ _⟩
 obtain⟨x1,w1,p1,p2,x2,w2,p3,p4,p5⟩:=uQ (P:=aq) (w:=w) (t:=23) (ty:=23) (e:=196) (i:=Tryz.t196) (bytes:=104) (size:=9) (r:=pj false) (by kernel_rfl) (by kernel_rfl) rfl rfl rfl rfl (by decide) (cV false) h (by omega) (by decide);exact⟨x1,w1,p1,x2,w2,p3,⟨x2,rfl,p4⟩,(p2.oZ p5).only fun k hk=>hk⟩
theorem Iq{w:av}{F:aJ}{x:Ex}{cs:aI}(h:rE false w F x cs):∃sl d,cs=oO x.k x.n x.s x.op sl x.a/\aA (uG d) 6 w F sl x.eN:=by
 obtain⟨d,h⟩:=h;cases d with
 | zero=>exact h.elim
 | succ d=>
  obtain⟨sl,h,h2⟩:=h;exact⟨sl,d,h,Da h2.1 fun x cs _ h=>A1 h⟩
theorem BA(d:Nat):∀l:List Ex,lC (jG d) l<=Jo l
 | []=>bp _
 | y::l=>by rw[lC,Jo];exact iK (Fg d y) (BA d l)
theorem Ir(x:Ex):Jo x.eN<=zx x:=by rw[A5];omega
theorem BB{w:av}{F:aJ}{s:Sl}{xs:List Ac}(h:aA (pj false) 9 w F s xs)(hz:ir xs<=8388608):
  az aq 81 #[s.v] w fun e w'=>(∃t:Sl,e=ak t.v)/\ay [] w w':=by
 have tY:=kT xs;refine(ZK s (fun v w'=>(∃t:Sl,v=t.v)/\ay [] w w') w ?_).mono (by rintro _ w' ⟨v,rfl,⟨t,rfl⟩,h'⟩;exact⟨⟨t,rfl⟩,h'⟩);refine(Vv h (by omega)).mono ?_;rintro _ w0 ⟨⟨t,rfl,hT⟩,hO⟩;have z0:=hO.size;have hn:t.n=xs.length:=hT.len;have hcp:=hT.cap;refine⟨t,rfl,fun kv i u=>∃j:Nat,i=(j:Int)/\kv+j=xs.length/\j<=xs.length/\Own (Rf (pj false)) 9 196 w.heap.size u F t (List.replicate j none++(xs.drop j).map some)/\ay [] w u,xs.length,⟨0,rfl,by omega,bp _,Nw (cV _) hT,hO⟩,?_⟩;rintro kv _ w1 ⟨j,rfl,u5,hj,W9,cA⟩;have z1:=cA.size;refine⟨fun bQ=>?_,fun _=>⟨⟨t,rfl⟩,cA⟩⟩;have bQ:=aP bQ;have lK:j<xs.length:=by omega
 obtain⟨g,cells,cs,a1,a2,a3,a4,a5,a6,_⟩:=Own.NK (qW (cV _)) W9 (Bz lK);obtain⟨xc,rfl,hx⟩:=a6.2 _ rfl;obtain⟨sx,d,rfl,hsx⟩:=Iq hx;have hyz:Jw xs[j]<=ir xs:=xO (oq lK);unfold Jw at hyz;have q1:=Ir xs[j].x;have q2:=BA d (xs[j].x).eN;refine⟨_,a2,sx,a5.dT 6 _ rfl,(D1 d hsx (by omega)).mono ?_⟩;rintro _ w2 ⟨⟨l2,rfl⟩,cR⟩;have z2:=cR.size;have hT2:=W9.keep (qW (cV _)) fun k _ bQ=>cR.block k bQ (by simp);obtain⟨g',Gb,cs2,b1,b2,b3,b4,b5,b6,b7⟩:=Own.NK (qW (cV _)) hT2 (Bz lK);have RP:=(hT2.blk b1).1;dsimp only at RP;have c:=b7 6 l2.v none (fun _=>False) (by decide) ⟨fun v hv=>by
  rcases sI hv with hv | rfl
  ·exact b6.1 v hv
  ·rfl,fun y e=>by cases e⟩ (fun k hk _=>hk.elim)
 refine⟨l2,rfl,_,b2,g',j*9+6,Gb,_,rfl,b3,c.1,fun w3 dl um=>⟨kv-1,by omega,j+1,by rw[fQ (by omega) (by omega)];rfl,by omega,by omega,?_,(cA.cp cR).trans dl fun x hx=>.inr (by simp only[aN]at hx;omega)⟩⟩;have:=c.2 w3 dl um;rwa[Io lK]at this
section
variable {α:Type} {r:Rp α} {size bytes:Nat} {e t ty:TypeId} {i:TypeInfo} {z v:aw} {w u:av} {A:Nat} {s y:Sl} {xs:List α} {x:α}
theorem Nx(hf:∀(w:av) (F G:aJ) (x:α) (cs:aI),r w F x cs->r w G x cs){F G:aJ}(h:Own r size e A w F s xs):Own r size e A w G s xs:=by
 rcases h with⟨rfl,rfl⟩ | ⟨g,css,tail,h1,h2,h4,h5,h6,h7,h9,h8⟩
 ·exact .inl ⟨rfl,rfl⟩
 ·exact .inr ⟨g,css,tail,h1,h2,h4,h5,h6,h7,h9,ff.NL (fun x c _ hc=>⟨hc.1,hf _ _ _ _ _ hc.2⟩) h8⟩
theorem Rg(ht:Tryz.prog.underlying t=some (.slice e))(hi:Tryz.prog.info? e=some i)(hz:i.zero=some z)(jM:i.size=size)(h0:0<size)(wx:1*size<=16777216)(hr:r.Ok)(hv:v.cells.toList.length=size)(hx:r u (fun _=>False) x v.cells.toList):
  ∃y w1,(au t 1 #[.mk 0 v]).run aq u=.ok (Sl.v y) w1/\ay [] u w1/\aA r size w1 (fun k=>u.heap.size<=k/\k<w1.heap.size) y [x]:=by
 obtain⟨y,w1,k1,k2,k3,_⟩:=gV (P:=aq) (t:=t) (e:=e) (i:=i) (z:=z) (w:=u) (F:=fun _=>False) (vs:=[v]) (parts:=#[.mk 0 v]) (len:=1) (xs:=[x]) (r:=r) (size:=size) ht hi hz jM h0 rfl rfl (by decide) wx hr ⟨⟨hv,hx⟩,trivial⟩;exact⟨y,w1,k1,k3,(SliceF.inHeap hr (k2.slice hr) h0).mono hr fun k hk=>⟨(hk.1.resolve_left id).1,hk.2⟩⟩
theorem Ny(ht:Tryz.prog.underlying t=some (.slice e))(hi:Tryz.prog.info? e=some i)(hz:i.zero=some z)(jM:i.size=size)(JL:i.bytes=bytes)(D7:z.cells.size=size)(yj:0<bytes)(hr:r.Ok)(hf:∀(w:av) (F G:aJ) (x:α) (cs:aI),r w F x cs->r w G x cs)
  (h:Own r size e A u (fun _=>False) s xs) (hA:A<=u.heap.size) {G:aJ} (hy:aA r size u G y [x]) (hG:∀k,G k->¬eE s k) (hm:(xs.length+1)*bytes<=140737488355328):
  ∃s' w2,(Builtin.append_ #[t,t] ty #[Sl.v s,Sl.v y]).run aq u=.ok (Sl.v s') w2/\Own r size e A w2 (fun _=>False) s' (xs++[x])/\aD (eE s) u w2/\∀k,eE s' k->eE s k∨u.heap.size<=k:=by
 obtain⟨s',w2,g1,g2,gs,g3,g4,g5⟩:=oA (P:=aq) (t:=t) (ty:=ty) (e:=e) (i:=i) (bytes:=bytes) (size:=size) (r:=r) (F:=fun _=>True) (y:=y) (ys:=[x]) ht hi hz jM JL D7 hr (h.mono hr fun k hk=>trivial) (hy.mono hr fun k hk=>⟨trivial,hG k hk⟩) hA (by simpa using hm) yj;refine⟨s',w2,g1,Nx hf g2,g3.p fun g hg=>.inl (g4 g hg).1,fun k hk=>?_⟩;unfold eE at hk⊢;rcases g5 with e | e
 ·exact .inl (by rw[<-e];exact hk)
 ·rw[e]at hk;injection hk with hk;injection hk with hk;exact .inr (by omega)
end
def It:Rp Ce:=fun _ _ x cs=>∃en lv:Sl,cs=[O U x.k,O U x.pa,.int .u64 (x.up:Nat),.int .u64 (x.dn:Nat),.int .u64 (x.rg:Nat),O U x.ini,O U x.dft,en.v,lv.v,O U (x.f0:Nat),O U (x.f1:Nat)]
theorem iA:It.Ok where
 keep h _:=h
 inHeap h:=h
 mono h _:=h
 one:=by
  rintro w F x cs ⟨en,lv,rfl⟩ v hv;simp only[aQ,aW,bP]at hv;rcases hv with rfl | rfl | rfl | rfl | rfl | rfl | rfl | rfl | rfl | rfl | rfl<;>rfl
def Nz:Rp Nat:=fun _ _ x cs=>cs[7]? =some (.int .u64 (x:Int))/\∀v,v∈cs->v.oneCell'=true
theorem oY:Nz.Ok where
 keep h _:=h
 inHeap h:=h
 mono h _:=h
 one h:=h.2
theorem D2(w:av)(F G:aJ)(x:aH)(cs:aI)(h:im w F x cs):im w G x cs:=h
theorem NA(w:av)(F G:aJ)(x:Ce)(cs:aI)(h:It w F x cs):It w G x cs:=h
theorem NB(w:av)(F G:aJ)(x:Nat)(cs:aI)(h:Nz w F x cs):Nz w G x cs:=h
structure Ma (w:av) (b:Nat) (F:aJ) (sn sv su sc se s si sd sr:Sl) (nm:List (aH)) (ce:List Ce) (ed:List Nat) (p:Pl):Prop where
 blk:aF w b 93 [sn.v,sv.v,su.v,sc.v,se.v,s.v,si.v,sd.v,sr.v]
 pl:PlR w F s si sd sr p
 hF:∀k,F k->k<w.heap.size/\k≠b/\¬Q3 sn sc se k
 n:Own im 1 9 (b+1) w (fun _=>False) sn nm
 c:Own It 11 44 (b+1) w (fun _=>False) sc ce
 e:Own Nz 16 66 (b+1) w (fun _=>False) se ed
 ap:∀k,eE sn k->¬eE sc k/\¬eE se k
 ap2:∀k,eE sc k->¬eE se k
section
variable {w w' u:av} {F:aJ} {sn sv su sc se s si sd sr yw u6 KS:Sl} {b:Nat} {nm nm':List (aH)} {ce ce':List Ce} {ed ed':List Nat} {p:Pl}
theorem Ma.lt(h:Ma w b F sn sv su sc se s si sd sr nm ce ed p):b<w.heap.size:=h.blk.lt
theorem Ma.bn(h:Ma w b F sn sv su sc se s si sd sr nm ce ed p):∀k,eE sn k->b<k/\k<w.heap.size:=fun k e=>by have:=h.n.blk e;dsimp only at this;omega
theorem Ma.bc(h:Ma w b F sn sv su sc se s si sd sr nm ce ed p):∀k,eE sc k->b<k/\k<w.heap.size:=fun k e=>by have:=h.c.blk e;dsimp only at this;omega
theorem Ma.be(h:Ma w b F sn sv su sc se s si sd sr nm ce ed p):∀k,eE se k->b<k/\k<w.heap.size:=fun k e=>by have:=h.e.blk e;dsimp only at this;omega
theorem Ma.q3(h:Ma w b F sn sv su sc se s si sd sr nm ce ed p):∀k,Q3 sn sc se k->b<k/\k<w.heap.size:=fun k hk=>hk.elim (h.bn k) fun hk=>hk.elim (h.bc k) (h.be k)
theorem PlR.keep(h:PlR w F s si sd sr p)(hk:∀k,F k->k<w.heap.size->w'.heap[k]? =w.heap[k]?):PlR w' F s si sd sr p:=
 ⟨h.sp.keep ey (by decide) hk,h.ini.keep cx (by decide) hk,h.dft.keep cx (by decide) hk,h.ro.keep iP (by decide) hk⟩
theorem Ma.o0(h:Ma w b F sn sv su sc se s si sd sr nm ce ed p)(hO:ay [] w w'):Ma w' b F sn sv su sc se s si sd sr nm ce ed p:=
 ⟨hO.blk h.blk (by simp),h.pl.o0 hO,fun k hk=>⟨cb (h.hF k hk).1 hO.size,(h.hF k hk).2⟩,h.n.keep cG fun k _ bQ=>hO.block k bQ (by simp),h.c.keep iA fun k _ bQ=>hO.block k bQ (by simp),h.e.keep oY fun k _ bQ=>hO.block k bQ (by simp),h.ap,h.ap2⟩
theorem Ma.fin(h:Ma w b F sn sv su sc se s si sd sr nm ce ed p)(z:w.heap.size<=u.heap.size)(hk:∀k,k<w.heap.size->k≠b->¬Q3 sn sc se k->u.heap[k]? =w.heap[k]?)
  (h1:Own im 1 9 (b+1) u (fun _=>False) yw nm') (h2:Own It 11 44 (b+1) u (fun _=>False) u6 ce') (h3:Own Nz 16 66 (b+1) u (fun _=>False) KS ed')
  (hq:∀k,Q3 yw u6 KS k->Q3 sn sc se k∨w.heap.size<=k) (a1:∀k,eE yw k->¬eE u6 k/\¬eE KS k) (a2:∀k,eE u6 k->¬eE KS k)
  (hB:aF u b 93 [yw.v,sv.v,su.v,u6.v,KS.v,s.v,si.v,sd.v,sr.v]):Ma u b F yw sv su u6 KS s si sd sr nm' ce' ed' p:=
 ⟨hB,h.pl.keep fun k hF bQ=>hk k bQ (h.hF k hF).2.1 (h.hF k hF).2.2,fun k hF=>⟨by have:=(h.hF k hF).1;omega,(h.hF k hF).2.1,fun e=>(hq k e).elim (h.hF k hF).2.2 fun e=>by have:=(h.hF k hF).1;omega⟩,h1,h2,h3,a1,a2⟩
theorem qt{α:Type}{r:Rp α}{size:Nat}{e:TypeId}{q:Sl}{xs:List α}(hr:r.Ok)(h:Own r size e (b+1) w (fun _=>False) q xs)(hO:ay [b] w w'):Own r size e (b+1) w' (fun _=>False) q xs:=
 h.keep hr fun k hk bQ=>hO.block k bQ (by have:=hk.resolve_left id;simp;omega)
end
section
variable {B:Nat} {w w':av} {s:Sl} {l d:List Int}
theorem fD.cells(h:fD B w s l){g:Nat}(ha:s.a=some ⟨g,0,none⟩):∃tail,B<=g/\aF w g 3 (l.map (Value.int U)++tail)/\tail.length=s.c-s.n/\s.n=l.length/\s.n<=s.c/\s.c<=9223372036854775807/\∀x,x∈l->rn x:=by
 rcases h with⟨rfl,rfl⟩ | ⟨g',css,tail,h1,h2,h4,h5,h6,h7,h9,h8⟩
 ·cases ha
 ·rw[h1]at ha;injection ha with ha;injection ha with ha;subst ha;have N0:∀{l:List Int} {css:List (aI)},kY rInt 1 w (fun k=>False/\k≠g') l css->css.flatten=l.map (Value.int U)/\∀x,x∈l->rn x:=by
   intro l css
   induction l generalizing css with
   | nil=>
    intro h;have:=h.len;cases css with
    | nil=>exact⟨rfl,fun x hx=>by cases hx⟩
    | cons c css=>cases this
   | cons a l ih=>
    intro h;cases css with
    | nil=>have:=h.len;cases this
    | cons c css=>
     have hh:=h;unfold kY at hh;obtain⟨⟨sF,mB,Ei⟩,hr⟩:(c.length=1/\rInt w (fun k=>False/\k≠g') a c)/\kY rInt 1 w (fun k=>False/\k≠g') l css:=hh;obtain⟨e1,e2⟩:=ih hr;refine⟨by rw[cY,e1,mB];rfl,fun x hx=>?_⟩;rw[aQ]at hx;rcases hx with rfl | hx
     ·exact Ei
     ·exact e2 x hx
  obtain⟨e1,e2⟩:=N0 h8;rw[e1]at h4;exact⟨tail,h2,h4,by omega,h6,h7,h9,e2⟩
theorem fD.mk{g:Nat}{tail:aI}(ha:s.a=some ⟨g,0,none⟩)(hB:B<=g)(hb:aF w g 3 (l.map (Value.int U)++tail))(ht:tail.length=s.c-s.n)(hn:s.n=l.length)(hc:s.n<=s.c)(Tj:s.c<=9223372036854775807)(hi:∀x,x∈l->rn x):fD B w s l:=by
 refine .inr ⟨g,l.map fun x=>[Value.int U x],tail,ha,hB,?_,by omega,hn,hc,Tj,?_⟩
 ·have:(l.map fun x=>[Value.int U x]).flatten=l.map (Value.int U):=by
   clear hb hn hi
   induction l with
   | nil=>rfl
   | cons a l ih=>rw[bE,cY,ih];rfl
  rw[this];exact hb
 ·clear hb hn
  induction l with
  | nil=>trivial
  | cons a l ih=>exact⟨⟨rfl,rfl,hi a (.head _)⟩,ih fun x hx=>hi x (.tail _ hx)⟩
theorem fD.ofRow{v:aw}(h:w'.ownsRow B 3 1 v l.length (l.map (Value.int U)))(hi:∀x,x∈l->rn x):∃s:Sl,v=s.v/\fD B w' s l:=by
 rcases h.2 with⟨rfl,hn⟩ | ⟨g,cap,cur,rfl,h1,h2,h3,h4,h5,h6⟩
 ·have:l=[]:=ca hn;subst this;exact⟨Sl.nil,rfl,Own.nil _ _ _ _ _ _⟩
 ·refine⟨⟨some ⟨g,0,none⟩,l.length,cap⟩,rfl,fD.mk (tail:=cur.toList.drop l.length) rfl h1 ?_ ?_ rfl h3 ?_ hi⟩
  ·rw[iR]at h6;rw[<-h6,dD];unfold aF;rw[h2]
  ·dsimp only;rw[cy,kE,h5];omega
  ·have:maxLen=9223372036854775807:=rfl;dsimp only;omega
end
end Go.Proofs.YtbkjcdocjfknfaaGreatDoor.Con
