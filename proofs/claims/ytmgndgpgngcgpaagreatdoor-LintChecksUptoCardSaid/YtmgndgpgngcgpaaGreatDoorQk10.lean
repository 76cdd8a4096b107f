import Derived.Test.YtmgndgpgngcgpaaGreatDoorQk9
set_option linter.unusedSectionVars false
set_option linter.unusedSimpArgs false
set_option linter.unusedVariables false
set_option maxHeartbeats 4000000
set_option maxRecDepth 100000
open Go.Value renaming int->O,string->ab,pointer->ae,agg->ah,tuple->ai,bool->aj
open Go.IntKind renaming i64->U,wrap->ar
open Go.Ending renaming returned->ak
open _root_.ByteArray renaming mk->ao
open _root_.Go.Proofs.Tryz renaming prog->aq
open Go.Instr renaming buildSlice->au
open Go renaming World->av,Value->aw,Calls->az
open Go.Kt renaming Only->ay,SliceF->aA,Cells->aB,OnlyP->aD,Blk->aF
namespace Go.Proofs.YtmgndgpgngcgpaaGreatDoor.Con
open Go Go.RowKit Go.Kt Go.Kt.V Go.Proofs.YtmgndgpgngcgpaaGreatDoor.Vc Go.ChangeShapes Go.WideShapes
theorem JP{D E:Type}{B:D->Nat}{sz:E->Nat}{Q:Nat->E->Prop}:∀(xs:List D) (o:Nat),(∀j y,xs[j]? =some y->∃e,Q (o+j) e/\sz e<=B y)->
  ∃l:List E,l.length=xs.length/\(∀j e,l[j]? =some e->Q (o+j) e)/\(l.map sz).sum<=(xs.map B).sum
 | [],o,_=>⟨[],rfl,λj p h=>aa6,aY _⟩
 | x::xs,o,h=>by
  obtain⟨e,h1,h2⟩:=h 0 x rfl;obtain⟨l,h3,h4,h5⟩:=JP (B:=B) (sz:=sz) (Q:=Q) xs (o+1) λj y hj=>by
   have:=h (j+1) y hj;rwa[eo,kf 1 j]
  refine⟨e::l,by rw[aW,aW,h3],λj p hj=>?_,?_⟩
  ·cases j with
   | zero=>
    simp only[cD,bq]at hj;subst hj;exact h1
   | succ j=>
    have:=h4 j p hj;rwa[eo,kf 1 j]at this
  rw[bK,cE,bK,cE];exact kY h2 h5
theorem B3{n:Nat}:∀{l:List Nat},n∈l->n<=l.sum
 | [],h=>aa6
 | x::l,h=>by
  rw[cE];rcases ba.1 h with rfl | h
  ·omega
  have:=B3 h;omega
theorem JQ{E:Type}(f:E->Nat):∀(l:List E),∃m,∀p,p∈l->f p<=m
 | []=>⟨0,λp h=>aa6⟩
 | x::l=>by
  obtain⟨m,h⟩:=JQ f l;refine⟨max (f x) m,λp hp=>?_⟩;rcases ba.1 hp with rfl | hp
  ·exact AB _ _
  exact bB (h p hp) (yV _ _)
theorem MG{α β:Type}{r:Rp α}{q:Rp β}{size:Nat}{w:av}{F:aJ}{s:Sl}{xs:List α}(f:α->β)(h:aA r size w F s xs)(hf:∀x cs,x∈xs->r w F x cs->q w F (f x) cs):aA q size w F s (xs.map f):=by
 refine⟨by rw[bN];exact h.len,h.cap,h.nil0,h.big,λj y hj=>?_⟩;rw[cA,eE]at hj;obtain⟨x,hx,rfl⟩:=hj;obtain⟨bs,cs,g1,g2,g3,g4,g5⟩:=h.at_ j x hx;exact⟨bs,cs,g1,g2,g3,g4,hf x cs (bh hx) g5⟩
theorem DC{α:Type}{r:Rp α}{size:Nat}{w:av}{F:aJ}{s:Sl}{xs:List α}(h:aA r size w F s xs){x:α}(hx:x∈xs):∃cs,r w F x cs:=h.mem hx
def rXU:Rp (Ex×Nat):=λw F x cs=>rE false w F x.1 cs/\NY x.1/\Ai x.1<=x.2
def V9:Rp (Ac×Nat):=λw F x cs=>mG false w F x.1 cs/\Dm x.1/\Du x.1<=x.2
def aaw:Rp (Mv×Nat):=λw F x cs=>Af false w F x.1 cs/\PA x.1/\EX x.1+2<=x.2
def amg:Rp (Vr×Nat):=λw F x cs=>xQ w F x.1 cs/\wE x.1.v/\x.1.n.length+1<=x.2
theorem MH:∀l:List Ex,Ix l=(l.map Ai).sum
 | []=>rfl
 | x::l=>by rw[Ix,bK,cE,MH l]
theorem HQ:∀l:List Ac,iW l=(l.map Du).sum
 | []=>rfl
 | x::l=>by rw[iW,bK,cE,HQ l]
theorem HR:∀l:List Mv,yt l=(l.map EX).sum
 | []=>rfl
 | x::l=>by rw[yt,bK,cE,HR l]
theorem HS:∀l:List Vr,mB l=(l.map λv=>v.n.length+1).sum
 | []=>rfl
 | x::l=>by rw[mB,bK,cE,HS l]
theorem HT:∀l:List Nd,jB l=(l.map lQ).sum
 | []=>by rw[jB];rfl
 | x::l=>by rw[jB,bK,cE,HT l]
theorem Aq{α:Type}{f:α->Nat}:∀{l:List (α×Nat)},(∀x,x∈l->f x.1<=x.2)->((l.map (·.1)).map f).sum<=(l.map λx=>x.2).sum
 | [],_=>aY _
 | x::l,h=>by
  rw[bK,bK,cE,bK,cE];exact kY (h x aM) (Aq λy hy=>h y agD)
theorem bsz(s:aK):s.data.toList.length=s.size:=by rw[ta];rfl
section
variable {H:Type} {enc:TypeId×aw->H} {W:av} {base:Nat} {spare:Nat->Bool} {held:Bool} {B:DataW H->Nat}
def Sh(enc:TypeId×aw->H)(W:av)(base:Nat)(spare:Nat->Bool)(held:Bool)(t:TypeId):Rp (DataW H):=λ_ _ x cs=>∃fh p,DataW.trod enc aq W base spare held fh t cs=some (x,p)/\∀n,n∈x.weights aq t->n<=reachBytes
theorem HU(hB:IsBulk B)(t:TypeId):jP B enc aq W base spare held t (Sh enc W base spare held t) B:=λfh cs x h hw=>⟨x.1,⟨fh,x.2,h,hw⟩,aY _⟩
theorem Og(hB:IsBulk B):jP B enc aq W base spare held 40 (oC qk (oC qk (oC Sf (oC qk (oC (rSl (Sh enc W base spare held 40) 6 72) (oC qk Se))))))
  λx=>(1+(1+((x.2.2.1.size+1)+(1+(((x.2.2.2.2.1.map B).sum+1)+(1+0))))))+1:=by
 have h:=j6 (enc:=enc) (P:=aq) (W:=W) (base:=base) (spare:=spare) (held:=held) (T:=6) hB Tryz.underlying40 (by kernel_rfl)
  (dJ (s:=1) rfl (by kernel_rfl) (gQ hB (iu Tryz.underlying3)) (dJ (s:=1) rfl (by kernel_rfl) (gQ hB (iu Tryz.underlying3)) (dJ (s:=1) rfl (by kernel_rfl) (kB hB Tryz.underlying9) (dJ (s:=1) rfl (by kernel_rfl) (gQ hB (iu Tryz.underlying3)) (dJ (s:=1) rfl (by kernel_rfl) (iY (size:=6) (bytes:=72) hB Tryz.underlying38 (by kernel_rfl) (by kernel_rfl) (HU hB _)) (dJ (s:=1) rfl (by kernel_rfl) (gQ hB (iu Tryz.underlying3)) (vg rfl)))))))
 exact h
theorem Si(hB:IsBulk B):∀(N:Nat) {x:DataW H} {cs:aI} {F:aJ},B x<=N->Sh enc W base spare held 40 W F x cs->∃(e:Ex) (d:Nat),Jn false d W (λ_=>True) e cs/\NY e/\Ai e<=B x
 | 0,x,cs,F,h,_=>by have:=hB.one x;omega
 | N+1,x,cs,F,h,⟨fh,p,ht,hw⟩=>by
  obtain⟨⟨k,n,s,op,xs,a,u⟩,hr,hm⟩:=Og (enc:=enc) (W:=W) (base:=base) (spare:=spare) (held:=held) hB fh cs (x,p) ht hw;obtain⟨c1,r1,rfl,⟨rfl,i1⟩,c2,r2,rfl,⟨rfl,i2⟩,c3,r3,rfl,⟨rfl,i3⟩,c4,r4,rfl,⟨rfl,i4⟩,c5,r5,rfl,⟨sl,rfl,pH,_⟩,c6,r6,rfl,⟨rfl,i6⟩,hu⟩:=hr;have hu:r6=[]:=hu;subst hu;dsimp only at hm pH i1 i2 i3;have OY:∀y,y∈xs->B y<=(xs.map B).sum:=λy hy=>B3 (List.mem_map_of_mem hy);obtain⟨l,l1,l2,l3⟩:=JP (B:=B) (sz:=λe:Ex×Nat=>Ai e.1) (Q:=λj e=>∃base cs,sl.a=some base/\cs.length=6/\aB W (base.add (j*6)) cs/\Jn false e.2 W (λ_=>True) e.1 cs/\NY e.1) xs 0 λj y hj=>by
   rw[bM];obtain⟨bs,ds,g1,g2,g3,g4,g5⟩:=pH.at_ j y hj;obtain⟨e,d,t1,t2,t3⟩:=Si hB N (x:=y) (by have:=OY y (bh hj);omega) g5;exact⟨(e,d),⟨bs,ds,g1,g3,g4,t1,t2⟩,t3⟩
  obtain⟨m,hmx⟩:=JQ (λe:Ex×Nat=>e.2) l;refine⟨.mk k n s.data.toList op (l.map (·.1)) a,m+1,⟨sl,?_,?_,λh=>aaQ⟩,λd=>?_,?_⟩
  ·have e:lf k n s.data.toList op sl a=[O U k,O U n,ab s,O U op,sl.v,O U a]:=by
    show[_,_,Value.string (T s.data.toList),_,_,_]=_;rw[<-zy s]
   exact e.symm
  ·refine⟨by rw[Ex.dh,bN,l1];exact pH.len,pH.cap,pH.nil0,pH.big,λj e hj=>?_⟩;rw[Ex.dh,cA,eE]at hj;obtain⟨q,q1,rfl⟩:=hj;obtain⟨bs,ds,g1,g2,g3,g4,g5⟩:=l2 j q q1;rw[bM]at g3;exact⟨bs,ds,g1,trivial,g2,g3,Jo (hmx q (bh q1)) g4⟩
  ·cases d with
   | zero=>trivial
   | succ d=>
    refine⟨i2,λy hy=>?_⟩;obtain⟨q,q1,rfl⟩:=gM.1 hy;obtain⟨j,hj⟩:=gz q1;obtain⟨bs,ds,g1,g2,g3,g4,g5⟩:=l2 j q hj;exact g5 d
  rw[yr];show Ix (l.map (·.1))+(s.data.toList.length+1)<=_;rw[MH,iE,bsz];have e:(l.map (Ai∘λx=>x.1)).sum=(l.map λe:Ex×Nat=>Ai e.1).sum:=rfl;omega
theorem DD(hB:IsBulk B):jP B enc aq W base spare held 40 rXU λx=>x.2:=λfh cs x h hw=>by
 obtain⟨e,d,h1,h2,h3⟩:=Si hB (B x.1) (x:=x.1) (F:=λ_=>True) (aY _) ⟨fh,x.2,h,hw⟩;exact⟨(e,B x.1),⟨⟨d,h1⟩,h2,h3⟩,aY _⟩
theorem yD(hB:IsBulk B):jP B enc aq W base spare held 139 V9 λx=>x.2:=by
 have h:=j6 (enc:=enc) (P:=aq) (W:=W) (base:=base) (spare:=spare) (held:=held) (T:=9) hB Tryz.underlying139 (by kernel_rfl)
  (dJ (s:=1) rfl (by kernel_rfl) (gQ hB (iu Tryz.underlying3)) (dJ (s:=1) rfl (by kernel_rfl) (kB hB Tryz.underlying9) (dJ (s:=6) rfl (by kernel_rfl) (DD hB) (dJ (s:=1) rfl (by kernel_rfl) (gQ hB (iu Tryz.underlying3)) (vg rfl)))))
 refine h.map (λx=>((⟨x.1,x.2.1.data.toList,x.2.2.1.1,x.2.2.2.1⟩:Ac),x.2.2.1.2+(x.2.1.size+1))) ?_;rintro⟨k,n,⟨e,m⟩,a,u⟩ cs ⟨c1,r1,rfl,⟨rfl,i1⟩,c2,r2,rfl,⟨rfl,i2⟩,c3,r3,rfl,⟨he,hn,hz⟩,c4,r4,rfl,⟨rfl,i4⟩,hu⟩;have hu:r4=[]:=hu;subst hu;refine⟨⟨⟨c3,?_,he⟩,hn,?_⟩,aa1⟩
 ·show _=_::Value.string (T n.data.toList)::_;rw[<-zy n];simp
 show Ai e+(n.data.toList.length+1)<=_;rw[bsz];dsimp only at hz⊢;omega
theorem JR{w:av}{F:aJ}{s:Sl}{xs:List (Ac×Nat)}(h:aA V9 9 w F s xs):jH false (mG false) 9 139 w F s (xs.map (·.1))/\(∀a,a∈xs.map (·.1)->Dm a)/\iW (xs.map (·.1))<=(xs.map λx=>x.2).sum:=by
 refine⟨⟨MG (·.1) h λx cs _ hx=>hx.1,λh=>aaQ⟩,λa ha=>?_,?_⟩
 ·obtain⟨x,hx,rfl⟩:=gM.1 ha;obtain⟨cs,hc⟩:=DC h hx;exact hc.2.1
 rw[HQ];exact Aq λx hx=>by
  obtain⟨cs,hc⟩:=DC h hx;exact hc.2.2
theorem Oh(hB:IsBulk B):jP B enc aq W base spare held 43 aaw λx=>x.2:=by
 have h:=j6 (enc:=enc) (P:=aq) (W:=W) (base:=base) (spare:=spare) (held:=held) (T:=13) hB Tryz.underlying43 (by kernel_rfl)
  (dJ (s:=1) rfl (by kernel_rfl) (gQ hB (iu Tryz.underlying3)) (dJ (s:=1) rfl (by kernel_rfl) (kB hB Tryz.underlying9) (dJ (s:=1) rfl (by kernel_rfl) (gQ hB (iu Tryz.underlying3)) (dJ (s:=1) rfl (by kernel_rfl) (gQ hB (JO Tryz.underlying4)) (dJ (s:=6) rfl (by kernel_rfl) (DD hB)
  (dJ (s:=1) rfl (by kernel_rfl) (iY (size:=9) (bytes:=104) hB Tryz.underlying23 (by kernel_rfl) (by kernel_rfl) (yD hB)) (dJ (s:=1) rfl (by kernel_rfl) (iY (size:=1) (bytes:=16) hB Tryz.underlying41 (by kernel_rfl) (by kernel_rfl) (kB hB Tryz.underlying9)) (dJ (s:=1) rfl (by kernel_rfl) (gQ hB (iu Tryz.underlying3)) (vg rfl)))))))))
 refine h.map (λx=>((⟨x.1,x.2.1.data.toList,x.2.2.1,x.2.2.2.1,x.2.2.2.2.1.1,x.2.2.2.2.2.1.map (·.1),x.2.2.2.2.2.2.1.map λs=>s.data.toList,x.2.2.2.2.2.2.2.1⟩:Mv),(((x.2.2.2.2.2.1.map λx=>x.2).sum+x.2.2.2.2.1.2)+((x.2.2.2.2.2.2.1.map λs=>s.size+1).sum+(x.2.1.size+1)))+2)) ?_;rintro⟨k,ev,wt,gd,⟨g,m⟩,ac,tg,a,u⟩ cs ⟨c1,r1,rfl,⟨rfl,i1⟩,c2,r2,rfl,⟨rfl,i2⟩,c3,r3,rfl,⟨rfl,i3⟩,c4,r4,rfl,h4,c5,r5,rfl,⟨he,hn,hz⟩,c6,r6,rfl,⟨pO,rfl,Cn,_⟩,c7,r7,rfl,⟨tsl,rfl,pG,_⟩,c8,r8,rfl,⟨rfl,i8⟩,hu⟩;have hu:r8=[]:=hu;have h4:c4=[aj gd]:=h4;subst hu h4;obtain⟨a1,a2,a3⟩:=JR Cn;have aoX:aA kb 1 W (λ_=>True) tsl (tg.map λs=>s.data.toList):=MG (λs=>s.data.toList) pG λx cs _ hx=>by
  obtain⟨rfl,_⟩:=hx;show _=[Value.string (T x.data.toList)]
  rw[<-zy x]
 refine⟨⟨⟨c5,pO,tsl,?_,he,a1,⟨aoX,λh=>aaQ⟩⟩,⟨hn,a2,i3⟩,?_⟩,aa1⟩
 ·show _=_::Value.string (T ev.data.toList)::_;rw[<-zy ev];simp
 show(iW (ac.map (·.1))+Ai g)+(FY (tg.map λs=>s.data.toList)+(ev.data.toList.length+1))+2<=_;have e:FY (tg.map λs=>s.data.toList)=(tg.map λs=>s.size+1).sum:=by
  unfold FY;rw[iE];congr 1
 rw[e,bsz];dsimp only at hz a3⊢;omega
theorem aay{w:av}{F:aJ}{s:Sl}{xs:List (Mv×Nat)}(h:aA aaw 13 w F s xs):jH false (Af false) 13 43 w F s (xs.map (·.1))/\(∀a,a∈xs.map (·.1)->PA a)/\yt (xs.map (·.1))<=(xs.map λx=>x.2).sum:=by
 refine⟨⟨MG (·.1) h λx cs _ hx=>hx.1,λh=>aaQ⟩,λa ha=>?_,?_⟩
 ·obtain⟨x,hx,rfl⟩:=gM.1 ha;obtain⟨cs,hc⟩:=DC h hx;exact hc.2.1
 rw[HR];exact Aq λx hx=>by
  obtain⟨cs,hc⟩:=DC h hx;exact bB (Nat.le_add_right _ 2) hc.2.2
theorem Oi(hB:IsBulk B):jP B enc aq W base spare held 59 amg λx=>x.2:=by
 have h:=j6 (enc:=enc) (P:=aq) (W:=W) (base:=base) (spare:=spare) (held:=held) (T:=3) hB Tryz.underlying59 (by kernel_rfl)
  (dJ (s:=1) rfl (by kernel_rfl) (kB hB Tryz.underlying9) (dJ (s:=1) rfl (by kernel_rfl) (gQ hB (iu Tryz.underlying3)) (dJ (s:=1) rfl (by kernel_rfl) (gQ hB (iu Tryz.underlying3)) (vg rfl))))
 refine h.map (λx=>((⟨x.1.data.toList,x.2.1,x.2.2.1⟩:Vr),x.1.size+1)) ?_;rintro⟨n,v,a,u⟩ cs ⟨c1,r1,rfl,⟨rfl,i1⟩,c2,r2,rfl,⟨rfl,i2⟩,c3,r3,rfl,⟨rfl,i3⟩,hu⟩;have hu:r3=[]:=hu;subst hu;refine⟨⟨?_,i2,?_⟩,aa1⟩
 ·show _=[Value.string (T n.data.toList),_,_]
  rw[<-zy n];rfl
 show n.data.toList.length+1<=_;rw[bsz];exact aY _
theorem Oj(hB:IsBulk B):jP B enc aq W base spare held 27 (oC qk (oC Sf (oC Sf (oC Sf (oC (rSl V9 9 104) (oC (rSl V9 9 104) (oC (rSl aaw 13 168) (oC (rSl (Sh enc W base spare held 27) 9 160) (oC qk Se)))))))))
  λx=>(1+((x.2.1.size+1)+((x.2.2.1.size+1)+((x.2.2.2.1.size+1)+(((x.2.2.2.2.1.map λx=>x.2).sum+1)+(((x.2.2.2.2.2.1.map λx=>x.2).sum+1)+(((x.2.2.2.2.2.2.1.map λx=>x.2).sum+1)+(((x.2.2.2.2.2.2.2.1.map B).sum+1)+(1+0)))))))))+1:=by
 have h:=j6 (enc:=enc) (P:=aq) (W:=W) (base:=base) (spare:=spare) (held:=held) (T:=9) hB Tryz.underlying27 (by kernel_rfl)
  (dJ (s:=1) rfl (by kernel_rfl) (gQ hB (iu Tryz.underlying3)) (dJ (s:=1) rfl (by kernel_rfl) (kB hB Tryz.underlying9) (dJ (s:=1) rfl (by kernel_rfl) (kB hB Tryz.underlying9) (dJ (s:=1) rfl (by kernel_rfl) (kB hB Tryz.underlying9)
  (dJ (s:=1) rfl (by kernel_rfl) (iY (size:=9) (bytes:=104) hB Tryz.underlying23 (by kernel_rfl) (by kernel_rfl) (yD hB)) (dJ (s:=1) rfl (by kernel_rfl) (iY (size:=9) (bytes:=104) hB Tryz.underlying23 (by kernel_rfl) (by kernel_rfl) (yD hB))
  (dJ (s:=1) rfl (by kernel_rfl) (iY (size:=13) (bytes:=168) hB Tryz.underlying24 (by kernel_rfl) (by kernel_rfl) (Oh hB)) (dJ (s:=1) rfl (by kernel_rfl) (iY (size:=9) (bytes:=160) hB Tryz.underlying25 (by kernel_rfl) (by kernel_rfl) (HU hB _)) (dJ (s:=1) rfl (by kernel_rfl) (gQ hB (iu Tryz.underlying3)) (vg rfl))))))))))
 exact h
theorem MJ:∀{l:List Nd},(∀x,x∈l->zf x)->vB l
 | [],_=>by rw[vB];trivial
 | x::l,h=>by
  rw[vB];exact⟨h x aM,MJ λy hy=>h y agD⟩
theorem Sj(hB:IsBulk B):∀(N:Nat) {x:DataW H} {cs:aI} {F:aJ},B x<=N->Sh enc W base spare held 27 W F x cs->∃(e:Nd) (d:Nat),kj false d W (λ_=>True) e cs/\zf e/\lQ e<=B x
 | 0,x,cs,F,h,_=>by have:=hB.one x;omega
 | N+1,x,cs,F,h,⟨fh,p,ht,hw⟩=>by
  obtain⟨⟨k,nm,ini,dft,en,lv,mv,xs,a,u⟩,hr,hm⟩:=Oj (enc:=enc) (W:=W) (base:=base) (spare:=spare) (held:=held) hB fh cs (x,p) ht hw;obtain⟨c1,r1,rfl,⟨rfl,i1⟩,c2,r2,rfl,⟨rfl,i2⟩,c3,r3,rfl,⟨rfl,i3⟩,c4,r4,rfl,⟨rfl,i4⟩,c5,r5,rfl,⟨ens,rfl,zv,_⟩,c6,r6,rfl,⟨lvs,rfl,uD,_⟩,c7,r7,rfl,⟨mvs,rfl,oQ,_⟩,c8,r8,rfl,⟨sl,rfl,pH,_⟩,c9,r9,rfl,⟨rfl,i9⟩,hu⟩:=hr;have hu:r9=[]:=hu;subst hu;dsimp only at hm pH zv uD oQ;have OY:∀y,y∈xs->B y<=(xs.map B).sum:=λy hy=>B3 (List.mem_map_of_mem hy);obtain⟨l,l1,l2,l3⟩:=JP (B:=B) (sz:=λe:Nd×Nat=>lQ e.1) (Q:=λj e=>∃base cs,sl.a=some base/\cs.length=9/\aB W (base.add (j*9)) cs/\kj false e.2 W (λ_=>True) e.1 cs/\zf e.1) xs 0 λj y hj=>by
   rw[bM];obtain⟨bs,ds,g1,g2,g3,g4,g5⟩:=pH.at_ j y hj;obtain⟨e,d,t1,t2,t3⟩:=Sj hB N (x:=y) (by have:=OY y (bh hj);omega) g5;exact⟨(e,d),⟨bs,ds,g1,g3,g4,t1,t2⟩,t3⟩
  obtain⟨m,hmx⟩:=JQ (λe:Nd×Nat=>e.2) l;obtain⟨a1,a2,a3⟩:=JR zv;obtain⟨b1,b2,b3⟩:=JR uD;obtain⟨d1,d2,d3⟩:=aay oQ;refine⟨.mk ⟨k,nm.data.toList,ini.data.toList,dft.data.toList,en.map (·.1),lv.map (·.1),mv.map (·.1),a⟩ (l.map (·.1)),m+1,⟨ens,lvs,mvs,sl,?_,⟨a1,b1,d1⟩,?_,λh=>aaQ⟩,?_,?_⟩
  ·show _=[_,Value.string (T nm.data.toList),Value.string (T ini.data.toList),Value.string (T dft.data.toList),_,_,_,_,_]
   rw[<-zy nm,<-zy ini,<-zy dft];rfl
  ·refine⟨by rw[Nd.kids,bN,l1];exact pH.len,pH.cap,pH.nil0,pH.big,λj e hj=>?_⟩;rw[Nd.kids,cA,eE]at hj;obtain⟨q,q1,rfl⟩:=hj;obtain⟨bs,ds,g1,g2,g3,g4,g5⟩:=l2 j q q1;rw[bM]at g3;exact⟨bs,ds,g1,trivial,g2,g3,ZV (hmx q (bh q1)) g4⟩
  ·rw[zf];refine⟨⟨a2,b2,d2⟩,MJ λy hy=>?_⟩;obtain⟨q,q1,rfl⟩:=gM.1 hy;obtain⟨j,hj⟩:=gz q1;obtain⟨bs,ds,g1,g2,g3,g4,g5⟩:=l2 j q hj;exact g5
  rw[lQ,HT,iE];unfold BN;dsimp only;rw[bsz,bsz,bsz];have e:(l.map (lQ∘λx=>x.1)).sum=(l.map λe:Nd×Nat=>lQ e.1).sum:=rfl;omega
def amh:Rp (Nd×Nat):=λw F x cs=>∃d,kj false d w F x.1 cs/\zf x.1/\lQ x.1<=x.2
theorem Ol(hB:IsBulk B):jP B enc aq W base spare held 27 amh λx=>x.2:=λfh cs x h hw=>by
 obtain⟨e,d,h1,h2,h3⟩:=Sj hB (B x.1) (x:=x.1) (F:=λ_=>True) (aY _) ⟨fh,x.2,h,hw⟩;exact⟨(e,B x.1),⟨d,h1,h2,h3⟩,aY _⟩
def rChU:Rp (Ch×Nat):=λw F x cs=>∃(D:Nat) (vs:Sl) (yN:aI),cs=vs.v::yN/\ChR false D w F x.1 vs yN/\Ip x.1/\mB x.1.vars+lQ x.1.root<=x.2
theorem opensB_ch(hB:IsBulk B):jP B enc aq W base spare held 29 rChU λx=>x.2:=by
 have h:=j6 (enc:=enc) (P:=aq) (W:=W) (base:=base) (spare:=spare) (held:=held) (T:=10) hB Tryz.underlying29 (by kernel_rfl)
  (dJ (s:=1) rfl (by kernel_rfl) (iY (size:=3) (bytes:=32) hB Tryz.underlying22 (by kernel_rfl) (by kernel_rfl) (Oi hB)) (dJ (s:=9) rfl (by kernel_rfl) (Ol hB) (vg rfl)))
 refine h.map (λx=>((⟨x.1.map (·.1),x.2.1.1⟩:Ch),(x.1.map λx=>x.2).sum+x.2.1.2)) ?_;rintro⟨vs,⟨nd,m⟩,u⟩ cs ⟨c1,r1,rfl,⟨vsl,rfl,xO,_⟩,c2,r2,rfl,⟨d,hnd,hn,hz⟩,hu⟩;have hu:r2=[]:=hu;subst hu;rw[bD];refine⟨⟨d,vsl,c2,rfl,⟨⟨MG (·.1) xO λx cs _ hx=>hx.1,λh=>aaQ⟩,hnd⟩,⟨λv hv=>?_,hn⟩,?_⟩,aa1⟩
 ·obtain⟨x,hx,rfl⟩:=gM.1 hv;obtain⟨cs,hc⟩:=DC xO hx;exact hc.2.1
 show mB (vs.map (·.1))+lQ nd<=_;rw[HS];have:=Aq (f:=λv:Vr=>v.n.length+1) (l:=vs) λx hx=>by
  obtain⟨cs,hc⟩:=DC xO hx;exact hc.2.2
 dsimp only at hz⊢;omega
end
theorem yE{c:Ch}(hn:Ip c):gL c=iI c:=by
 unfold gL iI;by_cases h1:pq c=true
 ·rw[aV h1,aV h1];by_cases h2:16384<(dy [] (Ak c)).length
  ·rw[aV h2,aV h2]
  rw[aQ h2,aQ h2];have e:=Q4 (Ak c) [] aE;rw[bP]at e;have hl:=Oe h1 hn (by rw[<-e];omega);rw[e,aQ (by rw[hl.1];decide)]
 rw[aQ h1,aQ h1]
structure Rr (F:aJ) (ts:List Tk) (w:av) (b:Nat) (l:Sl) (i:Nat) (fc fa d:Int):Prop where
 blk:aF w b 271 [l.v,O U (i:Int),O U d,O U fc,O U fa]
 tok:aA ED 4 w F l ts
 hF:∀k,F k->k<b
 en:qm ts
 lt:i<ts.length
section
variable {F:aJ} {ts:List Tk} {w w':av} {b:Nat} {l:Sl} {i:Nat} {fc fa d:Int}
theorem Rr.only(h:Rr F ts w b l i fc fa d)(hO:ay [] w w'):Rr F ts w' b l i fc fa d:=
 ⟨hO.blk h.blk aM,SliceF.only ik aL h.tok hO aM,h.hF,h.en,h.lt⟩
theorem Rr.jX(h:Rr F ts w b l i fc fa d)(hO:ay [b] w w'){i':Nat}{fc' fa' d':Int}(hB:aF w' b 271 [l.v,O U (i':Int),O U d',O U fc',O U fa'])(hi:i'<ts.length):Rr F ts w' b l i' fc' fa' d':=
 ⟨hB,SliceF.only ik aL h.tok hO λk hk _ hm=>by have:=h.hF k hk;simp only[aO]at hm;omega,h.hF,h.en,hi⟩
theorem Rr.own(h:Rr F ts w b l i fc fa d){bs:List Nat}(hO:ay bs w w')(hb:∀x,x∈bs->b<x):Rr F ts w' b l i fc fa d:=
 ⟨hO.blk h.blk λhm=>by have:=hb b hm;omega,SliceF.only ik aL h.tok hO λk hk _ hm=>acs,h.hF,h.en,h.lt⟩
theorem Rr.lb(h:Rr F ts w b l i fc fa d):b<w.heap.size:=h.blk.lt
theorem Rr.big(h:Rr F ts w b l i fc fa d):ts.length<=9223372036854775807:=by
 have h1:=h.tok.len;have h2:=h.tok.cap;have h3:=h.tok.big;omega
theorem Rr.now(h:Rr F ts w b l i fc fa d):∃ad,cR l (i:Int) 4 ad/\aB w ad [O U (tk ts i).k,ab (T (tk ts i).t),O U (tk ts i).n,O U (tk ts i).a]:=by
 have hl:=h.tok.len;have bT:=h.lt;obtain⟨ad,x,cs,g1,g2,g3,g4,g5,g6⟩:=h.tok.get (aZ i) aE;rw[aX,Bk h.lt]at g2;injection g2 with g2;subst g2;unfold ED at g6;subst g6;exact⟨ad,g1,g5⟩
theorem Fp(h:Rr F ts w b l i fc fa d)(c:Int):az aq 266 #[ae (some ⟨b,0,none⟩),O U c] w λe w'=>e=ak (ai #[])/\ay [b] w w'/\
  Rr F ts w' b l i (if fc=0 then c else fc) (if fc=0 then(tk ts i).a else fa) d:=by
 refine ret (als _ _ _ _ ?_);refine⟨fc,Blk.dN h.blk 3 rfl,λhc w0 cf=>?_,λhc=>?_⟩
 ·have hc:fc=0:=aax
  subst hc;have h0:=h.only cf;obtain⟨ad,g1,g2⟩:=h0.now;refine⟨l,Blk.dN h0.blk 0 rfl,_,Blk.dN h0.blk 1 rfl,ad,g1,_,g2.dN 3 _ rfl,b,3,_,_,rfl,h0.blk,aM,λw2 cH lS=>⟨rfl,cf.weaken (λ_ h=>aaQ) |>.trans cH (λx hx=>.inl hx),?_⟩⟩;rw[aV rfl,aV rfl];exact h0.jX cH lS h.lt
 have hc:fc≠0:=aax
 rw[aQ hc,aQ hc];exact⟨rfl,Only.refl _ _,h⟩
theorem B4(h:Rr F ts w b l i fc fa d):az aq 255 #[ae (some ⟨b,0,none⟩)] w λe w'=>e=ak (ai #[])/\ay [b] w w'/\
  Rr F ts w' b l i (if fc=0 then(fA ts i).1 else fc) (if fc=0 then(fA ts i).2 else fa) d:=by
 refine ret (alu _ _ _ ?_);obtain⟨ad,g1,g2⟩:=h.now;refine⟨l,Blk.dN h.blk 0 rfl,_,Blk.dN h.blk 1 rfl,ad,g1,_,g2.dN 0 _ rfl,λhc w0 cf=>(Fp (h.only cf) 3).mono ?_,λhc w2 cH=>(Fp (h.only cH) 4).mono ?_⟩
 ·have hc:(tk ts i).k=5:=aax
  rintro _ w1 ⟨rfl,cn,hR⟩;unfold fA;rw[aV hc];exact⟨rfl,rfl,cf.weaken (λ_ h=>aaQ) |>.trans cn (λx hx=>.inl hx),hR⟩
 have hc:(tk ts i).k≠5:=aax
 rintro _ w1 ⟨rfl,cn,hR⟩;unfold fA;rw[aQ hc];exact⟨rfl,rfl,cH.weaken (λ_ h=>aaQ) |>.trans cn (λx hx=>.inl hx),hR⟩
theorem xH(h:Rr F ts w b l i fc fa d)(s:aH):az aq 251 #[ae (some ⟨b,0,none⟩),ab (T s)] w λe w'=>e=ak (aj (fc==0&&sg ts i s))/\ay [] w w':=by
 refine ret (alq _ _ _ _ ?_);intro w0 cf;have h0:=h.only cf;obtain⟨ad,g1,g2⟩:=h0.now;refine⟨λ_=>True,trivial,l,Blk.dN h0.blk 0 rfl,trivial,_,Blk.dN h0.blk 1 rfl,ad,g1,trivial,_,_,_,_,g2,λk0 w1 hk tu cn=>⟨fc,Blk.dN (h0.only cn).blk 3 rfl,?_,cf.ca cn⟩⟩;rw[gU,vN];rfl
theorem Ar(h:Rr F ts w b l i fc fa d)(s:aH):az aq 253 #[ae (some ⟨b,0,none⟩),ab (T s)] w λe w'=>e=ak (ai #[])/\ay [b] w w'/\
  (if fc==0&&sg ts i s then Rr F ts w' b l (i+1) fc fa d else Rr F ts w' b l i (if fc=0 then(fA ts i).1 else fc) (if fc=0 then(fA ts i).2 else fa) d):=by
 refine ret (alt _ _ _ _ ?_);refine(xH h s).mono ?_;rintro _ w1 ⟨rfl,cn⟩;have h1:=h.only cn;have gn:ay [b] w w1:=cn.weaken λ_ h=>aaQ
 refine⟨_,rfl,λhc=>(B4 h1).mono ?_,λhc=>?_⟩
 ·rintro _ w2 ⟨rfl,cH,hR⟩;have hc:(fc==0&&sg ts i s)=false:=by rwa[cV]at hc
  rw[hc];exact⟨rfl,rfl,gn.trans cH (λx hx=>.inl hx),hR⟩
 have hc:(fc==0&&sg ts i s)=true:=by rwa[gx]at hc
 rw[hc];simp only[aP]at hc;have hn:=h.en.next h.lt (vq hc.2);have hb:=h.big;refine⟨(i:Int),Blk.dN h1.blk 1 rfl,b,1,_,_,rfl,h1.blk,aM,λw3 cT sV=>⟨rfl,gn.trans cT (λx hx=>.inl hx),h1.jX cT ?_ hn⟩⟩;rw[eY aE aE]at sV;exact sV
theorem ML{d:Nat}(hd:d<=20)(h:Rr F ts w b l i 0 0 (d:Int))(hn:i+1<ts.length):az aq 252 #[ae (some ⟨b,0,none⟩)] w λe w'=>e=ak (aj (!decide (d=20)))/\ay [b] w w'/\
  (if d=20 then Rr F ts w' b l i 21 (tk ts i).a (d:Int)else Rr F ts w' b l (i+1) 0 0 ((d+1:Nat):Int)):=by
 refine ret (alr _ _ _ ?_);have hb:=h.big;refine⟨(d:Int),Blk.dN h.blk 2 rfl,λhc=>(Fp h 21).mono ?_,λhc=>?_⟩
 ·have hc:d=20:=by
   have:(d:Int)=20:=aax
   omega
  rintro _ w1 ⟨rfl,cn,hR⟩;rw[aV rfl,aV rfl]at hR;refine⟨rfl,by rw[bE hc];rfl,cn,?_⟩;rw[aV hc];exact hR
 have hc:d≠20:=λe=>adl
 refine⟨(d:Int),Blk.dN h.blk 2 rfl,b,2,_,_,rfl,h.blk,aM,λw1 cn qF=>?_⟩;rw[eY aE aE]at qF;have h1:Rr F ts w1 b l i 0 0 ((d+1:Nat):Int):=h.jX cn qF h.lt;refine⟨(i:Int),Blk.dN h1.blk 1 rfl,b,1,_,_,rfl,h1.blk,aM,λw2 cH lS=>?_⟩;rw[eY aE aE]at lS;refine⟨by rw[bA hc];rfl,cn.trans cH λx hx=>.inl hx,?_⟩;rw[aQ hc];exact h1.jX cH lS hn
end
def oE:List (List (aH)):=[[[124,124]],[[38,38]],[[61,61],[33,61]],[[60],[60,61],[62],[62,61]],[[43],[45]],[[42],[47],[37]]]
def eP:List (List Int):=[[13],[12],[10,11],[6,7,8,9],[1,2],[3,4,5]]
def yF:Rp Int:=λ_ _ x cs=>cs=[O U x]
theorem mq:yF.Ok where
 keep h _:=h
 inHeap h:=h
 mono h _:=h
 one:=by
  rintro w F x cs rfl v hv;simp only[aO]at hv;subst hv;rfl
def B5{α:Type}(r:Rp α):Rp (List α):=λw F xs cs=>∃s:Sl,cs=[s.v]/\aA r 1 w F s xs
theorem vh{α:Type}{r:Rp α}(hr:r.Ok):(B5 r).Ok where
 keep:=λ⟨s,h1,h2⟩ hk=>⟨s,h1,SliceF.keep hr h2 aL hk⟩
 inHeap:=λ⟨s,h1,h2⟩=>⟨s,h1,SliceF.inHeap hr h2 aL⟩
 mono:=λ⟨s,h1,h2⟩ hk=>⟨s,h1,SliceF.mono hr h2 hk⟩
 one:=by
  rintro w F x cs ⟨s,rfl,_⟩ v hv;simp only[aO]at hv;subst hv;rfl
theorem yG(w:av)(l:List Int){n:Nat}{parts:Array (Nat×aw)}(hp:parts=(((l.map λx=>Value.int U x).zipIdx 0).map λx=>(x.2,x.1)).toArray)(hn:l.length=n)(h0:0<n)(vG:n*1<=16777216):
  ∃s w',(au 66 n parts).run aq w=.ok (Sl.v s) w'/\Own yF 1 3 w.heap.size w' (λ_=>True) s l/\ay [] w w':=by
 have hE:pb yF 1 w (λ_=>True) l ((l.map λx=>Value.int U x).map λv=>v.cells.toList):=by
  clear hp hn
  induction l with
  | nil=>trivial
  | cons x l ih=>exact⟨⟨rfl,rfl⟩,ih⟩
 obtain⟨s,w',h1,h2,h3,_⟩:=jZ (P:=aq) (t:=66) (e:=3) (i:=Tryz.t3) (r:=yF) (size:=1) (by kernel_rfl) (by kernel_rfl) rfl rfl aL hp adD h0 vG mq hE;exact⟨s,w',h1,h2,h3⟩
theorem Sk{α:Type}{r:Rp α}(hr:r.Ok){t e:TypeId}{ti:TypeInfo}(ht:Tryz.prog.underlying t=some (.slice e))(hi:Tryz.prog.info? e=some ti){z:aw}(hz:ti.zero=some z)(hs:ti.size=1){w:av}{F:aJ}{xs:List (List α)}(ss:List Sl){n:Nat}{parts:Array (Nat×aw)}(hp:parts=(((ss.map λs=>s.v).zipIdx 0).map λx=>(x.2,x.1)).toArray)(hn:ss.length=n)(h0:0<n)(vG:n*1<=16777216)
  (hE:gI (λx (s:aI)=>s.length=1/\B5 r w F x s) xs (ss.map λs=>[s.v])):
  ∃s w',(au t n parts).run aq w=.ok (Sl.v s) w'/\aA (B5 r) 1 w' (λk=>F k∨w.heap.size<=k) s xs/\ay [] w w':=by
 have Yu:pb (B5 r) 1 w F xs ((ss.map λs=>s.v).map λv=>v.cells.toList):=by
  have:((ss.map λs=>s.v).map λv=>v.cells.toList)=ss.map λs=>[s.v]:=by
   rw[iE];rfl
  rw[this];exact hE
 obtain⟨s,w',h1,h2,h3,_⟩:=jZ (P:=aq) (t:=t) (e:=e) (i:=ti) (r:=B5 r) (size:=1) ht hi hz hs aL hp adD h0 vG (vh hr) Yu;exact⟨s,w',h1,SliceF.mono (vh hr) (h2.slice (vh hr)) (λk hk=>hk.imp id λh=>h.1),h3⟩
theorem Sm(w:av):az aq 199 #[] w λe w'=>∃s:Sl,e=ak s.v/\aA (B5 kb) 1 w' (λk=>w.heap.size<=k) s oE/\ay [] w w':=by
 refine(alg (λv w'=>∃s:Sl,v=s.v/\aA (B5 kb) 1 w' (λk=>w.heap.size<=k) s oE/\ay [] w w') w ?_).mono (by
  rintro e w' ⟨v,rfl,s,rfl,h⟩;exact⟨s,rfl,h⟩)
 obtain⟨s0,w0,a0,b0,c0⟩:=jJ w [[124,124]] (n:=1) (parts:=#[(0,ab (T [124,124]))]) rfl rfl aL aL;obtain⟨s1,w1,a1,b1,c1⟩:=jJ w0 [[38,38]] (n:=1) (parts:=#[(0,ab (T [38,38]))]) rfl rfl aL aL;obtain⟨s2,w2,a2,b2,c2⟩:=jJ w1 [[61,61],[33,61]] (n:=2) (parts:=#[(0,ab (T [61,61])),(1,ab (T [33,61]))]) rfl rfl aL aL;obtain⟨s3,w3,a3,b3,c3⟩:=jJ w2 [[60],[60,61],[62],[62,61]] (n:=4) (parts:=#[(0,ab (T [60])),(1,ab (T [60,61])),(2,ab (T [62])),(3,ab (T [62,61]))]) rfl rfl aL aL;obtain⟨s4,w4,a4,b4,c4⟩:=jJ w3 [[43],[45]] (n:=2) (parts:=#[(0,ab (T [43])),(1,ab (T [45]))]) rfl rfl aL aL;obtain⟨s5,w5,a5,b5,c5⟩:=jJ w4 [[42],[47],[37]] (n:=3) (parts:=#[(0,ab (T [42])),(1,ab (T [47])),(2,ab (T [37]))]) rfl rfl aL aL;have z0:=c0.size;have z1:=c1.size;have z2:=c2.size;have z3:=c3.size;have z4:=c4.size;have mk:∀{u u':av} {s:Sl} {l:List (aH)},w.heap.size<=u.heap.size->∀{v:av},Own kb 1 9 u.heap.size v (λ_=>True) s l->ay [] v u'->[s.v].length=1/\B5 kb u' (λk=>w.heap.size<=k) l [s.v]:=λhu v hB hO=>⟨rfl,_,rfl,SliceF.only cX aL (SliceF.mono cX (sF hB) λk hk=>ade) hO aM⟩
 obtain⟨s6,w6,a6,b6,c6⟩:=Sk (r:=kb) cX (t:=250) (e:=41) (ti:=Tryz.t41) (by kernel_rfl) (by kernel_rfl) rfl rfl (w:=w5) (F:=λk=>w.heap.size<=k) (xs:=oE) [s0,s1,s2,s3,s4,s5] (n:=6) (parts:=#[(0,s0.v),(1,s1.v),(2,s2.v),(3,s3.v),(4,s4.v),(5,s5.v)]) rfl rfl aL aL
  ⟨mk (aY _) b0 (((((c1.ca c2).ca c3).ca c4).ca c5)),mk aE b1 ((((c2.ca c3).ca c4).ca c5)),mk aE b2 ((c3.ca c4).ca c5),mk aE b3 (c4.ca c5),mk aE b4 c5,mk aE b5 (Only.refl _ _),trivial⟩
 have z5:=c5.size;exact⟨s0,w0,a0,s1,w1,a1,s2,w2,a2,s3,w3,a3,s4,w4,a4,s5,w5,a5,s6,w6,a6,s6,rfl,SliceF.mono (vh cX) b6 (λk hk=>by rcases hk with hk | hk<;>omega),(((((c0.ca c1).ca c2).ca c3).ca c4).ca c5).ca c6⟩
theorem JS(w:av):az aq 198 #[] w λe w'=>∃s:Sl,e=ak s.v/\aA (B5 yF) 1 w' (λk=>w.heap.size<=k) s eP/\ay [] w w':=by
 refine(alb (λv w'=>∃s:Sl,v=s.v/\aA (B5 yF) 1 w' (λk=>w.heap.size<=k) s eP/\ay [] w w') w ?_).mono (by
  rintro e w' ⟨v,rfl,s,rfl,h⟩;exact⟨s,rfl,h⟩)
 obtain⟨s0,w0,a0,b0,c0⟩:=yG w [13] (n:=1) (parts:=#[(0,O U 13)]) rfl rfl aL aL;obtain⟨s1,w1,a1,b1,c1⟩:=yG w0 [12] (n:=1) (parts:=#[(0,O U 12)]) rfl rfl aL aL;obtain⟨s2,w2,a2,b2,c2⟩:=yG w1 [10,11] (n:=2) (parts:=#[(0,O U 10),(1,O U 11)]) rfl rfl aL aL;obtain⟨s3,w3,a3,b3,c3⟩:=yG w2 [6,7,8,9] (n:=4) (parts:=#[(0,O U 6),(1,O U 7),(2,O U 8),(3,O U 9)]) rfl rfl aL aL;obtain⟨s4,w4,a4,b4,c4⟩:=yG w3 [1,2] (n:=2) (parts:=#[(0,O U 1),(1,O U 2)]) rfl rfl aL aL;obtain⟨s5,w5,a5,b5,c5⟩:=yG w4 [3,4,5] (n:=3) (parts:=#[(0,O U 3),(1,O U 4),(2,O U 5)]) rfl rfl aL aL;have z0:=c0.size;have z1:=c1.size;have z2:=c2.size;have z3:=c3.size;have z4:=c4.size;have mk:∀{u u':av} {s:Sl} {l:List Int},w.heap.size<=u.heap.size->∀{v:av},Own yF 1 3 u.heap.size v (λ_=>True) s l->ay [] v u'->[s.v].length=1/\B5 yF u' (λk=>w.heap.size<=k) l [s.v]:=λhu v hB hO=>⟨rfl,_,rfl,SliceF.only mq aL (SliceF.mono mq (Lp mq (λ_ _ _ _ _ h=>h) hB) λk hk=>ade) hO aM⟩
 obtain⟨s6,w6,a6,b6,c6⟩:=Sk (r:=yF) mq (t:=248) (e:=66) (ti:=Tryz.t66) (by kernel_rfl) (by kernel_rfl) rfl rfl (w:=w5) (F:=λk=>w.heap.size<=k) (xs:=eP) [s0,s1,s2,s3,s4,s5] (n:=6) (parts:=#[(0,s0.v),(1,s1.v),(2,s2.v),(3,s3.v),(4,s4.v),(5,s5.v)]) rfl rfl aL aL
  ⟨mk (aY _) b0 (((((c1.ca c2).ca c3).ca c4).ca c5)),mk aE b1 ((((c2.ca c3).ca c4).ca c5)),mk aE b2 ((c3.ca c4).ca c5),mk aE b3 (c4.ca c5),mk aE b4 c5,mk aE b5 (Only.refl _ _),trivial⟩
 have z5:=c5.size;exact⟨s0,w0,a0,s1,w1,a1,s2,w2,a2,s3,w3,a3,s4,w4,a4,s5,w5,a5,s6,w6,a6,s6,rfl,SliceF.mono (vh mq) b6 (λk hk=>by rcases hk with hk | hk<;>omega),(((((c0.ca c1).ca c2).ca c3).ca c4).ca c5).ca c6⟩
def nA(ts:List Tk)(i:Nat):List (aH)->List Int->Int
 | s::ss,n::ns=>if sg ts i s=true then n else nA ts i ss ns
 | _,_=>0
theorem Sn(ts:List Tk)(i k:Nat)(hk:k<6):nA ts i ((oE[k]?).getD []) ((eP[k]?).getD [])=jL ts (k:Int) i:=by
 match k,hk with
 | 0,_=>simp[jL,jy,fl,nA,oE,eP,dL,vu]
 | 1,_=>simp[jL,jy,fl,nA,oE,eP,dL,vu]
 | 2,_=>simp[jL,jy,fl,nA,oE,eP,dL,vu]
 | 3,_=>simp[jL,jy,fl,nA,oE,eP,dL,vu]
 | 4,_=>simp[jL,jy,fl,nA,oE,eP,dL,vu]
 | 5,_=>simp[jL,jy,fl,nA,oE,eP,dL,vu]
theorem JU{ts:List Tk}{i:Nat}{ss:List (aH)}{ns:List Int}{n:Nat}{s:aH}{m:Int}(h1:ss[n]? =some s)(h2:ns[n]? =some m):nA ts i (ss.drop n) (ns.drop n)=if sg ts i s=true then m else nA ts i (ss.drop (n+1)) (ns.drop (n+1)):=by
 rw[ij (bc.1 h1).1,(bc.1 h1).2,ij (bc.1 h2).1,(bc.1 h2).2,nA]
theorem So(k:Nat):((oE[k]?).getD []).length=((eP[k]?).getD []).length:=by
 rcases nG k 6 with h | h
 ·match k,h with
  | 0,_=>rfl
  | 1,_=>rfl
  | 2,_=>rfl
  | 3,_=>rfl
  | 4,_=>rfl
  | 5,_=>rfl
 rw[di (by exact h),di (by exact h)];rfl
section
variable {F:aJ} {ts:List Tk} {w w':av} {b:Nat} {l:Sl} {i:Nat} {fc fa d:Int}
theorem Sp(h:Rr F ts w b l i fc fa d){k:Nat}(hk:k<6):az aq 240 #[ae (some ⟨b,0,none⟩),O U (k:Int)] w λe w'=>e=ak (O U (if fc=0 then jL ts (k:Int) i else 0))/\ay [] w w':=by
 refine ret (alw _ _ _ _ ?_);refine(Sm w).mono ?_;rintro _ w0 ⟨l0,rfl,hR,cf⟩;have n0:=hR.len;have n6:oE.length=6:=rfl;obtain⟨p0,x0,cs0,g1,g2,g3,g4,g5,s1,rfl,hS⟩:=hR.get (aZ k) aE;rw[aX]at g2;refine⟨l0,rfl,p0,g1,s1,g5,(JS w0).mono ?_⟩;rintro _ w1 ⟨l2,rfl,hN,cn⟩;have m0:=hN.len;have m6:eP.length=6:=rfl;obtain⟨p1,x1,cs1,e1,e2,e3,e4,e5,s3,rfl,hM⟩:=hN.get (aZ k) aE;rw[aX]at e2;have hfo:=Sn ts i k hk;have hrl:=So k;rw[g2,e2,iw,iw]at hfo hrl;have t1:=hS.len;have t2:=hM.len;have t3:=hS.cap;have t4:=hS.big;refine⟨l2,rfl,p1,e1,s3,e5,λnv j w'=>∃n:Nat,n<=x0.length/\j=(n:Int)/\nv=x0.length-n/\(fc=0->nA ts i x0 x1=nA ts i (x0.drop n) (x1.drop n))/\ay [] w1 w',x0.length,⟨0,be _,rfl,rfl,λ_=>rfl,Only.refl _ _⟩,?_⟩;rintro nv _ w2 ⟨n,hn,rfl,rfl,hf,cH⟩;have jY:=(cf.ca cn).ca cH;refine⟨λbT=>?_,λlR=>?_⟩
 ·have bT:(n:Int)<(s1.n:Int):=aR bT;obtain⟨p2,sg0,cs2,q1,q2,q3,q4,q5,q6⟩:=(SliceF.only cX aL hS (cn.ca cH) aM).get (aZ n) bT;unfold kb at q6;subst q6;rw[aX]at q2;refine⟨p2,q1,_,q5,(xH (h.only jY) sg0).mono ?_⟩;rintro _ w3 ⟨rfl,cT⟩;obtain⟨p3,m,cs3,r1,r2,r3,r4,r5,r6⟩:=(SliceF.only mq aL hM (cH.ca cT) aM).get (i:=(n:Int)) (aZ n) aE;unfold yF at r6;subst r6;rw[aX]at r2;have kR:=JU (ts:=ts) (i:=i) q2 r2;refine⟨_,rfl,λhb=>⟨p3,r1,m,r5,?_,jY.ca cT⟩,λhb=>⟨x0.length-(n+1),aE,n+1,aE,aaa,rfl,λh0=>?_,cH.ca cT⟩⟩
  ·simp only[aP,du]at hb;rw[aV hb.1,<-hfo,hf hb.1,kR,aV hb.2]
  rw[hf h0,kR,aQ];intro hs;rw[h0,hs]at hb;exact absurd hb aL
 have lR:¬(n:Int)<(s1.n:Int):=aU lR;refine⟨?_,jY⟩;by_cases h0:fc=0
 ·rw[aV h0,<-hfo,hf h0,dv aE];rfl
 rw[aQ h0]
end
def pL(F:aJ)(ts:List Tk)(w w':av)(b:Nat)(l:Sl)(d:Nat)(r:Pr)(v:aw):Prop:=ay [b] w w'/\match r with
 | .ok (x,j)=>∃cs,v=ah cs.toArray/\RX w' w.heap.size w'.heap.size x cs/\Rr F ts w' b l j 0 0 (d:Int)
 | .error e=>e.1≠0/\exT v/\∃j,Rr F ts w' b l j e.1 e.2 (d:Int)
section
variable {F:aJ} {ts:List Tk} {w w':av} {b:Nat} {l:Sl} {i:Nat} {fc fa:Int}
theorem pL.pC{d:Nat}{r:Pr}{v:aw}(h:pL F ts w w' b l d r v):exT v:=by
 obtain⟨_,h⟩:=h;cases r with
 | error e=>exact h.2.1
 | ok q=>
  obtain⟨cs,rfl,hx,_⟩:=h;obtain⟨sl,rfl,_⟩:=hx.cells;exact⟨_,_,_,_,_,_,rfl⟩
theorem pL.Cb{w0 w1 w2 w3:av}{d:Nat}{r:Pr}{v:aw}(h:pL F ts w1 w2 b l d r v)(cf:ay [b] w0 w1){bs:List Nat}(cH:ay bs w2 w3)(hb:∀x,x∈bs->b<x/\w0.heap.size<=x/\x<w1.heap.size):pL F ts w0 w3 b l d r v:=by
 obtain⟨hO,h⟩:=h;have z0:=cf.size;have z1:=hO.size;have z2:=cH.size;refine⟨(cf.trans hO λx hx=>.inl hx).trans cH λx hx=>.inr (hb x hx).2.1,?_⟩;cases r with
 | error e=>
  obtain⟨h1,h2,j,h3⟩:=h;exact⟨h1,h2,j,h3.own cH λx hx=>(hb x hx).1⟩
 | ok q=>
  obtain⟨cs,h1,h2,h3⟩:=h;exact⟨cs,h1,(h2.only cH λx hx=>.inl (hb x hx).2.2).wide z0 z2,h3.own cH λx hx=>(hb x hx).1⟩
theorem aaz:exT (ah #[O U 0,O U 0,ab (ao #[]),O U 0,Sl.nil.v,O U 0]):=⟨0,0,[],0,Sl.nil,0,rfl⟩
theorem agR{d:Nat}(h:Rr F ts w b l i 0 0 (d:Int))(hn:i+1<ts.length):az aq 254 #[ae (some ⟨b,0,none⟩)] w λe w'=>∃v,e=ak v/\pL F ts w w' b l d (Bm ts i) v:=by
 refine alv ⟨b,0,none⟩ (λv w'=>pL F ts w w' b l d (Bm ts i) v) w ?_;intro k0 w0 fO dQ cf;have hb:=h.lb;have OQ:=h.big;have z0:=cf.size;have h0:=h.only cf;obtain⟨ad,g1,g2⟩:=h0.now;refine⟨λ_=>True,trivial,l,Blk.dN h0.blk 0 rfl,trivial,_,Blk.dN h0.blk 1 rfl,ad,g1,trivial,_,g2.dN 3 _ rfl,λk1 w1 kU jC cn=>?_⟩;have z1:=cn.size;have h1:=h0.only cn;have gn:=cf.ca cn;have sm:∀{u u':av},w1.heap.size<=u.heap.size->ay [b] u u'->bS [k0,k1] u u':=λhu hO=>hO.same abz;refine⟨(i:Int),Blk.dN h1.blk 1 rfl,b,1,_,_,rfl,h1.blk,aM,aE,aE,λw2 cH lS=>?_⟩;rw[eY aE aE]at lS;have h2:Rr F ts w2 b l (i+1) 0 0 (d:Int):=h1.jX cH lS hn;have z2:=cH.size;have jY:ay [b] w w2:=(gn.weaken λ_ h=>aaQ).trans cH λx hx=>.inl hx;refine(Ar h2 [40]).mono ?_;rintro _ w3 ⟨rfl,cT,DQ⟩;have z3:=cT.size;have nB:=jY.trans cT λx hx=>.inl hx;refine⟨rfl,sm aE cT,?_⟩;rw[show((0:Int)==0)=true from rfl,bZ,aV rfl,aV rfl]at DQ;have zT:∀{u u':av},ay [b] w u->ay [k0] u u'->ay [b] w u':=λh1 h2=>h1.new h2 fO;by_cases hs:sg ts (i+1) [40]=true
 ·rw[aV hs]at DQ;refine⟨0,Blk.dN DQ.blk 3 rfl,λhc=>(by simp at hc),λ_=>?_⟩;obtain⟨UE,u1,u2⟩:=DQ.now;refine⟨l,Blk.dN DQ.blk 0 rfl,_,Blk.dN DQ.blk 1 rfl,UE,u1,_,u2.dN 0 _ rfl,λhc w5 dY=>(B4 (DQ.only dY)).mono ?_,λhc w8 fj=>?_⟩
  ·have hc:(tk ts (i+2)).k≠1:=aax
   rintro _ w6 ⟨rfl,dK,hR6⟩;rw[aV rfl,aV rfl]at hR6;have z5:=dY.size;refine⟨rfl,sm aE dK,λw7 fK=>⟨zT ((nB.ca dY).trans dK λx hx=>.inl hx) fK,?_⟩⟩;rw[Bm,aV hs,aQ hc];exact⟨fM,⟨_,_,[],_,_,_,rfl⟩,i+2,hR6.own fK aaf⟩
  have hc:(tk ts (i+2)).k=1:=aax
  have z8:=fj.size;have h8:=DQ.only fj;obtain⟨ad8,v1,v2⟩:=h8.now;refine⟨l,Blk.dN h8.blk 0 rfl,_,Blk.dN h8.blk 1 rfl,ad8,v1,_,v2.dN 1 _ rfl,λw9 fG=>?_⟩;have z9:=fG.size;have h9:=h8.own fG aaf;have Tf:ay [b] w w9:=(nB.ca fj).new fG aE;have hn3:=h.en.next DQ.lt (by show(tk ts (i+2)).k≠5;rw[hc];decide);refine⟨_,Blk.dN h9.blk 1 rfl,b,1,_,_,rfl,h9.blk,aM,aE,aE,λde dT oy=>?_⟩;rw[eY aE aE]at oy;have tv:Rr F ts de b l (i+1+1+1) 0 0 (d:Int):=h9.jX dT oy hn3;have Ih:=dT.size;refine(Ar tv [41]).mono ?_;rintro _ dz ⟨rfl,dH,TW⟩;have CR:=dH.size;refine⟨rfl,sm aE dH,λeu eh=>⟨zT ((Tf.trans dT λx hx=>.inl hx).trans dH λx hx=>.inl hx) eh,?_⟩⟩;rw[show((0:Int)==0)=true from rfl,bZ,aV rfl,aV rfl]at TW;rw[Bm,aV hs,aV hc];by_cases Ku:sg ts (i+3) [41]=true
  ·rw[aV Ku];rw[aV (show sg ts (i+1+1+1) [41]=true from Ku)]at TW;exact⟨_,rfl,.leaf ..,TW.own eh aaf⟩
  rw[aQ Ku];rw[aQ (show ¬sg ts (i+1+1+1) [41]=true from Ku)]at TW;exact⟨fM,⟨_,_,_,_,_,_,rfl⟩,i+1+1+1,TW.own eh aaf⟩
 rw[aQ hs]at DQ;refine⟨_,Blk.dN DQ.blk 3 rfl,λhc w4 dw=>⟨zT nB dw,?_⟩,λhc=>absurd aax (fM (ts:=ts) (i:=i+1))⟩;rw[Bm,aQ hs];exact⟨fM,⟨_,_,[],_,_,_,rfl⟩,i+1,DQ.own dw aaf⟩
theorem aaA{f d:Nat}(hd:d<=20)(h:Rr F ts w b l i 0 0 (d:Int))
  (hE:d≠20->∀w i,Rr F ts w b l i 0 0 ((d+1:Nat):Int)->az aq 220 #[ae (some ⟨b,0,none⟩),O U 0] w λe w'=>∃v,e=ak v/\pL F ts w w' b l (d+1) (dc ts f 0 (d+1) i) v)
  (abp:d≠20->∀w i,Rr F ts w b l i 0 0 ((d+1:Nat):Int)->az aq 239 #[ae (some ⟨b,0,none⟩)] w λe w'=>∃v,e=ak v/\pL F ts w w' b l (d+1) (dc ts f 6 (d+1) i) v):
  az aq 239 #[ae (some ⟨b,0,none⟩)] w λe w'=>∃v,e=ak v/\pL F ts w w' b l d (dc ts (f+1) 6 d i) v:=by
 have eR:dc ts (f+1) 6 d i=oL ts (dc ts f 0 (d+1)) (dc ts f 6 (d+1)) d i:=by rw[dc,aV rfl]
 rw[eR];generalize hgE:dc ts f 0 (d+1)=E0 at*
 generalize hgO:dc ts f 6 (d+1)=One at*
 generalize hR:oL ts E0 One d i=R;rw[oL]at hR;refine alp ⟨b,0,none⟩ (λv w'=>pL F ts w w' b l d R v) w ?_;intro k0 w0 fO dQ cf;have hb:=h.lb;have OQ:=h.big;have z0:=cf.size;have h0:=h.only cf;obtain⟨ad,g1,g2⟩:=h0.now;refine⟨λ_=>True,trivial,l,Blk.dN h0.blk 0 rfl,trivial,_,Blk.dN h0.blk 1 rfl,ad,g1,trivial,_,_,_,_,g2,λk1 w1 kU jC cn=>?_⟩;have z1:=cn.size;have h1:=h0.only cn;have sm:∀{u u':av},w1.heap.size<=u.heap.size->ay [b] u u'->bS [k0,k1] u u':=λhu hO=>hO.same abz;have Uv:∀{u u':av},w1.heap.size<=u.heap.size->ay [] u u'->bS [k0,k1] u u':=λhu hO=>hO.same (by intro x hx;simp only[ba,bp,cb]at hx;exact⟨aE,aM⟩);refine(xH h1 [45]).mono ?_;rintro _ w2 ⟨rfl,cH⟩;have z2:=cH.size;have h2:=h1.only cH;refine⟨_,rfl,Uv aE cH,(xH h2 [33]).mono ?_⟩;rintro _ w3 ⟨rfl,cT⟩;have z3:=cT.size;have h3:=h2.only cT;refine⟨_,rfl,Uv aE cT,(xH h3 [40]).mono ?_⟩;rintro _ w4 ⟨rfl,dw⟩;have z4:=dw.size;have h4:=h3.only dw;have qz:ay [] w w4:=(((cf.ca cn).ca cH).ca cT).ca dw;have DV:ay [b] w w4:=qz.weaken λ_ h=>aaQ
 have zT:∀{u u':av},ay [b] w u->ay [k0] u u'->ay [b] w u':=λh1 h2=>h1.new h2 fO;rw[show((0:Int)==0)=true from rfl,bZ,bZ,bZ];refine⟨_,rfl,Uv aE dw,0,Blk.dN h4.blk 3 rfl,λhc=>(by simp at hc),λ_=>⟨λhs=>?_,λhs=>⟨λhp=>?_,λhp=>⟨λhi=>?_,λhi=>⟨λhv=>?_,λhv=>?_⟩⟩⟩⟩⟩
 ·rw[aV hs]at hR;have ii:(tk ts i).k≠5:=by
   rcases cx _ _▸hs with e | e<;>exact vq e
  have hn:=h.en.next h.lt ii;refine(ML hd h4 hn).mono ?_;rintro _ w6 ⟨rfl,dK,hR6⟩;have z6:=dK.size;have CT:=DV.trans dK λx hx=>.inl hx;refine⟨_,rfl,sm aE dK,λhc w7 fK=>⟨zT CT fK,?_⟩,λhc=>?_⟩
  ·have hc:d=20:=aax
   rw[aV hc]at hR6;rw[<-hR,jh,aV hc];exact⟨(by decide:(21:Int)≠0),aaz,i,hR6.own fK aaf⟩
  have hc:d≠20:=aax
  rw[aQ hc]at hR6;rw[jh,aQ hc]at hR;refine(abp hc w6 (i+1) hR6).mono ?_;rintro _ w8 ⟨v,rfl,hD⟩;obtain⟨vk,vn,vs,vo,vl,va,rfl⟩:=hD.pC;have z8:=hD.1.size;refine⟨_,_,_,_,_,_,rfl,sm aE hD.1,λk2 w9 oT nC fG=>?_⟩;have z9:=fG.size;have hOD:=CT.trans hD.1 λx hx=>.inl hx;have key:∀{j:Nat} {c a:Int},Rr F ts w8 b l j c a ((d+1:Nat):Int)->∃i9:Int,aB w9 (Addr.add ⟨b,0,none⟩ 2) [O U i9]/\∃k3 k4:Nat,∃z0:aI,∃k5:Nat,(Addr.add ⟨b,0,none⟩ 2)=⟨k3,k4,none⟩/\aF w9 k3 k5 z0/\(k4+1)<=z0.length/\k0≠k3/\k1≠k3/\k2≠k3/\
    ∀de:av,ay [k3] w9 de->aF de k3 k5 (cj z0 k4 [O U (ar U (i9-1))])->ay [b] w8 de/\Rr F ts de b l j c a (d:Int):=fun{j c a} h8=>by
   have h9:=h8.only fG;refine⟨((d+1:Nat):Int),Blk.dN h9.blk 2 rfl,b,2,_,_,rfl,h9.blk,aM,aE,aE,aE,λde dT oy=>?_⟩;have ed:((d+1:Nat):Int)-1=d:=aE
   rw[ed,eY aE aE]at oy;exact⟨(fG.weaken (bs':=[b]) λ_ h=>aaQ).trans dT λx hx=>.inl hx,h9.jX dT oy h9.lt⟩
  have fin:∀{j:Nat} {c a:Int} {de:av},ay [b] w8 de->Rr F ts de b l j c a (d:Int)->w9.heap.size<=de.heap.size->(∀op sl eu,ay [] de eu->aF eu de.heap.size 40 (lf vk vn vs vo vl va)->op=(if(tk ts i).t=[33]then(15:Int)else 14)->sl=(⟨some ⟨de.heap.size,0,none⟩,1,1⟩:Sl)->∀eS,ay [k0] eu eS->pL F ts w eS b l d R (ah #[O U 4,O U 0,ab (ao #[]),O U op,sl.v,O U (tk ts i).a]))->
    ∃J1:Int->av->Prop,(∀i10:Int,∀dz:av,J1 i10 dz->∃l2:Sl,∃eu:av,((au 38 1 #[.mk 0 (ah #[O U vk,O U vn,ab (T vs),O U vo,vl.v,O U va])]).run aq dz)=(.ok l2.v eu)/\
     bS [k0,k1,k2] dz eu/\∀eS:av,ay [k0] eu eS->pL F ts w eS b l d R (ah #[O U 4,O U 0,ab (ao #[]),O U i10,l2.v,O U (tk ts i).a]))/\
    (sg ts i [33]=true->J1 15 de)/\(sg ts i [33]=false->J1 14 de):=fun{j c a de} dT tv Ih TX=>by
   refine⟨λop dz=>op=(if(tk ts i).t=[33]then(15:Int)else 14)/\dz=de,?_,λe=>⟨?_,rfl⟩,λe=>⟨?_,rfl⟩⟩
   ·rintro op dz ⟨pF,rfl⟩;obtain⟨eu,IG,FR,eh⟩:=Bq dz [lf vk vn vs vo vl va] aM aM aM (parts:=#[(0,ah (lf vk vn vs vo vl va).toArray)]) rfl;rw[dC,O4,bD]at FR;exact⟨_,eu,IG,eh.same aaf,λeS dU=>TX op _ eu eh FR pF rfl eS dU⟩
   ·have:(tk ts i).t=[33]:=by
     simp only[sg,aP,bI]at e;exact e.2
    rw[aV this]
   have:(tk ts i).t≠[33]:=λht=>by
    rcases cx _ _▸hs with e' | e'
    ·simp only[sg,aP,bI]at e';rw[e'.2]at ht;exact absurd ht aL
    rw[e]at e';cases e'
   rw[aQ this]
  cases hN:One (i+1)with
  | error e=>
   rw[hN]at hD hR;obtain⟨fj,a1,a2,j,a3⟩:=hD;obtain⟨i9,q1,k3,k4,zz,k5,q2,q3,q4,q5,q6,q7,q8⟩:=key a3;refine⟨i9,q1,k3,k4,zz,k5,q2,q3,q4,q5,q6,q7,λde dT oy=>?_⟩;obtain⟨r1,r2⟩:=q8 de dT oy;refine fin r1 r2 dT.size λop sl eu eh FR pF pH eS dU=>⟨zT ((hOD.trans r1 λx hx=>.inl hx).ca eh) dU,?_⟩
   rw[<-hR];exact⟨a1,⟨_,_,[],_,_,_,rfl⟩,j,(r2.only eh).own dU aaf⟩
  | ok q=>
   obtain⟨x,j⟩:=q;rw[hN]at hD hR;obtain⟨fj,cs,a1,a2,a3⟩:=hD;have iC:(lf vk vn vs vo vl va)=cs:=bO Array.toList (Value.agg.inj a1);obtain⟨i9,q1,k3,k4,zz,k5,q2,q3,q4,q5,q6,q7,q8⟩:=key a3;refine⟨i9,q1,k3,k4,zz,k5,q2,q3,q4,q5,q6,q7,λde dT oy=>?_⟩;obtain⟨r1,r2⟩:=q8 de dT oy;have Ih:=dT.size;refine fin r1 r2 Ih λop sl eu eh FR pF pH eS dU=>⟨zT ((hOD.trans r1 λx hx=>.inl hx).ca eh) dU,?_⟩
   have z12:=eh.size;have Pu:=dU.size;rw[<-hR,pF,pH];refine⟨_,rfl,?_,(r2.only eh).own dU aaf⟩;have Tn:RX eS w6.heap.size w8.heap.size x cs:=((a2.only r1 λk hk=>.inl abn).only eh aM).only dU λk hk=>.inl abn;have uz:aF eS de.heap.size 40 cs:=by
    rw[<-iC];exact dU.blk FR λhm=>aaZ
   exact .one w.heap.size w8.heap.size de.heap.size _ _ _ _ _ _ x cs (Tn.wide aE (aY _)) aE aE adt id uz
 ·rw[aQ acV,aV hp]at hR;have hn:=h.en.next h.lt (vq hp);refine(ML hd h4 hn).mono ?_;rintro _ fJ ⟨rfl,ec,W8⟩;have YL:=ec.size;have Y6:=DV.trans ec λx hx=>.inl hx;refine⟨_,rfl,sm aE ec,λhc gY je=>⟨zT Y6 je,?_⟩,λhc=>?_⟩
  ·have hc:d=20:=aax
   rw[aV hc]at W8;rw[<-hR,jh,aV hc];exact⟨(by decide:(21:Int)≠0),aaz,i,W8.own je aaf⟩
  have hc:d≠20:=aax
  rw[aQ hc]at W8;rw[jh,aQ hc]at hR;refine(hE hc fJ (i+1) W8).mono ?_;rintro _ jm ⟨v,rfl,hD⟩;obtain⟨vk,vn,vs,vo,vl,va,rfl⟩:=hD.pC;have z16:=hD.1.size;have aiX:=Y6.trans hD.1 λx hx=>.inl hx;refine⟨_,_,_,_,_,_,rfl,sm aE hD.1,λk6 jd WL W0 iZ=>?_⟩;have z17:=iZ.size;have after:∀{j:Nat} {c a:Int} {jR:av},ay [b] jd jR->Rr F ts jR b l j c a ((d+1:Nat):Int)->(∀jD,ay [b,k0] jR jD->ay [b] w jD->Rr F ts jD b l j c a (d:Int)->pL F ts w jD b l d R (ah (lf vk vn vs vo vl va).toArray))->
    ∃i15:Int,aB jR (Addr.add ⟨b,0,none⟩ 2) [O U i15]/\∃k7 k8:Nat,∃z1:aI,∃k9:Nat,(Addr.add ⟨b,0,none⟩ 2)=⟨k7,k8,none⟩/\aF jR k7 k9 z1/\(k8+1)<=z1.length/\k0≠k7/\k1≠k7/\k6≠k7/\
    ∀lc:av,ay [k7] jR lc->aF lc k7 k9 (cj z1 k8 [O U (ar U (i15-1))])->∀jD:av,ay [k0] lc jD->pL F ts w jD b l d R (ah #[O U vk,O U vn,ab (T vs),O U vo,vl.v,O U va]):=fun{j c a jR} kD WO TX=>by
   refine⟨((d+1:Nat):Int),Blk.dN WO.blk 2 rfl,b,2,_,_,rfl,WO.blk,aM,aE,aE,aE,λlc mD TK jD lN=>?_⟩;have ed:((d+1:Nat):Int)-1=d:=aE
   rw[ed,eY aE aE]at TK;have h19:Rr F ts lc b l j c a (d:Int):=WO.jX mD TK WO.lt;exact TX jD ((mD.weaken (bs':=[b,k0]) λx hx=>.inl aaT).trans lN λx hx=>.inl aaT) (zT (((aiX.ca iZ).trans kD λx hx=>.inl hx).trans mD λx hx=>.inl hx) lN) (h19.own lN aaf)
  obtain⟨jo,hD⟩:=hD;cases hN:E0 (i+1)with
  | error e=>
   rw[hN]at hD hR;obtain⟨a1,a2,j,a3⟩:=hD;refine(Ar (a3.only iZ) [41]).mono ?_;rintro _ jR ⟨rfl,kD,It⟩;rw[aQ (by simp[a1]),aQ a1,aQ a1]at It;refine⟨rfl,kD.same aaf,after kD It λjD lN hOw Ax=>⟨hOw,?_⟩⟩;rw[<-hR];exact⟨a1,⟨_,_,_,_,_,_,rfl⟩,j,Ax⟩
  | ok q=>
   obtain⟨x,j⟩:=q;rw[hN]at hD hR;obtain⟨cs,a1,a2,a3⟩:=hD;refine(Ar (a3.only iZ) [41]).mono ?_;rintro _ jR ⟨rfl,kD,It⟩;rw[show((0:Int)==0)=true from rfl,bZ,aV rfl,aV rfl]at It;refine⟨rfl,kD.same aaf,?_⟩;have z18:=kD.size;by_cases W9:sg ts j [41]=true
   ·rw[aV W9]at It;refine after kD It λjD lN hOw Ax=>⟨hOw,?_⟩
    rw[<-hR];simp only[rU,W9,wH];have z20:=lN.size;exact⟨cs,a1,(((a2.only iZ aM).only kD λk hk=>.inl abn).only lN λk hk=>.inl (by simp only[ba,bp,cb]at hk;omega)).wide aE aE,Ax⟩
   rw[aQ W9]at It;refine after kD It λjD lN hOw Ax=>⟨hOw,?_⟩
   rw[<-hR];simp only[rU,W9,jf];exact⟨fM,⟨_,_,_,_,_,_,rfl⟩,j,Ax⟩
 ·have hi:(tk ts i).k=3:=abS
  rw[aQ acV,aQ aev,aV hi]at hR;have hn:=h.en.next h.lt (by rw[hi];decide);refine⟨(i:Int),Blk.dN h4.blk 1 rfl,b,1,_,_,rfl,h4.blk,aM,aE,aE,λmy jF TY qw sW=>⟨zT (DV.trans jF λx hx=>.inl hx) sW,?_⟩⟩;rw[eY aE aE]at TY;have h21:Rr F ts my b l (i+1) 0 0 (d:Int):=h4.jX jF TY hn;rw[<-hR];exact⟨_,rfl,.leaf ..,h21.own sW aaf⟩
 ·have hi:¬(tk ts i).k=3:=abS
  have hv:(tk ts i).k=1:=ac3
  rw[aQ acV,aQ aev,aQ hi,aV hv]at hR;have hn:=h.en.next h.lt (by rw[hv];decide);refine⟨(i:Int),Blk.dN h4.blk 1 rfl,b,1,_,_,rfl,h4.blk,aM,aE,aE,λmy jF TY qw sW=>⟨zT (DV.trans jF λx hx=>.inl hx) sW,?_⟩⟩;rw[eY aE aE]at TY;have h21:Rr F ts my b l (i+1) 0 0 (d:Int):=h4.jX jF TY hn;rw[<-hR];exact⟨_,rfl,.leaf ..,h21.own sW aaf⟩
 have hi:¬(tk ts i).k=3:=abS
 have hv:¬(tk ts i).k=1:=ac3
 rw[show(ao #[105,110])=T [105,110]from rfl,gU];rw[aQ acV,aQ aev,aQ hi,aQ hv]at hR;refine⟨λhw=>?_,λhw=>(B4 h4).mono ?_⟩
 ·have hw:(tk ts i).k=2/\(tk ts i).t=[105,110]:=by simpa using hw
  rw[aV hw]at hR;have hn:=h.en.next h.lt (by rw[hw.1];decide);refine(agR h4 hn).mono ?_;rintro _ oX ⟨v,rfl,hD⟩;obtain⟨vk,vn,vs,vo,vl,va,rfl⟩:=hD.pC;refine⟨_,_,_,_,_,_,rfl,sm aE hD.1,λrq ke=>?_⟩;rw[<-hR];exact hD.Cb DV ke aaf
 rw[aQ (λhh=>by rw[hh.1,hh.2]at hw;simp at hw)]at hR;rintro _ uw ⟨rfl,rr,aiZ⟩;rw[aV rfl,aV rfl]at aiZ;refine⟨rfl,sm aE rr,λyP vJ=>⟨zT (DV.trans rr λx hx=>.inl hx) vJ,?_⟩⟩;rw[<-hR];exact⟨fM,aaz,i,aiZ.own vJ aaf⟩
def At6(F:aJ)(ts:List Tk)(w:av)(b:Nat)(l:Sl)(d:Nat)(N:aJ)(E:Nat->Pr)(k:Int)(R:Pr)(nv:Nat)(op:Int)(cs:aI)(w':av):Prop:=ay [b] w w'/\
 ((∃(c a:Int) (j:Nat),op=0/\c≠0/\R=.error (c,a)/\Rr F ts w' b l j c a (d:Int))∨
  (∃(x:Ex) (j:Nat),op=jL ts k j/\RXN w' N w.heap.size w'.heap.size x cs/\Rr F ts w' b l j 0 0 (d:Int)/\R=iT ts E k nv x j/\ts.length-j<=nv))
theorem Om{f k d:Nat}(WL:k<6)(h:Rr F ts w b l i 0 0 (d:Int))
  (hE:∀w i,Rr F ts w b l i 0 0 (d:Int)->az aq 220 #[ae (some ⟨b,0,none⟩),O U ((k+1:Nat):Int)] w λe w'=>∃v,e=ak v/\pL F ts w w' b l d (dc ts f (k+1) d i) v):
  az aq 220 #[ae (some ⟨b,0,none⟩),O U (k:Int)] w λe w'=>∃v,e=ak v/\pL F ts w w' b l d (dc ts (f+1) k d i) v:=by
 have eR:dc ts (f+1) k d i=Bl (dc ts f (k+1) d i) λx j=>iT ts (dc ts f (k+1) d) (k:Int) (ts.length-j) x j:=by rw[dc,aQ aE]
 rw[eR];have Ti:∀i x j,dc ts f (k+1) d i=.ok (x,j)->i<j:=λi x j h=>kq f _ _ i h;generalize hgE:dc ts f (k+1) d=E at*
 generalize hR:(Bl (E i) λx j=>iT ts E (k:Int) (ts.length-j) x j)=R;refine afL ⟨b,0,none⟩ _ (λv w'=>pL F ts w w' b l d R v) w ?_;have ek:ar U ((k:Int)+1)=((k+1:Nat):Int):=aaa
 refine⟨λhc=>absurd aax (by omega:¬(k:Int)=6),λ_ k1 w3 kU jC cT=>?_⟩;have hb:=h.lb;rw[ek];refine(hE w3 i (h.only cT)).mono ?_;rintro _ w4 ⟨v,rfl,hD⟩;obtain⟨vk,vn,vs,vo,vl,va,rfl⟩:=hD.pC;have z3:=cT.size;have z4:=hD.1.size;refine⟨_,_,_,_,_,_,rfl,hD.1.same aaf,λk2 w5 oT nC dY=>?_⟩;have z5:=dY.size;have Ck:ay [b] w w5:=((cT.weaken (bs':=[b]) λ_ h=>aaQ).trans hD.1 λx hx=>.inl hx).ca dY;have sm:∀{u u':av},w5.heap.size<=u.heap.size->ay [b] u u'->bS [k1,k2] u u':=λhu hO=>hO.same abz;have OQ:=h.big;have kR:∃(j:Nat) (c a:Int),Rr F ts w4 b l j c a (d:Int)/\∀w6,ay [] w4 w6->∃nv,At6 F ts w b l d (λq=>q=k1∨q=k2) E (k:Int) R nv (if c=0 then jL ts (k:Int) j else 0) (lf vk vn vs vo vl va) w6:=by
  obtain⟨dw,FM⟩:=hD;have qz:ay [b] w w4:=(cT.weaken (bs':=[b]) λ_ h=>aaQ).trans dw λx hx=>.inl hx;cases DP:E i with
  | error e=>
   rw[DP]at FM hR;obtain⟨c,a⟩:=e;obtain⟨a1,a2,j,a3⟩:=FM;exact⟨j,c,a,a3,λw6 dK=>⟨0,qz.ca dK,.inl ⟨c,a,j,aQ a1,a1,hR.symm,a3.only dK⟩⟩⟩
  | ok q=>
   obtain⟨x,j⟩:=q;rw[DP]at FM hR;obtain⟨cs,a1,a2,a3⟩:=FM;have iC:(lf vk vn vs vo vl va)=cs:=bO Array.toList (Value.agg.inj a1);rw[iC];exact⟨j,0,0,a3,λw6 dK=>⟨ts.length-j,qz.ca dK,.inr ⟨x,j,aV rfl,((a2.only dK aM).DN λq h1 h2 _=>aE).wide z3 dK.size,a3.only dK,hR.symm,aY _⟩⟩⟩
 obtain⟨j0,c0,a0,hR4,kR⟩:=kR;refine(Sp (hR4.only dY) WL).mono ?_;rintro _ w6 ⟨rfl,dK⟩;have z6:=dK.size;obtain⟨nv0,hA0⟩:=kR w6 (dY.ca dK);refine⟨_,rfl,dK.same aaf,λnv op i10 i11 s2 i12 l2 i13 w'=>w5.heap.size<=w'.heap.size/\At6 F ts w b l d (λq=>q=k1∨q=k2) E (k:Int) R nv op [O U i10,O U i11,ab s2,O U i12,l2.v,O U i13] w',nv0,⟨z6,hA0⟩,?_⟩;rintro nv op i10 i11 s2 i12 l2 i13 w7 ⟨z7,fK,hA⟩;refine⟨λpF=>?_,λpF fJ ec=>?_⟩
 ·have pF:op≠0:=adO
  rcases hA with⟨_,_,_,e,_⟩ | ⟨x,j,rfl,hX,CL,Cj,hnv⟩
  ·exact absurd e pF
  have hn:=CL.en.next CL.lt (oV _ _ pF);obtain⟨g,rfl⟩:∃g,nv=g+1:=⟨nv-1,aE⟩
  rw[iT,aQ pF]at Cj;refine⟨(j:Int),Blk.dN CL.blk 1 rfl,b,1,_,_,rfl,CL.blk,aM,aE,aE,λw8 fj wB=>?_⟩;rw[eY aE aE]at wB;have h8:Rr F ts w8 b l (j+1) 0 0 (d:Int):=CL.jX fj wB hn;have z8:=fj.size;refine(hE w8 (j+1) h8).mono ?_;rintro _ w9 ⟨v,rfl,Tj⟩;obtain⟨yk,yn,ys,yo,yl,ya,rfl⟩:=Tj.pC;have z9:=Tj.1.size;refine⟨_,_,_,_,_,_,rfl,sm aE Tj.1,λk8 de hk8 WI dT=>?_⟩;have Ih:=dT.size;obtain⟨dz,qj,CQ,dH⟩:=Bq de [[O U i10,O U i11,ab s2,O U i12,l2.v,O U i13],lf yk yn ys yo yl ya] aM aM aM (parts:=#[(0,ah #[O U i10,O U i11,ab s2,O U i12,l2.v,O U i13]),(1,ah (lf yk yn ys yo yl ya).toArray)]) rfl;have CR:=dH.size;refine⟨⟨some ⟨de.heap.size,0,none⟩,2,2⟩,dz,qj,dH.same aaf,λeu eh=>?_⟩;have z12:=eh.size;have Ik:ay [b] w eu:=((((fK.trans fj λx hx=>.inl hx).trans Tj.1 λx hx=>.inl hx).ca dT).ca dH).new eh aE;have uB:ay [k2] w9 eu:=((dT.ca dH).weaken (bs':=[k2]) λ_ h=>aaQ).trans eh λx hx=>.inl hx;have Kx:∃(j':Nat) (c a:Int),Rr F ts w9 b l j' c a (d:Int)/\∀eS,ay [] eu eS->∃nv,nv<g+1/\At6 F ts w b l d (λq=>q=k1∨q=k2) E (k:Int) R nv (if c=0 then jL ts (k:Int) j' else 0) (lf 5 0 [] (jL ts (k:Int) j) ⟨some ⟨de.heap.size,0,none⟩,2,2⟩ i13) eS:=by
   obtain⟨fG,FM⟩:=Tj;cases DP:E (j+1)with
   | error e=>
    rw[DP]at FM Cj;obtain⟨c,a⟩:=e;obtain⟨a1,a2,j',a3⟩:=FM;exact⟨j',c,a,a3,λeS dU=>⟨0,aE,Ik.ca dU,.inl ⟨c,a,j',aQ a1,a1,Cj,(a3.own uB aaf).only dU⟩⟩⟩
   | ok q=>
    obtain⟨y,j'⟩:=q;rw[DP]at FM Cj;obtain⟨cs,a1,a2,a3⟩:=FM;have iC:(lf yk yn ys yo yl ya)=cs:=bO Array.toList (Value.agg.inj a1);have hjj:=Ti _ _ _ DP;obtain⟨xl,Kf,_⟩:=hX.cells;have hxa:i13=x.a:=by
     simp only[lf,sZ,Value.int.injEq]at Kf;exact Kf.2.2.2.2.2.1.2
    refine⟨j',0,0,a3,λeS dU=>⟨g,aE,Ik.ca dU,.inr ⟨.mk 5 0 [] (jL ts (k:Int) j) [x,y] x.a,j',aV rfl,?_,(a3.own uB aaf).only dU,Cj,?_⟩⟩⟩
    ·have Pu:=dU.size;have Tl:ay [b,k2] w7 eS:=(((((fj.weaken (bs':=[b,k2]) λx hx=>.inl aaT).trans fG λx hx=>.inl aaT).trans uB λx hx=>.inl aaT).ca dU))
     have Tm:ay [k2] w9 eS:=uB.ca dU;have uz:aF eS de.heap.size 40 ([O U i10,O U i11,ab s2,O U i12,l2.v,O U i13]++cs):=by
      have:=dU.blk (eh.blk CQ aaf) aM;rw[<-iC];simpa using this
     have Tn:RXN eS (λq=>q=k1∨q=k2) w.heap.size w7.heap.size x [O U i10,O U i11,ab s2,O U i12,l2.v,O U i13]:=by
      exact hX.only Tl λq hq=>by
       simp only[ba,bp,cb]at hq;rcases hq with rfl | rfl
       ·exact .inl hb
       exact .inr (.inr (.inr rfl))
     have abt:RXN eS (λq=>q=k1∨q=k2) w8.heap.size w9.heap.size y cs:=(a2.only Tm λq hq=>.inl adm).DN λq h1 h2 _=>aE
     rw[hxa];exact .two w.heap.size w7.heap.size w8.heap.size w9.heap.size de.heap.size _ _ _ _ _ _ x y _ cs Tn z8 abt aE aE aE aE adt aE uz
    omega
  obtain⟨j',c',a',hR9,Kx⟩:=Kx;refine(Sp (hR9.own uB aaf) WL).mono ?_;rintro _ eS ⟨rfl,dU⟩;obtain⟨nv',abu,hA'⟩:=Kx eS dU;exact⟨_,rfl,dU.same aaf,nv',abu,by have:=dU.size;omega,hA'⟩
 have pF:op=0:=adO
 refine⟨fK.new ec aE,?_⟩;rcases hA with⟨c,a,j,_,hc,Cj,CL⟩ | ⟨x,j,Ug,hX,CL,Cj,hnv⟩
 ·rw[Cj];exact⟨hc,⟨i10,i11,s2.data.toList,i12,l2,i13,by unfold lf;rw[<-zy]⟩,j,CL.own ec aaf⟩
 rw[Cj,Dc (by rw[<-Ug,pF])];exact⟨_,rfl,((hX.only ec λq hq=>.inr (.inr (.inl adP))).DN λ_ _ _ _ h=>h).wide (aY _) ec.size,CL.own ec aaf⟩
theorem DE : ∀ f : Nat, (∀ (k d i : Nat) (w : av), k <= 6 -> d <= 20 -> fR k d <= f -> Rr F ts w b l i 0 0 (d : Int) ->
      az aq 220 #[ae (some ⟨b, 0, none⟩), O U (k : Int)] w λe w' => ∃ v, e = ak v /\ pL F ts w w' b l d (dc ts f k d i) v) /\
    (∀ (d i : Nat) (w : av), d <= 20 -> fR 6 d <= f -> Rr F ts w b l i 0 0 (d : Int) ->
      az aq 239 #[ae (some ⟨b, 0, none⟩)] w λe w' => ∃ v, e = ak v /\ pL F ts w w' b l d (dc ts f 6 d i) v)
  | 0 => ⟨λk d i w hk hd hn => acX, λd i w hd hn => acX⟩
  | f + 1 => by
    obtain ⟨CO, F6⟩ := DE f
    have one : ∀ (d i : Nat) (w : av), d <= 20 -> fR 6 d <= f + 1 -> Rr F ts w b l i 0 0 (d : Int) ->
      az aq 239 #[ae (some ⟨b, 0, none⟩)] w λe w' => ∃ v, e = ak v /\ pL F ts w w' b l d (dc ts (f + 1) 6 d i) v := λd i w hd hn h => by
      unfold fR at hn
      exact aaA hd h (λAx w i h => CO 0 (d + 1) i w aE aE acP h) (λAx w i h => F6 (d + 1) i w aE acP h)
    refine ⟨λk d i w hk hd hn h => ?_, one⟩
    by_cases h6 : k = 6
    · subst h6
      refine afL ⟨b, 0, none⟩ _ (λv w' => pL F ts w w' b l d (dc ts (f + 1) 6 d i) v) w ?_
      refine ⟨λ_ k0 w0 fO dQ cf => ?_, λhc => absurd hc aL⟩
      refine (one d i w0 hd hn (h.only cf)).mono ?_
      rintro _ w1 ⟨v, rfl, hD⟩
      obtain ⟨vk, vn, vs, vo, vl, va, rfl⟩ := hD.pC
      have hb := h.lb
      exact ⟨_, _, _, _, _, _, rfl, hD.1.same (by simp; omega), λw2 cH => hD.Cb (cf.weaken λ_ h => aaQ) cH (by simp; omega)⟩
    · unfold fR at hn
      exact Om aE h λw i h => CO (k + 1) d i w aE hd acP h
end
theorem Sq{w:av}{F:aJ}{l:Sl}{ts:List Tk}(h:aA ED 4 w F l ts)(a:Int)(ha:wE a):az aq 201 #[l.v,O U a] w λe w'=>
  ∃cs,e=ak (ai #[ah cs.toArray,O U (ck ts a).2.1,ah #[O U (ck ts a).2.2.1,O U (ck ts a).2.2.2]])/\RX w' w.heap.size w'.heap.size (ck ts a).1 cs/\((ck ts a).2.2.1=0->0<=(ck ts a).2.1/\(ck ts a).2.1<ts.length)/\ay [] w w':=by
 refine(alo l a (λv w'=>∃cs,v=(ai #[ah cs.toArray,O U (ck ts a).2.1,ah #[O U (ck ts a).2.2.1,O U (ck ts a).2.2.2]])/\RX w' w.heap.size w'.heap.size (ck ts a).1 cs/\((ck ts a).2.2.1=0->0<=(ck ts a).2.1/\(ck ts a).2.1<ts.length)/\ay [] w w') w ?_).mono (by
  rintro e w' ⟨v,rfl,cs,rfl,h⟩;exact⟨cs,rfl,h⟩)
 have fi:=h.len;have oS:=h.cap;have qy:=h.big;have bad:¬(0<=a/\a<ts.length/\ku ts+1=ts.length)->∀w0,ay [] w w0->∃cs,(Value.tuple #[ah #[O U 0,O U 0,ab (ao #[]),O U 0,Sl.nil.v,O U 0],O U 0,ah #[O U 1,O U (-1)]])=(ai #[ah cs.toArray,O U (ck ts a).2.1,ah #[O U (ck ts a).2.2.1,O U (ck ts a).2.2.2]])/\RX w0 w.heap.size w0.heap.size (ck ts a).1 cs/\((ck ts a).2.2.1=0->0<=(ck ts a).2.1/\(ck ts a).2.1<ts.length)/\ay [] w w0:=λhc w0 hO=>by
  rw[ck,aQ hc];exact⟨_,rfl,Vs _ _ _,λh=>aaQ,hO⟩
 refine⟨λhc k0 k1 w0 _ _ _ _ cf=>bad (λhh=>?_) w0 cf,λhc k2 k3 w1 oT nC yS vI cn=>?_⟩
 ·simp only[cx,bI]at hc;omega
 have hc:0<=a/\a<ts.length:=by
  simp only[fg,eV]at hc;omega
 have z1:=cn.size;have own:∀{u u':av},ay [] w u->ay [k3,k2] u u'->ay [] w u':=λh1 h2=>h1.trans h2 λx hx=>.inr aaV;refine⟨λnv i _ _ _ _ _ _ _ _ w'=>∃n:Nat,n<=ts.length/\i=(n:Int)/\nv=ts.length-n/\(∀j,j<n->((tk ts j).k=5↔j+1=ts.length))/\ay [] w w'/\w1.heap.size<=w'.heap.size,ts.length,⟨0,be _,rfl,rfl,λj hj=>absurd hj (T5 j),cn,aY _⟩,?_⟩;rintro nv _ _ _ _ _ _ _ _ _ w2 ⟨n,hn,rfl,rfl,hE,cH,z2⟩;have h2:=SliceF.only ik aL h cH aM;refine⟨λbT=>?_,λlR k7 w4 hk7 WX dw pN=>?_⟩
 ·have bT:(n:Int)<(l.n:Int):=aR bT;obtain⟨ad,x,cs,g1,g2,g3,g4,g5,g6⟩:=h2.get (aZ n) bT;rw[aX,Bk aE]at g2;injection g2 with g2;subst g2;unfold ED at g6;subst g6;have e:((tk ts n).k==5)=decide ((tk ts n).k=5):=by rw[bH];simp
  have e2:((n:Int)==ar U ((l.n:Int)-1))=decide (n+1=ts.length):=by
   rw[eY aE aE,bH];simp only[du,bI];omega
  refine⟨ad,g1,_,g5.dN 0 _ rfl,?_⟩;dsimp only;rw[e,e2];refine⟨λhm w3 cT=>bad (λhh=>?_) w3 (own cH cT),λhm=>⟨ts.length-(n+1),aE,n+1,aE,aaa,rfl,λj hj=>?_,cH,z2⟩⟩
  ·have:=G9 hh.2.2 n aE;rw[ry.2 this,beq_self_eq_true]at hm;cases hm
  rcases nG j n with hjn | hjn
  ·exact hE j hjn
  have:j=n:=aE
  subst this;have hm:decide ((tk ts j).k=5)=decide (j+1=ts.length):=aa3
  exact ry.1 hm
 have lR:¬(n:Int)<(l.n:Int):=aU lR;have:n=ts.length:=aE
 subst this;have WR:qm ts:=hE;have hcc:0<=a/\a<ts.length/\ku ts+1=ts.length:=⟨hc.1,hc.2,QI WR aE⟩
 rw[ck,aV hcc];obtain⟨i,rfl⟩:∃i:Nat,a=(i:Int):=⟨a.toNat,aE⟩
 have z4:=dw.size;have qz:=cH.ca dw;have hR:Rr (λk=>F k/\k<w.heap.size) ts w4 k7 l i 0 0 ((0:Nat):Int):=⟨pN,SliceF.only ik aL (h.inHeap ik aL) qz aM,λk hk=>by have:=hk.2;have:=cH.size;omega,WR,aE⟩
 refine((DE (fR 0 0)).1 0 0 i w4 aL aL (aY _) hR).mono ?_;rintro _ w5 ⟨v,rfl,hD⟩;obtain⟨vk,vn,vs,vo,vl,va,rfl⟩:=hD.pC;have z5:=hD.1.size;obtain⟨dY,hD⟩:=hD;rw[aX];have hpr:qn ts i=dc ts (fR 0 0) 0 0 i:=rfl;rw[hpr];have z02:=cH.size;have Ck:ay [] w w5:=qz.trans dY λx hx=>.inr aaL;refine⟨_,_,_,_,_,_,rfl,dY.same aaf,?_⟩;cases hEx:dc ts (fR 0 0) 0 0 i with
 | error e=>
  rw[hEx]at hD;obtain⟨c,p⟩:=e;obtain⟨a1,a2,j,a3⟩:=hD;refine⟨_,_,_,_,_,a3.blk,λ_ k8 w6 _ _ dK Pv n1 n2 n3 n4 n5 n6=>⟨λk=>k=k7,rfl,λe=>n2 e,λe=>n4 e,λw7 fK _=>⟨_,rfl,Vs _ _ _,λh=>absurd h a1,own (Ck.ca dK) fK⟩⟩,λhcz=>absurd (by simpa using hcz) a1⟩
 | ok q=>
  rw[hEx]at hD;obtain⟨x,j⟩:=q;obtain⟨cs,a1,a2,a3⟩:=hD;have iC:(lf vk vn vs vo vl va)=cs:=bO Array.toList (Value.agg.inj a1);refine⟨_,_,_,_,_,a3.blk,λhcz=>(by simp at hcz),λ_ k9 w8 hk9 aiJ fj wB n1 n2 n3 n4 n5 n6=>⟨λk=>k=k7,rfl,λe=>n2 e,λe=>n4 e,λw9 fG _=>?_⟩⟩;have z8:=fj.size;have z9:=fG.size;refine⟨lf vk vn vs vo vl va,rfl,?_,λ_=>⟨aZ j,by have:=a3.lt;dsimp only;omega⟩,own (Ck.ca fj) fG⟩;rw[iC];exact((a2.only fj aM).only fG λq hq=>.inl ace).wide aE aE
theorem yH(w:av)(c:UInt8):az aq 159 #[.int .u8 (c.toNat:Int)] w λe w'=>e=ak (aj (eZ c))/\ay [] w w':=by
 refine ret (ak2 _ _ _ ?_);refine⟨?_,Only.refl _ _⟩;congr 1;rw[bH];simp only[eZ,aP,cx,bI,du];omega
theorem HV(w:av)(c:UInt8):az aq 192 #[.int .u8 (c.toNat:Int)] w λe w'=>e=ak (aj (cW c))/\ay [] w w':=by
 refine ret (ak6 _ _ _ ?_);refine⟨?_,Only.refl _ _⟩;congr 1;rw[bH];simp only[cW,aP,bI];omega
theorem Ss(w:av):az aq 191 #[] w λe w'=>∃s:Sl,e=ak s.v/\Own kb 1 9 w.heap.size w' (λ_=>True) s jb/\ay [] w w':=by
 refine(ak4 (λv w'=>∃s:Sl,v=s.v/\Own kb 1 9 w.heap.size w' (λ_=>True) s jb/\ay [] w w') w ?_).mono (by
  rintro e w' ⟨v,rfl,s,rfl,h⟩;exact⟨s,rfl,h⟩)
 obtain⟨s,w',h1,h2,h3⟩:=jJ w jb (n:=16) rfl rfl aL aL;exact⟨s,w',h1,s,rfl,h2,h3⟩
theorem MM(w:av)(m:aH):az aq 160 #[ab (T m)] w λe w'=>e=ak (aj (jb.contains m))/\ay [] w w':=by
 refine ret (ak3 _ _ _ ?_);refine(Ss w).mono ?_;rintro _ w0 ⟨s,rfl,hs,cf⟩;have h:=sF hs;generalize jb=l at*
 have fi:=h.len;have qy:=h.big;have oS:=h.cap;refine⟨s,rfl,λnv i w'=>∃n:Nat,n<=l.length/\i=(n:Int)/\nv=l.length-n/\(∀x,x∈l.take n->x≠m)/\w'=w0,l.length,⟨0,be _,rfl,rfl,aM,rfl⟩,?_⟩;rintro nv _ _ ⟨n,hn,rfl,rfl,hp,rfl⟩;refine⟨λhc=>?_,λhc=>?_⟩
 ·have bT:(n:Int)<s.n:=aR hc;obtain⟨ad,x,cs,g1,g2,g3,g4,g5,g6⟩:=h.get (aZ n) bT;rw[aX]at g2;unfold kb at g6;subst g6;refine⟨ad,g1,_,g5,?_⟩;dsimp only;rw[gU];refine⟨λhe=>⟨?_,cf⟩,λhe=>⟨l.length-(n+1),aE,n+1,aE,aaa,rfl,?_,rfl⟩⟩
  ·have he:x=m:=aR he;congr 1;symm;rw[eK,<-he];exact bh g2
  intro y hy;rw[bn,g2]at hy;simp only[fH,cu,aO]at hy;rcases hy with hy | rfl
  ·exact hp y hy
  exact aU he
 have lR:¬((n:Int)<s.n):=aU hc;rw[bm aE]at hp;refine⟨?_,cf⟩;congr 1;symm;rw[gN];intro hh;exact hp m (eK.1 hh) rfl
theorem JV(w:av)(l:aH)(i:Nat)(hi:i<=l.length)(hl:l.length<4611686018427387903):
  az aq 161 #[ab (T l),O U (i:Int)] w λe w'=>e=ak (O U (((l.drop i).takeWhile eF).length:Int))/\ay [] w w':=by
 refine ret (ak5 _ _ _ _ ?_);rw[cq];have xV:(l.drop i).length=l.length-i:=cr;refine⟨λk w'=>k=(((l.drop i).takeWhile eF).length:Int)/\ay [] w w',λk w' h=>⟨by rw[h.1],h.2⟩,λnv k w'=>∃n:Nat,i+n<=l.length/\k=(n:Int)/\nv=l.length-(i+n)/\(∀x,x∈(l.drop i).take n->eF x=true)/\ay [] w w',l.length-i,⟨0,hi,rfl,rfl,aM,Only.refl _ _⟩,?_⟩;rintro nv _ w1 ⟨n,hn,rfl,rfl,hp,cn⟩;rw[eY (x:=(i:Int)+n) aE aE];have ein:(i:Int)+n=((i+n:Nat):Int):=aE
 rw[ein];refine⟨λhc=>?_,λhc=>⟨?_,cn⟩⟩
 ·have bT:i+n<l.length:=aaX
  have hx:l[i+n]? =some l[i+n]:=bJ bT;generalize l[i+n]=x at hx;have CU:(l.drop i)[n]? =some x:=by rw[gw,hx]
  have hg:(T l)[Int.toNat ((i+n:Nat):Int)]? =some x:=acO
  refine⟨x,⟨aZ _,hg⟩,(yH w1 x).mono ?_⟩;rintro _ w2 ⟨rfl,cH⟩;refine⟨_,rfl,x,⟨aZ _,hg⟩,(HV w2 x).mono ?_⟩;rintro _ w3 ⟨rfl,cT⟩;have hO:=cn.ca (cH.ca cT);have e:((!eZ x)&&(!cW x))=!eF x:=by unfold eF;rw[Bool.not_or]
  refine⟨_,rfl,?_⟩;dsimp only;rw[e];refine⟨λhw=>⟨?_,hO⟩,λhw=>⟨l.length-(i+(n+1)),aE,n+1,aE,aaa,rfl,λy hy=>?_,hO⟩⟩
  ·rw[lI aE hp λy hy=>by
    rw[CU]at hy;injection hy with hy;subst hy;simpa using hw]
   rw[cF];omega
  rw[bn,CU]at hy;simp only[fH,cu,aO]at hy;rcases hy with hy | rfl
  ·exact hp y hy
  simpa using hw
 have lR:l.length<=i+n:=aa0
 rw[lI aE hp λy hy=>by
  have:=(bc.1 hy).1;omega]
 rw[cF];omega
theorem Su(c:UInt8):(((((c.toNat:Int)==9)||((c.toNat:Int)==10))||((c.toNat:Int)==13))||((c.toNat:Int)==32))=ot c:=by
 have h9:((c.toNat:Int)==9)=(c==9):=Lu (d:=9);have tv:((c.toNat:Int)==10)=(c==10):=Lu (d:=10);have sX:((c.toNat:Int)==13)=(c==13):=Lu (d:=13);have h32:((c.toNat:Int)==32)=(c==32):=Lu (d:=32);rw[h9,tv,sX,h32,bH];simp[ot,or_assoc]
theorem DF(w:av)(l:aH)(i:Nat)(hi:i<=l.length)(hl:l.length<4611686018427387903):
  az aq 218 #[ab (T l),O U (i:Int)] w λe w'=>e=ak (O U ((i+jT false (l.drop i):Nat):Int))/\ay [] w w':=by
 refine ret (alj _ _ _ _ ?_);rw[cq];refine⟨λk w'=>k=((i+jT false (l.drop i):Nat):Int)/\w'=w,λk w' h=>⟨by rw[h.1],by rw[h.2];exact Only.refl _ _⟩,λnv k w'=>∃j:Nat,j<=l.length/\k=(j:Int)/\nv=l.length-j/\i+jT false (l.drop i)=j+jT false (l.drop j)/\w'=w,l.length-i,⟨i,hi,rfl,rfl,rfl,rfl⟩,?_⟩;rintro nv _ u ⟨j,hj,rfl,rfl,WC,hu⟩;subst hu;refine⟨λhc=>?_,λhc=>⟨?_,rfl⟩⟩
 ·have bT:j<l.length:=aaX
  have hx:l[j]? =some l[j]:=bJ bT;generalize l[j]=x at hx;have hd:=mW hx;have e47:((x.toNat:Int)==47)=(x==47):=Lu (d:=47);rw[eY (x:=(j:Int)+1) aE aE];obtain⟨y,hy⟩:∃y:UInt8,j+1<l.length->l[j+1]? =some y:=by
   by_cases h:j+1<l.length
   ·exact⟨l[j+1],λ_=>bJ h⟩
   ·exact⟨0,λh'=>absurd h' h⟩
  have e2:((y.toNat:Int)==47)=(y==47):=Lu (d:=47);refine⟨x,⟨aZ j,acO⟩,y,λh=>⟨aE,?_⟩,?_⟩
  ·rw[aP]at h;have:=aR h.2;rw[show(j:Int)+1=((j+1:Nat):Int) by omega,lV,aX];exact hy aE
  rw[e47,e2,Su];refine⟨λhs=>?_,λhs=>⟨λhb=>⟨l.length-(j+1),aE,j+1,aE,rfl,rfl,?_,rfl⟩,λhb=>⟨?_,rfl⟩⟩⟩
  ·simp only[aP,bI,du]at hs;obtain⟨⟨rfl,h1⟩,rfl⟩:=hs;have h1:j+1<l.length:=aE
   have hd2:=mW (hy h1);have ht:(l.drop j).take 2=[47,47]:=by rw[hd,hd2];rfl
   have hk:=Da ht;have xV:(l.drop j).length=l.length-j:=cr;refine⟨λnv k w'=>∃n:Nat,j+n<=l.length/\k=((j+n:Nat):Int)/\nv=l.length-(j+n)/\(∀x,x∈(l.drop j).take n->(x !=10)=true)/\w'=u,l.length-j,⟨0,hj,rfl,rfl,aM,rfl⟩,?_⟩;rintro nv _ _ ⟨n,hn,rfl,rfl,hp,rfl⟩;obtain⟨z,hz⟩:∃z:UInt8,j+n<l.length->l[j+n]? =some z:=by
    by_cases h:j+n<l.length
    ·exact⟨l[j+n],λ_=>bJ h⟩
    ·exact⟨0,λh'=>absurd h' h⟩
   have e10:((z.toNat:Int) !=10)=(z !=10):=by
    have:((z.toNat:Int)==10)=(z==10):=Lu (d:=10);unfold bne;rw[this]
   refine⟨z,λh=>⟨aZ _,by rw[lV,aX];exact hz adb⟩,?_⟩;rw[e10];refine⟨λh=>?_,λh=>?_⟩
   ·rw[aP]at h;have h1:=aR h.1;have hzz:(l.drop j)[n]? =some z:=by rw[gw];exact hz aE
    refine⟨l.length-(j+(n+1)),aE,n+1,aE,acJ,rfl,λq hq=>?_,rfl⟩;rw[bn,hzz]at hq;simp only[fH,cu,aO]at hq;rcases hq with hq | rfl
    ·exact hp q hq
    ·exact h.2
   ·have hw:(l.drop j).takeWhile (· !=10)=(l.drop j).take n:=lI aE hp λq hq=>by
     have h1:=(bc.1 hq).1;rw[gw,hz aE]at hq;injection hq with hq;subst hq;rw[bE aE,bZ]at h;exact h
    have hwl:((l.drop j).takeWhile (· !=10)).length=n:=by rw[hw,cF];omega
    have WD:0<n:=by
     rw[<-hwl,hd,dk,aV aL,aW];omega
    rw[hwl,jG]at hk;exact⟨l.length-(j+n),aE,j+n,hn,rfl,rfl,by rw[WC,hk];omega,rfl⟩
  ·rw[WC,hd,jT,aV hb];omega
  ·have hz:jT false (l.drop j)=0:=by
    rw[hd,jT,aQ (by rw[hb];decide),aQ];intro hh;simp only[aP,du]at hh;obtain⟨rfl,hh⟩:=hh;have h1:j+1<l.length:=by
     cases hr:l.drop (j+1)with
     | nil=>rw[hr]at hh;simp at hh
     | cons a b=>
      have:=bO List.length hr;rw[cr,aW]at this;omega
    rw[mW (hy h1)]at hh;simp only[gZ,bq]at hh;subst hh;rw[bE aE]at hs;simp at hs
   rw[WC,hz];rfl
 ·have lR:l.length<=j:=aa0
  rw[WC,dv lR];rfl
def xI:List (aH):=[[45,62],[60,61],[62,61],[61,61],[33,61],[38,38],[124,124]]
theorem B6{c d:UInt8}{r:aH}:qT (c::d::r)=xI.contains [c,d]:=by
 rw[bH];simp[qT,xI];constructor
 ·rintro((⟨rfl,h⟩ | ⟨rfl,h⟩) | ⟨rfl,rfl⟩)
  ·rcases h with rfl | rfl | rfl | rfl<;>simp
  ·rcases h with rfl | rfl<;>simp
  simp
 rintro(⟨rfl,rfl⟩ | ⟨rfl,rfl⟩ | ⟨rfl,rfl⟩ | ⟨rfl,rfl⟩ | ⟨rfl,rfl⟩ | ⟨rfl,rfl⟩ | ⟨rfl,rfl⟩)<;>simp
theorem Oo{m:aH}(h:qT m=true):iR m=2:=by unfold iR;rw[aV h]
theorem Oq{c:UInt8}{r:aH}(h:qT (c::r)=false):iR (c::r)=if ou.contains c then 1 else 0:=by
 unfold iR;rw[aQ (by rw[h];decide)]
theorem Wa(w:av)(l:aH)(i:Nat)(hi:i<l.length)(hl:l.length<4611686018427387903):
  az aq 238 #[ab (T l),O U (i:Int)] w λe w'=>e=ak (O U (iR (l.drop i):Int))/\ay [] w w':=by
 refine ret (aln _ _ _ _ ?_);rw[cq];obtain⟨s,w0,k1,k2,cf⟩:=jJ w xI (n:=7) (parts:=#[(0,ab (ao #[45,62])),(1,ab (ao #[60,61])),(2,ab (ao #[62,61])),(3,ab (ao #[61,61])),(4,ab (ao #[33,61])),(5,ab (ao #[38,38])),(6,ab (ao #[124,124]))]) rfl rfl aL aL;have hs:=sF k2;have hx:l[i]? =some l[i]:=bJ hi;generalize l[i]=c at hx;have hd:=mW hx;have xV:(l.drop i).length=l.length-i:=cr;have fi:=hs.len;rw[eY (x:=(i:Int)+2) aE aE];refine⟨s,w0,k1,λnv k w'=>∃n:Nat,n<=xI.length/\k=(n:Int)/\nv=xI.length-n/\(2<=(l.drop i).length->∀x,x∈xI.take n->x≠(l.drop i).take 2)/\ay [] w0 w',xI.length,⟨0,be _,rfl,rfl,aM,Only.refl _ _⟩,?_⟩;rintro nv _ w1 ⟨n,hn,rfl,rfl,hp,cn⟩;refine⟨λhc=>?_,λhc=>?_⟩
 ·have bT:(n:Int)<s.n:=aR hc;obtain⟨ad,x,cs,g1,g2,g3,g4,g5,g6⟩:=(SliceF.only cX aL hs cn aM).get (aZ n) bT;rw[aX]at g2;unfold kb at g6;subst g6;have hn7:xI.length=7:=rfl;refine⟨i,i+2,λh=>⟨rfl,aE,aE,adb⟩,ad,λ_=>g1,_,λ_=>g5,?_⟩;have ex:(T l).extract i (i+2)=T ((l.drop i).take 2):=by rw[tA,show i+2-i=2 by omega]
  rw[ex,gU];refine⟨λh w2 cH=>⟨?_,cf.ca (cn.ca cH)⟩,λh w3 cT=>⟨xI.length-(n+1),aE,n+1,aE,aaa,rfl,λh2 y hy=>?_,cn.ca cT⟩⟩
  ·rw[aP]at h;have h1:=aR h.1;have h2:=aR h.2;have Ku:qT (l.drop i)=true:=by
    cases hr:l.drop (i+1)with
    | nil=>
     have:=bO List.length hr;rw[cr,bd]at this;omega
    | cons d r=>
     rw[hd,hr]at h2⊢;rw[B6,eK];have:(c::d::r).take 2=[c,d]:=rfl;rw[<-this,h2];exact bh g2
   rw[Oo Ku];rfl
  rw[bn,g2]at hy;simp only[fH,cu,aO]at hy;rcases hy with hy | rfl
  ·exact hp h2 y hy
  rw[bE aE,bZ]at h;exact λe=>aU h e.symm
 have lR:¬((n:Int)<s.n):=aU hc;rw[bm aE]at hp;have Ku:qT (l.drop i)=false:=by
  cases hr:l.drop (i+1)with
  | nil=>rw[hd,hr];rfl
  | cons d r=>
   rw[hd,hr,B6,gN];intro h;rw[eK]at h;have h2:2<=(l.drop i).length:=by rw[hd,hr];simp
   exact hp h2 _ h (by rw[hd,hr];rfl)
 have Ui:iR (l.drop i)=if ou.contains c then 1 else 0:=by
  rw[hd]at Ku⊢;exact Oq Ku
 rw[Ui];refine⟨λnv k w'=>∃n:Nat,n<=17/\k=(n:Int)/\nv=17-n/\(∀x,x∈ou.take n->x≠c)/\ay [] w w',17,⟨0,be _,rfl,rfl,aM,cf.ca cn⟩,?_⟩;rintro nv _ w4 ⟨n,hn,rfl,rfl,hp,dw⟩;refine⟨λhc=>?_,λhc=>⟨?_,dw⟩⟩
 ·have bT:n<17:=aaX
  obtain⟨y,hy⟩:∃y,ou[n]? =some y:=⟨_,bJ bT⟩
  refine⟨c,⟨aZ i,acO⟩,y,⟨aZ n,by
   have e:(ao #[123,125,40,41,91,93,59,44,61,43,45,42,47,37,60,62,33])=T ou:=rfl;rw[e,lV,aX,hy]⟩,?_⟩
  rw[Lu];refine⟨λh w5 dY=>⟨?_,dw.ca dY⟩,λh w6 dK=>⟨17-(n+1),aE,n+1,aE,aaa,rfl,λq hq=>?_,dw.ca dK⟩⟩
  ·have h:c=y:=abb
   rw[aV]
   ·rfl
   rw[eK,h];exact bh hy
  rw[bn,hy]at hq;simp only[fH,cu,aO]at hq;rcases hq with hq | rfl
  ·exact hp q hq
  rintro rfl;simp at h
 have lR:n=17:=aa0
 subst lR;rw[aQ]
 ·rfl
 intro h;rw[eK]at h;exact hp c (by rw[bm aL];exact h) rfl
theorem Ot{ds:aH}{x:UInt8}:kI 0 (ds++[x])=kI 0 ds*10+(x.toNat-48):=by
 unfold kI;rw[pT];rfl
theorem Ou{ds:aH}{n:Nat}:kI 0 (ds.take n)<=kI 0 ds:=by
 have:kI 0 ds=kI (kI 0 (ds.take n)) (ds.drop n):=by
  unfold kI;rw[<-pT,dP]
 rw[this];exact EC _ _
theorem Sv(w:av)(l:aH)(hl:l.length<4611686018427387903):
  az aq 237 #[ab (T l)] w λe w'=>e=ak (ai #[O U (ft l).1,O U (ft l).2.1,O U (ft l).2.2])/\ay [] w w':=by
 refine ret (alm _ _ _ ?_);rw[cq];refine⟨λh0=>⟨?_,Only.refl _ _⟩,λh0=>?_⟩
 ·have h0:l=[]:=bF (by have:(l.length:Int)=0:=adQ;omega);rw[ft,aV h0];rfl
 have h0:¬l=[]:=by
  rintro rfl;simp at h0
 refine⟨λnv j w'=>∃n:Nat,n<=l.length/\j=(n:Int)/\nv=l.length-n/\(∀x,x∈l.take n->cW x=true)/\w'=w,l.length,⟨0,be _,rfl,rfl,aM,rfl⟩,?_⟩;rintro nv _ u ⟨n,hn,rfl,rfl,hp,hu⟩;subst hu;obtain⟨z,hz⟩:∃z:UInt8,n<l.length->l[n]? =some z:=by
  by_cases h:n<l.length
  ·exact⟨l[n],λ_=>bJ h⟩
  exact⟨0,λh'=>absurd h' h⟩
 have hg:n<l.length->0<=(n:Int)/\(T l)[Int.toNat (n:Int)]? =some z:=λh=>⟨aZ n,by rw[lV,aX];exact hz h⟩
 refine⟨z,λh=>hg adb,z,λh=>hg (by
  rw[aP]at h;have:=aR h.1;omega),?_⟩
 have ed:((((decide ((n:Int)<(l.length:Int)))&&(decide ((z.toNat:Int)>=48)))&&(decide ((z.toNat:Int)<=57))))=(decide (n<l.length)&&cW z):=by
  rw[bH];simp only[cW,aP,bI];omega
 rw[ed];refine⟨λh=>?_,λh=>?_⟩
 ·rw[aP]at h;have h1:n<l.length:=aR h.1;refine⟨l.length-(n+1),aE,n+1,aE,aaa,rfl,λy hy=>?_,rfl⟩;rw[bn,hz h1]at hy;simp only[fH,cu,aO]at hy;rcases hy with hy | rfl
  ·exact hp y hy
  exact h.2
 have OM:l.takeWhile cW=l.take n:=lI hn hp λy hy=>by
  have h1:=(bc.1 hy).1;rw[hz h1]at hy;injection hy with hy;subst hy;rw[bE h1,bZ]at h;exact h
 have xV:(l.takeWhile cW).length=n:=by rw[OM,cF];omega
 obtain⟨x,r,rfl⟩:∃x r,l=x::r:=by
  cases l with
  | nil=>exact absurd rfl h0
  | cons x r=>exact⟨x,r,rfl⟩
 refine⟨x,λ_ _=>⟨jt _,adE⟩,?_⟩;have e48:((x.toNat:Int)==48)=(x==48):=Lu (d:=48);have eb:(((n:Int)==0)||((decide ((n:Int)>1))&&((x.toNat:Int)==48)))=decide ((x::r).takeWhile cW=[]∨(1<((x::r).takeWhile cW).length/\(x::r).head? =some 48)):=by
  rw[e48,xV,bH];simp only[aP,cx,bI,du,gZ,bq];have:(x::r).takeWhile cW=[]↔n=0:=by
   constructor
   ·intro e;rw[e]at xV;exact xV.symm
   intro e;rw[e]at xV;exact bF xV
  rw[this];by_cases hx:x=48
  ·simp only[hx,and_true];omega
  simp only[hx,and_false,cb];omega
 rw[eb];refine⟨λhb=>⟨?_,Only.refl _ _⟩,λhb=>?_⟩
 ·rw[ft,aQ h0,aV (aR hb)];rfl
 have hb:=aU hb;refine⟨λnv v j w'=>∃q:Nat,q<=n/\j=(q:Int)/\nv=n-q/\v=(kI 0 ((x::r).take q):Int)/\kI 0 ((x::r).take q)<9223372036854775808/\ay [] u w',n,⟨0,be _,rfl,rfl,rfl,by rw[ci];decide,Only.refl _ _⟩,?_⟩;rintro nv _ _ w1 ⟨q,hq,rfl,rfl,rfl,hv,cn⟩;refine⟨λhc=>?_,λhc=>⟨?_,cn⟩⟩
 ·have bT:q<n:=aaX
  have hy:(x::r)[q]? =some ((x::r)[q]' aE):=bJ aE;generalize (x::r)[q]' aE=y at hy;have hyd:cW y=true:=hp y (by
   rw[List.mem_iff_getElem?];exact⟨q,by rw[vL,aV bT,hy]⟩)
  simp only[cW,aP,bI]at hyd;have e1:ar .u8 ((y.toNat:Int)-48)=(y.toNat:Int)-48:=by
   have h:∀n:Fin 256,48<=n.val->ar .u8 ((n.val:Int)-48)=(n.val:Int)-48:=adx
   exact h ⟨y.toNat,y.toNat_lt⟩ hyd.1
  have et:(9223372036854775807-((y.toNat:Int)-48)).tdiv 10=(9223372036854775807-((y.toNat:Int)-48))/10:=Int.tdiv_eq_ediv_of_nonneg aE;have es:(x::r).take (q+1)=(x::r).take q++[y]:=agi
  have ev:kI 0 ((x::r).take (q+1))=kI 0 ((x::r).take q)*10+(y.toNat-48):=by rw[es,Ot]
  refine⟨y,⟨aZ q,by rw[lV,aX,hy]⟩,?_⟩;rw[e1,eY (x:=(y.toNat:Int)-48) aE aE,eY (x:=9223372036854775807-((y.toNat:Int)-48)) aE aE,et,eY (x:=(9223372036854775807-((y.toNat:Int)-48))/10) aE aE];refine⟨λW4=>⟨?_,cn⟩,λW4=>⟨n-(q+1),aE,q+1,aE,aaa,rfl,?_,?_,cn⟩⟩
  ·have W4:=aR W4;have h1:kI 0 ((x::r).take (q+1))<=kI 0 ((x::r).take n):=by
    have:=Ou (ds:=(x::r).take n) (n:=q+1);rw[List.take_take,Nat.min_eq_left aE]at this;exact this
   rw[ft,aQ h0,aQ hb,aQ (by rw[OM];omega)];rfl
  ·have W4:=aU W4;rw[ev,eY (x:=10*(kI 0 ((x::r).take q):Int)) aE aE,eY aE aE];omega
  have W4:=aU W4;rw[ev];omega
 have hqn:q=n:=aa0
 subst hqn;rw[ft,aQ h0,aQ hb,aV (by rw[OM];exact hv),xV,OM]
def aaB(i:Nat)(r:Except Int Tq)(v:aw):Prop:=match r with
 | .error e=>v=ai #[ah #[O U 0,ab (T []),O U 0,O U 0],O U 0,O U e]
 | .ok q=>v=ai #[ah #[O U q.1,ab (T q.2.1),O U q.2.2.1,O U (i:Int)],O U (q.2.2.2:Int),O U 0]
theorem Sw(w:av)(l:aH)(i:Nat)(hi:i<l.length)(hl:l.length<=16384):
  az aq 219 #[ab (T l),O U (i:Int)] w λe w'=>∃v,e=ak v/\aaB i (lK (l.drop i)) v/\ay [] w w':=by
 refine alk (T l) i (λv w'=>aaB i (lK (l.drop i)) v/\ay [] w w') w ?_;have hx:l[i]? =some l[i]:=bJ hi;generalize l[i]=x at hx;have xV:(l.drop i).length=l.length-i:=cr;have ht:lK (l.drop i)=if eZ x then lZ (l.drop i)else if cW x then rT (l.drop i)else nY (l.drop i):=by
  rw[mW hx];rfl
 rw[ht];have hg:0<=(i:Int)/\(T l)[Int.toNat (i:Int)]? =some x:=⟨aZ i,acO⟩
 refine⟨x,hg,λk1 w0 kU jC cf=>(yH w0 x).mono ?_⟩;rintro _ w1 ⟨rfl,cn⟩;have new:∀{u u':av},ay [] w u->ay [k1] u u'->ay [] w u':=λh k=>h.trans k λy hy=>.inr acR;have sm:∀{u u':av},ay [] w0 u->ay [] u u'->bS [k1] u u':=λh0 h=>h.same (by have:=h0.size;simp;omega);refine⟨_,rfl,sm (Only.refl _ _) cn,x,hg,(HV w1 x).mono ?_⟩;rintro _ w2 ⟨rfl,cH⟩;have h02:=cn.ca cH;refine⟨_,rfl,sm cn cH,λhb=>?_,λhb=>⟨λhd=>⟨i,⟨rfl,aaY⟩,?_⟩,λhd=>?_⟩⟩
 ·rw[aV hb];refine(JV w2 l i aE aE).mono ?_;rintro _ w3 ⟨rfl,cT⟩;have hwl:((l.drop i).takeWhile eF).length<=l.length-i:=by
   have:=qU (p:=eF) (l:=l.drop i);rwa[xV]at this
  have ex:(T l).extract i (i+((l.drop i).takeWhile eF).length)=T ((l.drop i).takeWhile eF):=by
   rw[tA,dM,<-mV]
  refine⟨_,rfl,sm h02 cT,i,i+((l.drop i).takeWhile eF).length,⟨rfl,acJ,aE,aaY⟩,λk5 w4 pQ FQ dw=>?_⟩;have h04:=h02.ca (cT.ca dw);rw[ex];refine(MM w4 _).mono ?_;rintro _ w5 ⟨rfl,dY⟩;have h05:=h04.ca dY;have z4:=h04.size;unfold lZ;generalize hm:(l.drop i).takeWhile eF=m at*
  refine⟨_,rfl,dY.same aaf,λk s n a w'=>k=(if jb.contains m then 2 else 1:Int)/\s=T m/\n=0/\a=(i:Int)/\ay [] w w',?_,λhc w9 fG=>⟨by rw[aV hc],rfl,rfl,rfl,(cf.ca h05).trans fG λy hy=>.inr (by simp only[aO]at hy;have:=cf.size;have:=cT.size;have:=h02.size;omega)⟩,λhc=>⟨by rw[hc];rfl,rfl,rfl,rfl,cf.ca h05⟩⟩;rintro _ _ _ _ w6 ⟨rfl,rfl,rfl,rfl,dK⟩;refine⟨λhc w7 fK=>⟨?_,new dK fK⟩,λhc w8 fj=>⟨?_,new dK fj⟩⟩
  ·rw[aV aaX];rfl
  rw[aQ aa0];rfl
 ·rw[aQ (by rw[hb];decide),aV hd];have ex:(T l).extract i (T l).size=T (l.drop i):=by rw[tA,cq,bm aE]
  rw[ex];refine(Sv w2 (l.drop i) aE).mono ?_;rintro _ de ⟨rfl,dT⟩;have tv:=h02.ca dT;unfold rT;refine⟨_,_,_,rfl,sm h02 dT,λhe dz dH=>⟨?_,new (cf.ca tv) dH⟩,λhe=>(JV de l i aE aE).mono ?_⟩
  ·rw[aV acd];rfl
  rintro _ eu ⟨rfl,eh⟩;have CX:=tv.ca eh;rw[aQ acd];refine⟨_,rfl,sm tv eh,λhc eS dU=>⟨?_,new (cf.ca CX) dU⟩,λhc fJ ec=>⟨?_,new (cf.ca CX) ec⟩⟩
  ·rw[aV aaX];rfl
  rw[aQ aa0];rfl
 rw[aQ (by rw[hb];decide),aQ (by rw[hd];decide)];refine(Wa w2 l i hi aE).mono ?_;rintro _ gY ⟨rfl,je⟩;have Ay:=h02.ca je;have hn:=wZ (m:=l.drop i);have ex:(T l).extract i (i+iR (l.drop i))=T ((l.drop i).take (iR (l.drop i))):=by rw[tA,dM]
 unfold nY;refine⟨_,rfl,sm h02 je,λhz jm jo=>⟨?_,new (cf.ca Ay) jo⟩,λhz=>⟨i,i+iR (l.drop i),⟨rfl,acJ,aE,aaY⟩,λjd iZ=>⟨?_,new (cf.ca Ay) iZ⟩⟩⟩
 ·rw[aV (by have:(iR (l.drop i):Int)=0:=adN;omega)];rfl
 rw[aQ (by rintro e;rw[e]at hz;simp at hz),ex];rfl
theorem Ov(w:av)(l:aH):
  az aq 200 #[ab (T l)] w λe w'=>∃rs:Sl,e=ak (ai #[rs.v,ah #[O U (cG l).2.1,O U (cG l).2.2]])/\lJ w.heap.size w' rs (cG l).1/\ay [] w w':=by
 refine(ali (T l) (λv w'=>∃rs:Sl,v=(ai #[rs.v,ah #[O U (cG l).2.1,O U (cG l).2.2]])/\lJ w.heap.size w' rs (cG l).1/\ay [] w w') w ?_).mono (by
  rintro e w' ⟨v,rfl,rs,rfl,h⟩;exact⟨rs,rfl,h⟩)
 rw[cq];refine⟨λhc k0 w0 _ _ hO=>⟨Sl.nil,?_,?_,hO⟩,λhc k1 w1 kU jC cn=>?_⟩
 ·rw[cG,aV aaX]
 ·rw[cG,aV aaX];exact Own.nil _ _ _ _ _ _
 have FK:l.length<=16384:=aa0
 have htm:cG l=match kc l 0 with
  | .error x=>([],x.1,(x.2:Nat))
  | .ok r=>(r,0,0):=by
   rw[cG,aQ aE]<;>rfl
 refine(DF w1 l 0 (be _) aE).mono ?_;rintro _ w2 ⟨rfl,cH⟩;have z1:=cn.size;refine⟨_,rfl,cH.same aaf,λnv s i e1 e2 w'=>e1=0/\e2=0/\∃(j:Nat) (acc:List Tk),i=(j:Int)/\j<=l.length/\acc.length<=j/\jT false (l.drop j)=0/\kc l 0=jK acc (kc l j)/\nv=l.length-j/\lJ w1.heap.size w' s acc/\ay [] w1 w',l.length-(0+jT false (l.drop 0)),?_,?_⟩
 ·refine⟨rfl,rfl,_,[],rfl,G2 (be _),be _,?_,?_,rfl,Own.nil _ _ _ _ _ _,cH⟩
  ·rw[<-jG];exact pX false (l.drop 0)
  rw[<-mX (be _)];cases kc l 0<;>rfl
 rintro nv s _ _ _ w3 ⟨rfl,rfl,j,acc,rfl,hj,Y4,hsk,oo,rfl,ho3,cT⟩;have z3:=cT.size;have kR:=j5 hj;rw[hsk,fk]at kR;have app:∀{u:av} {r:Sl} (t:Tk),ay [] w1 u->lJ w1.heap.size u r acc->
   ∃y w4,(au 92 1 #[(0,t.v)]).run aq u=.ok (Sl.v y) w4/\ay [] u w4/\∃s' w5,(Builtin.append_ #[92,92] 92 #[Sl.v r,Sl.v y]).run aq w4=.ok (Sl.v s') w5/\lJ w1.heap.size w5 s' (acc++[t])/\aD (λk=>w1.heap.size<=k/\r.a=some ⟨k,0,none⟩) w4 w5/\ay [] w1 w5:=by
  intro u r t hu hr;obtain⟨y,w4,c1,c2,s',w5,c3,c4,c5⟩:=QF t hr hu.size (bB (ez 40 (show acc.length+1<=16385 by omega)) aL);exact⟨y,w4,c1,c2,s',w5,c3,c4,c5,((hu.ca c2).p0 (F:=λk=>w1.heap.size<=k) |>.trans c5 λk hk=>.inl hk.1).only λk hk=>hk⟩
 refine⟨λhc=>?_,λhc=>?_⟩
 ·have bT:j<l.length:=aaX
  rw[aQ aE]at kR;refine(Sw w3 l j bT FK).mono ?_;rintro _ w4 ⟨v,rfl,hv,dw⟩;have PC:=cT.ca dw;have sm1:bS [k1] w3 w4:=dw.same aaf;have z4:=dw.size;unfold aaB at hv;cases hq:lK (l.drop j)with
  | error e=>
   rw[hq]at hv kR;dsimp only at hv;subst hv;refine⟨0,T [],0,0,0,e,rfl,sm1,λ_ k4 w5 uC CS dY=>⟨Sl.nil,?_,?_,?_⟩,λhe=>absurd (EF hq) acd⟩
   ·rw[htm,oo,kR];rfl
   ·rw[htm,oo,kR];exact Own.nil _ _ _ _ _ _
   exact(cn.ca PC).trans dY λy hy=>.inr acR
  | ok q=>
   rw[hq]at hv kR;dsimp only at hv;subst hv;have hq1:=uR hq;have hq2:=Bj hq;rw[cr]at hq2;refine⟨q.1,T q.2.1,q.2.2.1,(j:Int),(q.2.2.2:Int),0,rfl,sm1,λhe=>(by simp at he),λ_ k5 w6 pQ FQ dK=>?_⟩;have WQ:=PC.ca dK;have z6:=dK.size;obtain⟨y,w7,c1,c2,s',w8,c3,c4,c5,c6⟩:=app (u:=w6) ⟨q.1,q.2.1,q.2.2.1,(j:Nat)⟩ WQ (ho3.only (dw.ca dK));have z7:=c2.size;have z8:=c5.size;have hk:∀k,s.a=some ⟨k,0,none⟩->w1.heap.size<=k/\k<w3.heap.size:=λk hk=>ho3.blk hk;refine⟨y,w7,c1,c2.same aaf,s',w8,c3,c5.same (by
    intro x hx;simp only[ba,bp,cb]at hx;refine⟨aE,λe=>?_⟩;have:=hk x e.2;omega),?_⟩
   rw[eY (x:=(j:Int)+(q.2.2.2:Int)) aE aE,show(j:Int)+(q.2.2.2:Int)=((j+q.2.2.2:Nat):Int) by omega];refine(DF w8 l (j+q.2.2.2) aE aE).mono ?_;rintro _ w9 ⟨rfl,fG⟩;have PD:=G2 (l:=l) (i:=j+q.2.2.2) aE;refine⟨_,rfl,fG.same aaf,l.length-(j+q.2.2.2+jT false (l.drop (j+q.2.2.2))),aE,rfl,rfl,_,_,rfl,PD,?_,?_,?_,rfl,c4.only fG,c6.ca fG⟩
   ·rw[aN,br];omega
   ·rw[<-jG];exact pX false _
   rw[oo,kR,<-mX aE,<-Lv];dsimp only;cases kc l (j+q.2.2.2)<;>rfl
 have kF:l.length<=j:=aa0
 rw[aV kF]at kR;have vm:j=l.length:=aE
 obtain⟨y,de,c1,c2,s',dz,c3,c4,c5,c6⟩:=app (u:=w3) ⟨5,[],0,(j:Nat)⟩ cT ho3;have Ih:=c2.size;have hk:∀k,s.a=some ⟨k,0,none⟩->w1.heap.size<=k/\k<w3.heap.size:=λk hk=>ho3.blk hk;have htt:cG l=(acc++[⟨5,[],0,(j:Nat)⟩],0,0):=by
  rw[htm,oo,kR];rfl
 have e:(l.length:Int)=(j:Int):=aE
 rw[e];refine⟨y,de,c1,c2.same aaf,s',dz,c3,c5.same (by
  intro x hx;simp only[aO]at hx;refine⟨aE,λe=>?_⟩;have:=hk x e.2;omega),λeu eh=>⟨s',by rw[htt],?_,?_⟩⟩
 ·rw[htt];have:lJ w1.heap.size eu s' _:=c4.keep λk hk bT=>eh.block k bT (by simp only[aO];have:=hk.1;omega);exact Own.low this z1
 exact(cn.ca c6).trans eh λy hy=>.inr acR
theorem qh(w:av)(l:aH)(hl:l.length<4611686018427387903):
  az aq 115 #[ab (T l)] w λe w'=>e=ak (aj (dj l))/\ay [] w w':=by
 refine ret (ak1 _ _ _ ?_);have e0:(ao #[])=T []:=rfl;rw[cq,e0,gU];refine⟨λhc=>⟨?_,Only.refl _ _⟩,λhc=>?_⟩
 ·unfold dj;rw[bA]
  ·rfl
  rintro⟨h1,h2⟩;rw[bA h1,bA aE]at hc;cases hc
 simp only[fg,eV]at hc;obtain⟨h1,h2⟩:=hc;have h2:l.length<=24:=aE
 obtain⟨c,r,rfl⟩:∃c r,l=c::r:=by
  cases l with
  | nil=>exact absurd rfl h1
  | cons c r=>exact⟨c,r,rfl⟩
 have hn:dj (c::r)=(eZ c&&decide ((c::r).takeWhile eF=c::r)&&!jb.contains (c::r)):=by
  unfold dj;rw[bE ⟨h1,h2⟩,bZ]
 refine⟨c,⟨jt _,adE⟩,(yH w c).mono ?_⟩;rintro _ w0 ⟨rfl,cf⟩;refine⟨_,rfl,(MM w0 _).mono ?_⟩;rintro _ w1 ⟨rfl,cn⟩;refine⟨_,rfl,λb w'=>b=dj (c::r)/\ay [] w w',λb w' h=>⟨by rw[h.1],h.2⟩,λhb=>?_,λhb=>⟨?_,cf.ca cn⟩⟩
 ·refine(JV w1 (c::r) 0 (be _) hl).mono ?_;rintro _ w3 ⟨rfl,cT⟩;rw[fZ];refine⟨_,rfl,?_,cf.ca (cn.ca cT)⟩;rw[hn];simp only[aP,cV]at hb;rw[hb.1,hb.2,bZ,CY,da,bH];simp only[du,bI];constructor
  ·intro h;have h:((c::r).takeWhile eF).length=(c::r).length:=aE
   have h2:=mV (p:=eF) (l:=c::r);rw[h,bm (aY _)]at h2;exact h2
  intro h;rw[h]
 rw[hn];cases h1:eZ c<;>cases h2:jb.contains (c::r)<;>rw[h1,h2]at hb<;>simp at hb⊢
theorem Wb(w:av)(l:aH):az aq 166 #[ab (T l)] w λe w'=>
  ∃cs,e=ak (ai #[ah cs.toArray,ah #[O U (fP l).2.1,O U (fP l).2.2]])/\RX w' w.heap.size w'.heap.size (fP l).1 cs/\ay [] w w':=by
 refine(alh (T l) (λv w'=>∃cs,v=(ai #[ah cs.toArray,ah #[O U (fP l).2.1,O U (fP l).2.2]])/\RX w' w.heap.size w'.heap.size (fP l).1 cs/\ay [] w w') w ?_).mono (by
  rintro e w' ⟨v,rfl,cs,rfl,h⟩;exact⟨cs,rfl,h⟩)
 intro k0 k1 w0 fO dQ kU jC cf;have z0:=cf.size;have own:∀{u u':av},ay [] w u->ay [k1,k0] u u'->ay [] w u':=λh1 h2=>h1.trans h2 λx hx=>.inr aaV;refine(Ov w0 l).mono ?_;rintro _ w1 ⟨l0,rfl,hT,cn⟩;have z1:=cn.size;have gn:=cf.ca cn;generalize oo:cG l=tm at*
 obtain⟨ts,c,p⟩:=tm;dsimp only at hT⊢;have Nh:fP l=if c≠0 then(wF,c,p)else if(ck ts 0).2.2.1≠0 then(wF,(ck ts 0).2.2.1,(ck ts 0).2.2.2)else if(tk ts (ck ts 0).2.1.toNat).k≠5 then(wF,4,(tk ts (ck ts 0).2.1.toNat).a)else((ck ts 0).1,0,(ck ts 0).2.2.2):=by
  unfold fP;rw[oo]
 refine⟨l0,_,_,rfl,cn.same aaf,λhc k2 w2 oT nC cH n1 n2 n3=>⟨λk=>k=k2,rfl,λe=>n2 e,λe=>n3 e,λw3 cT=>?_⟩,λhc k3 w4 yS vI dw=>?_⟩
 ·have hc:c≠0:=aax
  rw[Nh,aV hc];exact⟨_,rfl,Vs _ _ _,own (gn.ca cH) cT⟩
 have hc:c=0:=aax
 rw[aQ (by simp[hc])]at Nh;have z4:=dw.size;refine(Sq (hT.only dw).sl 0 ⟨aL,aL⟩).mono ?_;rintro _ w5 ⟨cs,rfl,hX,hj,dY⟩;have z5:=dY.size;have hp0:(ck ts 0).2.2.1=0->(ck ts 0).2.2.2=0:=by
  unfold ck;split
  ·cases hp:qn ts (0:Int).toNat with
   | error e=>
    obtain⟨c,p⟩:=e;intro h;exact absurd h (mY _ _ _ _ hp)
   | ok q=>intro _;rfl
  intro h;exact absurd h (show ¬(1:Int)=0 by decide)
 generalize WH:ck ts 0=pa at*
 obtain⟨x,j,c',p'⟩:=pa;dsimp only at hX hj Nh hp0⊢;obtain⟨xl,rfl,_⟩:=hX.cells;have Ck:ay [] w w5:=(gn.ca dw).ca dY;have hF5:∀{u:av},ay [k3] w5 u->aA ED 4 u (λk=>w0.heap.size<=k/\l0.a=some ⟨k,0,none⟩) l0 ts:=λhO=>SliceF.only ik aL (hT.only (dw.ca dY)).sl hO λk hk bT hm=>by
  have:=hT.blk hk.2;simp only[aO]at hm;dsimp only at this;omega
 refine⟨_,_,_,_,_,_,_,_,_,rfl,dY.same aaf,λsS k4 w6 uC CS dK n1 n2 n3 n4 n5 n6=>⟨λk=>k=k3,rfl,λe=>n2 e,λe=>n4 e,λw7 fK=>?_⟩,λsS=>?_⟩
 ·have sS:c'≠0:=by simpa using sS
  rw[Nh,aV sS];exact⟨_,rfl,Vs _ _ _,own (Ck.new dK aE) fK⟩
 have sS:c'=0:=by simpa using sS
 rw[aQ (by simp[sS])]at Nh;obtain⟨Pw,IC⟩:=hj sS;obtain⟨n,rfl⟩:∃n:Nat,j=(n:Int):=⟨j.toNat,aE⟩
 have hl:=(hF5 (Only.refl _ _)).len;obtain⟨ad,t,cs,g1,g2,g3,g4,g5,g6⟩:=(hF5 (Only.refl _ _)).get Pw aE;rw[aX]at Nh;refine⟨ad,g1,λk5 w8 pQ FQ fj=>?_⟩;obtain⟨Ke,t',yN,e1,e2,e3,e4,e5,e6⟩:=(hF5 fj).get Pw aE;have ao1:=cR.CJ e1 g1;subst ao1;rw[aX,Bk aE]at e2;injection e2 with e2;subst e2;unfold ED at e6;subst e6;have z8:=fj.size;refine⟨_,e5.dN 0 _ rfl,λhk w9 fG n1 n2 n3 n4 n5 n6=>⟨λk=>k=Ke.block,Ke,g1,?_,_,(e5.keep (fG.block _ e5.lt aM)).dN 3 _ rfl,?_,?_,λde dT=>?_⟩,λhk dz dH=>?_⟩
 ·exact mN Ke 3
 ·intro e;have:=e3.1;rw[<-e]at this;omega
 ·intro e;have:=e3.1;rw[<-e]at this;omega
 ·have hk:(tk ts n).k≠5:=aaU
  rw[Nh,aV hk];exact⟨_,rfl,Vs _ _ _,own ((Ck.new fj aE).ca fG) dT⟩
 have hk:(tk ts n).k=5:=aaU
 rw[Nh,aQ (by simp[hk]),hp0 sS];have CR:=dH.size;exact⟨_,rfl,((hX.only fj λq hq=>.inl adm).only dH λq hq=>.inl ace).wide aE aE,own (Ck.new fj aE) dH⟩
theorem aaC{k:Nat}{op:Int}(hk:k<6)(h:op∈(eP[k]?).getD []):fl op=(k:Int):=by
 match k,hk with
 | 0,_=>simp[eP]at h;subst h;rfl
 | 1,_=>simp[eP]at h;subst h;rfl
 | 2,_=>simp[eP]at h;rcases h with rfl | rfl<;>rfl
 | 3,_=>simp[eP]at h;rcases h with rfl | rfl | rfl | rfl<;>rfl
 | 4,_=>simp[eP]at h;rcases h with rfl | rfl<;>rfl
 | 5,_=>simp[eP]at h;rcases h with rfl | rfl | rfl<;>rfl
theorem Wc{op:Int}(h:∀k,k<6->op∉(eP[k]?).getD []):fl op=6:=by
 have h0:=h 0 aL;have h1:=h 1 aL;have h2:=h 2 aL;have h3:=h 3 aL;have h4:=h 4 aL;have h5:=h 5 aL;simp[eP]at h0 h1 h2 h3 h4 h5;unfold fl;rw[aQ aE,aQ aE,aQ aE,aQ aE,aQ aE,aQ aE]
theorem xJ{w:av}{F:aJ}{x:Ex}{cs:aI}{d:Nat}(h:oM d w F x cs):az aq 195 #[ah cs.toArray] w λe w'=>e=ak (O U (bW x))/\ay [] w w':=by
 obtain⟨sl,rfl⟩:=kJ h;refine ret (ala _ _ _ _ _ _ _ _ ?_);intro k0 w0 fO dQ cf;refine(JS w0).mono ?_;rintro _ w1 ⟨l0,rfl,hN,cn⟩;have m0:=hN.len;have m6:eP.length=6:=rfl;refine⟨l0,rfl,cn.same aaf,λnv i w'=>∃n:Nat,n<=6/\i=(n:Int)/\nv=6-n/\(∀k,k<n->x.op∉(eP[k]?).getD [])/\ay [] w1 w',6,⟨0,aL,rfl,rfl,λk hk=>absurd hk (T5 k),Only.refl _ _⟩,?_⟩;rintro nv _ w2 ⟨n,hn,rfl,rfl,hno,cH⟩;have jY:ay [] w w2:=(cf.ca cn).ca cH;refine⟨λhc=>?_,λhc=>⟨?_,jY⟩⟩
 ·simp only[aP,bI,du]at hc;obtain⟨uE,pQ⟩:=hc;have bT:n<6:=aE
  obtain⟨p0,x0,cs0,g1,g2,g3,g4,g5,s1,rfl,hS⟩:=hN.get (aZ n) aE;rw[aX]at g2;have TP:(eP[n]?).getD []=x0:=by rw[g2];rfl
  have t1:=hS.len;have t2:=hS.cap;have t3:=hS.big;refine⟨λnv i w'=>∃j:Nat,j<=x0.length/\i=(j:Int)/\nv=x0.length-j/\(∀q y,q<j->x0[q]? =some y->y≠x.op)/\ay [] w1 w',x0.length,⟨0,be _,rfl,rfl,λq y hq=>absurd hq (T5 q),cH⟩,?_⟩;rintro nv _ w3 ⟨j,hj,rfl,rfl,ii,cT⟩;refine⟨p0,g1,s1,g5.keep (cT.block _ g5.lt aM),λXa=>?_,λlR=>?_⟩
  ·have Xa:(j:Int)<(s1.n:Int):=aR Xa;obtain⟨p3,m,cs3,r1,r2,r3,r4,r5,r6⟩:=(SliceF.only mq aL hS cT aM).get (aZ j) Xa;unfold yF at r6;subst r6;rw[aX]at r2;refine⟨p0,g1,s1,g5.keep (cT.block _ g5.lt aM),p3,r1,m,r5,λhe w4 dw=>⟨?_,((cf.ca cn).ca cT).ca dw⟩,λhe w5 dY=>⟨x0.length-(j+1),aE,j+1,aE,aaa,rfl,λq y hq hy=>?_,cT.ca dY⟩⟩
   ·have he:m=x.op:=acd
    subst he;have:=aaC bT (by rw[TP];exact bh r2);rw[bW,aV pQ,this]
   rcases nG q j with hqj | hqj
   ·exact ii q y hqj hy
   have:q=j:=aE
   subst this;rw[r2]at hy;injection hy with hy;subst hy;simpa using he
  have lR:¬(j:Int)<(s1.n:Int):=aU lR;refine⟨6-(n+1),aE,n+1,aE,aaa,rfl,λk hk=>?_,cT⟩;rcases nG k n with PF | PF
  ·exact hno k PF
  have:k=n:=aE
  subst this;rw[TP];intro hm;obtain⟨q,hq⟩:=gz hm;exact ii q _ (by have:=(bc.1 hq).1;omega) hq rfl
 rw[bW];by_cases pQ:x.k=5
 ·rw[aV pQ];have:n=6:=by
   rw[pQ]at hc;simp at hc;omega
  subst this;rw[Wc hno]
 rw[aQ pQ]
theorem HW:∀(d:Nat) {w:av} {F:aJ} {x:Ex} {cs:aI},(∀e,vR e x)->oM d w F x cs->az aq 164 #[ah cs.toArray] w λe w'=>e=ak (aj (cM d x))/\ay [] w w'
 | 0,_,_,_,_,_,h=>h.elim
 | d+1,w,F,x,cs,hl,⟨sl,h1,h2⟩=>by
  subst h1;refine ret (ak9 _ _ _ _ _ _ _ _ ?_);intro k0 w0 fO dQ cf;have hn:=h2.len;have oS:=h2.cap;have qy:=h2.big;have Yt:x.s.length<4611686018427387903:=(hl 1).1;have hls:∀y,y∈x.dh->∀e,vR e y:=λy hy e=>(hl (e+1)).2 y hy;have vG:∀{b:Bool},gJ x=b->cM (d+1) x=(b&&jM (cM d) x.dh):=λe=>by rw[cM,e]
  refine⟨λnv i w'=>∃n:Nat,n<=x.dh.length/\i=(n:Int)/\nv=x.dh.length-n/\jM (cM d) x.dh=jM (cM d) (x.dh.drop n)/\ay [] w w'/\w0.heap.size<=w'.heap.size,x.dh.length,⟨0,be _,rfl,rfl,rfl,cf,aY _⟩,?_⟩;rintro nv _ w1 ⟨n,W7,rfl,rfl,fX,cn,z1⟩;refine⟨λbT=>?_,λlR=>?_⟩
  ·have bT:(n:Int)<(sl.n:Int):=aR bT;obtain⟨p,y,ds,g1,g2,g3,g4,g5,g6⟩:=(SliceF.only (eG d) aL h2 cn aM).get (aZ n) bT;rw[aX]at g2;obtain⟨sy,rfl⟩:=kJ g6;refine⟨p,g1,_,_,_,_,_,_,g5,(HW d (hls y (bh g2)) g6).mono ?_⟩;rintro _ w2 ⟨rfl,cH⟩;have z2:=cH.size;have kR:=Dk (f:=cM d) g2;refine⟨_,rfl,cH.same aaf,λhb=>⟨?_,cn.ca cH⟩,λhb=>⟨x.dh.length-(n+1),aE,n+1,aE,aaa,rfl,?_,cn.ca cH,aE⟩⟩
   ·have hb:cM d y=false:=aa2
    rw[cM,fX,kR,hb,cQ,fI]
   have hb:cM d y=true:=aa2
   rw[fX,kR,hb,bZ]
  have lR:¬(n:Int)<(sl.n:Int):=aU lR;have:n=x.dh.length:=aE
  subst this;rw[dv (aY _)]at fX;have sL:cM (d+1) x=gJ x:=by
   rw[cM,fX];simp[jM]
  refine(qh w1 x.s Yt).mono ?_;rintro _ w3 ⟨rfl,cT⟩;have nB:=cn.ca cT;have z3:=cT.size;have e0:((T x.s).toList==(ao #[]).toList)=decide (x.s=[]):=gU x.s [];rw[e0,hn];refine⟨_,rfl,cT.same aaf,λhk=>⟨?_,nB⟩,λhk=>⟨λb w'=>b=decide (x.k=2∨x.k=3)/\w'=w3,?_,λoT=>⟨?_,rfl⟩,λoT=>⟨?_,rfl⟩⟩⟩
  ·have hk:x.k=1:=aaU
   rw[sL,gJ,aV hk,NX];congr 4;rw[bH];simp only[bI,du];split<;>omega
  ·have kU:x.k≠1:=aaU
   rintro _ _ ⟨rfl,rfl⟩;refine⟨λhb=>⟨?_,nB⟩,λhb=>⟨λuC=>⟨?_,nB⟩,λuC=>⟨λpQ=>?_,λpQ=>⟨?_,nB⟩⟩⟩⟩
   ·have hb:=aR hb;rw[sL,gJ,aQ kU,aV hb,NX];have:decide (x.s=x.s)=true:=bE rfl;rw[this,da];cases(x.n==0)<;>cases dj x.s<;>simp
   ·have hb:=aU hb;have uC:x.k=4:=acN
    rw[sL,gJ,aQ kU,aQ hb,aV uC,NX];congr 3;rw[bH];simp only[cx,du];split<;>omega
   ·have hb:=aU hb;have uC:x.k≠4:=acN
    have pQ:x.k=5:=adT
    have hh5:gJ x=(!(fl x.op==6)&&NX 0 [] x.op 2 x):=by rw[gJ,aQ kU,aQ hb,aQ uC,aV pQ]
    have eop:(x.op==x.op)=true:=beq_self_eq_true _;refine⟨λb w'=>b=gJ x/\ay [] w w',?_,λhc=>(xJ (d:=d+1) (F:=F) (x:=x) ⟨sl,rfl,SliceF.only (eG d) aL h2 nB aM⟩).mono ?_,λhc=>⟨?_,nB⟩⟩
    ·rintro _ _ ⟨rfl,h⟩;exact⟨sL.symm▸rfl,h⟩
    ·rintro _ w6 ⟨rfl,dK⟩;refine⟨_,rfl,dK.same aaf,?_,nB.ca dK⟩;rw[hh5,NX,hc,eop,da,bZ,bW,aV pQ];congr 1;rw[bH];simp only[bI,cV,FW];have:fl x.op<=6:=by
      unfold fl;split
      ·omega
      split
      ·omega
      split
      ·omega
      split
      ·omega
      split
      ·omega
      split
      ·omega
      omega
     omega
    rw[hh5,NX,hc,cQ,cQ,fI]
   have hb:=aU hb;have uC:x.k≠4:=acN
   have pQ:x.k≠5:=adT
   rw[sL,gJ,aQ kU,aQ hb,aQ uC,aQ pQ]
  ·have oT:x.k=2:=adU
   rw[oT];rfl
  have oT:x.k≠2:=adU
  rw[bH];simp[oT]
def yI(d:Nat)(x:Ex):Bool:=decide (n9 d x≠[])
theorem agS(l m:aH):T l++T m=T (l++m):=by
 apply ByteArray.ext;simp[T]
theorem Wd(w:av){n:Int}(h0:0<=n)(h1:n<=9223372036854775807):az aq 118 #[O U n] w λe w'=>e=ak (.int .u64 n)/\w'=w:=by
 refine ret (afK _ _ _ ?_);refine⟨λhc=>absurd (aR hc) aE,λ_=>⟨?_,rfl⟩⟩;have:ar .u64 n=n:=by
  have e:ar .u64 n=n % 18446744073709551616:=rfl;rw[e];omega
 rw[this]
theorem sf(u:Nat)(h:u<=18446744073709551615):(Lib.decDigits u).length<=40:=by
 have key:∀(k u:Nat),u<10 ^ (k+1)->(Lib.decDigits u).length<=k+1:=by
  intro k
  induction k with
  | zero=>intro u hu;rw[oP (by simpa using hu)];simp
  | succ k ih=>
   intro u hu;by_cases tv:u<10
   ·rw[oP tv];simp
   rw[rj tv,aN,br];have:=ih (u/10) (by rw[Nat.div_lt_iff_lt_mul aL];rw[Nat.pow_succ]at hu;exact hu);omega
 have:=key 19 u (by have:(10:Nat) ^ (19+1)=100000000000000000000:=aL;omega);omega
theorem DG:∀(u:Nat) (w:av),u<=18446744073709551615->az aq 117 #[.int .u64 (u:Int)] w λe w'=>e=ak (ab (T (if u=0 then[]else Lib.decDigits u)))/\ay [] w w':=by
 intro u
 induction u using Nat.strongRecOn with
 | _ u ih=>
  intro w hu;refine ret (ald _ _ _ ?_);refine⟨λhc=>?_,λhc=>⟨λs w'=>s=T (Lib.decDigits u)/\ay [] w w',λs w' h=>?_,λw1 cn=>⟨λk=>w1.heap.size<=k,?_,?_⟩⟩⟩
  ·have hc:u=0:=by
    have:(u:Int)=0:=aax
    omega
   rw[aV hc];exact⟨rfl,Only.refl _ _⟩
  ·have hc:u≠0:=λe=>adl
   rw[aQ hc,h.1];exact⟨rfl,h.2⟩
  all_goals
   have hc:u≠0:=λe=>adl
   have wu:∀m:Nat,m<=18446744073709551615->ar .u64 (m:Int)=(m:Int):=λm hm=>by
    have e:ar .u64 (m:Int)=(m:Int) % 18446744073709551616:=rfl;rw[e];omega
   have e1:ar .u64 ((u:Int).tdiv 10)=((u/10:Nat):Int):=by
    have:(u:Int).tdiv 10=((u/10:Nat):Int):=by
     rw[Int.tdiv_eq_ediv_of_nonneg (aZ u)];rfl
    rw[this,wu _ aE]
   have hm:(UInt8.ofNat (48+u % 10)).toNat=48+u % 10:=xC (Nat.mod_lt _ aL);have e2:ar .u8 (ar .u64 (48+((u:Int).tmod 10)))=((UInt8.ofNat (48+u % 10)).toNat:Int):=by
    have h1:(48+((u:Int).tmod 10))=((48+u % 10:Nat):Int):=by
     rw[Int.tmod_eq_emod_of_nonneg (aZ u)];omega
    rw[h1,wu _ aE,hm];have e:ar .u8 ((48+u % 10:Nat):Int)=((48+u % 10:Nat):Int) % 256:=rfl;rw[e];omega
   have e3:T (if u/10=0 then[]else Lib.decDigits (u/10))++T [UInt8.ofNat (48+u % 10)]=T (Lib.decDigits u):=by
    rw[agS];by_cases tv:u<10
    ·rw[aV aE,oP tv,bP];congr 3;omega
    rw[aQ aE,<-rj tv]
   have fi:(if u/10=0 then[]else Lib.decDigits (u/10)).length<=100:=by
    split
    ·simp
    have:=sf (u/10) aE;omega
   rw[e1,e2]
  ·refine(ih (u/10) aE w1 aE).mono ?_;rintro _ w2 ⟨rfl,cH⟩;obtain⟨y,w3,k1,k2,k3,_⟩:=rS w2 [UInt8.ofNat (48+u % 10)] (n:=1) (parts:=#[(0,.int .u8 ((UInt8.ofNat (48+u % 10)).toNat:Int))]) rfl rfl aL aL;refine⟨_,rfl,bR.only cH,y,w3,k1,bR.only k3,[UInt8.ofNat (48+u % 10)],(SliceF.bytes (wY k2)).rd,?_,e3,(cn.ca cH).ca k3⟩;have:(ao [UInt8.ofNat (48+u % 10)].toArray).size=1:=rfl;rw[cq];omega
  obtain⟨y,w4,k1,k2,k3,ka⟩:=rS w1 [UInt8.ofNat (48+u % 10)] (n:=1) (parts:=#[(0,.int .u8 ((UInt8.ofNat (48+u % 10)).toNat:Int))]) rfl rfl aL aL;refine⟨y,w4,k1,bR.only k3,[UInt8.ofNat (48+u % 10)],λp hp=>?_,(SliceF.bytes (wY k2)).rd,(ih (u/10) aE w4 aE).mono ?_⟩
  ·rw[ka]at hp;injection hp with hp;subst hp;exact aY _
  rintro _ w5 ⟨rfl,dY⟩;refine⟨_,rfl,bR.only dY,?_,e3,(cn.ca k3).ca dY⟩;have:(ao [UInt8.ofNat (48+u % 10)].toArray).size=1:=rfl;rw[cq];omega
theorem Sy(w:av){n:Int}(h0:0<=n)(h1:n<=9223372036854775807):az aq 67 #[O U n] w λe w'=>e=ak (ab (T (Lib.itoa n)))/\ay [] w w':=by
 refine ret (afJ _ _ _ ?_);refine⟨λhc=>?_,λhc=>⟨λW5=>absurd (aR W5) aE,λ_=>(Wd w h0 h1).mono ?_⟩⟩
 ·have hc:n=0:=aax
  subst hc;rw[pv (jt _),Int.toNat_zero,oP aL];exact⟨rfl,Only.refl _ _⟩
 have hc:n≠0:=aax
 rintro _ w2 ⟨rfl,rfl⟩;obtain⟨u,rfl⟩:∃u:Nat,n=(u:Int):=⟨n.toNat,aE⟩
 refine⟨_,rfl,(DG u _ aE).mono ?_⟩;rintro _ w3 ⟨rfl,cT⟩;refine⟨_,rfl,?_,cT⟩;rw[aQ aE,pv h0,aX]
def ov(l m:aH):aH:=if l.length<=16384 then l++m else l
def sQ(wr:Bool)(l:aH):aH:=if wr then ov l [40]else l
def uq(wr:Bool)(l:aH):aH:=if wr then ov l [41]else l
def vU:Nat->Ex->aH->aH
 | 0,_,l=>l
 | d+1,x,l=>if 16384<l.length then l else
  if x.k=1 then ov l (Lib.itoa x.n)
  else if x.k=2 then ov l x.s
  else if x.k=3 then ov l ([105,110,40]++x.s++[41])
  else if x.k=4 then(match x.dh with
   | [y]=>uq (y.k==5) (vU d y (sQ (y.k==5) (ov l (dL x.op.toNat))))
   | _=>l)
  else(match x.dh with
   | [y,z]=>uq (decide (bW z<=bW x)) (vU d z (sQ (decide (bW z<=bW x)) (ov (uq (decide (bW y<bW x)) (vU d y (sQ (decide (bW y<bW x)) l))) ([32]++dL x.op.toNat++[32]))))
   | _=>l)
def mr(l t r:aH):Prop:=(l.length+t.length<=16384->r=l++t)/\(16384<l.length+t.length->16384<r.length)
theorem mr.put(l m:aH):mr l m (ov l m):=by
 unfold ov;refine⟨λh=>by rw[aV aE],λh=>?_⟩;by_cases hl:l.length<=16384
 ·rw[aV hl,aN];omega
 rw[aQ hl];omega
theorem mr.trans{l t r t' r':aH}(h:mr l t r)(k:mr r t' r'):mr l (t++t') r':=by
 refine⟨λhh=>?_,λhh=>?_⟩
 ·rw[aN]at hh;have e:=h.1 aE;rw[e]at k;rw[k.1 abD,bf]
 rw[aN]at hh;by_cases h1:l.length+t.length<=16384
 ·have e:=h.1 h1;refine k.2 ?_;rw[e,aN];omega
 have:=h.2 aE;exact k.2 aE
theorem mr.refl(l:aH):mr l [] l:=⟨λ_=>aM,λh=>abb⟩
theorem mr.long{l t:aH}(h:16384<l.length):mr l t l:=⟨λhh=>aE,λ_=>h⟩
theorem mr.opn(wr:Bool)(l:aH):mr l (if wr then[40]else[]) (sQ wr l):=by
 cases wr with
 | true=>exact mr.put _ _
 | false=>exact mr.refl _
theorem mr.clo(wr:Bool)(l:aH):mr l (if wr then[41]else[]) (uq wr l):=by
 cases wr with
 | true=>exact mr.put _ _
 | false=>exact mr.refl _
theorem We(d:Nat)(x:Ex)(wr:Bool):lr (d+1) x wr=(if wr then[40]else[])++(lr (d+1) x false++(if wr then[41]else[])):=by
 unfold lr;cases wr with
 | true=>simp[clo,opn]
 | false=>simp[clo,opn]
theorem Sz{d:Nat}{x:Ex}(h:cM d x=true)(wr:Bool):lr d x wr=(if wr then[40]else[])++(lr d x false++(if wr then[41]else[])):=by
 cases d with
 | zero=>cases h
 | succ d=>exact We d x wr
theorem agU{d:Nat}{y:Ex}(h:cM d y=true):decide (bW y<6)=(y.k==5):=by
 cases d with
 | zero=>cases h
 | succ d=>
  rw[cM,aP]at h;rw[bH];simp only[bI,du];constructor
  ·intro hh;refine bL λhn=>?_;rw[bW,aQ hn]at hh;omega
  intro hh;obtain⟨_,y',z',_,o1,o2⟩:=po h.1 aE aE aE aE;rw[bW,aV hh];have:=(Ap o1 o2).2;omega
theorem JW:∀(d:Nat) {x:Ex} (l:aH),cM d x=true->mr l (lr d x false) (vU d x l)
 | 0,x,l,h=>aaQ
 | d+1,x,l,h=>by
  rw[cM,aP]at h;obtain⟨hh,ha⟩:=h;have e:lr (d+1) x false=(
  if x.k=1 then Lib.itoa x.n
  else if x.k=2 then x.s
  else if x.k=3 then[105,110,40]++x.s++[41]
  else if x.k=4 then(match x.dh with
   | [y]=>dL x.op.toNat++lr d y (decide (bW y<6))
   | _=>[])
  else(match x.dh with
   | [y,z]=>lr d y (decide (bW y<bW x))++([32]++dL x.op.toNat++[32])++lr d z (decide (bW z<=bW x))
   | _=>[])):=rfl
  rw[vU];by_cases hl:16384<l.length
  ·rw[aV hl];exact mr.long hl
  rw[aQ hl,e];have part:∀{y:Ex} (wr:Bool) (l:aH),cM d y=true->mr l (lr d y wr) (uq wr (vU d y (sQ wr l))):=fun{y} wr l hy=>by
   rw[Sz hy wr];exact(mr.opn wr l).trans ((JW d _ hy).trans (mr.clo wr _))
  by_cases k1:x.k=1
  ·rw[aV k1,aV k1];exact mr.put _ _
  by_cases k2:x.k=2
  ·rw[aQ k1,aQ k1,aV k2,aV k2];exact mr.put _ _
  by_cases k3:x.k=3
  ·rw[aQ k1,aQ k1,aQ k2,aQ k2,aV k3,aV k3];exact mr.put _ _
  by_cases k4:x.k=4
  ·obtain⟨y,hy,_⟩:=tV hh k4;rw[aQ k1,aQ k1,aQ k2,aQ k2,aQ k3,aQ k3,aV k4,aV k4,hy];rw[hy]at ha;simp only[jM,da]at ha;dsimp only;rw[agU ha];exact(mr.put _ _).trans (part _ _ ha)
  obtain⟨_,y,z,hy,_⟩:=po hh k1 k2 k3 k4;rw[aQ k1,aQ k1,aQ k2,aQ k2,aQ k3,aQ k3,aQ k4,aQ k4,hy];rw[hy]at ha;simp only[jM,da,aP]at ha;exact((part _ _ ha.1).trans (mr.put _ _)).trans (part _ _ ha.2)
theorem aaD{d:Nat}{x:Ex}(h:cM d x=true):∀(wr:Bool) (l:aH),l.length+(lr d x wr).length<=16384->oW d x wr l=l++lr d x wr:=by
 induction d generalizing x with
 | zero=>cases h
 | succ d ih=>
  intro wr l fi;rw[cM,aP]at h;obtain⟨hh,ha⟩:=h;have hc:¬16384<l.length:=aE
  rw[oW,aQ hc];rw[lr]at fi⊢;rw[<-RT];have lR:=JH wr (opn wr []++(
  if x.k=1 then Lib.itoa x.n
  else if x.k=2 then x.s
  else if x.k=3 then[105,110,40]++x.s++[41]
  else if x.k=4 then(match x.dh with
   | [y]=>dL x.op.toNat++lr d y (decide (bW y<6))
   | _=>[])
  else(match x.dh with
   | [y,z]=>lr d y (decide (bW y<bW x))++([32]++dL x.op.toNat++[32])++lr d z (decide (bW z<=bW x))
   | _=>[])))
  have wz:=bB (Nat.add_le_add_left lR l.length) fi;clear lR fi;congr 1;by_cases k1:x.k=1
  ·rw[aV k1,aV k1,ny wr l,bf]
  by_cases k2:x.k=2
  ·rw[aQ k1,aQ k1,aV k2,aV k2,ny wr l,bf]
  by_cases k3:x.k=3
  ·rw[aQ k1,aQ k1,aQ k2,aQ k2,aV k3,aV k3,ny wr l,bf]
  by_cases k4:x.k=4
  ·obtain⟨y,hy,_⟩:=tV hh k4;rw[aQ k1,aQ k2,aQ k3,aV k4,hy]at wz;rw[aQ k1,aQ k1,aQ k2,aQ k2,aQ k3,aQ k3,aV k4,aV k4,hy];rw[hy]at ha;dsimp only at wz⊢;simp only[jM,da]at ha;simp only[aN]at wz;rw[ih ha _ _ acT,ny wr l];simp only[bf]
  obtain⟨_,y,z,hy,_⟩:=po hh k1 k2 k3 k4;rw[aQ k1,aQ k2,aQ k3,aQ k4,hy]at wz;rw[aQ k1,aQ k1,aQ k2,aQ k2,aQ k3,aQ k3,aQ k4,aQ k4,hy];rw[hy]at ha;dsimp only at wz⊢;simp only[jM,da,aP]at ha;simp only[aN]at wz;have e1:oW d y (decide (bW y<bW x)) (opn wr l)=opn wr l++lr d y (decide (bW y<bW x)):=ih ha.1 _ _ acT;rw[e1,ih ha.2 _ _ acT,ny wr l];simp only[bf]
theorem Ow{d:Nat}{x:Ex}(hs:cM d x=true)(hn:kx d x):n9 d x=(if 16384<(vU d x []).length∨(fP (vU d x [])).2.1≠0 then[]else vU d x [])/\((fP (vU d x [])).2.1=0->(vU d x []).length<=16384->vU d x []=oW d x false []):=by
 have hr:=JW d (x:=x) [] hs;unfold mr at hr;rw[bd,bM,bP]at hr;have long:∀l:aH,16384<l.length->(fP l).2.1≠0:=λl h=>by
  have:cG l=([],2, -1):=by rw[cG,aV h]
  unfold fP;rw[this,aV aL];exact(by decide:(2:Int)≠0)
 by_cases ht:(lr d x false).length<=16384
 ·have e1:=hr.1 ht;have e2:oW d x false []=lr d x false:=by
   have:=aaD hs false [] acq;rwa[bP]at this
  rw[e1,n9,aV hs,e2];refine⟨?_,λ_ _=>rfl⟩;by_cases hc:(fP (lr d x false)).2.1≠0
  ·rw[aV hc,aV (.inr hc)]
  rw[aQ hc,aQ (by rintro(h | h);omega;exact hc h)]
 have h1:=hr.2 aE;have h2:16384<(oW d x false []).length:=by
  refine bL λhn=>?_;have:=Dy d false [] hs aE;rw[bP]at this;rw[this]at hn;omega
 refine⟨?_,λ_ h=>aE⟩;rw[aV (.inl h1),n9,aV hs,aV (long _ h2)]
theorem si(l m:aH){K:Nat}(hm:m.length<=40)(hl:l.length<=K)(hK:16424<=K):(ov l m).length<=K:=by
 unfold ov;split
 ·rw[aN];omega
 exact hl
theorem yJ(wr:Bool)(l:aH){K:Nat}(hl:l.length<=K)(hK:16424<=K):(sQ wr l).length<=K:=by
 cases wr with
 | true=>exact si _ _ aL hl hK
 | false=>exact hl
theorem Fq(wr:Bool)(l:aH){K:Nat}(hl:l.length<=K)(hK:16424<=K):(uq wr l).length<=K:=by
 cases wr with
 | true=>exact si _ _ aL hl hK
 | false=>exact hl
theorem HX:∀(d:Nat) {x:Ex} (l:aH) {K:Nat},cM d x=true->kx d x->l.length<=K->16424<=K->(vU d x l).length<=K
 | 0,x,l,K,h,_,_,_=>aaQ
 | d+1,x,l,K,h,⟨hn,hs⟩,hl,hK=>by
  rw[cM,aP]at h;obtain⟨hh,ha⟩:=h;rw[vU];split
  ·exact hl
  split
  ·exact si _ _ (by have:=Lib.itoa_length_le x.n hn.1 hn.2;omega) hl hK
  split
  ·rename_i hk;exact si _ _ (by have:=ig (jN hh (.inl hk));omega) hl hK
  split
  ·rename_i hk;refine si _ _ ?_ hl hK;have:=ig (jN hh (.inr hk));rw[aN,aN];simp only[aW,bd];omega
  split
  ·rename_i hk;obtain⟨y,hy,_⟩:=tV hh hk;rw[hy]at ha hs⊢;simp only[jM,da]at ha;have:=lq x.op.toNat;exact Fq _ _ (HX d _ ha (hs y aM) (yJ _ _ (si _ _ aE hl hK) hK) hK) hK
  rename_i k1 k2 k3 k4;obtain⟨hk,y,z,hy,_⟩:=po hh k1 k2 k3 k4;rw[hy]at ha hs⊢;simp only[jM,da,aP]at ha;have:=lq x.op.toNat;exact Fq _ _ (HX d _ ha.2 (hs z aM) (yJ _ _ (si _ _ (by rw[aN,aN];simp only[aW,bd];omega) (Fq _ _ (HX d _ ha.1 (hs y aM) (yJ _ _ hl hK) hK) hK) hK) hK) hK) hK
structure Pq (w:av) (b:Nat) (sl:Sl) (l:aH):Prop where
 blk:aF w b 221 [sl.v]
 buf:Bf w (b+1) sl l
section
variable {w w0 w1 w2 w':av} {b k0:Nat} {sl sl' OS:Sl} {l:aH}
theorem Pq.only(h:Pq w b sl l)(hO:ay [] w w'):Pq w' b sl l:=⟨hO.blk h.blk aM,h.buf.keep λg _ hl=>hO.block g hl aM⟩
theorem Pq.lb(h:Pq w b sl l):b<w.heap.size:=h.blk.lt
theorem iL.sm(M:iL b sl w0 sl' w1)(h1:k0≠b)(h2:sl.a≠some ⟨k0,0,none⟩)(h3:k0<w0.heap.size)(S:iL b sl' w1 OS w2):bS [k0] w1 w2:=S.same h1 (λe=>by
 rcases M.2 k0 e with e | e
 ·exact h2 e
 omega) (by have:=M.1.size;omega)
theorem Pq.SU(h:Pq w0 b sl l){k:Nat}(hk:k<b):¬(k=b∨sl.a=some ⟨k,0,none⟩):=by
 rintro(e | e)
 ·omega
 have:=(h.buf.lt e).1;omega
theorem iL.kp(M:iL b sl w0 sl' w1)(h:Pq w0 b sl l)(h1:k0≠b)(h2:sl.a≠some ⟨k0,0,none⟩)(h3:k0<w0.heap.size)(S:iL b sl' w1 OS w2):bR (λk=>k<b∨k=k0) w1 w2:=λk hk bT=>S.1.block k bT λhh=>by
 have hb:=h.lb;rcases hk with hk | rfl
 ·rcases hh with e | e
  ·omega
  rcases M.2 k e with e | e
  ·exact h.SU hk (.inr e)
  omega
 rcases hh with e | e
 ·exact h1 e
 rcases M.2 k e with e | e
 ·exact h2 e
 omega
theorem zl(h:Pq w b sl l)(m:aH)(hm:l.length+m.length<=140737488355328):az aq 196 #[ae (some ⟨b,0,none⟩),ab (T m)] w λe w'=>∃sl',e=ak (ai #[])/\Pq w' b sl' (ov l m)/\iL b sl w sl' w':=by
 refine(ale ⟨b,0,none⟩ (T m) (λv w'=>∃sl',v=ai #[]/\Pq w' b sl' (ov l m)/\iL b sl w sl' w') w ?_).mono (by
  rintro e w' ⟨v,rfl,s,rfl,h⟩;exact⟨s,rfl,h⟩)
 have hn:=h.buf.len;have hb:=h.lb;refine⟨sl,Blk.dN h.blk 0 rfl,λhc=>?_,λhc=>⟨sl,rfl,?_,iL.refl _ _ _⟩⟩
 ·have hc:l.length<=16384:=aaX
  obtain⟨s',w1,k1,k2,k3,k4⟩:=Ah h.buf m aE hm;have qF:=k3.blk h.blk λe=>by have:=(h.buf.lt e).1;omega
  have DS:∀g,s'.a=some ⟨g,0,none⟩->b<g:=λg hg=>by
   rcases k4 with e | e
   ·rw[e]at hg;exact(h.buf.lt hg).1
   rw[e]at hg;injection hg with hg;injection hg with hg;omega
  refine⟨sl,Blk.dN h.blk 0 rfl,s',w1,k1,b,0,_,_,rfl,qF,aM,λw2 cH lS=>⟨s',rfl,⟨lS,?_⟩,?_,?_⟩⟩
  ·rw[ov,aV hc];exact k2.keep λg hg hl=>cH.block g hl acQ
  ·exact(k3.mono λk _ hk=>.inr hk).trans (cH.p (F:=λk=>k=b) λx hx=>.inl aa9) λk hk=>.inl (.inl hk)
  intro k hk;rcases k4 with e | e
  ·rw[e]at hk;exact .inl hk
  rw[e]at hk;injection hk with hk;injection hk with hk;exact .inr aE
 have hc:¬l.length<=16384:=aa0
 rw[ov,aQ hc];exact h
end
abbrev RgC(d:Nat):Prop:=∀{F:aJ} {w:av} {b:Nat} {sl:Sl} {l:aH} {x:Ex} {cs:aI},cM d x=true->kx d x->oM d w F x cs->(∀k,F k->k<b)->Pq w b sl l->l.length<=16424->
 az aq 165 #[ae (some ⟨b,0,none⟩),ah cs.toArray] w λe w'=>∃sl',e=ak (ai #[])/\Pq w' b sl' (vU d x l)/\iL b sl w sl' w'
theorem Fs{d:Nat}(hR:RgC d){F:aJ}{w:av}{b:Nat}{sl:Sl}{l:aH}{x:Ex}{cs:aI}(wr:Bool)(hs:cM d x=true)(hn:kx d x)(hx:oM d w F x cs)(hF:∀k,F k->k<b)(hP:Pq w b sl l)(hl:l.length<=16424):
  az aq 197 #[ae (some ⟨b,0,none⟩),ah cs.toArray,aj wr] w λe w'=>∃sl',e=ak (ai #[])/\Pq w' b sl' (uq wr (vU d x (sQ wr l)))/\iL b sl w sl' w':=by
 obtain⟨xs,rfl⟩:=kJ hx;refine(alf ⟨b,0,none⟩ x.k x.n (T x.s) x.op xs x.a wr (λv w'=>∃sl',v=ai #[]/\Pq w' b sl' (uq wr (vU d x (sQ wr l)))/\iL b sl w sl' w') w ?_).mono (by
  rintro e w' ⟨v,rfl,s,rfl,h⟩;exact⟨s,rfl,h⟩)
 intro k0 w0 fO dQ cf;have hb:=hP.lb;have II:=hP.only cf;have o1:k0≠b:=aE
 have o2:sl.a≠some ⟨k0,0,none⟩:=λe=>ab9
 have hrl:=λl' h=>HX d (x:=x) l' (K:=16424) hs hn h (aY _);refine⟨λw1=>∃sl1,Pq w1 b sl1 (sQ wr l)/\iL b sl w0 sl1 w1,?_,λhw=>(zl II [40] adG).mono ?_,λhw=>⟨sl,by rw[hw];exact II,iL.refl _ _ _⟩⟩
 ·rintro w1 ⟨sl1,h1,m1⟩;refine(hR hs hn ((eG d).keep (gr hx cf) λk hk bT=>m1.1.block k bT (II.SU (hF k hk))) hF h1 (yJ _ _ hl (aY _))).mono ?_;rintro _ w2 ⟨Tp,rfl,h2,m2⟩;refine⟨rfl,m1.sm o1 o2 dQ m2,λhw=>(zl h2 [41] (by have:=hrl _ (yJ wr l hl (aY _));rw[br];omega)).mono ?_,λhw=>⟨Tp,rfl,?_,(m1.trans m2).after cf⟩⟩
  ·rintro _ w3 ⟨sl3,rfl,h3,m3⟩;refine⟨rfl,(m1.trans m2).sm o1 o2 dQ m3,sl3,rfl,?_,((m1.trans m2).trans m3).after cf⟩;unfold uq;rw[aV hw];exact h3
  unfold uq;rw[aQ ady];exact h2
 rintro _ w4 ⟨sl4,rfl,h4,m4⟩;refine⟨rfl,(iL.refl b sl w0).sm o1 o2 dQ m4,sl4,?_,m4⟩;unfold sQ;rw[aV hw];exact h4
theorem SA{k j:Nat}{op:Int}(hk:k<6)(h:((eP[k]?).getD [])[j]? =some op):((oE[k]?).getD [])[j]? =some (dL op.toNat):=by
 have hj:j<4:=by
  have h1:=(bc.1 h).1;have h2:∀k,k<6->((eP[k]?).getD []).length<=4:=aL
  have:=h2 k hk;omega
 have fX:∀k,k<6->∀j,j<4->∀o,((eP[k]?).getD [])[j]? =some o->((oE[k]?).getD [])[j]? =some (dL o.toNat):=by
  intro k hk j hj o ho
  match k,hk,j,hj with
  | 0,_,0,_=>simp[eP]at ho;subst ho;rfl
  | 0,_,j+1,_=>simp[eP]at ho
  | 1,_,0,_=>simp[eP]at ho;subst ho;rfl
  | 1,_,j+1,_=>simp[eP]at ho
  | 2,_,0,_=>simp[eP]at ho;subst ho;rfl
  | 2,_,1,_=>simp[eP]at ho;subst ho;rfl
  | 2,_,j+2,_=>simp[eP]at ho
  | 3,_,0,_=>simp[eP]at ho;subst ho;rfl
  | 3,_,1,_=>simp[eP]at ho;subst ho;rfl
  | 3,_,2,_=>simp[eP]at ho;subst ho;rfl
  | 3,_,3,_=>simp[eP]at ho;subst ho;rfl
  | 4,_,0,_=>simp[eP]at ho;subst ho;rfl
  | 4,_,1,_=>simp[eP]at ho;subst ho;rfl
  | 4,_,j+2,_=>simp[eP]at ho
  | 5,_,0,_=>simp[eP]at ho;subst ho;rfl
  | 5,_,1,_=>simp[eP]at ho;subst ho;rfl
  | 5,_,2,_=>simp[eP]at ho;subst ho;rfl
  | 5,_,j+3,_=>simp[eP]at ho
 exact fX k hk j hj op h
theorem JX{k:Nat}(hk:k<6):((eP[k]?).getD []).Nodup:=by
 have:∀k,k<6->((eP[k]?).getD []).Nodup:=aL
 exact this k hk
theorem SB{op:Int}(h1:1<=op)(h2:op<=13):op∈(eP[(fl op).toNat]?).getD []:=by
 have:∀n:Nat,n<14->1<=n->((n:Int))∈(eP[(fl (n:Int)).toNat]?).getD []:=aL
 have:=this op.toNat aE aE;rwa[fy aE]at this
theorem Au:∀d,RgC d
 | 0,_,_,_,_,_,_,_,_,_,h,_,_,_=>h.elim
 | d+1,F,w,b,sl,l,x,cs,sL,⟨Uw,Px⟩,⟨xs,h1,h2⟩,hF,hP,fi=>by
  subst h1;refine(alc ⟨b,0,none⟩ x.k x.n (T x.s) x.op xs x.a (λv w'=>∃sl',v=ai #[]/\Pq w' b sl' (vU (d+1) x l)/\iL b sl w sl' w') w ?_).mono (by
   rintro e w' ⟨v,rfl,s,rfl,h⟩;exact⟨s,rfl,h⟩)
  rw[cM,aP]at sL;obtain⟨hh,ha⟩:=sL;intro k0 w0 fO dQ cf;have hb:=hP.lb;have II:=hP.only cf;have Ax:=SliceF.only (eG d) aL h2 cf aM;have o1:k0≠b:=aE
  have o2:sl.a≠some ⟨k0,0,none⟩:=λe=>ab9
  have hbn:=hP.buf.len;have rf:=iL.refl b sl w0;have sub:∀{w1:av} {sl1:Sl} {i:Nat} {y:Ex},iL b sl w0 sl1 w1->x.dh[i]? =some y->∃ad sy,cR xs (i:Int) 6 ad/\ad.block<b/\aB w1 ad (lf y.k y.n y.s y.op sy y.a)/\oM d w1 F y (lf y.k y.n y.s y.op sy y.a):=fun{w1 sl1 i y} m1 hy=>by
   have hS:=SliceF.pA (eG d) aL Ax m1.1 λk hk _=>II.SU (hF k hk);have hn:=hS.len;have bT:=(bc.1 hy).1;obtain⟨ad,y',cs,g1,g2,g3,g4,g5,g6⟩:=hS.get (aZ i) aE;rw[aX,hy]at g2;injection g2 with g2;subst g2;obtain⟨sy,rfl⟩:=kJ g6;exact⟨ad,sy,g1,hF _ g3,g5,g6⟩
  refine⟨sl,Blk.dN II.blk 0 rfl,λhc=>⟨sl,rfl,?_,iL.only cf⟩,λhc=>?_⟩
  ·rw[vU,aV aaX];exact II
  have hc:¬16384<l.length:=aa0
  have hrg:vU (d+1) x l=(if x.k=1 then ov l (Lib.itoa x.n)
  else if x.k=2 then ov l x.s
  else if x.k=3 then ov l ([105,110,40]++x.s++[41])
  else if x.k=4 then(match x.dh with
   | [y]=>uq (y.k==5) (vU d y (sQ (y.k==5) (ov l (dL x.op.toNat))))
   | _=>l)
  else(match x.dh with
   | [y,z]=>uq (decide (bW z<=bW x)) (vU d z (sQ (decide (bW z<=bW x)) (ov (uq (decide (bW y<bW x)) (vU d y (sQ (decide (bW y<bW x)) l))) ([32]++dL x.op.toNat++[32]))))
   | _=>l)):=by rw[vU,aQ hc]
  refine⟨λhk=>?_,λk1=>⟨λhk=>?_,λk2=>⟨λhk=>⟨?_,?_,?_⟩,λk3=>⟨λhk=>?_,λk4=>⟨λ_=>?_,λk5=>?_⟩⟩⟩⟩⟩
  ·have hk:x.k=1:=aaU
   have h0:0<=x.n:=by
    rw[gJ,aV hk]at hh;have:=(vS hh).1;split at this<;>omega
   refine(Sy w0 h0 Uw.2).mono ?_;rintro _ w1 ⟨rfl,cn⟩;have hl:=Lib.itoa_length_le x.n Uw.1 Uw.2;refine⟨_,rfl,cn.same aaf,(zl (II.only cn) (Lib.itoa x.n) aE).mono ?_⟩;rintro _ w2 ⟨Tp,rfl,Td,vj⟩;exact⟨rfl,(iL.only cn).sm o1 o2 dQ vj,Tp,rfl,by rw[hrg,aV hk];exact Td,(vj.after cn).after cf⟩
  ·have hk:x.k=2:=aaU
   have k1:x.k≠1:=aE
   have hl:=ig (jN hh (.inl hk));refine(zl II x.s aE).mono ?_;rintro _ w2 ⟨Tp,rfl,Td,vj⟩;exact⟨rfl,rf.sm o1 o2 dQ vj,Tp,rfl,by rw[hrg,aQ k1,aV hk];exact Td,vj.after cf⟩
  ·have hk:x.k=3:=aaU
   have hl:=ig (jN hh (.inr hk));rw[cq];omega
  ·have hk:x.k=3:=aaU
   have hl:=ig (jN hh (.inr hk));rw[inz];have:(ao #[105,110,40]).size=3:=rfl;omega
  ·have hk:x.k=3:=aaU
   have hl:=ig (jN hh (.inr hk));have wz:([105,110,40]++x.s++[41]:aH).length=x.s.length+4:=by
    rw[aN,aN];simp only[aW,bd];omega
   rw[inb];refine(zl II _ aE).mono ?_;rintro _ w2 ⟨Tp,rfl,Td,vj⟩;exact⟨rfl,rf.sm o1 o2 dQ vj,Tp,rfl,by rw[hrg,aQ aE,aQ aE,aV hk];exact Td,vj.after cf⟩
  ·have hk:x.k=4:=aaU
   obtain⟨y,hy,pF⟩:=tV hh hk;have hay:cM d y=true:=abA
   have CW:kx d y:=Px y acL;have Tw:=lq x.op.toNat;have hrk:vU (d+1) x l=uq (y.k==5) (vU d y (sQ (y.k==5) (ov l (dL x.op.toNat)))):=by rw[hrg,aQ aE,aQ aE,aQ aE,aV hk,hy]
   refine⟨λw5=>∃F8,Pq w5 b F8 (ov l (dL x.op.toNat))/\iL b sl w0 F8 w5,?_,λho=>?_,λho=>?_⟩
   ·rintro w5 ⟨F8,h5,m5⟩;obtain⟨p1,sy,e1,e2,_,_⟩:=sub (i:=0) m5 acK;refine⟨p1,e1,λw6 dK=>?_⟩;have m6:=m5.trans (iL.only dK);obtain⟨p1',sy',e1',e2',e3',e4'⟩:=sub (i:=0) m6 (y:=y) acK;have:=cR.CJ e1' e1;subst this;refine⟨_,_,_,_,_,_,e3',p1',e1,y.k,e3'.dN 0 _ rfl,(Fs (Au d) (y.k==5) hay CW e4' hF (h5.only dK) (si _ _ aE fi (aY _))).mono ?_⟩;rintro _ w7 ⟨sl7,rfl,h7,m7⟩;exact⟨rfl,m6.sm o1 o2 dQ m7,sl7,rfl,by rw[hrk];exact h7,(m6.trans m7).after cf⟩
   ·have ho:x.op=14:=adS
    refine(zl II [45] adG).mono ?_;rintro _ w8 ⟨sl8,rfl,h8,m8⟩;exact⟨rfl,rf.sm o1 o2 dQ m8,sl8,by rw[ho];exact h8,m8⟩
   have ho:x.op=15:=by
    have:x.op≠14:=adS
    omega
   refine(zl II [33] adG).mono ?_;rintro _ w8 ⟨sl8,rfl,h8,m8⟩;exact⟨rfl,rf.sm o1 o2 dQ m8,sl8,by rw[ho];exact h8,m8⟩
  ·have k1:x.k≠1:=ac5
   have k2:x.k≠2:=ad2
   have k3:x.k≠3:=ac6
   have k4:x.k≠4:=ac7
   obtain⟨hk,y,z,hy,Tc,Kg⟩:=po hh k1 k2 k3 k4;have yT:cM d y=true/\cM d z=true:=abA
   have CW:kx d y:=Px y acL;have Py:kx d z:=Px z acL;have Tw:=lq x.op.toNat;have hlx:bW x=fl x.op:=by rw[bW,aV hk]
   obtain⟨r0,r5⟩:=Ap Tc Kg;have hrk:vU (d+1) x l=uq (decide (bW z<=bW x)) (vU d z (sQ (decide (bW z<=bW x)) (ov (uq (decide (bW y<bW x)) (vU d y (sQ (decide (bW y<bW x)) l))) ([32]++dL x.op.toNat++[32])))):=by rw[hrg,aQ k1,aQ k2,aQ k3,aQ k4,hy]
   refine(xJ (show oM (d+1) _ F x (lf x.k x.n x.s x.op xs x.a)from⟨xs,rfl,Ax⟩)).mono ?_;rintro _ de ⟨rfl,dT⟩;have z0:=cf.size;have Ih:=dT.size;refine⟨_,rfl,dT.same aaf,(JS de).mono ?_⟩;rintro _ dz ⟨l2,rfl,hN,dH⟩;have CR:=dH.size;have m0:=hN.len;have m6:eP.length=6:=rfl;obtain⟨kr,hkr⟩:∃kr:Nat,bW x=(kr:Int):=⟨(bW x).toNat,aE⟩
   have ai2:kr<6:=aE
   obtain⟨p2,x1,cs1,e1,e2,e3,e4,e5,l3,rfl,hM⟩:=(SliceF.inHeap (vh mq) hN aL).get (i:=bW x) aE aE;have WZ:(eP[kr]?).getD []=x1:=by
    rw[hkr,aX]at e2;rw[e2];rfl
   refine⟨l2,rfl,dH.same aaf,p2,e1,l3,e5,λeu eh=>?_⟩;have m12:iL b sl w0 sl eu:=iL.only ((dT.ca dH).ca eh);have TL:=II.only ((dT.ca dH).ca eh);have ao3:=SliceF.only mq aL hM eh aM;have z12:=eh.size;obtain⟨p3,sy,f1,f2,f3,f4⟩:=sub (i:=0) m12 (y:=y) acK;refine⟨λk=>k<b∨k=k0,.inr rfl,p3,f1,.inl f2,_,_,_,_,_,_,f3,p3,f1,_,_,_,_,_,_,f3,(xJ f4).mono ?_⟩;rintro _ eS ⟨rfl,dU⟩;have Pu:=dU.size;have m13:=m12.trans (iL.only dU);have hly:(sQ (decide (bW y<bW x)) l).length<=16424:=yJ _ _ fi (aY _);refine⟨_,rfl,dU.same aaf,bR.only dU,(Fs (Au d) (decide (bW y<bW x)) yT.1 CW (gr f4 dU) hF (TL.only dU) fi).mono ?_⟩;rintro _ fJ ⟨OT,rfl,PC,m14⟩;have acD:=m13.trans m14;have YL:=m14.1.size;generalize hA:uq (decide (bW y<bW x)) (vU d y (sQ (decide (bW y<bW x)) l))=A at*
   have hAl:A.length<=16424:=by rw[<-hA];exact Fq _ _ (HX d _ yT.1 CW hly (aY _)) (aY _)
   have ao4:∀{gY:av} {Iu:Sl},iL b OT fJ Iu gY->aA yF 1 gY (λk=>de.heap.size<=k/\k<dz.heap.size) l3 x1:=fun{gY Iu} m15=>by
    have qy:iL b sl eu Iu gY:=((iL.only dU).trans m14).trans m15;refine SliceF.pA mq aL ao3 qy.1 λk hk _ hh=>?_;rcases hh with e | e
    ·omega
    have:=(II.buf.lt e).2;omega
   have t1:=hM.len;have t2:=hM.cap;have t3:=hM.big;refine⟨rfl,m13.sm o1 o2 dQ m14,m13.kp II o1 o2 dQ m14,λnv i gY=>∃(j:Nat) (Iu:Sl),j<=x1.length/\i=(j:Int)/\nv=x1.length-j/\Pq gY b Iu (if x.op∈x1.take j then ov A ([32]++dL x.op.toNat++[32])else A)/\iL b OT fJ Iu gY,x1.length,⟨0,OT,be _,rfl,rfl,by rw[ci,aQ aM];exact PC,iL.refl _ _ _⟩,?_⟩;rintro nv _ gY ⟨j,Iu,hj,rfl,rfl,Ay,m15⟩;have hnd:x1.Nodup:=WZ▸JX ai2;refine⟨λbT=>?_,λlR my jF=>?_⟩
   ·have bT:(j:Int)<(l3.n:Int):=aR bT;obtain⟨p5,q,cs5,g1,g2,g3,g4,g5,g6⟩:=(ao4 m15).get (aZ j) bT;unfold yF at g6;subst g6;rw[aX]at g2;refine⟨λjm=>∃Xb:Sl,Pq jm b Xb (if x.op∈x1.take (j+1)then ov A ([32]++dL x.op.toNat++[32])else A)/\iL b OT fJ Xb jm,?_,p5,g1,q,g5,λhe jd iZ=>(Sm jd).mono ?_,λhe jD lN=>⟨Iu,?_,m15.trans (iL.only lN)⟩⟩
    ·rintro jm ⟨Xb,WQ,m16⟩;exact⟨x1.length-(j+1),aE,j+1,Xb,aE,aaa,rfl,WQ,m16⟩
    ·have he:q=x.op:=acd
     subst he;rintro _ jR ⟨l6,rfl,hRw,kD⟩;have n0:=hRw.len;have n6:oE.length=6:=rfl;obtain⟨p6,x6,cs6,u1,u2,u3,u4,u5,l7,rfl,hS⟩:=hRw.get (i:=bW x) aE aE;have hx6:(oE[kr]?).getD []=x6:=by
      rw[hkr,aX]at u2;rw[u2];rfl
     have hrn:=SA (k:=kr) (j:=j) ai2 (by rw[WZ];exact g2);rw[hx6]at hrn;have v0:=hS.len;obtain⟨p7,s7,cs7,v1,v2,v3,v4,v5,v6⟩:=hS.get (i:=(j:Int)) (aZ j) (by have:=(bc.1 hrn).1;omega);unfold kb at v6;subst v6;rw[aX,hrn]at v2;injection v2 with v2;subst v2;have zr:(ao #[32]).size=1:=rfl;have m18:=m15.trans (iL.only (iZ.ca kD));have wz:([32]++dL x.op.toNat++[32]:aH).length=(dL x.op.toNat).length+2:=by
      rw[aN,aN];simp only[aW,bd];omega
     have ao6:x.op∉x1.take j:=λhm=>by
      obtain⟨jj,hjj⟩:=gz hm;rw[vL]at hjj;split at hjj
      ·rename_i Xa;have:=(List.getElem?_inj aE hnd).1 (hjj.trans g2.symm);omega
      cases hjj
     rw[aQ ao6]at Ay;refine⟨l6,rfl,kD.same (by
      have:=acD.1.size;have:=m15.1.size;have:=iZ.size;simp;omega),p6,u1,l7,u5,p7,v1,_,v5,aaY,by rw[inz];omega,?_⟩
     rw[blb];refine(zl (Ay.only (iZ.ca kD)) _ aE).mono ?_;rintro _ lc ⟨ao7,rfl,h19,m19⟩;refine⟨rfl,(acD.trans m18).sm o1 o2 dQ m19,ao7,?_,m18.trans m19⟩;rw[aV (by rw[bn,g2];simp)];exact h19
    have he:q≠x.op:=acd
    have:(x.op∈x1.take (j+1))↔(x.op∈x1.take j):=by
     rw[bn,g2,cu];simp;intro e;exact absurd e.symm he
    simp only[this];exact Ay.only lN
   have lR:¬(j:Int)<(l3.n:Int):=aU lR;have:j=x1.length:=aE
   subst this;have PD:x.op∈x1.take x1.length:=by
    rw[bm (aY _)];have:=SB Tc Kg;rw[<-hlx,hkr,aX,WZ]at this;exact this
   rw[aV PD]at Ay;have m21:=(acD.trans m15).trans (iL.only jF);obtain⟨p8,sz,f1,f2,f3,f4⟩:=sub (i:=1) m21 (y:=z) acK;refine⟨λk=>k<b∨k=k0,.inr rfl,p8,f1,.inl f2,_,_,_,_,_,_,f3,p8,f1,_,_,_,_,_,_,f3,(xJ f4).mono ?_⟩;rintro _ qw ⟨rfl,sW⟩;have m22:=m21.trans (iL.only sW);have z21:=m21.1.size;have wz:([32]++dL x.op.toNat++[32]:aH).length<=40:=by
    rw[aN,aN];simp only[aW,bd];omega
   refine⟨_,rfl,sW.same aaf,bR.only sW,(Fs (Au d) (decide (bW z<=bW x)) yT.2 Py (gr f4 sW) hF ((Ay.only jF).only sW) (si _ _ wz hAl (aY _))).mono ?_⟩;rintro _ rB ⟨ao8,rfl,h23,m23⟩;exact⟨rfl,m22.sm o1 o2 dQ m23,m22.kp II o1 o2 dQ m23,ao8,rfl,by rw[hrk];exact h23,(m22.trans m23).after cf⟩
  have k1:x.k≠1:=ac5
  have k2:x.k≠2:=ad2
  have k3:x.k≠3:=ac6
  have k4:x.k≠4:=ac7
  have k5:x.k≠5:=by simpa using k5
  exact absurd (po hh k1 k2 k3 k4).1 k5
theorem Bf.bytes{w:av}{B:Nat}{s:Sl}{l:aH}(h:Bf w B s l):sD w s l:=by
 rcases h with⟨rfl,rfl⟩ | ⟨g,tail,h1,h2,h3,h4,h5,h6,h7,h8⟩
 ·exact⟨rfl,λh=>absurd rfl h⟩
 exact⟨h5,λ_=>⟨⟨g,0,none⟩,h1,h3.cells 0 (l.map gC) λj v hj=>ack⟩⟩
theorem Wf{d:Nat}{w:av}{F:aJ}{x:Ex}{cs:aI}(hx:oM d w F x cs)(hl:∀e,vR e x)(hn:kx d x):
  az aq 120 #[ah cs.toArray] w λe w'=>e=ak (ai #[ab (T (n9 d x)),aj (yI d x)])/\ay [] w w':=by
 obtain⟨xs,rfl⟩:=kJ hx;refine ret (ak8 _ _ _ _ _ _ _ _ ?_);intro k0 w0 fO dQ cf;have hxi:=(eG d).inHeap hx;refine(HW d hl (gr hx cf)).mono ?_;rintro _ w1 ⟨rfl,cn⟩;have z0:=cf.size;have z1:=cn.size;have gn:=cf.ca cn;refine⟨_,rfl,cn.same aaf,λhs=>?_,λhs k1 w2 kU jC cH lS=>?_⟩
 ·have hs:cM d x=false:=ad3
  rw[yI,n9,aQ acV];exact⟨rfl,gn⟩
 have hs:cM d x=true:=ad3
 have z2:=cH.size;have jY:=gn.ca cH;have hPq:Pq w2 k1 Sl.nil []:=⟨lS,.inl ⟨rfl,rfl⟩⟩
 refine(Au d hs hn (gr hxi jY) (λk hk=>ab5) hPq aL).mono ?_;rintro _ w3 ⟨sl3,rfl,hp3,OJ⟩;have z3:=OJ.1.size;have cT:ay [] w w3:=(jY.vV OJ.1).only λk hk=>by
  rcases hk with rfl | e
  ·omega
  cases e
 obtain⟨UF,Nj⟩:=Ow hs hn;have ii:vU d x []≠[]:=by
  intro e;obtain⟨c,t,h1,_⟩:=u7 d false hs hn;have hlw:=JW d (x:=x) [] hs;by_cases fi:(lr d x false).length<=16384
  ·have:=hlw.1 acq;rw[e,h1]at this;simp at this
  have:=hlw.2 acq;rw[e]at this;simp at this
 generalize hG:vU d x []=G at*
 refine⟨rfl,OJ.same aE (λe=>adg) aE,sl3,hp3.blk,G,hp3.buf.bytes,(Wb w3 G).mono ?_⟩;rintro _ w4 ⟨ys,rfl,hY,dw⟩;have z4:=dw.size;obtain⟨d2,hd2⟩:=hY.ex;obtain⟨yl,rfl,_⟩:=hY.cells;have pN:=dw.blk hp3.blk aM;refine⟨_,_,_,_,_,_,_,_,rfl,dw.same aaf,sl3,pN,λk2 k3 w5 oT nC yS vI dY ux=>?_⟩;have z5:=dY.size;have Ck:=(cT.ca dw).ca dY;refine(Jq false d (gr hx Ck) (gr hd2 dY)).mono ?_;rintro _ w6 ⟨rfl,dK⟩;have CT:=Ck.ca dK;have hsz:((ao G.toArray).size:Int)=(G.length:Int):=by
  have:(ao G.toArray).size=G.length:=cq G;rw[this]
 refine⟨_,rfl,dK.same aaf,sl3,dK.blk ux aM,?_⟩;rw[hsz];by_cases hc:16384<G.length∨(fP G).2.1≠0
 ·have hcond:(decide ((G.length:Int)>16384)||((fP G).2.1 !=0))=true:=by
   rcases hc with h | h
   ·rw[bE aE,KM]
   have:((fP G).2.1 !=0)=true:=abb
   rw[this,nE]
  rw[hcond,KM];rw[aV hc]at UF;refine⟨λ_=>?_,λh=>aaQ⟩;rw[yI,UF];exact⟨rfl,CT⟩
 have h1:G.length<=16384:=aE
 have h2:(fP G).2.1=0:=by
  refine bL λh=>hc (.inr h)
 have hpe:=Nj h2 h1;have apa:Sim x (fP G).1:=by
  have:=HI hs hn (by rw[<-hpe];exact h2);rw[<-hpe]at this;exact this.2
 rw[aQ hc]at UF;rw[apa.same d,h2,bA aE];refine⟨λh=>aaQ,λ_=>?_⟩;rw[yI,UF,bE ii];exact⟨rfl,CT⟩
section
variable {w:av} {F:aJ} {x:Ex} {cs:aI}
theorem HY(hx:rE false w F x cs)(hn:NY x)(hs:Ai x<=1759218604441):
  az aq 120 #[ah cs.toArray] w λe w'=>e=ak (ai #[ab (T (uS x)),aj (qs x)])/\ay [] w w':=by
 obtain⟨d,h⟩:=hx;have h:=wj h;refine(Wf h (λe=>Ju e x aE) (hn d)).mono ?_;rintro _ w' ⟨rfl,hO⟩;rw[yI,LQ (Js h)];exact⟨rfl,hO⟩
theorem DH(hx:rE false w F x cs)(hn:NY x)(hs:Ai x<=1759218604441):
  az aq 193 #[ah cs.toArray] w λe w'=>e=ak (aj (qs x))/\ay [] w w':=by
 obtain⟨sl,rfl⟩:=dX hx;refine ret (afI _ _ _ _ _ _ _ _ ?_);intro k0 w0 fO dQ cf;refine(HY ((ic false).keep hx λk _ bT=>cf.block k bT aM) hn hs).mono ?_;rintro _ w1 ⟨rfl,cn⟩;exact⟨_,_,rfl,cn.same aaf,rfl,cf.ca cn⟩
theorem Fu(hx:rE false w F x cs)(hn:NY x)(hs:Ai x<=1759218604441):
  az aq 69 #[ah cs.toArray] w λe w'=>e=ak (ab (T (uS x)))/\ay [] w w':=by
 obtain⟨sl,rfl⟩:=dX hx;refine ret (afP _ _ _ _ _ _ _ _ ?_);intro k0 w0 fO dQ cf;refine(HY ((ic false).keep hx λk _ bT=>cf.block k bT aM) hn hs).mono ?_;rintro _ w1 ⟨rfl,cn⟩;exact⟨_,_,rfl,cn.same aaf,rfl,cf.ca cn⟩
theorem MN(hx:rE false w F x cs):
  az aq 194 #[ah cs.toArray] w λe w'=>e=ak (aj (oa x))/\ay [] w w':=by
 obtain⟨d,hx⟩:=hx;have hx:=wj hx;cases d with
 | zero=>exact hx.elim
 | succ d=>
 obtain⟨sl,rfl,hs⟩:=hx;refine ret (afM _ _ _ _ _ _ _ _ ?_);intro k0 w0 fO dQ cf;have hl:=hs.len;have e:((T x.s).toList==((ao #[]).toList))=decide (x.s=[]):=gU x.s [];rw[e,hl];exact⟨rfl,cf⟩
end
theorem _root_.Go.Kt.Cells.part{w:av}{p:Addr}{cs ds:aI}(h:aB w p cs)(n:Nat)(hd:∀j v,ds[j]? =some v->cs[n+j]? =some v):aB w (p.add n) ds:=λj v hv=>by
 rw[oZ];exact h _ v (hd j v hv)
theorem rl{cs:aI}{n i:Nat}{v u:aw}(hi:[u][i]? =some v)(h:cs[n]? =some u):cs[n+i]? =some v:=by
 cases i with
 | zero=>
  rw[cD,bq]at hi;subst hi;exact h
 | succ i=>simp at hi
theorem HZ{k:Int}{n:aH}{xc:aI}{a:Int}{i:Nat}{v:aw}(hi:xc[i]? =some v):(XM k n xc a)[2+i]? =some v:=by
 rw[kf];show(xc++[Value.int U a])[i]? =some v;rw[bQ (bc.1 hi).1];exact hi
abbrev su(w:av)(b:Nat)(n m a:Int):Prop:=aF w b 187 [O U n,O U m,O U a]
theorem only1{b:Nat}{w w':av}(h:ay [] w w'):ay [b] w w':=h.weaken (bs':=[b]) λ_ h=>aaQ
theorem fW{b:Nat}{w w' sR:av}(h:ay [b] w w')(k:ay [b] w' sR):ay [b] w sR:=h.trans k λx hx=>.inl hx
section
variable {w:av} {F:aJ} {b:Nat} {n m a:Int}
theorem yK{l:Sl}{om:List Ac}(hc:su w b n m a)(hl:jH false (mG false) 9 139 w F l om)(hF:∀k,F k->k≠b)(hn:∀y,y∈om->Dm y)(hs:iW om<=8388608)(h0:0<=a)(h1:a<=1152921504606846976):
  az aq 162 #[ae (some ⟨b,0,none⟩),l.v] w λe w'=>e=ak (aj (om.all gF))/\(∃a':Int,su w' b n m a'/\(a<=a'/\a'<=a+om.length)/\(om.all gF=true->a'=a+om.length))/\ay [b] w w':=by
 refine ret (ak7 _ _ _ _ ?_);have FT:=hl.1.len;have FK:=fT om;have kp:∀{u:av},ay [b] w u->aA (mG false) 9 u F l om:=λhO=>SliceF.only (cy false) aL hl.1 hO λk hk _ hm=>hF k hk aa3;refine⟨λkv i u=>∃(j:Nat),i=(j:Int)/\kv+j=om.length/\j<=om.length/\(om.take j).all gF=true/\su u b n m (a+j)/\ay [b] w u,om.length,⟨0,rfl,aE,be _,rfl,aax,Only.refl _ _⟩,?_⟩;rintro kv _ u ⟨j,rfl,tw,hj,fX,hB,hO⟩;refine⟨λld=>?_,λld=>?_⟩;rotate_left
 ·have ld:=aU ld;have kF:j=om.length:=aE
  subst kF;rw[gA]at fX;rw[fX];exact⟨rfl,⟨_,hB,aE,λ_=>rfl⟩,hO⟩
 have ld:=aR ld;have vm:j<om.length:=aE
 obtain⟨y,hy⟩:∃y,om[j]? =some y:=⟨_,bJ vm⟩
 have rD:=bh hy;have Np:=pr rD;unfold Du at Np;have at_:∀{v:av},ay [b] w v->∃ad xs,cR l (j:Int) 9 ad/\aB v (ad.add 0) [O U y.k]/\aB v (ad.add 1) [ab (T y.n)]/\aB v (ad.add 2) (lf y.x.k y.x.n y.x.s y.x.op xs y.x.a)/\rE false v F y.x (lf y.x.k y.x.n y.x.s y.x.op xs y.x.a):=fun{v} hv=>by
  obtain⟨ad,y',cs,q1,q2,q3,q4,q5,q6⟩:=(kp hv).get (aZ j) aE;rw[aX,hy]at q2;injection q2 with q2;subst q2;obtain⟨xc,rfl,M6⟩:=q6;obtain⟨xs,rfl⟩:=dX M6;exact⟨ad,xs,q1,q5.part 0 λi v hi=>rl hi rfl,q5.part 1 λi v hi=>rl hi rfl,q5.part 2 λi v hi=>HZ hi,M6⟩
 refine⟨a+j,Blk.dN hB 2 rfl,b,2,_,_,rfl,hB,aM,λw1 cn qF=>?_⟩;rw[eY aE aE]at qF;have qF:su w1 b n m (a+j+1):=qF;have o1:=fW hO cn;obtain⟨ad,xs,g1,g2,g3,g4,g5⟩:=at_ o1;refine⟨ad,g1,_,g3,(qh w1 y.n aE).mono ?_⟩;rintro _ w2 ⟨rfl,cH⟩;have o2:=fW o1 (only1 cH);have lS:=cH.blk qF aM;obtain⟨KI,xs2,p1,p2,p3,p4,p5⟩:=at_ o2;refine⟨_,rfl,KI,p1,_,_,_,_,_,_,p4,(DH p5 (hn y rD) aE).mono ?_⟩;rintro _ w3 ⟨rfl,cT⟩;have o3:=fW o2 (only1 cT);have sV:=cT.blk lS aM;obtain⟨UE,xs3,q1,q2,q3,q4,q5⟩:=at_ o3;have oh:∀b2,b2=(if y.k=2 then oa y.x else qs y.x)->((((decide (y.k<1))||(decide (y.k>3)))||(!dj y.n))||(!b2))=!gF y:=λb2 e=>by
  rw[e];unfold gF;by_cases h1:y.k<1
  ·rw[bE h1,bA (p:=1<=y.k/\y.k<=3) (λh=>aE)];rfl
  by_cases h2:y.k>3
  ·rw[bE h2,bA (p:=1<=y.k/\y.k<=3) (λh=>aE),nE];rfl
  rw[bA h1,bA h2,bE (p:=1<=y.k/\y.k<=3) aE,rF,rF,bZ,zW]
 refine⟨_,rfl,λb2 w4=>ay [] w3 w4/\b2=(if y.k=2 then oa y.x else qs y.x),?_,UE,q1,_,q2,λhk=>⟨UE,q1,_,_,_,_,_,_,q4,(MN q5).mono ?_⟩,λhk=>⟨Only.refl _ _,by rw[aQ aaU]⟩⟩
 ·rintro b2 w4 ⟨h4,e2⟩;have o4:=fW o3 (only1 h4);have pN:=h4.blk sV aM;obtain⟨ad4,xs4,t1,t2,t3,t4,t5⟩:=at_ o4;refine⟨ad4,t1,y.k,t2,ad4,λ_=>t1,y.k,λ_=>t2,λhh=>?_,λhh=>?_⟩
  ·rw[oh b2 e2,cV]at hh;have:om.all gF=false:=by
    rw[wL];exact⟨y,rD,by rw[hh];simp⟩
   rw[this];exact⟨rfl,⟨_,pN,aE,λh=>aaQ⟩,o4⟩
  rw[oh b2 e2,gx]at hh;refine⟨kv-1,aE,j+1,aaa,aE,aE,?_,by rw[show a+((j+1:Nat):Int)=a+j+1 by omega];exact pN,o4⟩;rw[bn,hy,ja,fX];simp[hh]
 rintro _ w5 ⟨rfl,dY⟩;exact⟨_,rfl,dY,by rw[aV aaU]⟩
end
section
variable {w:av} {F:aJ} {b:Nat} {n m a:Int}
theorem Fv(x:Mv):((((((decide (x.k>=1)&&decide (x.k<=3))&&(if x.k=1 then dj x.ev else decide (x.ev=[])))&&(if x.gd then qs x.g else oa x.g))&&x.acts.all gF)&&((x.wt==0)||((x.k==3)&&(decide (x.wt>0)))))&&x.tg.all dj)=kO x:=by
 unfold kO;rw[bH];simp only[aP,cx,bI,du];constructor
 ·rintro⟨⟨⟨⟨⟨⟨h1,h2⟩,h3⟩,h4⟩,h5⟩,h6⟩,h7⟩;exact⟨⟨⟨⟨⟨⟨h1,h2⟩,h3⟩,h4⟩,h5⟩,h7⟩,h6⟩
 rintro⟨⟨⟨⟨⟨⟨h1,h2⟩,h3⟩,h4⟩,h5⟩,h7⟩,h6⟩;exact⟨⟨⟨⟨⟨⟨h1,h2⟩,h3⟩,h4⟩,h5⟩,h6⟩,h7⟩
theorem Ox{x:Mv}{cs:aI}(hc:su w b n m a)(hx:Af false w F x cs)(hF:∀k,F k->k≠b)(hn:PA x)(hs:EX x<=8388608)(h0:0<=a)(h1:a<=1152921504606846976)(h2:0<=m)(h3:m<=1152921504606846976):
  az aq 163 #[ae (some ⟨b,0,none⟩),ah cs.toArray] w λe w'=>e=ak (aj (kO x))/\(∃m' a':Int,su w' b n m' a'/\(kO x=true->m'=m+1/\a'=a+x.acts.length))/\ay [b] w w':=by
 obtain⟨gc,pO,tg,rfl,hg,Cn,pG⟩:=hx;obtain⟨gs,rfl⟩:=dX hg;unfold EX at hs;have CK:=hc.lt;refine ret (alx _ _ _ _ _ _ _ _ _ _ _ _ _ _ _ _ ?_);intro k0 w0 fO dQ cf;have z0:=cf.size;have zu:=cf.blk hc aM;have kG:∀{u:av},ay [b] w u->rE false u F x.g (lf x.g.k x.g.n x.g.s x.g.op gs x.g.a):=λhO=>(ic false).keep hg λk hk bT=>hO.block k bT (by simpa using hF k hk);have kA:∀{u:av},ay [b] w u->jH false (mG false) 9 139 u F pO x.acts:=λhO=>Cn.keep (cy false) aL λk hk bT=>hO.block k bT (by simpa using hF k hk);have kT:∀{u:av},ay [b] w u->aA kb 1 u F tg x.tg:=λhO=>SliceF.only cX aL pG.1 hO λk hk _ hm=>hF k hk aa3;have sm:∀{u u':av},w0.heap.size<=u.heap.size->ay [b] u u'->bS [k0] u u':=λhz hO=>hO.same aaf;refine⟨m,Blk.dN zu 1 rfl,b,1,_,_,rfl,zu,aM,aE,λw1 cn qF=>?_⟩;have o1:ay [b] w w1:=fW (only1 cf) cn;have z1:=cn.size;rw[eY aE aE]at qF;have qF:su w1 b n (m+1) a:=qF;have e0:((T x.ev).toList==((ao #[]).toList))=decide (x.ev=[]):=gU x.ev [];refine⟨λb0 u=>b0=(if x.k=1 then dj x.ev else decide (x.ev=[]))/\ay [b] w u/\w0.heap.size<=u.heap.size/\su u b n (m+1) a,λb0 w2 ⟨eb,o2,z2,lS⟩=>?_,λhk=>(qh w1 x.ev aE).mono ?_,λhk=>⟨by rw[aQ aaU,e0],o1,aE,qF⟩⟩
 ·refine(MN (kG o2)).mono ?_;rintro _ w3 ⟨rfl,cT⟩;have o3:=fW o2 (only1 cT);have z3:=cT.size;have sV:=cT.blk lS aM;refine⟨_,rfl,sm z2 (only1 cT),λb2 u=>b2=(if x.gd then qs x.g else oa x.g)/\ay [b] w u/\w0.heap.size<=u.heap.size/\su u b n (m+1) a,λb2 w4 ⟨eb2,o4,z4,pN⟩=>?_,λhg=>(DH (kG o3) hn.1 aE).mono ?_,λhg=>⟨by rw[hg];rfl,o3,aE,sV⟩⟩
  ·refine(yK pN (kA o4) hF hn.2 aE h0 h1).mono ?_;rintro _ w5 ⟨rfl,⟨a5,ux,_,ha5⟩,dY⟩;have o5:=fW o4 dY;have z5:=dY.size;have Ia:=(kT o5).len;have htb:=(kT o5).big;have htc:=(kT o5).cap;refine⟨_,rfl,sm z4 dY,λkv i u=>∃j:Nat,i=(j:Int)/\kv+j=x.tg.length/\j<=x.tg.length/\(x.tg.take j).all dj=true/\ay [] w5 u,x.tg.length,⟨0,rfl,aE,be _,rfl,Only.refl _ _⟩,?_⟩;rintro kv _ w6 ⟨j,rfl,tw,hj,fX,dK⟩;have z6:=dK.size;have o6:=fW o5 (only1 dK);refine⟨λld=>?_,λld=>?_⟩
   ·have ld:=aR ld;obtain⟨ad,s,cs,g1,g2,g3,g4,g5,g6⟩:=(kT o6).get (aZ j) aE;rw[aX]at g2;have g6:cs=[ab (T s)]:=g6;subst g6;have vG:=bh g2;have pH:s.length<=FY x.tg:=by
     have:=E1 vG;omega
    refine⟨ad,g1,_,g5,(qh w6 s aE).mono ?_⟩;rintro _ w7 ⟨rfl,fK⟩;refine⟨_,rfl,sm aE (only1 fK),λhh=>?_,λhh=>⟨kv-1,aE,j+1,aaa,aE,aE,?_,dK.ca fK⟩⟩
    ·have hh:dj s=false:=adq
     have:kO x=false:=by
      rw[<-Fv,show x.tg.all dj=false by rw[wL];exact⟨s,vG,by rw[hh];simp⟩,fI]
     rw[this];exact⟨rfl,⟨_,_,(dK.ca fK).blk ux aM,λh=>aaQ⟩,fW o6 (only1 fK)⟩
    have hh:dj s=true:=adq
    rw[bn,g2,ja,fX];simp[hh]
   have ld:=aU ld;have kF:j=x.tg.length:=aE
   subst kF;rw[gA]at fX;have em:((((((decide (x.k>=1))&&(decide (x.k<=3)))&&b0)&&b2)&&x.acts.all gF)&&((x.wt==0)||((x.k==3)&&(decide (x.wt>0)))))=kO x:=by
    rw[<-Fv,fX,eb,eb2,da]
   rw[em];refine⟨rfl,⟨_,_,dK.blk ux aM,λhm=>⟨rfl,ha5 ?_⟩⟩,o6⟩;rw[<-Fv]at hm;simp only[aP]at hm;exact hm.1.1.2
  rintro _ w8 ⟨rfl,fj⟩;have z8:=fj.size;exact⟨_,rfl,sm aE (only1 fj),by rw[hg];rfl,fW o3 (only1 fj),aE,fj.blk sV aM⟩
 rintro _ w9 ⟨rfl,fG⟩;have z9:=fG.size;exact⟨_,rfl,sm aE (only1 fG),by rw[aV aaU],fW o1 (only1 fG),aE,fG.blk qF aM⟩
end
end Go.Proofs.YtmgndgpgngcgpaaGreatDoor.Con
