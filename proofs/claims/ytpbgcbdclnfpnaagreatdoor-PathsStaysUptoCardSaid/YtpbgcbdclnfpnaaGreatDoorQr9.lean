import Derived.Test.YtpbgcbdclnfpnaaGreatDoorQr8
set_option linter.unusedSectionVars false
set_option linter.unusedSimpArgs false
set_option linter.unusedVariables false
set_option maxHeartbeats 4000000
set_option maxRecDepth 100000
open Go.Value renaming int->O,string->ah,pointer->ai,agg->aj,tuple->ak,bool->ao
open Go.IntKind renaming i64->ae,wrap->av
open Go.Ending renaming returned->aq
open _root_.ByteArray renaming mk->ar
open _root_.Go.Proofs.Tryz renaming prog->au
open Go.Instr renaming buildSlice->aw
open Go renaming World->ay,Value->az,Calls->aB
open Go.Kt renaming Only->aA,SliceF->aD,Cells->aE,OnlyP->aF,Blk->aH
namespace Go.Proofs.YtpbgcbdclnfpnaaGreatDoor.Con
open Go Go.RowKit Go.Kt Go.Kt.V Go.Proofs.YtpbgcbdclnfpnaaGreatDoor.Vc Go.ChangeShapes Go.WideShapes
theorem Je{D E:Type}{B:D->Nat}{sz:E->Nat}{Q:Nat->E->Prop}:∀(xs:List D) (o:Nat),(∀j y,xs[j]? =some y->∃e,Q (o+j) e/\sz e<=B y)->
  ∃l:List E,l.length=xs.length/\(∀j e,l[j]? =some e->Q (o+j) e)/\(l.map sz).sum<=(xs.map B).sum
 | [],o,_=>⟨[],rfl,λj p h=>abk,ba _⟩
 | x::xs,o,h=>by
  obtain⟨e,h1,h2⟩:=h 0 x rfl;obtain⟨l,h3,h4,h5⟩:=Je (B:=B) (sz:=sz) (Q:=Q) xs (o+1) λj y hj=>by
   have:=h (j+1) y hj;rwa[eU,jp 1 j]
  refine⟨e::l,by rw[bp,bp,h3],λj p hj=>?_,?_⟩
  ·cases j with
   | zero=>
    simp only[cO,bc]at hj;subst hj;exact h1
   | succ j=>
    have:=h4 j p hj;rwa[eU,jp 1 j]at this
  rw[bG,cD,bG,cD];exact lw h2 h5
theorem A5{n:Nat}:∀{l:List Nat},n∈l->n<=l.sum
 | [],h=>abk
 | x::l,h=>by
  rw[cD];rcases aR.1 h with rfl | h
  ·omega
  have:=A5 h;omega
theorem Jf{E:Type}(f:E->Nat):∀(l:List E),∃m,∀p,p∈l->f p<=m
 | []=>⟨0,λp h=>abk⟩
 | x::l=>by
  obtain⟨m,h⟩:=Jf f l;refine⟨max (f x) m,λp hp=>?_⟩;rcases aR.1 hp with rfl | hp
  ·exact T4 _ _
  exact bf (h p hp) (OX _ _)
theorem Mb{α β:Type}{r:Rp α}{q:Rp β}{size:Nat}{w:ay}{F:aL}{s:Sl}{xs:List α}(f:α->β)(h:aD r size w F s xs)(hf:∀x cs,x∈xs->r w F x cs->q w F (f x) cs):aD q size w F s (xs.map f):=by
 refine⟨by rw[bA];exact h.len,h.cap,h.nil0,h.big,λj y hj=>?_⟩;rw[bW,gj]at hj;obtain⟨x,hx,rfl⟩:=hj;obtain⟨bs,cs,g1,g2,g3,g4,g5⟩:=h.at_ j x hx;exact⟨bs,cs,g1,g2,g3,g4,hf x cs (bD hx) g5⟩
theorem CL{α:Type}{r:Rp α}{size:Nat}{w:ay}{F:aL}{s:Sl}{xs:List α}(h:aD r size w F s xs){x:α}(hx:x∈xs):∃cs,r w F x cs:=h.mem hx
def rXU:Rp (Ex×Nat):=λw F x cs=>rE false w F x.1 cs/\Z8 x.1/\Ef x.1<=x.2
def VV:Rp (Ac×Nat):=λw F x cs=>uq false w F x.1 cs/\XW x.1/\RF x.1<=x.2
def aaC:Rp (Mv×Nat):=λw F x cs=>Ll false w F x.1 cs/\mvN x.1/\NW x.1<=x.2
def amE:Rp (Vr×Nat):=λw F x cs=>T9 w F x.1 cs/\InI x.1.v/\x.1.n.length+1<=x.2
theorem Mc:∀l:List Ex,Ua l=(l.map Ef).sum
 | []=>rfl
 | x::l=>by rw[Ua,bG,cD,Mc l]
theorem He:∀l:List Ac,kg l=(l.map RF).sum
 | []=>rfl
 | x::l=>by rw[kg,bG,cD,He l]
theorem Hf:∀l:List Mv,AZ l=(l.map NW).sum
 | []=>rfl
 | x::l=>by rw[AZ,bG,cD,Hf l]
theorem Hg:∀l:List Vr,rM l=(l.map λv=>v.n.length+1).sum
 | []=>rfl
 | x::l=>by rw[rM,bG,cD,Hg l]
theorem Hh:∀l:List Nd,iU l=(l.map pD).sum
 | []=>by rw[iU];rfl
 | x::l=>by rw[iU,bG,cD,Hh l]
theorem zi{α:Type}{f:α->Nat}:∀{l:List (α×Nat)},(∀x,x∈l->f x.1<=x.2)->((l.map (·.1)).map f).sum<=(l.map λx=>x.2).sum
 | [],_=>ba _
 | x::l,h=>by
  rw[bG,bG,cD,bG,cD];exact lw (h x aaa) (zi λy hy=>h y (by simp[hy]))
theorem bsz(s:aM):s.data.toList.length=s.size:=by rw[fk];rfl
section
variable {H:Type} {enc:TypeId×az->H} {W:ay} {base:Nat} {spare:Nat->Bool} {held:Bool} {B:DataW H->Nat}
def R4(enc:TypeId×az->H)(W:ay)(base:Nat)(spare:Nat->Bool)(held:Bool)(t:TypeId):Rp (DataW H):=λ_ _ x cs=>∃fy p,DataW.trod enc au W base spare held fy t cs=some (x,p)/\∀n,n∈x.weights au t->n<=reachBytes
theorem Hi(hB:IsBulk B)(t:TypeId):iM B enc au W base spare held t (R4 enc W base spare held t) B:=λfy cs x h hw=>⟨x.1,⟨fy,x.2,h,hw⟩,ba _⟩
theorem NZ(hB:IsBulk B):iM B enc au W base spare held 131 (rPair rInt (rPair rInt (rPair R2 (rPair rInt (rPair (rSl (R4 enc W base spare held 131) 6 72) (rPair rInt rUnit))))))
  λx=>(1+(1+((x.2.2.1.size+1)+(1+(((x.2.2.2.2.1.map B).sum+1)+(1+0))))))+1:=by
 have h:=opensB_struct (enc:=enc) (P:=au) (W:=W) (base:=base) (spare:=spare) (held:=held) (T:=6) hB Tryz.underlying131 (by kernel_rfl)
  (foB_cons (s:=1) rfl (by kernel_rfl) (opensB_of hB (opens_int Tryz.underlying3)) (foB_cons (s:=1) rfl (by kernel_rfl) (opensB_of hB (opens_int Tryz.underlying3)) (foB_cons (s:=1) rfl (by kernel_rfl) (jI hB Tryz.underlying9) (foB_cons (s:=1) rfl (by kernel_rfl) (opensB_of hB (opens_int Tryz.underlying3)) (foB_cons (s:=1) rfl (by kernel_rfl) (opensB_slice (size:=6) (bytes:=72) hB Tryz.underlying129 (by kernel_rfl) (by kernel_rfl) (Hi hB _)) (foB_cons (s:=1) rfl (by kernel_rfl) (opensB_of hB (opens_int Tryz.underlying3)) (foB_nil rfl)))))))
 exact h
theorem R5(hB:IsBulk B):∀(N:Nat) {x:DataW H} {cs:aK} {F:aL},B x<=N->R4 enc W base spare held 131 W F x cs->∃(e:Ex) (d:Nat),Lk false d W (λ_=>True) e cs/\Z8 e/\Ef e<=B x
 | 0,x,cs,F,h,_=>by have:=hB.one x;omega
 | N+1,x,cs,F,h,⟨fy,p,ht,hw⟩=>by
  obtain⟨⟨k,n,s,op,xs,a,u⟩,hr,hm⟩:=NZ (enc:=enc) (W:=W) (base:=base) (spare:=spare) (held:=held) hB fy cs (x,p) ht hw;obtain⟨c1,r1,rfl,⟨rfl,i1⟩,c2,r2,rfl,⟨rfl,i2⟩,c3,r3,rfl,⟨rfl,i3⟩,c4,r4,rfl,⟨rfl,i4⟩,c5,r5,rfl,⟨sl,rfl,rV,_⟩,c6,r6,rfl,⟨rfl,i6⟩,hu⟩:=hr;have hu:r6=[]:=hu;subst hu;dsimp only at hm rV i1 i2 i3;have JX:∀y,y∈xs->B y<=(xs.map B).sum:=λy hy=>A5 (List.mem_map_of_mem hy);obtain⟨l,l1,l2,l3⟩:=Je (B:=B) (sz:=λe:Ex×Nat=>Ef e.1) (Q:=λj e=>∃base cs,sl.a=some base/\cs.length=6/\aE W (base.add (j*6)) cs/\Lk false e.2 W (λ_=>True) e.1 cs/\Z8 e.1) xs 0 λj y hj=>by
   rw[bM];obtain⟨bs,ds,g1,g2,g3,g4,g5⟩:=rV.at_ j y hj;obtain⟨e,d,t1,t2,t3⟩:=R5 hB N (x:=y) (by have:=JX y (bD hj);omega) g5;exact⟨(e,d),⟨bs,ds,g1,g3,g4,t1,t2⟩,t3⟩
  obtain⟨m,hmx⟩:=Jf (λe:Ex×Nat=>e.2) l;refine⟨.mk k n s.data.toList op (l.map (·.1)) a,m+1,⟨sl,?_,?_,λh=>aaH⟩,λd=>?_,?_⟩
  ·have e:sM k n s.data.toList op sl a=[O ae k,O ae n,ah s,O ae op,sl.v,O ae a]:=by
    show[_,_,Value.string (T s.data.toList),_,_,_]=_;rw[<-zL s]
   exact e.symm
  ·refine⟨by rw[Ex.fZ,bA,l1];exact rV.len,rV.cap,rV.nil0,rV.big,λj e hj=>?_⟩;rw[Ex.fZ,bW,gj]at hj;obtain⟨q,q1,rfl⟩:=hj;obtain⟨bs,ds,g1,g2,g3,g4,g5⟩:=l2 j q q1;rw[bM]at g3;exact⟨bs,ds,g1,trivial,g2,g3,IY (hmx q (bD q1)) g4⟩
  ·cases d with
   | zero=>trivial
   | succ d=>
    refine⟨i2,λy hy=>?_⟩;obtain⟨q,q1,rfl⟩:=cP.1 hy;obtain⟨j,hj⟩:=eY q1;obtain⟨bs,ds,g1,g2,g3,g4,g5⟩:=l2 j q hj;exact g5 d
  rw[I0];show Ua (l.map (·.1))+(s.data.toList.length+1)<=_;rw[Mc,iA,bsz];have e:(l.map (Ef∘λx=>x.1)).sum=(l.map λe:Ex×Nat=>Ef e.1).sum:=rfl;omega
theorem CM(hB:IsBulk B):iM B enc au W base spare held 131 rXU λx=>x.2:=λfy cs x h hw=>by
 obtain⟨e,d,h1,h2,h3⟩:=R5 hB (B x.1) (x:=x.1) (F:=λ_=>True) (ba _) ⟨fy,x.2,h,hw⟩;exact⟨(e,B x.1),⟨⟨d,h1⟩,h2,h3⟩,ba _⟩
theorem xq(hB:IsBulk B):iM B enc au W base spare held 211 VV λx=>x.2:=by
 have h:=opensB_struct (enc:=enc) (P:=au) (W:=W) (base:=base) (spare:=spare) (held:=held) (T:=9) hB Tryz.underlying211 (by kernel_rfl)
  (foB_cons (s:=1) rfl (by kernel_rfl) (opensB_of hB (opens_int Tryz.underlying3)) (foB_cons (s:=1) rfl (by kernel_rfl) (jI hB Tryz.underlying9) (foB_cons (s:=6) rfl (by kernel_rfl) (CM hB) (foB_cons (s:=1) rfl (by kernel_rfl) (opensB_of hB (opens_int Tryz.underlying3)) (foB_nil rfl)))))
 refine h.map (λx=>((⟨x.1,x.2.1.data.toList,x.2.2.1.1,x.2.2.2.1⟩:Ac),x.2.2.1.2+(x.2.1.size+1))) ?_;rintro⟨k,n,⟨e,m⟩,a,u⟩ cs ⟨c1,r1,rfl,⟨rfl,i1⟩,c2,r2,rfl,⟨rfl,i2⟩,c3,r3,rfl,⟨he,hn,hz⟩,c4,r4,rfl,⟨rfl,i4⟩,hu⟩;have hu:r4=[]:=hu;subst hu;refine⟨⟨⟨c3,?_,he⟩,hn,?_⟩,abh⟩
 ·show _=_::Value.string (T n.data.toList)::_;rw[<-zL n];simp
 show Ef e+(n.data.toList.length+1)<=_;rw[bsz];dsimp only at hz⊢;omega
theorem Jg{w:ay}{F:aL}{s:Sl}{xs:List (Ac×Nat)}(h:aD VV 9 w F s xs):jR false (uq false) 9 211 w F s (xs.map (·.1))/\(∀a,a∈xs.map (·.1)->XW a)/\kg (xs.map (·.1))<=(xs.map λx=>x.2).sum:=by
 refine⟨⟨Mb (·.1) h λx cs _ hx=>hx.1,λh=>aaH⟩,λa ha=>?_,?_⟩
 ·obtain⟨x,hx,rfl⟩:=cP.1 ha;obtain⟨cs,hc⟩:=CL h hx;exact hc.2.1
 rw[He];exact zi λx hx=>by
  obtain⟨cs,hc⟩:=CL h hx;exact hc.2.2
theorem N0(hB:IsBulk B):iM B enc au W base spare held 134 aaC λx=>x.2:=by
 have h:=opensB_struct (enc:=enc) (P:=au) (W:=W) (base:=base) (spare:=spare) (held:=held) (T:=13) hB Tryz.underlying134 (by kernel_rfl)
  (foB_cons (s:=1) rfl (by kernel_rfl) (opensB_of hB (opens_int Tryz.underlying3)) (foB_cons (s:=1) rfl (by kernel_rfl) (jI hB Tryz.underlying9) (foB_cons (s:=1) rfl (by kernel_rfl) (opensB_of hB (opens_int Tryz.underlying3)) (foB_cons (s:=1) rfl (by kernel_rfl) (opensB_of hB (Jd Tryz.underlying4)) (foB_cons (s:=6) rfl (by kernel_rfl) (CM hB)
  (foB_cons (s:=1) rfl (by kernel_rfl) (opensB_slice (size:=9) (bytes:=104) hB Tryz.underlying23 (by kernel_rfl) (by kernel_rfl) (xq hB)) (foB_cons (s:=1) rfl (by kernel_rfl) (opensB_slice (size:=1) (bytes:=16) hB Tryz.underlying132 (by kernel_rfl) (by kernel_rfl) (jI hB Tryz.underlying9)) (foB_cons (s:=1) rfl (by kernel_rfl) (opensB_of hB (opens_int Tryz.underlying3)) (foB_nil rfl)))))))))
 refine h.map (λx=>((⟨x.1,x.2.1.data.toList,x.2.2.1,x.2.2.2.1,x.2.2.2.2.1.1,x.2.2.2.2.2.1.map (·.1),x.2.2.2.2.2.2.1.map λs=>s.data.toList,x.2.2.2.2.2.2.2.1⟩:Mv),(((x.2.2.2.2.2.1.map λx=>x.2).sum+x.2.2.2.2.1.2)+((x.2.2.2.2.2.2.1.map λs=>s.size+1).sum+(x.2.1.size+1))))) ?_;rintro⟨k,ev,wt,gd,⟨g,m⟩,ac,tg,a,u⟩ cs ⟨c1,r1,rfl,⟨rfl,i1⟩,c2,r2,rfl,⟨rfl,i2⟩,c3,r3,rfl,⟨rfl,i3⟩,c4,r4,rfl,h4,c5,r5,rfl,⟨he,hn,hz⟩,c6,r6,rfl,⟨uh,rfl,M6,_⟩,c7,r7,rfl,⟨tsl,rfl,rS,_⟩,c8,r8,rfl,⟨rfl,i8⟩,hu⟩;have hu:r8=[]:=hu;have h4:c4=[ao gd]:=h4;subst hu h4;obtain⟨a1,a2,a3⟩:=Jg M6;have apo:aD lz 1 W (λ_=>True) tsl (tg.map λs=>s.data.toList):=Mb (λs=>s.data.toList) rS λx cs _ hx=>by
  obtain⟨rfl,_⟩:=hx;show _=[Value.string (T x.data.toList)]
  rw[<-zL x]
 refine⟨⟨⟨c5,uh,tsl,?_,he,a1,⟨apo,λh=>aaH⟩⟩,⟨hn,a2,i3⟩,?_⟩,abh⟩
 ·show _=_::Value.string (T ev.data.toList)::_;rw[<-zL ev];simp
 show(kg (ac.map (·.1))+Ef g)+(G3 (tg.map λs=>s.data.toList)+(ev.data.toList.length+1))<=_;have e:G3 (tg.map λs=>s.data.toList)=(tg.map λs=>s.size+1).sum:=by
  unfold G3;rw[iA];congr 1
 rw[e,bsz];dsimp only at hz a3⊢;omega
theorem aaE{w:ay}{F:aL}{s:Sl}{xs:List (Mv×Nat)}(h:aD aaC 13 w F s xs):jR false (Ll false) 13 134 w F s (xs.map (·.1))/\(∀a,a∈xs.map (·.1)->mvN a)/\AZ (xs.map (·.1))<=(xs.map λx=>x.2).sum:=by
 refine⟨⟨Mb (·.1) h λx cs _ hx=>hx.1,λh=>aaH⟩,λa ha=>?_,?_⟩
 ·obtain⟨x,hx,rfl⟩:=cP.1 ha;obtain⟨cs,hc⟩:=CL h hx;exact hc.2.1
 rw[Hf];exact zi λx hx=>by
  obtain⟨cs,hc⟩:=CL h hx;exact hc.2.2
theorem N1(hB:IsBulk B):iM B enc au W base spare held 119 amE λx=>x.2:=by
 have h:=opensB_struct (enc:=enc) (P:=au) (W:=W) (base:=base) (spare:=spare) (held:=held) (T:=3) hB Tryz.underlying119 (by kernel_rfl)
  (foB_cons (s:=1) rfl (by kernel_rfl) (jI hB Tryz.underlying9) (foB_cons (s:=1) rfl (by kernel_rfl) (opensB_of hB (opens_int Tryz.underlying3)) (foB_cons (s:=1) rfl (by kernel_rfl) (opensB_of hB (opens_int Tryz.underlying3)) (foB_nil rfl))))
 refine h.map (λx=>((⟨x.1.data.toList,x.2.1,x.2.2.1⟩:Vr),x.1.size+1)) ?_;rintro⟨n,v,a,u⟩ cs ⟨c1,r1,rfl,⟨rfl,i1⟩,c2,r2,rfl,⟨rfl,i2⟩,c3,r3,rfl,⟨rfl,i3⟩,hu⟩;have hu:r3=[]:=hu;subst hu;refine⟨⟨?_,i2,?_⟩,abh⟩
 ·show _=[Value.string (T n.data.toList),_,_]
  rw[<-zL n];rfl
 show n.data.toList.length+1<=_;rw[bsz];exact ba _
theorem N2(hB:IsBulk B):iM B enc au W base spare held 27 (rPair rInt (rPair R2 (rPair R2 (rPair R2 (rPair (rSl VV 9 104) (rPair (rSl VV 9 104) (rPair (rSl aaC 13 168) (rPair (rSl (R4 enc W base spare held 27) 9 160) (rPair rInt rUnit)))))))))
  λx=>(1+((x.2.1.size+1)+((x.2.2.1.size+1)+((x.2.2.2.1.size+1)+(((x.2.2.2.2.1.map λx=>x.2).sum+1)+(((x.2.2.2.2.2.1.map λx=>x.2).sum+1)+(((x.2.2.2.2.2.2.1.map λx=>x.2).sum+1)+(((x.2.2.2.2.2.2.2.1.map B).sum+1)+(1+0)))))))))+1:=by
 have h:=opensB_struct (enc:=enc) (P:=au) (W:=W) (base:=base) (spare:=spare) (held:=held) (T:=9) hB Tryz.underlying27 (by kernel_rfl)
  (foB_cons (s:=1) rfl (by kernel_rfl) (opensB_of hB (opens_int Tryz.underlying3)) (foB_cons (s:=1) rfl (by kernel_rfl) (jI hB Tryz.underlying9) (foB_cons (s:=1) rfl (by kernel_rfl) (jI hB Tryz.underlying9) (foB_cons (s:=1) rfl (by kernel_rfl) (jI hB Tryz.underlying9)
  (foB_cons (s:=1) rfl (by kernel_rfl) (opensB_slice (size:=9) (bytes:=104) hB Tryz.underlying23 (by kernel_rfl) (by kernel_rfl) (xq hB)) (foB_cons (s:=1) rfl (by kernel_rfl) (opensB_slice (size:=9) (bytes:=104) hB Tryz.underlying23 (by kernel_rfl) (by kernel_rfl) (xq hB))
  (foB_cons (s:=1) rfl (by kernel_rfl) (opensB_slice (size:=13) (bytes:=168) hB Tryz.underlying24 (by kernel_rfl) (by kernel_rfl) (N0 hB)) (foB_cons (s:=1) rfl (by kernel_rfl) (opensB_slice (size:=9) (bytes:=160) hB Tryz.underlying25 (by kernel_rfl) (by kernel_rfl) (Hi hB _)) (foB_cons (s:=1) rfl (by kernel_rfl) (opensB_of hB (opens_int Tryz.underlying3)) (foB_nil rfl))))))))))
 exact h
theorem Md:∀{l:List Nd},(∀x,x∈l->Lr x)->AP l
 | [],_=>by rw[AP];trivial
 | x::l,h=>by
  rw[AP];exact⟨h x aaa,Md λy hy=>h y (by simp[hy])⟩
theorem R6(hB:IsBulk B):∀(N:Nat) {x:DataW H} {cs:aK} {F:aL},B x<=N->R4 enc W base spare held 27 W F x cs->∃(e:Nd) (d:Nat),pC false d W (λ_=>True) e cs/\Lr e/\pD e<=B x
 | 0,x,cs,F,h,_=>by have:=hB.one x;omega
 | N+1,x,cs,F,h,⟨fy,p,ht,hw⟩=>by
  obtain⟨⟨k,nm,ini,dft,en,lv,mv,xs,a,u⟩,hr,hm⟩:=N2 (enc:=enc) (W:=W) (base:=base) (spare:=spare) (held:=held) hB fy cs (x,p) ht hw;obtain⟨c1,r1,rfl,⟨rfl,i1⟩,c2,r2,rfl,⟨rfl,i2⟩,c3,r3,rfl,⟨rfl,i3⟩,c4,r4,rfl,⟨rfl,i4⟩,c5,r5,rfl,⟨ens,rfl,Fg,_⟩,c6,r6,rfl,⟨Jk,rfl,HV,_⟩,c7,r7,rfl,⟨mvs,rfl,rW,_⟩,c8,r8,rfl,⟨sl,rfl,rV,_⟩,c9,r9,rfl,⟨rfl,i9⟩,hu⟩:=hr;have hu:r9=[]:=hu;subst hu;dsimp only at hm rV Fg HV rW;have JX:∀y,y∈xs->B y<=(xs.map B).sum:=λy hy=>A5 (List.mem_map_of_mem hy);obtain⟨l,l1,l2,l3⟩:=Je (B:=B) (sz:=λe:Nd×Nat=>pD e.1) (Q:=λj e=>∃base cs,sl.a=some base/\cs.length=9/\aE W (base.add (j*9)) cs/\pC false e.2 W (λ_=>True) e.1 cs/\Lr e.1) xs 0 λj y hj=>by
   rw[bM];obtain⟨bs,ds,g1,g2,g3,g4,g5⟩:=rV.at_ j y hj;obtain⟨e,d,t1,t2,t3⟩:=R6 hB N (x:=y) (by have:=JX y (bD hj);omega) g5;exact⟨(e,d),⟨bs,ds,g1,g3,g4,t1,t2⟩,t3⟩
  obtain⟨m,hmx⟩:=Jf (λe:Nd×Nat=>e.2) l;obtain⟨a1,a2,a3⟩:=Jg Fg;obtain⟨b1,b2,b3⟩:=Jg HV;obtain⟨d1,d2,d3⟩:=aaE rW;refine⟨.mk ⟨k,nm.data.toList,ini.data.toList,dft.data.toList,en.map (·.1),lv.map (·.1),mv.map (·.1),a⟩ (l.map (·.1)),m+1,⟨ens,Jk,mvs,sl,?_,⟨a1,b1,d1⟩,?_,λh=>aaH⟩,?_,?_⟩
  ·show _=[_,Value.string (T nm.data.toList),Value.string (T ini.data.toList),Value.string (T dft.data.toList),_,_,_,_,_]
   rw[<-zL nm,<-zL ini,<-zL dft];rfl
  ·refine⟨by rw[Nd.kids,bA,l1];exact rV.len,rV.cap,rV.nil0,rV.big,λj e hj=>?_⟩;rw[Nd.kids,bW,gj]at hj;obtain⟨q,q1,rfl⟩:=hj;obtain⟨bs,ds,g1,g2,g3,g4,g5⟩:=l2 j q q1;rw[bM]at g3;exact⟨bs,ds,g1,trivial,g2,g3,Z7 (hmx q (bD q1)) g4⟩
  ·rw[Lr];refine⟨⟨a2,b2,d2⟩,Md λy hy=>?_⟩;obtain⟨q,q1,rfl⟩:=cP.1 hy;obtain⟨j,hj⟩:=eY q1;obtain⟨bs,ds,g1,g2,g3,g4,g5⟩:=l2 j q hj;exact g5
  rw[pD,Hh,iA];unfold G6;dsimp only;rw[bsz,bsz,bsz];have e:(l.map (pD∘λx=>x.1)).sum=(l.map λe:Nd×Nat=>pD e.1).sum:=rfl;omega
def amF:Rp (Nd×Nat):=λw F x cs=>∃d,pC false d w F x.1 cs/\Lr x.1/\pD x.1<=x.2
theorem N3(hB:IsBulk B):iM B enc au W base spare held 27 amF λx=>x.2:=λfy cs x h hw=>by
 obtain⟨e,d,h1,h2,h3⟩:=R6 hB (B x.1) (x:=x.1) (F:=λ_=>True) (ba _) ⟨fy,x.2,h,hw⟩;exact⟨(e,B x.1),⟨d,h1,h2,h3⟩,ba _⟩
def rChU:Rp (Ch×Nat):=λw F x cs=>∃(D:Nat) (vs:Sl) (cs':aK),cs=vs.v::cs'/\ChR false D w F x.1 vs cs'/\WT x.1/\rM x.1.vars+pD x.1.root<=x.2
theorem opensB_ch(hB:IsBulk B):iM B enc au W base spare held 29 rChU λx=>x.2:=by
 have h:=opensB_struct (enc:=enc) (P:=au) (W:=W) (base:=base) (spare:=spare) (held:=held) (T:=10) hB Tryz.underlying29 (by kernel_rfl)
  (foB_cons (s:=1) rfl (by kernel_rfl) (opensB_slice (size:=3) (bytes:=32) hB Tryz.underlying22 (by kernel_rfl) (by kernel_rfl) (N1 hB)) (foB_cons (s:=9) rfl (by kernel_rfl) (N3 hB) (foB_nil rfl)))
 refine h.map (λx=>((⟨x.1.map (·.1),x.2.1.1⟩:Ch),(x.1.map λx=>x.2).sum+x.2.1.2)) ?_;rintro⟨vs,⟨nd,m⟩,u⟩ cs ⟨c1,r1,rfl,⟨vsl,rfl,yu,_⟩,c2,r2,rfl,⟨d,hnd,hn,hz⟩,hu⟩;have hu:r2=[]:=hu;subst hu;rw[bS];refine⟨⟨d,vsl,c2,rfl,⟨⟨Mb (·.1) yu λx cs _ hx=>hx.1,λh=>aaH⟩,hnd⟩,⟨λv hv=>?_,hn⟩,?_⟩,abh⟩
 ·obtain⟨x,hx,rfl⟩:=cP.1 hv;obtain⟨cs,hc⟩:=CL yu hx;exact hc.2.1
 show rM (vs.map (·.1))+pD nd<=_;rw[Hg];have:=zi (f:=λv:Vr=>v.n.length+1) (l:=vs) λx hx=>by
  obtain⟨cs,hc⟩:=CL yu hx;exact hc.2.2
 dsimp only at hz⊢;omega
end
theorem CN:∀{p:List (aJ×Int)} {l:List (aJ)},yg l p=[]->(p.map λx=>x.1).Nodup/\∀x,x∈p.map (λx=>x.1)->x∉l
 | [],l,_=>⟨List.nodup_nil,λx h=>abk⟩
 | x::p,l,h=>by
  rw[yg]at h;obtain⟨h1,h2⟩:=dU.1 h;have h1:x.1∉l:=by simpa using tK.1 h1
  obtain⟨g1,g2⟩:=CN h2;rw[bG];refine⟨kO.2 ⟨λhm=>g2 _ hm aaa,g1⟩,λy hy=>?_⟩;rcases aR.1 hy with rfl | hy
  ·exact h1
  exact λhm=>g2 y hy (B5 _ hm)
theorem CO:∀{l:List (aJ)} {i:Nat} {s:aJ},l.Nodup->l[i]? =some s->uo s l=i
 | [],i,s,_,h=>abk
 | x::l,0,s,_,h=>by
  rw[cO,bc]at h;rw[uo,aZ h.symm]
 | x::l,i+1,s,hn,h=>by
  rw[dl]at h;have hn:=kO.1 hn;rw[uo,aX (λe=>hn.1 (by rw[<-e];exact bD h)),CO hn.2 h]
theorem Hj{xs:List cR}(hn:(xs.map λx:cR=>x.nm).Nodup){i:Nat}{x:cR}(h:xs[i]? =some x):gw xs x.nm=i:=by
 unfold gw;have:=CO hn (i:=i) (s:=x.nm) (by rw[bW,h];rfl);rw[this,aZ (eT h)]
theorem Me{xs:List cR}:∀{r:List (aJ)} {l:List Int},O6 xs l r=true->∀t,t∈r->1<=gw xs t
 | [],_,_,t,h=>abk
 | s::r,l,h,t,ht=>by
  rw[Hb]at h;by_cases h1:gw xs s<1
  ·rw[aZ h1]at h;cases h
  rw[aX h1]at h;split at h
  ·cases h
  rcases aR.1 ht with rfl | ht
  ·omega
  exact Me h t ht
def vZ(xs L:List cR)(a:Nat):Prop:=∀(i:Nat) (x:cR),L[i]? =some x->xs[a+i]? =some x
theorem vZ.left{xs L M:List cR}{a:Nat}(h:vZ xs (L++M) a):vZ xs L a:=λi x hi=>h i x (by rw[bK (eT hi)];exact hi)
theorem vZ.right{xs L M:List cR}{a:Nat}(h:vZ xs (L++M) a):vZ xs M (a+L.length):=λi x hi=>by
 rw[eU];exact h _ x (by rw[bX aG,ez];exact hi)
theorem Mf{xs:List cR}{s:aJ}{pa dp:Int}:∀{l:List Nd} {a:Nat},GV s l=true->vZ xs (qp a pa dp l) a->∃(i:Nat) (x:cR),xs[i]? =some x/\x.nm=s/\x.pa=pa/\a<=i
 | [],a,h,_=>by simp[GV]at h
 | .mk b ks::l,a,h,hs=>by
  rw[qp]at hs;have hl:=mw a pa dp (.mk b ks);by_cases e:b.nm=s
  ·refine⟨a,⟨b.k,b.nm,pa,dp,_⟩,hs.left 0 _ (by rw[Ei];rfl),e,rfl,ba _⟩
  have h':GV s l=true:=by
   unfold GV at h⊢;rw[List.any_cons]at h;simpa[Nd.b,e]using h
  have hr:=hs.right;rw[hl]at hr;obtain⟨i,x,h1,h2,h3,h4⟩:=Mf h' hr;exact⟨i,x,h1,h2,h3,aG⟩
theorem uQ{c:Ch}(h:(jy c).1=0):(gH c).2=0/\GX c=[]:=by
 unfold jy at h;by_cases hp:(gH c).2≠0
 ·rw[aZ hp]at h;exact absurd h hp
 rw[aX hp]at h;exact⟨Decidable.not_not.1 hp,Rs (Rx c) h⟩
theorem N4{c:Ch}(h:(gH c).2=0):GP c=true:=by
 unfold gH at h;by_cases h1:GP c=true
 ·exact h1
 rw[aX h1]at h;exact absurd h aN
section
variable {w w':ay} {F G:aL} {s:Sl} {xs:List cR}
theorem VW{k0:Nat}(x:cR)(n:aJ)(hB:aH w k0 9 [ah (T n)]):aB au 149 #[aj (spv x).toArray,ai (some ⟨k0,0,none⟩)] w λe w'=>e=aq (ao (decide (x.nm=n)))/\aA [] w w':=by
 refine ret (alF _ _ _ _ _ _ _ _ ?_);intro k1 w0 hk iy hO;exact⟨_,(hO.blk hB aaa).cells 0 [_] λj v hj=>adl,by rw[mE],hO⟩
theorem Jh{n:aJ}{j:Nat}{x:cR}(hj:xs[j]? =some x)(h:∀y,y∈xs.take j->y.nm≠n)(e:x.nm=n):gw xs n=j:=by
 unfold gw;have hl:=eT hj;have:uo n (xs.map λx:cR=>x.nm)=j:=by
  have e1:xs.map (λx:cR=>x.nm)=(xs.take j).map (λx:cR=>x.nm)++n::(xs.drop (j+1)).map λx:cR=>x.nm:=by
   rw[<-e,<-bG,<-dc];congr 1;rw[<-(be.1 hj).2,List.getElem_cons_drop,du]
  rw[e1,Eo]
  ·rw[bA,cK];omega
  intro hm;obtain⟨y,hy,e'⟩:=cP.1 hm;exact h y hy e'
 rw[this,aZ hl]
theorem aaF(h:aD nP 5 w F s xs)(n:aJ):aB au 101 #[s.v,ah (T n)] w λe w'=>e=aq (O ae (gw xs n))/\aA [] w w':=by
 refine ret (alE _ _ _ _ ?_);intro k0 w0 hY fA cQ rQ;have hl:=h.len;have PB:=h.cap;have yK:=h.big;refine(afD s ⟨.func (.func 149) #[] #[ai (some ⟨k0,0,none⟩)],rfl⟩ (λv w'=>v=O ae (gw xs n)/\aA [] w0 w') w0 ?_).mono (by
  rintro _ w' ⟨v,rfl,rfl,hO⟩;exact⟨_,rfl,_,hO.blk rQ aaa,rfl,cQ.cy hO⟩)
 refine⟨λkv i u=>∃j:Nat,i=(j:Int)/\kv+j=xs.length/\j<=xs.length/\(∀y,y∈xs.take j->y.nm≠n)/\aA [] w0 u,xs.length,⟨0,rfl,aG,bB _,aaa,Only.refl _ _⟩,?_⟩;rintro kv _ u ⟨j,rfl,tX,hj,hh,hO⟩;refine⟨λhc=>?_,λhc=>?_⟩
 ·have hc:=aP hc;obtain⟨x,hx⟩:=fQ (xs:=xs) (i:=j) aG;obtain⟨ad,a1,a2,_⟩:=j5 (SliceF.only dh aN h (cQ.cy hO) aaa) hx;refine⟨ad,a1,_,_,_,_,_,a2,149,[],[ai (some ⟨k0,0,none⟩)],rfl,fC (by kernel_rfl),(VW x n (hO.blk rQ aaa)).mono ?_⟩;rintro _ u1 ⟨rfl,cJ⟩;refine⟨_,rfl,λhb=>⟨?_,hO.cy cJ⟩,λhb=>⟨kv-1,aG,j+1,aaq,aG,aG,λy hy=>?_,hO.cy cJ⟩⟩
  ·rw[Jh hx hh (aP hb)]
  rw[bF,hx,ci]at hy;rcases hy with hy | hy
  ·exact hh y hy
  simp only[Option.toList,aO]at hy;subst hy;exact aY hb
 have hc:=aY hc;rw[bq aG]at hh;refine⟨?_,hO⟩;rcases mN xs n with⟨e,_⟩ | ⟨i,x,_,hx,e⟩
 ·rw[e]
 exact absurd e (hh x (bD hx))
end
end Go.Proofs.YtpbgcbdclnfpnaaGreatDoor.Con
namespace Go.Proofs.YtpbgcbdclnfpnaaGreatDoor.Con
open Go Go.RowKit Go.Kt Go.Kt.V Go.Proofs.YtpbgcbdclnfpnaaGreatDoor.Vc
def mA(xs:List cR)(s:aJ):Int:=if s=[]then -1 else gw xs s
def R7(xs:List cR)(l:List Int):Nat->Int
 | 0=> -1
 | n+1=>if(l.all λk=>oE xs n k)=true then n else R7 xs l n
def aaG(xs:List cR)(n:Int):Bool:=decide (0<=n)&&decide (n<xs.length)
theorem A6{xs:List cR}{n:Int}:aaG xs n=true↔pf xs n:=by
 unfold aaG pf;rw[aU,bJ,bJ]
def mtM(xs:List cR)(l:List Int):Int:=if l=[]∨(l.any λn=>!aaG xs n)=true then -1 else R7 xs l xs.length
theorem wa(xs:List cR)(l:List Int):∀n:Nat,(R7 xs l n= -1/\∀m,m<n->(l.all λk=>oE xs m k)=false)∨∃m:Nat,R7 xs l n=m/\m<n/\(l.all λk=>oE xs m k)=true/\∀j,m<j->j<n->(l.all λk=>oE xs j k)=false
 | 0=>.inl ⟨rfl,λm h=>aG⟩
 | n+1=>by
  unfold R7;by_cases h:(l.all λk=>oE xs n k)=true
  ·rw[aZ h];exact .inr ⟨n,rfl,aG,h,λj h1 h2=>aG⟩
  rw[aX h];have h:(l.all λk=>oE xs n k)=false:=abi
  rcases wa xs l n with⟨h1,h2⟩ | ⟨m,h1,h2,h3,h4⟩
  ·exact .inl ⟨h1,λm hm=>(Nat.lt_succ_iff_lt_or_eq.1 hm).elim (h2 m) λe=>by rw[e];exact h⟩
  exact .inr ⟨m,h1,aG,h3,λj h5 h6=>(Nat.lt_succ_iff_lt_or_eq.1 h6).elim (h4 j h5) λe=>by rw[e];exact h⟩
theorem wb{xs:List cR}{l:List Int}{m:Nat}:(l.all λk=>oE xs m k)=true↔∀n:Int,n∈l->∃k:Nat,n=k/\jv xs m k:=by
 rw[dY];constructor
 ·intro h n hn;obtain⟨i,j,h1,h2,h3⟩:=ol.1 (h n hn);have:i=m:=aG
  subst this;exact⟨j,h2,h3⟩
 intro h n hn;obtain⟨k,h1,h2⟩:=h n hn;exact ol.2 ⟨m,k,rfl,h1,h2⟩
theorem Fo.agp{xs:List cR}(F:Fo xs){l:List Int}{r:Int}(h:Mt xs l r):r=mtM xs l:=by
 unfold mtM;rcases h with⟨h1,h2⟩ | ⟨⟨h1,h2⟩,m,h3,h4,h5⟩
 ·rw[aZ,h2];rcases h1 with h1 | ⟨n,hn,hb⟩
  ·exact .inl h1
  refine .inr (fF.2 ⟨n,hn,?_⟩);rw[dj,ft];exact λh=>hb (A6.1 h)
 rw[aX]
 ·obtain⟨n,hn⟩:=gD l h1;obtain⟨k,_,hk⟩:=h4 n hn;have hm:m<xs.length:=by
   obtain⟨s,hs,_⟩:=hk;exact eT hs
  rcases wa xs l xs.length with⟨_,g⟩ | ⟨q,g1,g2,g3,g4⟩
  ·have:=g m hm;rw[wb.2 h4]at this;cases this
  have hq:=h5 q (wb.1 g3);have:m<=q:=by
   refine qL λhl=>?_;have:=g4 m hl hm;rw[wb.2 h4]at this;cases this
  rw[g1,h3];omega
 rintro(h | h)
 ·exact h1 h
 obtain⟨n,hn,hb⟩:=fF.1 h;rw[A6.2 (h2 n hn)]at hb;cases hb
def Ji(xs:List cR)(l:List Int):Nat->Int->Int
 | 0,d=>d
 | n+1,d=>if 0<d/\(li xs d≠1∨d∈l)then Ji xs l n (GQ xs d)else d
def EA(xs:List cR)(src:Int)(tg:List Int):Int:=if tg=[]then -1 else Ji xs (src::tg) xs.length (mtM xs (src::tg))
structure Ro where
 src:Int
 slot:Int
 k:Int
 ev:aJ
 wt:Int
 tg:List Int
 dom:Int
def roM(xs:List cR)(a i:Nat)(m:Mv):Ro:=⟨a,i,m.k,m.ev,m.wt,m.tg.map (mA xs),EA xs a (m.tg.map (mA xs))⟩
def Jj(xs:List cR)(a:Nat):Nat->List Mv->List Ro
 | _,[]=>[]
 | i,m::l=>roM xs a i m::Jj xs a (i+1) l
mutual
def O8(xs:List cR):Nat->Nd->List Ro
 | a,.mk b l=>Jj xs a 0 b.mv++rk xs (a+1) l
def rk(xs:List cR):Nat->List Nd->List Ro
 | _,[]=>[]
 | a,x::l=>O8 xs a x++rk xs (a+jd x) l
end
mutual
def sZ:Nd->List Nb
 | .mk b l=>b::A7 l
def A7:List Nd->List Nb
 | []=>[]
 | x::l=>sZ x++A7 l
end
structure Pl where
 sp:List cR
 ini:List Int
 dft:List Int
 ro:List Ro
def dG(c:Ch):Pl:=⟨cH c,(sZ c.root).map λb=>mA (cH c) b.ini,(sZ c.root).map λb=>mA (cH c) b.dft,O8 (cH c) 0 c.root⟩
theorem Mg:∀l m:List Nd,A7 (l++m)=A7 l++A7 m
 | [],m=>by rw[cE,A7,cE]
 | x::l,m=>by rw[cp,A7,A7,Mg l m,bR]
mutual
theorem nQ:∀x,(sZ x).length=jd x
 | .mk b l=>by rw[sZ,jd,bp,zj]
theorem zj:∀l,(A7 l).length=fe l
 | []=>by rw[A7,fe];rfl
 | x::l=>by rw[A7,fe,aW,nQ,zj]
end
theorem Hk(xs:List cR):∀(l m:List Nd) (a:Nat),rk xs a (l++m)=rk xs a l++rk xs (a+fe l) m
 | [],m,a=>by rw[cE,rk,cE,fe,fE]
 | x::l,m,a=>by rw[cp,rk,rk,Hk xs l m,bR,fe,eU]
theorem Hl(xs:List cR)(a:Nat):∀(l:List Mv) (i:Nat) (m:Mv),Jj xs a i (l++[m])=Jj xs a i l++[roM xs a (i+l.length) m]
 | [],i,m=>rfl
 | x::l,i,m=>by
  rw[cp,Jj,Jj,Hl xs a l,cp,bp];congr 4;omega
theorem zl(xs:List cR)(a:Nat):∀(l:List Mv) (i:Nat),(Jj xs a i l).length=l.length
 | [],_=>rfl
 | x::l,i=>by rw[Jj,bp,bp,zl xs a l]
theorem dA.sl{B:Nat}{w:ay}{s:Sl}{xs:List Int}(h:dA B w s xs):aD rInt 1 w (λk=>B<=k) s xs:=(h.slice bN).mono bN λk hk=>hk.elim (λh=>h.elim) λh=>h.1
theorem iu{w:ay}{F:aL}{s:Sl}{l:List Int}(h:aD rInt 1 w F s l){i:Nat}{x:Int}(hx:l[i]? =some x):∃ad,dI s (i:Int) 1 ad/\aE w ad [O ae x]:=by
 have cd:=(be.1 hx).1;have hl:=h.len;obtain⟨ad,y,cs,g1,g2,g3,g4,g5,g6⟩:=h.get (bE i) aG;rw[aV,hx]at g2;injection g2 with g2;subst g2;obtain⟨rfl,_⟩:=g6;exact⟨ad,g1,g5⟩
theorem kI{w w':ay}{F:aL}{s:Sl}{l:List Int}(h:aD rInt 1 w F s l)(hO:aA [] w w'):aD rInt 1 w' F s l:=SliceF.only bN aN h hO aaa
def lq(s:Sl)(k:Nat):Prop:=s.a=some ⟨k,0,none⟩
theorem R8{w:ay}{F:aL}{s:Sl}{l:List Int}(h:aD rInt 1 w F s l)(c:Int):
  aB au 73 #[Sl.v s,O ae c] w λe w'=>∃i:Int,e=aq (O ae i)/\decide (i>=0)=decide (c∈l)/\aA [] w w':=by
 refine(afH s c (λv w'=>∃i:Int,v=O ae i/\decide (i>=0)=decide (c∈l)/\aA [] w w') w ?_).mono (by
  rintro e w' ⟨v,rfl,i,rfl,h⟩;exact⟨i,rfl,h⟩)
 have fl:=h.len;have qF:=h.big;have lC:=h.cap;refine⟨λnv i w'=>∃n:Nat,n<=l.length/\i=(n:Int)/\nv=l.length-n/\(∀x,x∈l.take n->x≠c)/\w'=w,l.length,⟨0,bB _,rfl,rfl,aaa,rfl⟩,?_⟩;rintro nv _ u ⟨n,hn,rfl,rfl,hp,hu⟩;obtain rfl:w=u:=hu.symm;refine⟨λhc=>?_,λhc=>?_⟩
 ·have cd:(n:Int)<s.n:=aP hc;have YY:n<l.length:=aG
  obtain⟨ad,g1,g5⟩:=iu h (aQ YY);refine⟨ad,g1,_,g5,λhe=>⟨_,rfl,?_,Only.refl _ _⟩,λhe=>⟨l.length-(n+1),aG,n+1,aG,aaq,rfl,?_,rfl⟩⟩
  ·have he:c=l[n]:=acN
   rw[bL aG];symm;rw[ch,he];exact eF YY
  have he:c≠l[n]:=acN
  intro y hy;rw[bF,aQ YY]at hy;simp only[nU,ci,aO]at hy;rcases hy with hy | rfl
  ·exact hp y hy
  exact λe=>he e.symm
 have mQ:¬((n:Int)<s.n):=aY hc;rw[bq aG]at hp;refine⟨_,rfl,?_,Only.refl _ _⟩;rw[bH aG];exact(bH λhh=>hp c hh rfl).symm
theorem ta{w:ay}{F:aL}{s:Sl}{l:List Int}(h:aD rInt 1 w F s l)(c:Int):
  aB au 35 #[Sl.v s,O ae c] w λe w'=>e=aq (ao (decide (c∈l)))/\aA [] w w':=by
 refine ret (afG _ _ _ _ ?_);refine(R8 h c).mono ?_;rintro _ w1 ⟨i,rfl,hi,hO⟩;exact⟨i,rfl,by rw[hi],hO⟩
theorem uu(u:ay){a:Int}(ha:InI a):∃y w1,(aw 33 1 #[.mk 0 (O ae a)]).run au u=.ok (Sl.v y) w1/\aA [] u w1/\dA u.heap.size w1 y [a]:=by
 obtain⟨y,w1,k1,k2,k3,_⟩:=kP (P:=au) (t:=33) (e:=3) (i:=Tryz.t3) (z:=O ae 0) (w:=u) (F:=λ_=>False) (vs:=[O ae a]) (parts:=#[.mk 0 (O ae a)]) (len:=1) (xs:=[a]) (r:=rInt) (size:=1) (by kernel_rfl) (by kernel_rfl) rfl rfl aN rfl rfl aN aN bN ⟨⟨rfl,rfl,ha⟩,trivial⟩;exact⟨y,w1,k1,k3,k2⟩
theorem af4{A:Nat}{u:ay}{s y:Sl}{is js:List Int}{G:aL}(h:dA A u s is)(hA:A<=u.heap.size)(hy:aD rInt 1 u G y js)(hG:∀k,G k->¬lq s k)(hm:is.length+js.length<=1000000000):
  ∃s' w2,(Builtin.append_ #[33,33] 33 #[Sl.v s,Sl.v y]).run au u=.ok (Sl.v s') w2/\dA A w2 s' (is++js)/\aF (lq s) u w2/\∀k,lq s' k->lq s k∨u.heap.size<=k:=by
 obtain⟨s',w2,g1,g2,gs,g3,g4,g5⟩:=vg (P:=au) (t:=33) (ty:=33) (e:=3) (i:=Tryz.t3) (bytes:=8) (size:=1) (r:=rInt) (F:=λ_=>True) (y:=y) (ys:=js) (by kernel_rfl) (by kernel_rfl) rfl rfl rfl rfl bN (h.mono bN λk hk=>trivial) (hy.mono bN λk hk=>⟨trivial,hG k hk⟩) hA aG aN;refine⟨s',w2,g1,dA.of g2,g3.p λg hg=>.inl (g4 g hg).1,λk hk=>?_⟩;unfold lq at hk⊢;rcases g5 with e | e
 ·exact .inl ab1
 rw[e]at hk;injection hk with hk;injection hk with hk;exact .inr aG
theorem VX{A:Nat}{u:ay}{s:Sl}{is:List Int}(h:dA A u s is)(hA:A<=u.heap.size){n:Int}(hn:InI n)(hm:is.length<=20000000):
  ∃y w1,(aw 33 1 #[.mk 0 (O ae n)]).run au u=.ok (Sl.v y) w1/\aA [] u w1/\∃s' w2,(Builtin.append_ #[33,33] 33 #[Sl.v s,Sl.v y]).run au w1=.ok (Sl.v s') w2/\dA A w2 s' (is++[n])/\aF (lq s) w1 w2/\∀k,lq s' k->lq s k∨u.heap.size<=k:=by
 obtain⟨y,w1,k1,k3,s',w2,g1,g2,⟨gs,g3,g4⟩,g5⟩:=jr (P:=au) (t:=33) (ty:=33) (e:=3) (i:=Tryz.t3) (bytes:=8) (size:=1) (r:=rInt) (G:=λ_=>False) (v:=O ae n) (x:=n) (by kernel_rfl) (by kernel_rfl) rfl rfl rfl rfl aN aN aN bN h hA rfl ⟨rfl,hn⟩ (λ_ h=>h.elim) aG;refine⟨y,w1,k1,k3,s',w2,g1,dA.of g2,g3.p λg hg=>.inl (g4 g hg).1,λk hk=>?_⟩;unfold lq at hk⊢;rcases g5 with e | ⟨g,e,h⟩
 ·exact .inl ab1
 rw[e]at hk;injection hk with hk;injection hk with hk;exact .inr aG
section
variable {w w':ay} {F G:aL} {s:Sl} {xs:List cR} {b:Nat} {ty:TypeId} {x1 x2 x3:az}
theorem R9(hB:aH w b ty [s.v,x1,x2,x3])(h:aD nP 5 w F s xs)(n:aJ):aB au 62 #[ai (some ⟨b,0,none⟩),ah (T n)] w λe w'=>e=aq (O ae (mA xs n))/\aA [] w w':=by
 refine ret (ama _ _ _ _ ?_);have q0:((T n).toList==(ar #[]).toList)=decide (n=[]):=mE n [];rw[q0];refine⟨λhc=>⟨?_,Only.refl _ _⟩,λhc=>⟨s,Blk.eE hB 0 rfl,(aaF h n).mono ?_⟩⟩
 ·unfold mA;rw[aZ (aP hc)]
 rintro _ w0 ⟨rfl,hO⟩;exact⟨_,rfl,by unfold mA;rw[aX (aY hc)],hO⟩
theorem aaI(xs:List cR)(n:aJ):mA xs n= -1∨∃j:Nat,mA xs n=j/\j<xs.length:=by
 unfold mA;split
 ·exact .inl rfl
 exact A4 xs n
theorem N5(hB:aH w b ty [s.v,x1,x2,x3])(h:aD nP 5 w F s xs)(hF:Fo xs)(JB:xs.length<=1000000){sT:Sl}{tg:List Int}(hT:aD rInt 1 w G sT tg)(hm:tg.length<=20000000){a:Nat}(ha:a<=1000000):
  aB au 63 #[ai (some ⟨b,0,none⟩),O ae (a:Int),sT.v] w λe w'=>e=aq (O ae (EA xs a tg))/\aA [] w w':=by
 refine ret (amb _ _ _ _ _ ?_);have hl:=hT.len;refine⟨λhc=>⟨?_,Only.refl _ _⟩,λhc=>?_⟩
 ·have hc:(sT.n:Int)=0:=aaw
  have:tg=[]:=bQ aG;unfold EA;rw[aZ this]
 have hc:¬(sT.n:Int)=0:=aaw
 have fX:tg≠[]:=λe=>hc (by rw[e]at hl;simp at hl;omega);obtain⟨y,w0,k1,k3,k2⟩:=uu w (a:=(a:Int)) ⟨aG,aG⟩;have z0:=k3.size;have hT0:aD rInt 1 w0 (λk=>G k/\k<w.heap.size) sT tg:=kI (SliceF.inHeap bN hT aN) k3;obtain⟨q,w1,g1,g2,g3,_⟩:=af4 k2 z0 hT0 (λk hk e=>by have:=(k2.blk e).1;dsimp only at this;omega) (by rw[bO];omega);have o1:aA [] w w1:=(k3.oH (g3.mono (G:=λk=>w.heap.size<=k) λk _ e=>by have:=(k2.blk e).1;exact this)).only λk hk=>hk;refine⟨y,w0,k1,q,w1,g1,s,Blk.eE (o1.blk hB aaa) 0 rfl,(RT (SliceF.only dh aN h o1 aaa) hF (g2.slice bN)).mono ?_⟩;rintro _ w2 ⟨⟨r,rfl,hr⟩,dw⟩;have o2:=o1.cy dw;have er:=hF.agp hr;have e1:[(a:Int)]++tg=(a:Int)::tg:=rfl;rw[e1]at er g2;have PE:r<xs.length:=by
  have hl:=hF.ne;rw[er];unfold mtM;split
  ·omega
  rcases wa xs ((a:Int)::tg) xs.length with⟨g,_⟩ | ⟨m,g1,g2,_,_⟩<;>omega
 refine⟨r,rfl,λkv d u=>Ji xs ((a:Int)::tg) kv d=EA xs a tg/\d<xs.length/\d<=kv/\aA [] w u/\aA [] w1 u,xs.length,⟨?_,PE,aG,o2,dw⟩,?_⟩
 ·unfold EA;rw[aX fX,er]
 rintro kv d w3 ⟨hd,yL,hdk,o3,p3⟩;refine⟨λc u=>c=decide (0<d/\(li xs d≠1∨d∈(a:Int)::tg))/\aA [] w u/\aA [] w1 u,?_,λtu=>?_,λtu=>?_⟩
 ·rintro _ w4 ⟨rfl,o4,p4⟩;refine⟨λhb=>?_,λhb=>⟨?_,o4⟩⟩
  ·have hb:=aP hb;obtain⟨i,rfl⟩:∃i:Nat,d=i:=⟨d.toNat,aG⟩
   obtain⟨x,hx⟩:=fQ (xs:=xs) (i:=i) aG;obtain⟨ad,a1,_,a3,_⟩:=j5 (SliceF.only dh aN h o4 aaa) hx;have hp:=hF.C3 hx;obtain⟨n,rfl⟩:∃n,kv=n+1:=⟨kv-1,aG⟩
   refine⟨s,Blk.eE (o4.blk hB aaa) 0 rfl,ad,a1,x.pa,a3,n,aG,?_,aG,aG,o4,p4⟩;rw[Ji,aZ hb,lj hx]at hd;exact hd
  have hb:=aY hb;congr 1;rw[<-hd];cases kv with
  | zero=>rfl
  | succ n=>rw[Ji,aX hb]
 ·have tu:=aP tu;obtain⟨i,rfl⟩:∃i:Nat,d=i:=⟨d.toNat,aG⟩
  obtain⟨x,hx⟩:=fQ (xs:=xs) (i:=i) aG;obtain⟨ad,a1,a2,_⟩:=j5 (SliceF.only dh aN h o3 aaa) hx;refine⟨s,Blk.eE (o3.blk hB aaa) 0 rfl,ad,a1,x.k,a2.eE 0 _ rfl,λhk=>⟨?_,o3,p3⟩,λhk=>(ta (kI (g2.slice bN) p3) _).mono ?_⟩
  ·have hk:x.k≠1:=aa2
   exact(bL ⟨tu,.inl (by rw[fR hx];exact hk)⟩).symm
  have hk:x.k=1:=aa2
  rintro _ w5 ⟨rfl,eK⟩;refine⟨_,rfl,?_,o3.cy eK,p3.cy eK⟩;rw[fS,fR hx];exact⟨λh=>⟨tu,.inr h⟩,λh=>h.2.resolve_left λh'=>h' hk⟩
 have tu:=aY tu;exact⟨(bH λh=>tu h.1).symm,o3,p3⟩
end
def rRo:Rp Ro:=λw F x cs=>∃tg:Sl,cs=[O ae x.src,O ae x.slot,O ae x.k,ah (T x.ev),O ae x.wt,tg.v,O ae x.dom]/\aD rInt 1 w F tg x.tg
theorem iv:rRo.Ok where
 keep:=by
  rintro w w' F x cs ⟨d,h1,h2⟩ hk;exact⟨d,h1,h2.keep bN aN hk⟩
 inHeap:=by
  rintro w F x cs ⟨d,h1,h2⟩;exact⟨d,h1,h2.inHeap bN aN⟩
 mono:=by
  rintro w F G x cs ⟨d,h1,h2⟩ hk;exact⟨d,h1,h2.mono bN hk⟩
 one:=by
  rintro w F x cs ⟨d,rfl,_⟩ v hv;simp only[aR,bn,cm]at hv;rcases hv with rfl | rfl | rfl | rfl | rfl | rfl | rfl<;>rfl
def Q3(a c d:Sl)(k:Nat):Prop:=lq a k∨lq c k∨lq d k
structure Lb (w:ay) (b:Nat) (F:aL) (s si sd sr:Sl) (xs:List cR) (ini dft:List Int) (ro:List Ro):Prop where
 sp:aD nP 5 w F s xs
 hF:∀k,F k->k<w.heap.size/\k≠b/\¬Q3 si sd sr k
 i:dA (b+1) w si ini
 d:dA (b+1) w sd dft
 r:Own rRo 7 54 (b+1) w (λk=>b<k/\¬lq si k/\¬lq sd k) sr ro
 ap:∀k,lq si k->¬lq sd k/\¬lq sr k
 ap2:∀k,lq sd k->¬lq sr k
structure La (w:ay) (b:Nat) (F:aL) (s si sd sr:Sl) (xs:List cR) (ini dft:List Int) (ro:List Ro):Prop extends Lb w b F s si sd sr xs ini dft ro where
 blk:aH w b 66 [s.v,si.v,sd.v,sr.v]
section
variable {w w':ay} {F:aL} {s si sd sr:Sl} {xs:List cR} {b:Nat} {ini dft:List Int} {ro:List Ro}
theorem La.lt(h:La w b F s si sd sr xs ini dft ro):b<w.heap.size:=h.blk.lt
theorem Lb.bi(h:Lb w b F s si sd sr xs ini dft ro):∀k,lq si k->b<k/\k<w.heap.size:=λk e=>by have:=h.i.blk e;dsimp only at this;omega
theorem Lb.bd(h:Lb w b F s si sd sr xs ini dft ro):∀k,lq sd k->b<k/\k<w.heap.size:=λk e=>by have:=h.d.blk e;dsimp only at this;omega
theorem Lb.br(h:Lb w b F s si sd sr xs ini dft ro):∀k,lq sr k->b<k/\k<w.heap.size:=λk e=>by have:=h.r.blk e;dsimp only at this;omega
theorem Lb.o0(h:Lb w b F s si sd sr xs ini dft ro)(hO:aA [] w w'):Lb w' b F s si sd sr xs ini dft ro:=
 ⟨SliceF.only dh aN h.sp hO aaa,λk hk=>⟨cq (h.hF k hk).1 hO.size,(h.hF k hk).2⟩,h.i.keep bN λk _ cd=>hO.block k cd aaa,h.d.keep bN λk _ cd=>hO.block k cd aaa,h.r.keep iv λk _ cd=>hO.block k cd aaa,h.ap,h.ap2⟩
theorem La.o0(h:La w b F s si sd sr xs ini dft ro)(hO:aA [] w w'):La w' b F s si sd sr xs ini dft ro:=⟨h.toLb.o0 hO,hO.blk h.blk aaa⟩
theorem Lb.aa3(h:Lb w b F s si sd sr xs ini dft ro){n:Int}(hn:InI n)(cd:b<w.heap.size)(hm:ini.length<=20000000):
  ∃y w1,(aw 33 1 #[.mk 0 (O ae n)]).run au w=.ok (Sl.v y) w1/\aA [] w w1/\∃s' w2,(Builtin.append_ #[33,33] 33 #[Sl.v si,Sl.v y]).run au w1=.ok (Sl.v s') w2/\aF (lq si) w1 w2/\(∀k,lq s' k->lq si k∨w.heap.size<=k)/\
   ∀w3,aA [b] w2 w3->Lb w3 b F s s' sd sr xs (ini++[n]) dft ro:=by
 obtain⟨y,w1,k1,k3,s',w2,g1,g2,g3,g4⟩:=VX h.i aG hn hm;have z1:=k3.size;have z2:=g3.size;refine⟨y,w1,k1,k3,s',w2,g1,g3,g4,λw3 hO=>?_⟩;have hk:∀k,k<w.heap.size->k≠b->¬lq si k->w3.heap[k]? =w.heap[k]? :=λk h1 h2 h3=>by
  rw[hO.block k aG acD,g3.block k aG h3,k3.block k h1 aaa]
 refine⟨h.sp.keep dh aN λk uD hl=>hk k hl (h.hF k uD).2.1 λe=>(h.hF k uD).2.2 (.inl e),λk uD=>⟨acs,(h.hF k uD).2.1,λhq=>hq.elim (λe=>(g4 k e).elim (λe=>(h.hF k uD).2.2 (.inl e)) λe=>adm) λe=>(h.hF k uD).2.2 (.inr e)⟩,g2.keep bN λk iy hl=>hO.block k hl (by have:=iy.resolve_left id;simp;omega),h.d.keep bN λk iy hl=>?_,((h.r.inHeap iv).keep iv λk iy hl=>?_).mono iv λk iy=>⟨iy.1.1,λe=>?_,iy.1.2.2⟩,λk e=>?_,h.ap2⟩
 ·have:=iy.resolve_left id;exact hk k hl aG λe=>(h.ap k e).1 this.2
 ·rcases iy with iy | iy
  ·exact hk k hl (by have:=iy.1.1;omega) iy.1.2.1
  exact hk k hl aG λe=>(h.ap k e).2 iy.2
 ·rcases g4 k e with e | e
  ·exact iy.1.2.1 e
  have:=iy.2;omega
 rcases g4 k e with e | e
 ·exact h.ap k e
 exact⟨λe'=>by have:=h.bd k e';omega,λe'=>by have:=h.br k e';omega⟩
theorem La.aa3(h:La w b F s si sd sr xs ini dft ro){n:Int}(hn:InI n)(hm:ini.length<=20000000):
  ∃y w1,(aw 33 1 #[.mk 0 (O ae n)]).run au w=.ok (Sl.v y) w1/\aA [] w w1/\∃s' w2,(Builtin.append_ #[33,33] 33 #[Sl.v si,Sl.v y]).run au w1=.ok (Sl.v s') w2/\aF (lq si) w1 w2/\(∀k,lq s' k->lq si k∨w.heap.size<=k)/\aH w2 b 66 [s.v,si.v,sd.v,sr.v]/\
   ∀w3,aA [b] w2 w3->aH w3 b 66 [s.v,s'.v,sd.v,sr.v]->La w3 b F s s' sd sr xs (ini++[n]) dft ro:=by
 obtain⟨y,w1,k1,k3,s',w2,g1,g3,g4,h'⟩:=h.toLb.aa3 hn h.lt hm;exact⟨y,w1,k1,k3,s',w2,g1,g3,g4,g3.blk (k3.blk h.blk aaa) λe=>by have:=h.bi b e;omega,λw3 hO hB=>⟨h' w3 hO,hB⟩⟩
theorem Lb.aa4(h:Lb w b F s si sd sr xs ini dft ro){n:Int}(hn:InI n)(cd:b<w.heap.size)(hm:dft.length<=20000000):
  ∃y w1,(aw 33 1 #[.mk 0 (O ae n)]).run au w=.ok (Sl.v y) w1/\aA [] w w1/\∃s' w2,(Builtin.append_ #[33,33] 33 #[Sl.v sd,Sl.v y]).run au w1=.ok (Sl.v s') w2/\aF (lq sd) w1 w2/\(∀k,lq s' k->lq sd k∨w.heap.size<=k)/\
   ∀w3,aA [b] w2 w3->Lb w3 b F s si s' sr xs ini (dft++[n]) ro:=by
 obtain⟨y,w1,k1,k3,s',w2,g1,g2,g3,g4⟩:=VX h.d aG hn hm;have z1:=k3.size;have z2:=g3.size;refine⟨y,w1,k1,k3,s',w2,g1,g3,g4,λw3 hO=>?_⟩;have hk:∀k,k<w.heap.size->k≠b->¬lq sd k->w3.heap[k]? =w.heap[k]? :=λk h1 h2 h3=>by
  rw[hO.block k aG acD,g3.block k aG h3,k3.block k h1 aaa]
 refine⟨h.sp.keep dh aN λk uD hl=>hk k hl (h.hF k uD).2.1 λe=>(h.hF k uD).2.2 (.inr (.inl e)),λk uD=>⟨acs,(h.hF k uD).2.1,λhq=>hq.elim (λe=>(h.hF k uD).2.2 (.inl e)) λhq=>hq.elim (λe=>(g4 k e).elim (λe=>(h.hF k uD).2.2 (.inr (.inl e))) λe=>adm) λe=>(h.hF k uD).2.2 (.inr (.inr e))⟩,h.i.keep bN λk iy hl=>?_,g2.keep bN λk iy hl=>hO.block k hl (by have:=iy.resolve_left id;simp;omega),((h.r.inHeap iv).keep iv λk iy hl=>?_).mono iv λk iy=>⟨iy.1.1,iy.1.2.1,λe=>?_⟩,λk e=>⟨λe'=>?_,(h.ap k e).2⟩,λk e=>?_⟩
 ·have:=iy.resolve_left id;exact hk k hl aG (h.ap k this.2).1
 ·rcases iy with iy | iy
  ·exact hk k hl (by have:=iy.1.1;omega) iy.1.2.2
  exact hk k hl aG λe=>h.ap2 k e iy.2
 ·rcases g4 k e with e | e
  ·exact iy.1.2.2 e
  have:=iy.2;omega
 ·rcases g4 k e' with e' | e'
  ·exact(h.ap k e).1 e'
  have:=h.bi k e;omega
 rcases g4 k e with e | e
 ·exact h.ap2 k e
 exact λe'=>by have:=h.br k e';omega
theorem La.aa4(h:La w b F s si sd sr xs ini dft ro){n:Int}(hn:InI n)(hm:dft.length<=20000000):
  ∃y w1,(aw 33 1 #[.mk 0 (O ae n)]).run au w=.ok (Sl.v y) w1/\aA [] w w1/\∃s' w2,(Builtin.append_ #[33,33] 33 #[Sl.v sd,Sl.v y]).run au w1=.ok (Sl.v s') w2/\aF (lq sd) w1 w2/\(∀k,lq s' k->lq sd k∨w.heap.size<=k)/\aH w2 b 66 [s.v,si.v,sd.v,sr.v]/\
   ∀w3,aA [b] w2 w3->aH w3 b 66 [s.v,si.v,s'.v,sr.v]->La w3 b F s si s' sr xs ini (dft++[n]) ro:=by
 obtain⟨y,w1,k1,k3,s',w2,g1,g3,g4,h'⟩:=h.toLb.aa4 hn h.lt hm;exact⟨y,w1,k1,k3,s',w2,g1,g3,g4,g3.blk (k3.blk h.blk aaa) λe=>by have:=h.bd b e;omega,λw3 hO hB=>⟨h' w3 hO,hB⟩⟩
theorem Lb.aa5(h:Lb w b F s si sd sr xs ini dft ro){x:Ro}{tg:Sl}{G:aL}(hT:aD rInt 1 w G tg x.tg)(hG:∀k,G k->b<k/\¬lq si k/\¬lq sd k/\¬lq sr k)(cd:b<w.heap.size)(hm:ro.length<=20000000):
  ∃y w1,(aw 34 1 #[.mk 0 (aj #[O ae x.src,O ae x.slot,O ae x.k,ah (T x.ev),O ae x.wt,tg.v,O ae x.dom])]).run au w=.ok (Sl.v y) w1/\aA [] w w1/\∃s' w2,(Builtin.append_ #[34,34] 34 #[Sl.v sr,Sl.v y]).run au w1=.ok (Sl.v s') w2/\aF (lq sr) w1 w2/\(∀k,lq s' k->lq sr k∨w.heap.size<=k)/\
   ∀w3,aA [b] w2 w3->Lb w3 b F s si sd s' xs ini dft (ro++[x]):=by
 obtain⟨y,w1,k1,k3,s',w2,g1,g2,⟨gs,g3',g4'⟩,g5⟩:=jr (P:=au) (t:=34) (ty:=34) (e:=54) (i:=Tryz.t54) (bytes:=80) (size:=7) (r:=rRo) (G:=G) (v:=aj #[O ae x.src,O ae x.slot,O ae x.k,ah (T x.ev),O ae x.wt,tg.v,O ae x.dom]) (x:=x) (by kernel_rfl) (by kernel_rfl) rfl rfl rfl rfl aN aN aN iv h.r aG rfl ⟨tg,rfl,hT⟩ (λk hk _=>by have:=hG k hk;exact⟨⟨this.1,this.2.1,this.2.2.1⟩,this.2.2.2⟩) aG;have g3:aF (lq sr) w1 w2:=g3'.p λg hg=>.inl (g4' g hg).1;have g4:∀k,lq s' k->lq sr k∨w.heap.size<=k:=λk hk=>by
  unfold lq at hk⊢;rcases g5 with e | ⟨g,e,h⟩
  ·exact .inl ab1
  rw[e]at hk;injection hk with hk;injection hk with hk;exact .inr aG
 have z1:=k3.size;have z2:=g3.size;refine⟨y,w1,k1,k3,s',w2,g1,g3,g4,λw3 hO=>?_⟩;have hk:∀k,k<w.heap.size->k≠b->¬lq sr k->w3.heap[k]? =w.heap[k]? :=λk h1 h2 h3=>by
  rw[hO.block k aG acD,g3.block k aG h3,k3.block k h1 aaa]
 refine⟨h.sp.keep dh aN λk uD hl=>hk k hl (h.hF k uD).2.1 λe=>(h.hF k uD).2.2 (.inr (.inr e)),λk uD=>⟨acs,(h.hF k uD).2.1,λhq=>hq.elim (λe=>(h.hF k uD).2.2 (.inl e)) λhq=>hq.elim (λe=>(h.hF k uD).2.2 (.inr (.inl e))) λe=>(g4 k e).elim (λe=>(h.hF k uD).2.2 (.inr (.inr e))) λe=>adm⟩,h.i.keep bN λk iy hl=>?_,h.d.keep bN λk iy hl=>?_,(g2.keep iv λk iy hl=>hO.block k hl ?_).mono iv λk iy=>?_,λk e=>⟨(h.ap k e).1,λe'=>?_⟩,λk e e'=>?_⟩
 ·have:=iy.resolve_left id;exact hk k hl aG (h.ap k this.2).2
 ·have:=iy.resolve_left id;exact hk k hl aG (h.ap2 k this.2)
 ·simp only[aO];rcases iy with(iy | iy) | iy<;>omega
 ·rcases iy with iy | iy
  ·exact iy
  exact⟨aG,λe=>by have:=h.bi k e;omega,λe=>by have:=h.bd k e;omega⟩
 ·rcases g4 k e' with e' | e'
  ·exact(h.ap k e).2 e'
  have:=h.bi k e;omega
 rcases g4 k e' with e' | e'
 ·exact h.ap2 k e e'
 have:=h.bd k e;omega
theorem La.aa5(h:La w b F s si sd sr xs ini dft ro){x:Ro}{tg:Sl}{G:aL}(hT:aD rInt 1 w G tg x.tg)(hG:∀k,G k->b<k/\¬lq si k/\¬lq sd k/\¬lq sr k)(hm:ro.length<=20000000):
  ∃y w1,(aw 34 1 #[.mk 0 (aj #[O ae x.src,O ae x.slot,O ae x.k,ah (T x.ev),O ae x.wt,tg.v,O ae x.dom])]).run au w=.ok (Sl.v y) w1/\aA [] w w1/\∃s' w2,(Builtin.append_ #[34,34] 34 #[Sl.v sr,Sl.v y]).run au w1=.ok (Sl.v s') w2/\aF (lq sr) w1 w2/\(∀k,lq s' k->lq sr k∨w.heap.size<=k)/\aH w2 b 66 [s.v,si.v,sd.v,sr.v]/\
   ∀w3,aA [b] w2 w3->aH w3 b 66 [s.v,si.v,sd.v,s'.v]->La w3 b F s si sd s' xs ini dft (ro++[x]):=by
 obtain⟨y,w1,k1,k3,s',w2,g1,g3,g4,h'⟩:=h.toLb.aa5 hT hG h.lt hm;exact⟨y,w1,k1,k3,s',w2,g1,g3,g4,g3.blk (k3.blk h.blk aaa) λe=>by have:=h.br b e;omega,λw3 hO hB=>⟨h' w3 hO,hB⟩⟩
end
section
def yI(b:Nat)(Q:aL)(w:ay)(Q':aL)(w':ay):Prop:=aF (λk=>k=b∨Q k) w w'/\∀k,Q' k->Q k∨w.heap.size<=k
theorem yI.refl(b:Nat)(Q:aL)(w:ay):yI b Q w Q w:=⟨OnlyP.refl _ _,λ_ h=>.inl h⟩
theorem yI.trans{b:Nat}{Q R S:aL}{u v w:ay}(h:yI b Q u R v)(g:yI b R v S w):yI b Q u S w:=by
 refine⟨h.1.trans g.1 λk hk=>?_,λk hk=>?_⟩
 ·rcases hk with hk | hk
  ·exact .inl (.inl hk)
  exact(h.2 k hk).elim (λh=>.inl (.inr h)) .inr
 rcases g.2 k hk with hk | hk
 ·exact h.2 k hk
 exact .inr (bf h.1.size hk)
theorem yI.cy{b:Nat}{Q R:aL}{u v w:ay}(h:yI b Q u R v)(hO:aA [] v w):yI b Q u R w:=⟨h.1.cy hO,h.2⟩
theorem yI.of0{b:Nat}{Q R:aL}{u v w:ay}(hO:aA [] u v)(h:yI b Q v R w):yI b Q u R w:=⟨hO.oH h.1,λk hk=>(h.2 k hk).imp id λh=>bf hO.size h⟩
theorem CP{y:Nd}:∀{l:List Nd} {j:Nat},l[j]? =some y->iU (l.take j)+pD y<=iU l
 | [],j,h=>abk
 | x::l,0,h=>by
  rw[cO,bc]at h;subst h;rw[da,iU,iU];omega
 | x::l,j+1,h=>by
  rw[dl]at h;have:=CP h;rw[eB,iU,iU];omega
mutual
theorem aaK(xs:List cR):∀(x:Nd) (a:Nat),(O8 xs a x).length<=pD x
 | .mk b l,a=>by
  have:=EB xs l (a+1);have:=oq b.mv;rw[O8,aW,zl,pD];unfold G6;omega
theorem EB(xs:List cR):∀(l:List Nd) (a:Nat),(rk xs a l).length<=iU l
 | [],a=>by rw[rk];exact bB _
 | x::l,a=>by
  have:=aaK xs x a;have:=EB xs l (a+jd x);rw[rk,aW,iU];omega
end
section
variable {b:Nat} {F:aL} {s:Sl} {xs:List cR}
theorem La.q3{w:ay}{si sd sr:Sl}{ini dft:List Int}{ro:List Ro}(h:La w b F s si sd sr xs ini dft ro):∀k,Q3 si sd sr k->b<k/\k<w.heap.size:=λk hk=>hk.elim (h.bi k) λhk=>hk.elim (h.bd k) (h.br k)
theorem Yb(hFo:Fo xs)(JB:xs.length<=64):∀(D:Nat) {w:ay} {G:aL} {x:Nd} {cs:aK} {si sd sr:Sl} {ini dft:List Int} {ro:List Ro},pC false D w G x cs->(∀k,G k->k<b)->La w b F s si sd sr xs ini dft ro->
  pD x<=8388608->ini.length+jd x<=1000000->dft.length=ini.length->ro.length+pD x<=16777216->
  aB au 22 #[ai (some ⟨b,0,none⟩),aj cs.toArray] w λe w'=>e=aq (ak #[])/\∃si' ru sr',La w' b F s si' ru sr' xs (ini++(sZ x).map λc=>mA xs c.ini) (dft++(sZ x).map λc=>mA xs c.dft) (ro++O8 xs ini.length x)/\yI b (Q3 si sd sr) w (Q3 si' ru sr') w'
 | 0,_,_,_,_,_,_,_,_,_,_,h,_,_,_,_,_,_=>h.elim
 | D+1,w,G,.mk bb ks,cs,si,sd,sr,ini,dft,ro,⟨en,lv,mv,kids,oI,⟨_,_,rW⟩,hY⟩,hG,hL,hz,hn,yL,hro=>by
  have hk:=hY.1;have rW:=rW.1;clear hY;dsimp only[Nd.kids,Nd.b]at hk oI rW;subst oI;rw[jd]at hn;rw[pD]at hz hro;have Px:=hk.len;have Dc:=rW.len;have hnn:=sS ks;have BU:=oq bb.mv;have awQ:AZ bb.mv<=G6 bb:=by unfold G6;omega
  refine ret (alS _ _ _ _ _ _ _ _ _ _ _ _ ?_);intro k0 w0 hY fA cQ;have z0:=cQ.size;have C8:=hL.lt;have hq:=hL.q3;have Um:=hL.o0 cQ;have inA:∀n,InI (mA xs n):=λn=>by
   rcases aaI xs n with h | ⟨j,h,hj⟩
   ·rw[h];exact⟨aN,aN⟩
   rw[h];exact⟨aG,aG⟩
  have Uh:si.n=ini.length:=hL.i.len;have sw:∀{Q':aL} {u v:ay} {bs:List Nat} {P:aL},yI b (Q3 si sd sr) w0 Q' u->aF P u v->(∀k,P k->k=b∨Q' k)->(∀k,k∈bs->k<w0.heap.size/\w.heap.size<=k)->cj bs u v:=fun{Q' u v bs P} m hO hP hb=>hO.same λx hx=>by
   have hx:=hb x hx;refine⟨by have:=m.1.size;omega,λhh=>?_⟩;rcases hP x hh with rfl | hh
   ·omega
   rcases m.2 x hh with hh | hh
   ·have:=hq x hh;omega
   omega
  refine⟨si,Blk.eE Um.blk 1 rfl,λw1 cJ=>⟨λk=>k=b,rfl,si,Blk.eE (cJ.blk Um.blk aaa) 1 rfl,?_⟩⟩;have hL1:=Um.o0 cJ;have z1:=cJ.size;have m1:yI b (Q3 si sd sr) w0 (Q3 si sd sr) w1:=(yI.refl _ _ _).cy cJ;refine(R9 hL1.blk hL1.sp bb.ini).mono ?_;rintro _ w2 ⟨rfl,dw⟩;have hL2:=hL1.o0 dw;have m2:=m1.cy dw;obtain⟨y,w3,p1,p2,s1,w4,p3,p4,p5,p6,p7⟩:=hL2.aa3 (inA bb.ini) aG;have z2:=dw.size;have z3:=p2.size;have z4:=p4.size;refine⟨_,rfl,dw.same aab,bP.only dw,y,w3,p1,p2.same aab,bP.only p2,s1,w4,p3,sw (m2.cy p2) p4 (λk hk=>.inr (.inl hk)) aab,λk hk cd=>?_,b,1,_,_,rfl,p6,cG rfl,aG,λw5 eK xL w6 eI=>?_⟩
  ·subst hk;exact p4.block _ cd λe=>by have:=hL.bi _ e;omega
  have Y1:=p7 w5 eK xL;have z5:=eK.size;have m5:yI b (Q3 si sd sr) w0 (Q3 s1 sd sr) w5:=by
   refine m2.trans ⟨(p2.oH (p4.mono (G:=λk=>k=b∨Q3 si sd sr k) λk _ hk=>.inr (.inl hk))).trans (eK.p (F:=λk=>k=b) aaa) λk hk=>.inl (.inl hk),λk hk=>?_⟩;rcases hk with hk | hk
   ·exact(p5 k hk).imp .inl λh=>aG
   exact .inl (.inr hk)
  have OM:=Y1.o0 eI;have z6:=eI.size;have m6:=m5.cy eI;refine⟨λk=>k=b,rfl,sd,Blk.eE OM.blk 2 rfl,(R9 OM.blk OM.sp bb.dft).mono ?_⟩;rintro _ w7 ⟨rfl,fL⟩;have Fh:=OM.o0 fL;have m7:=m6.cy fL;obtain⟨y8,w8,r1,r2,s2,w9,r3,r4,r5,r6,r7⟩:=Fh.aa4 (inA bb.dft) aG;have z7:=fL.size;have z8:=r2.size;have z9:=r4.size;refine⟨_,rfl,fL.same aab,bP.only fL,y8,w8,r1,r2.same aab,bP.only r2,s2,w9,r3,sw (m7.cy r2) r4 (λk hk=>.inr (.inr (.inl hk))) aab,λk hk cd=>?_,b,2,_,_,rfl,r6,cG rfl,aG,λdR eO uf=>?_⟩
  ·subst hk;exact r4.block _ cd λe=>by have:=Fh.bd _ e;omega
  have acK:=r7 dR eO uf;have Pu:=eO.size;have m10:yI b (Q3 si sd sr) w0 (Q3 s1 s2 sr) dR:=by
   refine m7.trans ⟨(r2.oH (r4.mono (G:=λk=>k=b∨Q3 s1 sd sr k) λk _ hk=>.inr (.inr (.inl hk)))).trans (eO.p (F:=λk=>k=b) aaa) λk hk=>.inl (.inl hk),λk hk=>?_⟩;rcases hk with hk | hk | hk
   ·exact .inl (.inl hk)
   ·exact(r5 k hk).imp (λh=>.inr (.inl h)) λh=>aG
   exact .inl (.inr (.inr hk))
  have hq0:∀{Q':aL} {u:ay},yI b (Q3 si sd sr) w0 Q' u->¬Q' k0:=λm e=>by
   rcases m.2 k0 e with h | h
   ·have:=hq k0 h;omega
   omega
  have iy:∀{u:ay} {Q':aL},yI b (Q3 si sd sr) w0 Q' u->aD (pC false D) 9 u G kids ks:=λm=>SliceF.nH (cX false D) aN hk (cQ.oH m.1) λk hGk _=>by
   have:=hG k hGk;exact λh=>h.elim aG λh=>by have:=hq k h;omega
  have yw:∀{u:ay} {Q':aL},yI b (Q3 si sd sr) w0 Q' u->aD (Ll false) 13 u G mv bb.mv:=λm=>SliceF.nH (mT false) aN rW (cQ.oH m.1) λk hGk _=>by
   have:=hG k hGk;exact λh=>h.elim aG λh=>by have:=hq k h;omega
  refine⟨λkv i u=>∃(j:Nat) (q:Sl),i=(j:Int)/\kv+j=bb.mv.length/\j<=bb.mv.length/\La u b F s s1 s2 q xs (ini++[mA xs bb.ini]) (dft++[mA xs bb.dft]) (ro++Jj xs ini.length 0 (bb.mv.take j))/\yI b (Q3 si sd sr) w0 (Q3 s1 s2 q) u,bb.mv.length,⟨0,sr,rfl,aG,bB _,by rw[da,Jj,bS];exact acK,m10⟩,?_⟩;rintro kv _ dS ⟨j,q,rfl,tX,hj,yR,m11⟩;have Fa:=m11.1.size;refine⟨λhc=>?_,λhc=>?_⟩
  ·have hc:=aP hc;obtain⟨ad,m,ds,a1,a2,a3,a4,a5,a6⟩:=(yw m11).get (bE j) aG;rw[aV]at a2;obtain⟨gc,uh,tg,rfl,hgx,M6,rS⟩:=a6;obtain⟨sl,rfl⟩:=jc hgx;have rS:=rS.1;have tT:=rS.len;have hmz:NW m<=AZ bb.mv:=vS (bD a2);have htz:=Et m.tg;unfold NW at hmz;refine⟨ad,a1,_,_,_,_,_,_,_,_,sl,_,uh,tg,_,a5,λk9 pL fp hk9 aig awS ain fu=>?_⟩;have z12:=fu.size;refine⟨λHW i a2' sl2 k2 ev wt l dm u=>∃t:Nat,i=(t:Int)/\a2'=(ini.length:Int)/\sl2=(j:Int)/\k2=m.k/\ev=T m.ev/\wt=m.wt/\dm=0/\HW+t=m.tg.length/\t<=m.tg.length/\dA fp.heap.size u l ((m.tg.take t).map (mA xs))/\aA [] dS u/\fp.heap.size<=u.heap.size,m.tg.length,⟨0,rfl,by rw[Uh],rfl,rfl,rfl,rfl,rfl,aG,bB _,Own.nil _ _ _ _ _ _,fu,ba _⟩,?_⟩;rintro HW _ _ _ _ _ _ l _ fD ⟨t,rfl,rfl,rfl,rfl,rfl,rfl,rfl,aio,ht,hT,eL,WO⟩;have mQ:∀k,lq l k->fp.heap.size<=k:=λk e=>(hT.blk e).1;have JZ:=yR.o0 eL;have htn:((m.tg.take t).map (mA xs)).length=t:=by rw[bA,cK];omega
   refine⟨λnZ=>?_,λnZ=>?_⟩
   ·have nZ:=aP nZ;obtain⟨tV,x2,cs2,b1,b2,b3,b4,b5,b6⟩:=(SliceF.only dH aN rS eL aaa).get (bE t) aG;rw[aV]at b2;unfold lz at b6;subst b6;refine⟨tV,b1,_,b5,λfP eH=>⟨λk=>k<fp.heap.size,ain,?_⟩⟩;have z14:=eH.size;have aip:=JZ.o0 eH;refine(R9 aip.blk aip.sp x2).mono ?_;rintro _ iP ⟨rfl,iX⟩;have z15:=iX.size;have apu:dA fp.heap.size iP l _:=(hT.keep bN λk _ cd=>eH.block k cd aaa).keep bN λk _ cd=>iX.block k cd aaa;obtain⟨y2,jl,c1,c2,l2,gN,c3,c4,c5,c6⟩:=VX apu aG (inA x2) (by rw[htn];omega);have z16:=c2.size;have z17:=c5.size;have o17:aA [] dS gN:=((((eL.cy eH).cy iX).cy c2).oH (c5.mono (G:=λk=>dS.heap.size<=k) λk _ e=>by have:=mQ k e;omega)).only λk hk=>hk;refine⟨_,rfl,iX.same aab,bP.only iX,y2,jl,c1,c2.same aab,bP.only c2,l2,gN,c3,c5.same λx hx=>?_,λk hk _=>c5.block k aG λe=>(by have:=mQ k e;omega),λjL kT=>⟨HW-1,aG,t+1,aaq,rfl,rfl,rfl,rfl,rfl,rfl,aG,aG,?_,o17.trans kT λx hx=>.inr aaD,by have:=kT.size;omega⟩⟩
    ·simp only[aR,bn,cm]at hx;rcases hx with rfl | rfl | rfl
     ·exact⟨aG,λe=>by have:=mQ _ e;omega⟩
     ·exact⟨aG,λe=>by have:=mQ _ e;omega⟩
     exact⟨aG,λe=>by have:=mQ _ e;omega⟩
    rw[bF,b2,dc];exact c4.keep bN λk hk cd=>kT.block k cd (by have:=hk.resolve_left id;simp;omega)
   have nZ:=aY nZ;have hte:t=m.tg.length:=aG
   subst hte;rw[bq (ba _)]at hT htn;rw[Uh];refine(N5 JZ.blk JZ.sp hFo aG (hT.slice bN) (by rw[htn];omega) (a:=ini.length) aG).mono ?_;rintro _ jU ⟨rfl,jD⟩;have z19:=jD.size;refine⟨_,rfl,jD.same aab,λjm kU=>⟨λk=>k=b,rfl,?_⟩⟩;have z20:=kU.size;have o20:aA [] dS jm:=(eL.cy jD).trans kU λx hx=>.inr aaD;have aiq:=yR.o0 o20;have apv:dA fp.heap.size jm l _:=(hT.keep bN λk _ cd=>jD.block k cd aaa).keep bN λk hk cd=>kU.block k cd (by have:=hk.resolve_left id;simp;omega);obtain⟨y3,lm,d1,d2,q',oA,d3,d4,d5,d6,d7⟩:=aiq.aa5 (x:=roM xs ini.length j m) (apv.slice bN) (λk hk=>by
    have hk:=hk.resolve_left id;exact⟨aG,λe=>by have:=yR.bi k e;omega,λe=>by have:=yR.bd k e;omega,λe=>by have:=yR.br k e;omega⟩) (by rw[aW,zl,cK];omega)
   have z21:=d2.size;have z22:=d4.size;refine⟨q,Blk.eE aiq.blk 3 rfl,y3,lm,d1,d2.same aab,bP.only d2,q',oA,d3,d4.same λx hx=>?_,λk hk cd=>?_,b,3,_,_,rfl,d6,cG rfl,aG,aG,aG,λoB kl apw=>⟨kv-1,aG,j+1,q',aaq,aG,aG,?_,?_⟩⟩
   ·simp only[aR,bn,cm]at hx;rcases hx with rfl | rfl | rfl
    ·exact⟨aG,λe=>hq0 m11 (.inr (.inr e))⟩
    ·exact⟨aG,λe=>adA⟩
    exact⟨aG,λe=>adA⟩
   ·subst hk;exact d4.block _ cd λe=>adA
   ·have e:bb.mv.take (j+1)=bb.mv.take j++[m]:=adR
    have hl:(bb.mv.take j).length=j:=adp
    rw[e,Hl,hl,bM,<-bR];exact d7 oB kl apw
   refine(m11.cy o20).trans ⟨(d2.oH (d4.mono (G:=λk=>k=b∨Q3 s1 s2 q k) λk _ hk=>.inr (.inr (.inr hk)))).trans (kl.p (F:=λk=>k=b) aaa) λk hk=>.inl (.inl hk),λk hk=>?_⟩;rcases hk with hk | hk | hk
   ·exact .inl (.inl hk)
   ·exact .inl (.inr (.inl hk))
   exact(d5 k hk).imp (λh=>.inr (.inr h)) λh=>aG
  have hc:=aY hc;have qJ:j=bb.mv.length:=aG
  subst qJ;rw[bq (ba _)]at yR;clear tX;refine⟨λkv i u=>∃(j:Nat) (qi qd qr:Sl),i=(j:Int)/\kv+j=ks.length/\j<=ks.length/\La u b F s qi qd qr xs (ini++(mA xs bb.ini::(A7 (ks.take j)).map λc=>mA xs c.ini)) (dft++(mA xs bb.dft::(A7 (ks.take j)).map λc=>mA xs c.dft)) (ro++(Jj xs ini.length 0 bb.mv++rk xs (ini.length+1) (ks.take j)))/\yI b (Q3 si sd sr) w0 (Q3 qi qd qr) u,ks.length,⟨0,s1,s2,q,rfl,aG,bB _,by rw[da,A7,rk,bS];exact yR,m11⟩,?_⟩;rintro kv _ nT ⟨j,qi,qd,qr,rfl,tX,hj,W8,m24⟩;have z24:=m24.1.size;refine⟨λnZ=>?_,λnZ=>?_⟩
  ·have nZ:=aP nZ;obtain⟨ad,y,ds,a1,a2,a3,a4,a5,a6⟩:=(iy m24).get (bE j) aG;rw[aV]at a2;have W5:=a6;obtain⟨D',rfl⟩:∃D',D=D'+1:=by
    cases D with
    | zero=>exact a6.elim
    | succ D'=>exact⟨D',rfl⟩
   obtain⟨yP,yQ,tW,lK,rfl,_⟩:=W5;have kB:=qs a2;have hyz:pD y<=iU ks:=qu (bD a2);have hzt:=CP a2;refine⟨ad,a1,_,_,_,_,yP,yQ,tW,lK,_,a5,λFB mh awW air qH=>?_⟩;have z25:=qH.size;have ais:=W8.o0 qH;have Ib:(ini++(mA xs bb.ini::(A7 (ks.take j)).map λc=>mA xs c.ini)).length=ini.length+1+fe (ks.take j):=by
    rw[aW,bp,bA,zj];omega
   have apx:(dft++(mA xs bb.dft::(A7 (ks.take j)).map λc=>mA xs c.dft)).length=dft.length+1+fe (ks.take j):=by
    rw[aW,bp,bA,zj];omega
   have PE:(ro++(Jj xs ini.length 0 bb.mv++rk xs (ini.length+1) (ks.take j))).length<=ro.length+(G6 bb+iU (ks.take j)):=by
    have:=EB xs (ks.take j) (ini.length+1);rw[aW,aW,zl];omega
   refine(Yb hFo JB (D'+1) ((cX false (D'+1)).keep a6 λk _ cd=>qH.block k cd aaa) hG ais aG (by rw[Ib];omega) (by rw[Ib,apx];omega) aG).mono ?_;rintro _ pq ⟨rfl,ti,td,tr,acM,m26⟩;have z26:=m26.1.size;have awX:=ais.q3;have apz:=hq0 m24;refine⟨rfl,m26.1.same λx hx=>?_,kv-1,aG,j+1,ti,td,tr,aaq,aG,aG,?_,(m24.cy qH).trans m26⟩
   ·simp only[aR,bn,cm]at hx;rcases hx with rfl | rfl
    ·exact⟨aG,λh=>h.elim aG apz⟩
    exact⟨air,λh=>h.elim aG λh=>by have:=W8.q3 _ h;omega⟩
   have e:ks.take (j+1)=ks.take j++[y]:=adR
   rw[Ib]at acM;rw[e,Mg,A7,A7,bS,Hk,rk,rk,bS,dc,dc,<-bR (Jj xs ini.length 0 bb.mv),<-bR ro];rw[bR,bR,cp,cp]at acM;exact acM
  have nZ:=aY nZ;have qJ:j=ks.length:=aG
  subst qJ;rw[bq (ba _)]at W8;refine⟨rfl,qi,qd,qr,?_,yI.of0 cQ m24⟩;rw[sZ,O8,bG,bG];exact W8
end
structure PlR (w:ay) (F:aL) (s si sd sr:Sl) (p:Pl):Prop where
 sp:aD nP 5 w F s p.sp
 ini:aD rInt 1 w F si p.ini
 dft:aD rInt 1 w F sd p.dft
 ro:aD rRo 7 w F sr p.ro
theorem PlR.o0{w w':ay}{F:aL}{s si sd sr:Sl}{p:Pl}(h:PlR w F s si sd sr p)(hO:aA [] w w'):PlR w' F s si sd sr p:=
 ⟨SliceF.only dh aN h.sp hO aaa,SliceF.only bN aN h.ini hO aaa,SliceF.only bN aN h.dft hO aaa,SliceF.only iv aN h.ro hO aaa⟩
theorem Sa{c:Ch}(h:(jy c).1=0):jy c=(0,0):=by
 obtain⟨h1,h2⟩:=uQ h;unfold jy;rw[aX (λe=>e h1),h2];rfl
theorem Sc{w:ay}{F:aL}{D:Nat}{c:Ch}{vs:Sl}{cs:aK}(hx:ChR false (D+1) w F c vs cs)(hn:WT c)(hs:rM c.vars+pD c.root<=8388608)(hE:Er w)(hT:Tb w):
  aB au 6 #[aj (vs.v::cs).toArray] w λe w'=>(∃s si sd sr:Sl,e=aq (ak #[aj #[s.v,si.v,sd.v,sr.v],aj #[O ae (jy c).1,O ae (jy c).2]])/\((jy c).1=0->PlR w' (λk=>w.heap.size<=k) s si sd sr (dG c)))/\aA [] w w':=by
 obtain⟨en,lv,mv,kids,oI,_⟩:=hx.root;subst oI;refine(alH vs c.root.b.k (T c.root.b.nm) (T c.root.b.ini) (T c.root.b.dft) en lv mv kids c.root.b.a (λv w'=>(∃s si sd sr:Sl,v=ak #[aj #[s.v,si.v,sd.v,sr.v],aj #[O ae (jy c).1,O ae (jy c).2]]/\((jy c).1=0->PlR w' (λk=>w.heap.size<=k) s si sd sr (dG c)))/\aA [] w w') w ?_).mono (by rintro _ w' ⟨v,rfl,⟨s,si,sd,sr,rfl,h⟩,h'⟩;exact⟨⟨s,si,sd,sr,rfl,h⟩,h'⟩);intro k0 k1 k2 w0 hY fA j9 jW uY xM cQ;have z0:=cQ.size;have keep:∀{u:ay},aA [] w u->ChR false (D+1) u F c vs (oC c.root.b.k c.root.b.nm c.root.b.ini c.root.b.dft en lv mv kids c.root.b.a):=λhO=>⟨hx.vars.keep gv aN λk _ cd=>hO.block k cd aaa,(cX false _).keep hx.root λk _ cd=>hO.block k cd aaa⟩
 refine(Hd (keep cQ) hn hs (hE.only cQ) (hT.only cQ)).mono ?_;rintro _ w1 ⟨rfl,cJ⟩;have z1:=cJ.size;have o1:=cQ.cy cJ;refine⟨_,_,rfl,cJ.same aab,λhc k3 w2 zo xN dw n1 n2 n3 n4 n5 n6=>?_,λhc k4 k5 w4 zq BZ Da HU dL=>?_⟩
 ·have hc:(jy c).1≠0:=aaw
  refine⟨λk=>k=k3,rfl,λh=>n5 h,λh=>n6 h,λw3 dE=>⟨⟨Sl.nil,Sl.nil,Sl.nil,Sl.nil,rfl,λh=>absurd h hc⟩,(o1.cy dw).trans dE λx hx=>.inr aaJ⟩⟩
 have hc:(jy c).1=0:=aaw
 have hp:=(uQ hc).1;have hnd:=xn hp;have z4:=dL.size;have o4:=o1.cy dL;refine(RR (keep o4) hn hs (hE.only o4) (hT.only o4)).mono ?_;rintro _ w5 ⟨⟨s,rfl,h1,_⟩,eK⟩;have hS:=h1 hp;have z5:=eK.size;have o5:=o4.cy eK;refine⟨s,_,rfl,eK.same aab,λw6 eI M1 n1 n2 n3 n4=>?_⟩;have z6:=eI.size;have o6:aA [] w w6:=o5.trans eI λx hx=>.inr aaD;have hr6:pC false (D+1) w6 (λk=>k<w.heap.size) c.root (oC c.root.b.k c.root.b.nm c.root.b.ini c.root.b.dft en lv mv kids c.root.b.a):=
  (cX false _).keep ((cX false _).mono ((cX false _).inHeap hx.root) λk hk=>hk.2) λk _ cd=>o6.block k cd aaa
 have wI:aD nP 5 w6 (λk=>w4.heap.size<=k/\k<w5.heap.size) s (cH c):=SliceF.only dh aN ((SliceF.inHeap dh (hS.slice dh) aN).mono dh λk hk=>⟨(hk.1.resolve_left id).1,hk.2⟩) eI λk hk _ hm=>by simp only[aO]at hm;omega
 have noQ:∀k,¬Q3 Sl.nil Sl.nil Sl.nil k:=λk hk=>by rcases hk with hk | hk | hk<;>cases hk
 have hLa:La w6 k5 (λk=>w4.heap.size<=k/\k<w5.heap.size) s Sl.nil Sl.nil Sl.nil (cH c) [] [] []:=⟨⟨wI,λk hk=>⟨aG,aG,noQ k⟩,Own.nil _ _ _ _ _ _,Own.nil _ _ _ _ _ _,Own.nil _ _ _ _ _ _,λk h=>aaH,λk h=>aaH⟩,M1⟩
 have fl:(cH c).length=jd c.root:=by unfold cH;rw[mw]
 refine(Yb (Ek c) aG (D+1) hr6 (λk hk=>aG) hLa aG adF rfl adF).mono ?_;rintro _ w7 ⟨rfl,si,sd,sr,Fh,m7⟩;have z7:=m7.1.size;refine⟨rfl,m7.1.same λx hx=>?_,s,si,sd,sr,Fh.blk,λw8 fV uB=>⟨⟨s,si,sd,sr,by rw[Sa hc],λ_=>?_⟩,?_⟩⟩
 ·simp only[aR,bn,cm]at hx;refine⟨aG,λh=>h.elim aG (noQ x)⟩
 ·have kp:∀k,k<w7.heap.size->k∉[k2,k1]->w8.heap[k]? =w7.heap[k]? :=λk h1 h2=>fV.block k h1 h2;simp only[cE]at Fh;rw[show([]:List Int).length=0 from rfl]at Fh;refine⟨(Fh.sp.keep dh aN λk hk cd=>kp k cd aab).mono dh λk hk=>aG,((Fh.i.slice bN).keep bN aN λk hk cd=>kp k cd ?_).mono bN λk hk=>?_,((Fh.d.slice bN).keep bN aN λk hk cd=>kp k cd ?_).mono bN λk hk=>?_,((Fh.r.slice iv).keep iv aN λk hk cd=>kp k cd ?_).mono iv λk hk=>?_⟩
  ·have:=hk.resolve_left id;simp;omega
  ·have:=hk.resolve_left id;omega
  ·have:=hk.resolve_left id;simp;omega
  ·have:=hk.resolve_left id;omega
  ·rcases hk with hk | hk
   ·have:=hk.1;simp;omega
   simp;omega
  rcases hk with hk | hk
  ·have:=hk.1;omega
  omega
 refine((o6.oH (m7.1.mono (G:=λk=>w.heap.size<=k) λk _ hk=>hk.elim aG λh=>absurd h (noQ k))).only λk hk=>hk).trans fV λx hx=>.inr aaJ
end
def kd(xs:List cR)(i:Int):Int:=((xs[i.toNat]?).map λs:cR=>s.k).getD 0
theorem ki{xs:List cR}{i:Nat}{s:cR}(h:xs[i]? =some s):kd xs (i:Int)=s.k:=by
 unfold kd;rw[aV,h];rfl
def wF(k:Int):Bool:=(k==1)||(k==2)
def cV(xs:List cR)(n:Nat):List Int:=(eX xs n xs.length).filter λk=>wF (kd xs k)
structure Sd (xs:List cR):Prop where
 fo:Fo xs
 le:xs.length<=64
 kn:∀(i:Nat) (s:cR),xs[i]? =some s->1<=s.k/\s.k<=4
 rt:∃s,xs[0]? =some s/\s.k=1
 pr:∀(i:Nat) (s:cR),xs[i]? =some s->s.k=2->cV xs i≠[]
theorem qw{xs:List cR}{i n:Nat}{k:Int}:k∈eX xs i n↔∃(q:Nat) (t:cR),k=q/\q<n/\xs[q]? =some t/\t.pa=i:=by
 unfold eX;rw[cP];constructor
 ·rintro⟨q,hq,rfl⟩;rw[dv,lr]at hq;have:=aP hq.2;cases hx:xs[q]? with
  | none=>rw[hx]at this;cases this
  | some t=>
   rw[hx]at this;injection this with this;exact⟨q,t,rfl,hq.1,hx,this⟩
 rintro⟨q,t,rfl,h1,h2,h3⟩;exact⟨q,by rw[dv,lr];exact⟨h1,bL (by rw[h2];exact bh some h3)⟩,rfl⟩
theorem gx{xs:List cR}{i:Nat}{k:Int}:k∈cV xs i↔∃(q:Nat) (t:cR),k=q/\xs[q]? =some t/\t.pa=i/\wF t.k=true:=by
 unfold cV;rw[dv,qw];constructor
 ·rintro⟨⟨q,t,rfl,_,h2,h3⟩,h4⟩;rw[ki h2]at h4;exact⟨q,t,rfl,h2,h3,h4⟩
 rintro⟨q,t,rfl,h2,h3,h4⟩;exact⟨⟨q,t,rfl,eT h2,h2,h3⟩,by rw[ki h2];exact h4⟩
theorem nW(xs:List cR)(i:Nat):(cV xs i).Pairwise (· <·):=(yf xs i xs.length).1.filter _
theorem wc(xs:List cR)(i:Nat):(cV xs i).length<=xs.length:=by
 unfold cV;refine bf (cY _ _) ?_;unfold eX;rw[bA];exact bf (cY _ _) ac4
theorem we:∀{l m:List Int},l.Pairwise (· <·)->m.Pairwise (· <·)->(∀x,x∈l↔x∈m)->l=m
 | [],[],_,_,_=>rfl
 | [],y::m,_,_,h=>absurd ((h y).2 (.head _)) aaa
 | x::l,[],_,_,h=>absurd ((h x).1 (.head _)) aaa
 | x::l,y::m,hl,hm,h=>by
  rw[dM]at hl hm;have hxy:x=y:=by
   have h1:=(h x).1 (.head _);have h2:=(h y).2 (.head _);rw[aR]at h1 h2;rcases h1 with h1 | h1
   ·exact h1
   rcases h2 with h2 | h2
   ·exact h2.symm
   have:=hl.1 y h2;have:=hm.1 x h1;omega
  subst hxy;rw[we hl.2 hm.2 λz=>?_];have hz:=h z;rw[aR,aR]at hz;constructor
  ·intro Uk;rcases hz.1 (.inr Uk)with e | e
   ·subst e;exact absurd (hl.1 z Uk) aG
   ·exact e
  ·intro Uk;rcases hz.2 (.inr Uk)with e | e
   ·subst e;exact absurd (hm.1 z Uk) aG
   ·exact e
def CQ(n:Nat)(p:Nat->Bool):List Int:=((List.range n).filter p).map λk:Nat=>(k:Int)
theorem Hm(n:Nat)(p:Nat->Bool):CQ (n+1) p=CQ n p++if p n then[(n:Int)]else[]:=by
 unfold CQ;rw[List.range_succ,eu,dc];cases h:p n<;>simp[h]
theorem wg(n:Nat)(p:Nat->Bool):(CQ n p).length<=n:=by
 unfold CQ;rw[bA];exact bf (cY _ _) ac4
theorem tM{n:Nat}{p:Nat->Bool}{x:Int}:x∈CQ n p↔∃k:Nat,x=k/\k<n/\p k=true:=by
 unfold CQ;rw[cP];constructor
 ·rintro⟨k,hk,rfl⟩;rw[dv,lr]at hk;exact⟨k,rfl,hk⟩
 rintro⟨k,rfl,hk⟩;exact⟨k,by rw[dv,lr];exact hk,rfl⟩
theorem wh(n:Nat)(p:Nat->Bool):(CQ n p).Pairwise (· <·):=by
 unfold CQ;rw[oS];refine List.Pairwise.imp (R:=(· <·)) (λh=>aG) ?_;exact List.Pairwise.filter _ List.pairwise_lt_range
def lvP(xs:List cR)(act:List Int)(n:Nat):Bool:=decide ((n:Int)∈act)&&(kd xs n==1)&&((cV xs n).length==0)
def Jk(xs:List cR)(act:List Int):List Int:=CQ xs.length (lvP xs act)
def Hn(xs:List cR)(act:List Int)(n:Nat):Nat:=(cV xs n).countP λr=>decide (r∈act)
def mO(xs:List cR)(act:List Int)(n:Nat):Bool:=if kd xs n=2 then Hn xs act n==(cV xs n).length else Hn xs act n==min 1 (cV xs n).length
structure apC (xs:List cR) (act:List Int) (x:Int):Prop where
 ge:0<=x
 lt:x<xs.length
 st:wF (kd xs x)=true
 up:x=0∨∀s,xs[x.toNat]? =some s->s.pa∈act
 on:mO xs act x.toNat=true
structure Lg (xs:List cR) (act:List Int):Prop where
 rt:(0:Int)∈act
 rise:act.Pairwise (· <·)
 at_:∀x,x∈act->apC xs act x
theorem wi:∀{m l:List Int},m.Pairwise (· <·)->l.Pairwise (· <·)->(∀x,x∈l->x∈m)->l.length<=m.length
 | [],[],_,_,_=>ba _
 | [],x::l,_,_,h=>absurd (h x (.head _)) aaa
 | y::m,[],_,_,_=>bB _
 | y::m,x::l,hm,hl,h=>by
  rw[dM]at hm hl;have hx:=h x (.head _);rw[aR]at hx;have hl':∀z,z∈l->z∈m:=λz hz=>by
   have h1:=hl.1 z hz;have h2:=h z (.tail _ hz);rw[aR]at h2;rcases h2 with h2 | h2
   ·rcases hx with hx | hx
    ·omega
    ·have:=hm.1 x hx;omega
   ·exact h2
  have:=wi hm.2 hl.2 hl';simp;omega
theorem yj:∀{m l:List Int},m.Pairwise (· <·)->l.Pairwise (· <·)->(∀x,x∈l->x∈m)->m.length<=l.length->l=m
 | [],[],_,_,_,_=>rfl
 | [],x::l,_,_,h,_=>absurd (h x (.head _)) aaa
 | y::m,[],_,_,_,hn=>by simp at hn
 | y::m,x::l,hm,hl,h,hn=>by
  have Yv:=hl;rw[dM]at hm hl;have hx:=h x (.head _);rw[aR]at hx;rcases hx with rfl | hx
  ·have hl':∀z,z∈l->z∈m:=λz hz=>by
    have h1:=hl.1 z hz;have h2:=h z (.tail _ hz);rw[aR]at h2;rcases h2 with h2 | h2
    ·omega
    ·exact h2
   rw[yj hm.2 hl.2 hl' acq]
  ·have h1:=hm.1 x hx;have iW:∀z,z∈x::l->z∈m:=λz hz=>by
    have h2:=h z hz;rw[aR]at h2 hz;rcases h2 with rfl | h2
    ·rcases hz with hz | hz
     ·omega
     ·have:=hl.1 z hz;omega
    ·exact h2
   have:=wi hm.2 Yv iW;simp at this hn;omega
section
variable {xs:List cR}
theorem Sd.C4(hF:Sd xs){n}{r}(h:r∈cV xs n):∃(q:Nat) (t:cR),r=q/\xs[q]? =some t/\t.pa=n/\wF t.k=true/\n<q/\∀s,xs[n]? =some s->q<s.en:=by
 obtain⟨q,t,h1,h2,h3,h4⟩:=gx.1 h;have h5:=hF.fo.C3 h2;refine⟨q,t,h1,h2,h3,h4,aG,λs hs=>?_⟩;obtain⟨p,s',g1,g2,g3,g4,g5,_⟩:=hF.fo.par h2 aG;have:p=n:=aG
 subst this;rw[hs]at g3;injection g3 with g3;rw[g3];exact g5
theorem Sd.apart(hF:Sd xs){n q r:Nat}{s t}(hq:xs[q]? =some s)(hr:xs[r]? =some t)(h1:s.pa=n)(h2:t.pa=n)(hqr:q<r):s.en<=r:=by
 have h5:=hF.fo.C3 hq;obtain⟨p,s',g1,g2,g3,g4,g5,g6⟩:=hF.fo.par hr aG;refine gA λhh=>?_;have:=g6 q s hq hqr aG;omega
def onR(xs:List cR)(act:List Int)(n:Nat):List Int:=(cV xs n).filter λr=>decide (r∈act)
def tN(xs:List cR)(act:List Int):Nat->Nat->List Int
 | 0,n=>[n]
 | f+1,n=>n::(onR xs act n).flatMap λr=>tN xs act f r.toNat
theorem xr{α:Type}{f}{lo:α->Int}{hi:α->Int}:∀{rs:List α},rs.Pairwise (λa b=>hi a<=lo b)->(∀r,r∈rs->(f r).Pairwise (· <·)/\∀x,x∈f r->lo r<=x/\x<hi r)->(rs.flatMap f).Pairwise (· <·)
 | [],_,_=>aaa
 | r::rs,hp,hr=>by
  rw[dM]at hp;rw[Ke,rv];refine⟨(hr r (.head _)).1,xr hp.2 λq hq=>hr q (.tail _ hq),λx hx y hy=>?_⟩;obtain⟨q,hq,hy⟩:=dr.1 hy;have h1:=(hr r (.head _)).2 x hx;have h2:=(hr q (.tail _ hq)).2 y hy;have h3:=hp.1 q hq;omega
def EC(xs:List cR)(r:Int):Int:=((xs[r.toNat]?).map λs:cR=>s.en).getD 0
theorem mf{i:Nat}{s}(h:xs[i]? =some s):EC xs i=s.en:=by
 unfold EC;rw[aV,h];rfl
theorem Sd.rq(hF:Sd xs) n {l:List Int} (hl:l.Pairwise (· <·)) (hm:∀r,r∈l->r∈cV xs n):l.Pairwise λa b=>EC xs a<=b:=by
 refine List.Pairwise.imp_of_mem (fun{a b} ha hb cd=>?_) hl;obtain⟨q,s,rfl,h2,h3,_⟩:=hF.C4 (hm a ha);obtain⟨r,t,rfl,g2,g3,_⟩:=hF.C4 (hm b hb);rw[mf h2];exact hF.apart h2 g2 h3 g3 aG
theorem Se xs act n:(onR xs act n).Pairwise (· <·):=(nW xs n).filter _
theorem tP{act}{n}{r}:r∈onR xs act n↔r∈cV xs n/\r∈act:=by
 unfold onR;rw[dv,bJ]
theorem Sd.Jw(hF:Sd xs) act:∀f n {s:cR},xs[n]? =some s->(tN xs act f n).Pairwise (· <·)/\∀x,x∈tN xs act f n->n<=x/\x<s.en
 | 0,n,s,hs=>by
  have:=hF.fo.up n s hs;rw[tN];exact⟨aaa,λx hx=>by rw[aO]at hx;omega⟩
 | f+1,n,s,hs=>by
  have hu:=hF.fo.up n s hs;rw[tN];have key:∀r,r∈onR xs act n->(tN xs act f r.toNat).Pairwise _/\∀x,x∈tN xs act f r.toNat->r<=x/\x<EC xs r:=λr hr=>by
   obtain⟨q,t,rfl,h2,_⟩:=hF.C4 (tP.1 hr).1;rw[aV,mf h2];exact hF.Jw act f q h2
  have OO:∀x,x∈(onR xs act n).flatMap _->(n:Int)<x/\x<s.en:=λx hx=>by
   obtain⟨r,hr,hx⟩:=dr.1 hx;have h1:=(key r hr).2 x hx;obtain⟨q,t,rfl,h2,_,_,h5,h6⟩:=hF.C4 (tP.1 hr).1;rw[mf h2]at h1;have:=h6 s hs;have:=hF.fo.Yk q hs h2 h5 this;omega
  refine⟨dM.2 ⟨λx hx=>(OO x hx).1,xr (f:=λr=>tN xs act f r.toNat) (lo:=λr=>r) (hi:=EC xs) (hF.rq n (Se xs act n) λr hr=>(tP.1 hr).1) key⟩,λx hx=>?_⟩;rw[aR]at hx;rcases hx with rfl | hx
  ·omega
  ·have:=OO x hx;omega
theorem A8:∀{l:List Int} {lo hi:Int},l.Pairwise (· <·)->(∀x,x∈l->lo<=x/\x<hi)->lo<=hi->l.length<=hi-lo
 | [],lo,hi,_,_,h=>aab
 | a::l,lo,hi,hp,hm,h=>by
  rw[dM]at hp;have ha:=hm a (.head _);have:=A8 (lo:=a+1) (hi:=hi) hp.2 (λx hx=>⟨by have:=hp.1 x hx;omega,(hm x (.tail _ hx)).2⟩) aG;rw[bp];omega
theorem Sd.Wl(hF:Sd xs) act f {n} {s} (hs:xs[n]? =some s):(tN xs act f n).length<=64:=by
 obtain⟨h1,h2⟩:=hF.Jw act f n hs;have hu:=hF.fo.up n s hs;have kB:=hF.le;have:=A8 h1 h2 aG;omega
theorem Sd.ML(hF:Sd xs) act:∀(f n:Nat) {s:cR},xs[n]? =some s->(n:Int)∈act->wF s.k=true->∀x,x∈tN xs act f n->x∈act/\wF (kd xs x)=true/\(x=n∨∀t,xs[x.toNat]? =some t->t.pa∈act)
 | 0,n,s,hs,ha,hk,x,hx=>by
  rw[tN,aO]at hx;subst hx;exact⟨ha,by rw[ki hs];exact hk,.inl rfl⟩
 | f+1,n,s,hs,ha,hk,x,hx=>by
  rw[tN,aR]at hx;rcases hx with rfl | hx
  ·exact⟨ha,by rw[ki hs];exact hk,.inl rfl⟩
  obtain⟨r,hr,hx⟩:=dr.1 hx;obtain⟨JL,JM⟩:=tP.1 hr;obtain⟨q,t,rfl,h2,h3,h4,h5,_⟩:=hF.C4 JL;obtain⟨g1,g2,g3⟩:=hF.ML act f q h2 JM h4 x hx;refine⟨g1,g2,.inr ?_⟩;rcases g3 with rfl | g3
  ·intro t' Fj;rw[aV,h2]at Fj;injection Fj with Fj;rw[<-Fj,h3];exact ha
  exact g3
theorem Sd.HL(hF:Sd xs) act:∀f n,xs.length<=n+f->∀(m q:Nat) {t:cR},(m:Int)∈tN xs act f n->xs[q]? =some t->t.pa=m->wF t.k=true->(q:Int)∈act->(q:Int)∈tN xs act f n
 | 0,n,hf,m,q,t,hm,hq,hp,hk,ha=>by
  rw[tN,aO]at hm;have:=eT hq;have:=hF.fo.C3 hq;omega
 | f+1,n,hf,m,q,t,hm,hq,hp,hk,ha=>by
  rw[tN,aR]at hm⊢;right;rw[dr]at hm⊢;rcases hm with hm | ⟨r,hr,hm⟩
  ·have:m=n:=aG
   subst this;refine⟨q,tP.2 ⟨gx.2 ⟨q,t,rfl,hq,hp,hk⟩,ha⟩,?_⟩;cases f<;>simp[tN]
  obtain⟨q',t',rfl,h2,_,_,h5,_⟩:=hF.C4 (tP.1 hr).1;exact⟨q',hr,hF.HL act f q' aG m q hm hq hp hk ha⟩
theorem Sd.Ol(hF:Sd xs){act}(h0:act[0]? =some 0)(f:Nat)(hf:xs.length<=f):
  (act.Pairwise (· <·)/\(∀m,m∈tN xs act f 0->mO xs act m.toNat=true)/\(tN xs act f 0).length=act.length)↔Lg xs act:=by
 obtain⟨s,hs,j9⟩:=hF.rt;have h0m:=bD h0;have nS:wF s.k=true:=by rw[j9];rfl
 obtain⟨hr,OO⟩:=hF.Jw act f 0 hs;have hu:=hF.fo.up 0 s hs;have hva:=hF.ML act f 0 hs (by exact_mod_cast h0m) nS;constructor
 ·rintro⟨h1,h2,h3⟩;have OP:=yj h1 hr (λx hx=>(hva x hx).1) aG;refine⟨h0m,h1,λx hx=>?_⟩;rw[<-OP]at hx;have hi:=OO x hx;obtain⟨g1,g2,g3⟩:=hva x hx;exact⟨aG,aG,g2,g3.imp (λh=>abi) id,h2 x hx⟩
 ·intro hL;have iW:∀(n:Nat),(n:Int)∈act->(n:Int)∈tN xs act f 0:=by
   intro n
   induction n using Nat.strongRecOn with
   | ind n ih=>
    intro hn;have hA:=hL.at_ n hn;obtain⟨t,ht⟩:=fQ (xs:=xs) (i:=n) (by have:=hA.lt;omega);have PF:=hA.st;rw[ki ht]at PF;rcases hA.up with h | h
    ·have:n=0:=aG
     subst this;cases f<;>simp[tN]
    ·have hp:=h t (by rw[aV];exact ht);have OH:=(hL.at_ _ hp).ge;have M4:=hF.fo.C3 ht;obtain⟨p,YJ⟩:∃p:Nat,t.pa=p:=⟨t.pa.toNat,aG⟩
     rw[YJ]at hp;exact hF.HL act f 0 aG p n (ih p aG hp) ht YJ PF hn
  have heq:=we hr hL.rise λx=>⟨λhx=>(hva x hx).1,λhx=>by
   have:=(hL.at_ x hx).ge;obtain⟨n,rfl⟩:∃n:Nat,x=n:=⟨x.toNat,aG⟩
   exact iW n hx⟩
  refine⟨hL.rise,λm hm=>?_,by rw[heq]⟩;rw[heq]at hm;exact(hL.at_ m hm).on
end
section
variable {B:Nat} {w w':ay} {s:Sl} {l d:List Int}
theorem dA.cells(h:dA B w s l){g:Nat}(ha:s.a=some ⟨g,0,none⟩):∃tail,B<=g/\aH w g 3 (l.map (Value.int ae)++tail)/\tail.length=s.c-s.n/\s.n=l.length/\s.n<=s.c/\s.c<=9223372036854775807/\∀x,x∈l->InI x:=by
 rcases h with⟨rfl,rfl⟩ | ⟨g',css,tail,h1,h2,h4,h5,h6,h7,h9,h8⟩
 ·cases ha
 rw[h1]at ha;injection ha with ha;injection ha with ha;subst ha;have MQ:∀{l:List Int} {css:List (aK)},lO rInt 1 w (λk=>False/\k≠g') l css->css.flatten=l.map (Value.int ae)/\∀x,x∈l->InI x:=by
  intro l css
  induction l generalizing css with
  | nil=>
   intro h;have:=h.len;cases css with
   | nil=>exact⟨rfl,λx hx=>adf⟩
   | cons c css=>cases this
  | cons a l ih=>
   intro h;cases css with
   | nil=>have:=h.len;cases this
   | cons c css=>
    have hh:=h;unfold lO at hh;obtain⟨⟨tu,nZ,TQ⟩,hr⟩:(c.length=1/\rInt w (λk=>False/\k≠g') a c)/\lO rInt 1 w (λk=>False/\k≠g') l css:=hh;obtain⟨e1,e2⟩:=ih hr;refine⟨by rw[dy,e1,nZ];rfl,λx hx=>?_⟩;rw[aR]at hx;rcases hx with rfl | hx
    ·exact TQ
    exact e2 x hx
 obtain⟨e1,e2⟩:=MQ h8;rw[e1]at h4;exact⟨tail,h2,h4,aG,h6,h7,h9,e2⟩
theorem dA.mk{g:Nat}{tail:aK}(ha:s.a=some ⟨g,0,none⟩)(hB:B<=g)(hb:aH w g 3 (l.map (Value.int ae)++tail))(ht:tail.length=s.c-s.n)(hn:s.n=l.length)(hc:s.n<=s.c)(Td:s.c<=9223372036854775807)(hi:∀x,x∈l->InI x):dA B w s l:=by
 refine .inr ⟨g,l.map λx=>[Value.int ae x],tail,ha,hB,?_,aG,hn,hc,Td,?_⟩
 ·have:(l.map λx=>[Value.int ae x]).flatten=l.map (Value.int ae):=by
   clear hb hn hi
   induction l with
   | nil=>rfl
   | cons a l ih=>rw[bG,dy,ih];rfl
  rw[this];exact hb
 clear hb hn
 induction l with
 | nil=>trivial
 | cons a l ih=>exact⟨⟨rfl,rfl,hi a (.head _)⟩,ih λx hx=>hi x (.tail _ hx)⟩
theorem dA.Yl(h:dA B w s l):(s=Sl.nil/\l=[])∨∃g,s.a=some ⟨g,0,none⟩:=by
 rcases h with h | ⟨g,css,tail,h1,_⟩
 ·exact .inl h
 exact .inr ⟨g,h1⟩
theorem dA.ofRow{v:az}(h:w'.ownsRow B 3 1 v l.length (l.map (Value.int ae)))(hi:∀x,x∈l->InI x):∃s:Sl,v=s.v/\dA B w' s l:=by
 rcases h.2 with⟨rfl,hn⟩ | ⟨g,cap,cur,rfl,h1,h2,h3,h4,h5,h6⟩
 ·have:l=[]:=bQ hn;subst this;exact⟨Sl.nil,rfl,Own.nil _ _ _ _ _ _⟩
 refine⟨⟨some ⟨g,0,none⟩,l.length,cap⟩,rfl,dA.mk (tail:=cur.toList.drop l.length) rfl h1 ?_ ?_ rfl h3 ?_ hi⟩
 ·rw[ka]at h6;rw[<-h6,du];unfold aH;rw[h2]
 ·dsimp only;rw[cM,fk,h5];omega
 have:maxLen=9223372036854775807:=rfl;dsimp only;omega
end
theorem A9{zs:List Int}{j:Nat}(h:j<zs.length):zs.toArray[j]! =zs[j]:=by
 rw[oK _ j abi];simp
theorem qx{zs:List Int}(h:zs.Pairwise (· <=·)):∀m,m<=zs.length->(Lib.compactUpTo zs.toArray m).Pairwise (· <·)/\∀x,x∈Lib.compactUpTo zs.toArray m↔∃j,j<m/\zs[j]? =some x
 | 0,_=>by
  refine⟨by simp[Lib.compactUpTo],λx=>⟨λhx=>by simp[Lib.compactUpTo]at hx,λ⟨j,hj,_⟩=>aG⟩⟩
 | m+1,hm=>by
  obtain⟨h1,h2⟩:=qx h m aG;rw[Lib.compactUpTo_succ,A9 aG];have Dc:m<zs.length:=aG
  by_cases hk:Lib.keeps zs.toArray m=true
  ·rw[aZ hk];refine⟨rv.2 ⟨h1,aaa,λp hp q hq=>?_⟩,λx=>?_⟩
   ·simp only[aO]at hq;subst hq;obtain⟨j,hj,hjp⟩:=(h2 p).1 hp;rw[aQ aG]at hjp;injection hjp with hjp;have hk:=aP hk;rcases hk with hk | hk
    ·omega
    ·rw[A9 Dc,A9 aG]at hk;have a1:=dN.1 h (m-1) m aG Dc aG;by_cases hjm:j=m-1
     ·subst hjm;omega
     ·have a2:=dN.1 h j (m-1) aG aG aG;omega
   ·rw[ci,h2,aO];constructor
    ·rintro(⟨j,hj,hx⟩ | rfl)
     ·exact⟨j,aG,hx⟩
     ·exact⟨m,aG,aQ Dc⟩
    ·rintro⟨j,hj,hx⟩;by_cases hjm:j=m
     ·subst hjm;rw[aQ Dc]at hx;injection hx with hx;exact .inr hx.symm
     ·exact .inl ⟨j,aG,hx⟩
  ·rw[aX hk,bS];refine⟨h1,λx=>(h2 x).trans ⟨λ⟨j,hj,hx⟩=>⟨j,aG,hx⟩,λ⟨j,hj,hx⟩=>?_⟩⟩;by_cases hjm:j=m
   ·subst hjm;have iy:¬(j=0∨zs.toArray[j]! ≠zs.toArray[j-1]!):=λhh=>hk (bL hh);rw[A9 Dc]at iy;have h0:j≠0:=λe=>iy (.inl e);have e:zs[j]=zs.toArray[j-1]! :=gA λe=>iy (.inr e);rw[A9 aG]at e;rw[aQ Dc]at hx;injection hx with hx;exact⟨j-1,aG,by rw[aQ aG,<-e,hx]⟩
   ·exact⟨j,aG,hx⟩
theorem rl{zs:List Int}(h:zs.Pairwise (· <=·)):(Lib.compact zs).Pairwise (· <·)/\∀x,x∈Lib.compact zs↔x∈zs:=by
 obtain⟨h1,h2⟩:=qx h zs.length (ba _);refine⟨h1,λx=>(h2 x).trans ⟨λ⟨j,_,hx⟩=>bD hx,λhx=>?_⟩⟩;obtain⟨j,hj⟩:=eY hx;exact⟨j,(be.1 hj).1,hj⟩
def Ho(l:List Int):List Int:=Lib.compact (l.mergeSort λx y=>decide (x<=y))
theorem xt(l:List Int):(l.mergeSort λx y=>decide (x<=y)).Pairwise (· <=·):=by
 have:=List.pairwise_mergeSort (le:=λx y:Int=>decide (x<=y)) (λa b c h1 h2=>by simp only[bJ]at*;omega) (λa b=>by simp only[bU,bJ];omega) l;exact this.imp λh=>abi
theorem N6(l:List Int):(Ho l).Pairwise (· <·):=(rl (xt l)).1
theorem Hp{l:List Int}{x:Int}:x∈Ho l↔x∈l:=by
 unfold Ho;rw[(rl (xt l)).2 x];exact(List.mergeSort_perm l _).mem_iff
theorem Sf:Ho []=[]:=jZ.2 λx hx=>by rw[Hp]at hx;cases hx
theorem Hq(zs:List Int):(Lib.compact zs).length<=zs.length:=by
 unfold Lib.compact Lib.compactUpTo;rw[bA];exact bf (cY _ _) ac4
section
variable {B:Nat} {w w':ay} {s:Sl} {l d:List Int}
theorem dA.cut(h:dA B w s l)(k:Nat)(hk:k<=l.length)(ha:s.a≠none):dA B w ⟨s.a,k,s.c⟩ (l.take k):=by
 rcases h.Yl with⟨rfl,_⟩ | ⟨g,hg⟩
 ·exact absurd rfl ha
 obtain⟨tail,h1,h2,h3,h4,h5,h6,h7⟩:=h.cells hg;refine dA.mk (tail:=(l.drop k).map (Value.int ae)++tail) hg h1 ?_ ?_ ?_ abh h6 λx hx=>h7 x (List.mem_of_mem_take hx)
 ·rw[<-bR,<-dc,du];exact h2
 ·dsimp only;rw[aW,bA,cM];omega
 dsimp only;rw[cK];omega
theorem N7{tail:aK}(hd:d.length=l.length):Sort.putCells (Value.int ae) 0 d.toArray ((l.map (Value.int ae)++tail).toArray)=(d.map (Value.int ae)++tail).toArray:=by
 apply Array.ext_getElem?;intro k;simp only[Sort.putCells,Array.getElem?_mapIdx,iT,eJ];by_cases hk:k<d.length
 ·rw[bK abS,bK abS,bW,bW,aQ (show k<l.length by omega),aQ hk];simp only[dz];rw[aZ ⟨bB _,aG⟩,kr,A9 hk]
 rw[bX abS,bX abS,bA,bA,hd];cases tail[k-l.length]? with
 | none=>rfl
 | some v=>
  simp only[dz];rw[aX aG]
theorem dA.put(h:dA B w s l){g:Nat}(ha:s.a=some ⟨g,0,none⟩)(hd:d.length=l.length)(hi:∀x,x∈d->InI x)(n:Nat)(os:Array Obj):dA B (Sort.grow (Sort.putRow (Value.int ae) (Sort.ahead w n) g 0 d.toArray) os) s d/\aA [g] w (Sort.grow (Sort.putRow (Value.int ae) (Sort.ahead w n) g 0 d.toArray) os):=by
 obtain⟨tail,h1,h2,h3,h4,h5,h6,h7⟩:=h.cells ha;have cd:=h2.lt;refine⟨dA.mk (tail:=tail) ha h1 ?_ h3 aG h5 h6 hi,rfl,rfl,rfl,aaa,λk hk hn=>?_⟩
 ·unfold aH;rw[Sort.heap_grow_old _ _ (by simpa using cd)];show(w.heap.modify g _)[g]? =_;rw[gJ,aZ rfl];unfold aH at h2;rw[h2];show some (Sort.onCells _ _)=_;unfold Sort.onCells;dsimp only;rw[N7 hd]
 rw[Sort.heap_grow_old _ _ aa2];show(w.heap.modify g _)[k]? =_;rw[gJ,aX λe=>hn (by simp[e])]
theorem dA.holds(h:dA B w s l){g:Nat}(ha:s.a=some ⟨g,0,none⟩):Sort.Holds (Value.int ae) w g 0 l.toArray:=by
 obtain⟨tail,h1,h2,h3,h4,h5,h6,h7⟩:=h.cells ha;intro j hj;have hj:j<l.length:=ac6
 rw[A9 hj,bM];refine⟨?_,?_⟩
 ·rw[h2.cell,bK abS,bW,aQ hj];rfl
 unfold World.frozen?;unfold aH at h2;dsimp only;rw[h2];simp
theorem Sg(h:dA B w s l)(hm:l.length<=1000000000):aB au 75 #[s.v] w λe w'=>∃s':Sl,e=aq s'.v/\s'.a=s.a/\dA B w' s' (Ho l)/\aF (λk=>s.a=some ⟨k,0,none⟩) w w':=by
 refine(amd s (λv w'=>∃s':Sl,v=s'.v/\s'.a=s.a/\dA B w' s' (Ho l)/\aF (λk=>s.a=some ⟨k,0,none⟩) w w') w ?_).mono (by rintro _ w' ⟨v,rfl,s',rfl,h⟩;exact⟨s',rfl,h⟩);rcases h.Yl with⟨rfl,rfl⟩ | ⟨g,hg⟩
 ·refine(Tryz.slices_Sort_int_none none 0 w).mono ?_;rintro _ u ⟨rfl,hu⟩;obtain rfl:w=u:=hu.symm;refine⟨rfl,(Tryz.slices_Compact_int_empty none 0 w).mono ?_⟩;rintro _ u ⟨rfl,hu⟩;obtain rfl:w=u:=hu.symm;exact⟨Sl.nil,rfl,Sl.nil,rfl,rfl,by rw[Sf];exact Own.nil _ _ _ _ _ _,OnlyP.refl _ _⟩
 obtain⟨tail,h1,h2,h3,h4,h5,h6,h7⟩:=h.cells hg;obtain⟨sa,sn,sc⟩:=s;dsimp only at hg h3 h4 h5 h6;subst hg h4;refine(Tryz.slices_Sort_int g 0 sc l w (h.holds rfl) h2.lt aG).mono ?_;rintro _ w1 ⟨rfl,n,os,rfl⟩;have TW:=List.mergeSort_perm l λx y=>decide (x<=y);have hli:∀x,x∈(l.mergeSort λx y=>decide (x<=y))->InI x:=λx hx=>h7 x (TW.mem_iff.1 hx);obtain⟨wJ,cJ⟩:=h.put (d:=l.mergeSort λx y=>decide (x<=y)) rfl TW.length_eq hli n os;refine⟨rfl,?_⟩;have esr:Ho l=Lib.compact (l.mergeSort λx y=>decide (x<=y)):=rfl;have Dc:=TW.length_eq;rw[esr];generalize hw1:Sort.grow _ os=w1 at*
 generalize hms:(l.mergeSort λx y=>decide (x<=y))=ms at*
 have pJ:=Hq ms;have aiu:∀x,x∈Lib.compact ms->x∈ms:=λx hx=>by
  have:=(rl (xt l)).2 x;rw[hms]at this;exact this.1 hx
 rw[<-Dc];refine(Tryz.slices_Compact_int g 0 sc ms w1 (wJ.holds rfl) aG aG).mono ?_;rintro _ w2 ⟨rfl,q,rfl⟩;obtain⟨J7,dw⟩:=wJ.put (d:=Lib.compact ms++List.replicate (ms.length-(Lib.compact ms).length) 0) rfl (by rw[aW,gK];omega) (λx hx=>by
  rw[ci]at hx;rcases hx with hx | hx
  ·exact hli x (aiu x hx)
  rw[(List.mem_replicate.1 hx).2];exact⟨aN,aN⟩) q #[]
 rw[Sort.grow_empty]at J7 dw;have Fi:=J7.cut (Lib.compact ms).length abJ aaa;rw[List.take_left]at Fi;have t0:∀x,x∈[g]->(some (⟨g,0,none⟩:Addr)=some ⟨x,0,none⟩)∨w.heap.size<=x:=λx hx=>by
  simp only[aO]at hx;subst hx;exact .inl rfl
 exact⟨⟨some ⟨g,0,none⟩,_,sc⟩,rfl,_,rfl,rfl,Fi,(cJ.mem dw aaa).p t0⟩
theorem ED{F:aL}{sa:Sl}{act:List Int}(ha:aD rInt 1 w F sa act)(hm:act.length<=1000000000):aB au 33 #[sa.v] w λe w'=>∃s:Sl,e=aq s.v/\dA w.heap.size w' s act/\aA [] w w':=by
 have hi:∀x,x∈act->InI x:=λx hx=>by
  obtain⟨cs,h⟩:=ha.mem hx;exact h.2
 obtain⟨a,n,c⟩:=sa;have hl:=ha.len;dsimp only at hl;subst hl;cases a with
 | none=>
  have:=Zj ha rfl;subst this;refine(Tryz.slices_Clone_int_nil 0 c w).mono ?_;rintro _ u ⟨rfl,hu⟩;obtain rfl:w=u:=hu.symm;exact⟨Sl.nil,rfl,Own.nil _ _ _ _ _ _,Only.refl _ _⟩
 | some base=>
  by_cases h0:act=[]
  ·subst h0;refine(Tryz.slices_Clone_int_zero base c w).mono ?_;rintro _ w' ⟨v,rfl,h1,_,h2⟩;obtain⟨s,rfl,hs⟩:=dA.ofRow (l:=[]) h1 hi;exact⟨s,rfl,hs,Only.ov h2⟩
  have h0:0<act.length:=gq.2 h0;obtain⟨as1,cs,e1,_,fl,c0,_⟩:=ha.at_ 0 _ (aQ h0);injection e1 with e1;subst e1;obtain⟨b,o,sp⟩:=base;have wI:sp=none:=by
   cases cs with
   | nil=>cases fl
   | cons v cs=>exact World.cell?_spot (c0 0 v rfl)
  subst wI;have Bx:∀j,j<act.length->w.cell? ⟨b,o+j,none⟩=some (.int ae (act.getD j 0)):=λj hj=>by
   obtain⟨base,cs,e1,_,_,c0,hc,_⟩:=ha.at_ j _ (aQ hj);injection e1 with e1;subst e1 hc;have:=c0 0 _ rfl;rw[fI,fI]at this;rw[List.getD_eq_getElem?_getD,aQ hj];simpa using this
  refine(Tryz.slices_Clone_int b o act.length c act w (ba _) aG Bx).mono ?_;rintro _ w' ⟨v,rfl,h1,_,h2⟩;rw[bq (ba _)]at h1;obtain⟨s,rfl,hs⟩:=dA.ofRow (l:=act) h1 hi;exact⟨s,rfl,hs,Only.ov h2⟩
end
structure ClI (w:ay) (S:aL) (OQ:FuncId) (cap:aK) (l:List Int) (p:Int->Bool):Prop where
 en:∀(args:Array az) (w:ay),(callFunc OQ args).run au w=.ok (.enter OQ args) w
 call:∀x,x∈l->∀u,aF S w u->aB au OQ ((O ae x::cap):aK).toArray u λe u'=>e=aq (ao (p x))/\aA [] u u'
section
variable {w:ay} {s:Sl} {l:List Int} {B OQ:Nat} {cap:aK} {p:Int->Bool}
theorem Sh{S F:aL}(hs:aD rInt 1 w F s l)(hl:l.length<=2000000)(hF:∀k,F k->S k)(hc:ClI w (λ_=>False) OQ cap l p){f:OV}(hf:f.v=.func (.func OQ) #[] cap.toArray):
  aB au 72 #[s.v,f.v] w λe w'=>(∃i:Int,e=aq (O ae i)/\((i= -1/\∀x,x∈l->p x=false)∨∃n:Nat,i=(n:Int)/\n<l.length/\(l.take n).filter (λx=>!p x)=l.take n/\∀x,l[n]? =some x->p x=true))/\aA [] w w':=by
 refine(QP s f (λv w'=>(∃i:Int,v=O ae i/\((i= -1/\∀x,x∈l->p x=false)∨∃n:Nat,i=(n:Int)/\n<l.length/\(l.take n).filter (λx=>!p x)=l.take n/\∀x,l[n]? =some x->p x=true))/\aA [] w w') w ?_).mono (by rintro _ w' ⟨v,rfl,⟨i,rfl,h⟩,h'⟩;exact⟨⟨i,rfl,h⟩,h'⟩);have hn:=hs.len;refine⟨λkv i u=>∃j:Nat,i=(j:Int)/\kv+j=l.length/\j<=l.length/\(∀x,x∈l.take j->p x=false)/\aA [] w u,l.length,⟨0,rfl,aG,bB _,aaa,Only.refl _ _⟩,?_⟩;rintro kv _ u ⟨j,rfl,tX,hj,hp,hO⟩;refine⟨λhcc=>?_,λhcc=>?_⟩
 ·have hcc:=aP hcc;have iY:j<l.length:=aG
  obtain⟨ad,a1,a2⟩:=iu (kI hs hO) (aQ iY);refine⟨ad,a1,_,a2,OQ,[],cap,hf,hc.en,(hc.call _ (eF iY) u hO.p0).mono ?_⟩;rintro _ u' ⟨rfl,hO'⟩;have nI:l.take (j+1)=l.take j++[l[j]]:=by rw[bF,aQ iY];rfl
  refine⟨_,rfl,λht=>⟨⟨_,rfl,.inr ⟨j,rfl,iY,?_,λx hx=>?_⟩⟩,hO.cy hO'⟩,λhf=>⟨kv-1,aG,j+1,aaq,aG,aG,λx hx=>?_,hO.cy hO'⟩⟩
  ·rw[Fq];intro x hx;rw[hp x hx];rfl
  ·rw[aQ iY]at hx;injection hx with hx;rw[<-hx];exact ht
  rw[nI,ci,aO]at hx;rcases hx with hx | rfl
  ·exact hp x hx
  exact hf
 have hcc:=aY hcc;rw[bq aG]at hp;exact⟨⟨-1,rfl,.inl ⟨rfl,hp⟩⟩,hO⟩
theorem tQ(hs:dA B w s l)(hl:l.length<=2000000)(hc:ClI w (λk=>s.a=some ⟨k,0,none⟩) OQ cap l p){f:OV}(hf:f.v=.func (.func OQ) #[] cap.toArray):
  aB au 32 #[s.v,f.v] w λe w'=>∃s':Sl,e=aq s'.v/\s'.a=s.a/\s'.c=s.c/\dA B w' s' (l.filter λx=>!p x)/\aF (λk=>s.a=some ⟨k,0,none⟩) w w':=by
 refine(afF s f (λv w'=>∃s':Sl,v=s'.v/\s'.a=s.a/\s'.c=s.c/\dA B w' s' (l.filter λx=>!p x)/\aF (λk=>s.a=some ⟨k,0,none⟩) w w') w ?_).mono (by rintro _ w' ⟨v,rfl,s',rfl,h⟩;exact⟨s',rfl,h⟩);have hn:=hs.len;have lC:=hs.cap;refine(Sh (S:=λ_=>True) hs.sl hl (λ_ _=>trivial) ⟨hc.en,λx hx u hO=>hc.call x hx u (hO.mono λk _ h=>h.elim)⟩ hf).mono ?_;rintro _ w1 ⟨⟨i,rfl,hi⟩,cJ⟩;have u7:dA B w1 s l:=hs.keep bN λk _ cd=>cJ.block k cd aaa;refine⟨i,rfl,λh1=>?_,λh1=>?_⟩
 ·have h1:i= -1:=abv
  rcases hi with⟨_,hi⟩ | ⟨n,rfl,_⟩
  ·have:l.filter (λx=>!p x)=l:=by
    rw[Fq];intro x hx;rw[hi x hx];rfl
   rw[this];exact⟨s,rfl,rfl,rfl,u7,cJ.p0⟩
  omega
 have h1:i≠ -1:=abv
 rcases hi with⟨hi,_⟩ | ⟨n,rfl,YY,hft,hpn⟩
 ·exact absurd hi h1
 rw[gF (x:=(n:Int)+1) aG aG];refine⟨λkv i j u=>∃(a b:Nat) (ys:List Int),i=(a:Int)/\j=(b:Int)/\a<b/\b<=l.length/\kv=l.length-b/\ys.length=l.length/\ys.take a=(l.take b).filter (λx=>!p x)/\ys.drop b=l.drop b/\dA B u s ys/\aF (λk=>s.a=some ⟨k,0,none⟩) w u,l.length-(n+1),⟨n,n+1,l,rfl,aG,aG,aG,rfl,rfl,?_,rfl,u7,cJ.p0⟩,?_⟩
 ·have:l.take (n+1)=l.take n++[l[n]]:=by rw[bF,aQ YY];rfl
  rw[this,eu,hft];simp[hpn _ (aQ YY)]
 rintro kv _ _ w2 ⟨a,b,ys,rfl,rfl,hab,C8,rfl,Ov,hya,TX,nc,dw⟩;refine⟨λnZ=>?_,λnZ=>?_⟩
 ·have nZ:(b:Int)<s.n:=aP nZ;have jC:b<l.length:=aG
  rw[gF (x:=(b:Int)+1) aG aG];have aiw:ys[b]? =some l[b]:=by
   have:=bh List.head? TX;rw[List.head?_drop,List.head?_drop,aQ jC]at this;exact this
  have nI:l.take (b+1)=l.take b++[l[b]]:=by rw[bF,aQ jC];rfl
  have hdr:ys.drop (b+1)=l.drop (b+1):=by
   have:=bh (List.drop 1) TX;simpa[oM]using this
  obtain⟨ad,a1,a2⟩:=iu nc.sl aiw;obtain⟨cs,OO⟩:=nc.sl.mem (bD aiw);refine⟨λi1 u=>∃(a':Nat) (ys':List Int),i1=(a':Int)/\a'<b+1/\ys'.length=l.length/\ys'.take a'=(l.take (b+1)).filter (λx=>!p x)/\ys'.drop (b+1)=l.drop (b+1)/\dA B u s ys'/\aF (λk=>s.a=some ⟨k,0,none⟩) w u,?_,ad,a1,_,a2,OQ,[],cap,hf,hc.en,(hc.call _ (eF jC) w2 dw).mono ?_⟩
  ·rintro _ w3 ⟨a',ys',rfl,q1,q2,q3,q4,q5,q6⟩;exact⟨l.length-(b+1),aG,a',b+1,ys',rfl,aG,q1,aG,rfl,q2,q3,q4,q5,q6⟩
  rintro _ w5 ⟨rfl,eK⟩;have Y5:dA B w5 s ys:=nc.keep bN λk _ cd=>eK.block k cd aaa;have abL:=dw.cy eK;refine⟨_,rfl,λJF=>?_,λJF=>?_⟩
  ·have JF:p l[b]=false:=by simpa using JF
   obtain⟨g,cells,p1,p2,p3,p4,p5⟩:=Own.store (x:=l[b]) (n:=a) (vs:=[O ae l[b]]) (G:=λ_=>False) bN Y5 aG rfl ⟨rfl,OO.2⟩ (λk hk _=>hk.elim) aN;refine⟨_,p2,g,a*1,cells,_,rfl,p3,p4,λw6 eI hb6=>?_⟩;rw[gF (x:=(a:Int)+1) aG aG];refine⟨a+1,ys.set a l[b],aG,aG,by rw[iq];exact Ov,?_,?_,p5 w6 eI hb6,abL.trans (eI.p (F:=λk=>s.a=some ⟨k,0,none⟩) λk hk=>.inl (by simp only[aO]at hk;rw[hk];exact p1)) λk hk=>.inl hk⟩
   ·rw[bF,Fm (ba _),hya,oL aG,nI,eu];simp[JF]
   rw[Fp aG];exact hdr
  have JF:p l[b]=true:=by simpa using JF
  refine⟨a,ys,rfl,aG,Ov,?_,hdr,Y5,abL⟩;rw[nI,eu,hya];simp[JF]
 have nZ:¬(b:Int)<s.n:=aY nZ;have Tf:b=l.length:=aG
 subst Tf;rw[bq (ba _)]at hya;obtain⟨w3,g,k1,k2,k3,k4⟩:=Own.clear (P:=au) (t:=33) (ty:=0) (i:=a) bN aN (by kernel_rfl) (λw=>Tryz.zeroValue3 w) (by intro v hv;simp[Value.cells]at hv;rcases hv with rfl<;>rfl) rfl nc aG;refine⟨a,⟨rfl,aG,lC⟩,w3,k1,a,⟨rfl,aG⟩,_,rfl,?_,?_,by rw[<-hya];exact k4,dw.trans (k3.p (F:=λk=>s.a=some ⟨k,0,none⟩) λk hk=>.inl (by simp only[aO]at hk;rw[hk];exact k2)) λk hk=>.inl hk⟩
 ·simp only[Sl.cut];split
  ·rfl
  rw[k2];rfl
 exact kr _
end
end Go.Proofs.YtpbgcbdclnfpnaaGreatDoor.Con
namespace Go.Proofs.YtpbgcbdclnfpnaaGreatDoor.Con
def Kc(xs:List cR)(d:Int)(c:Nat):Prop:=∃t,xs[c]? =some t/\t.pa=d
def Sb(xs:List cR)(d:Int)(x:Nat):Prop:=d<x/\x<xs.length/\(d= -1∨∃k:Nat,d=k/\jv xs k x)
def SS(xs:List cR)(x:Nat):Prop:=∃t,xs[x]? =some t/\(t.k=1∨t.k=2)
def N8(xs:List cR)(S:aL)(d:Int):Prop:=∀c c',Kc xs d c->Kc xs d c'->S c->S c'->c=c'
structure Gd (xs:List cR) (d:Int) (G:aL):Prop where
 ne:∃g,G g
 bl:∀g,G g->Sb xs d g/\SS xs g
 con:∀(n:Nat) (t:cR) (c c' g g':Nat),xs[n]? =some t->t.k=1->Kc xs n c->Kc xs n c'->G g->G g'->jv xs c g->jv xs c' g'->c=c'
def Ap(xs:List cR)(D:Int->Prop):Prop:=∀d d' x,D d->D d'->Sb xs d x->Sb xs d' x->d=d'
structure Part (xs:List cR) (D:Int->Prop) (S:aL):Prop where
 st:∀x,S x->SS xs x/\∃d,D d/\Sb xs d x
 up:∀x t,S x->xs[x]? =some t->D t.pa∨∃p:Nat,t.pa=p/\S p
 one:∀(n:Nat) (t:cR),xs[n]? =some t->t.k=1->N8 xs S n
 top:∀d,D d->∃c,Kc xs d c/\S c
section
variable {xs:List cR} (F:Fo xs) {d d':Int} {c c' k n x:Nat} {t:cR} {D:Int->Prop} {S G:aL}
include F
theorem Fo.iR(h:Kc xs d c):Sb xs d c:=by
 obtain⟨t,h1,rfl⟩:=h;have hl:=eT h1;by_cases h0:0<c
 ·obtain⟨p,s,g1,g2,g3,_,g5,_⟩:=F.par h1 h0;exact⟨aG,hl,.inr ⟨p,g2,s,g3,aG,g5⟩⟩
 have:c=0:=aG
 subst this;have:=(F.rt t h1).1;exact⟨aG,hl,.inl this⟩
theorem Fo.xE(h:Sb xs d x)(hx:xs[x]? =some t):t.pa=d∨∃p:Nat,t.pa=p/\Sb xs d p/\p<x/\jv xs p x:=by
 obtain⟨h1,h2,h3⟩:=h;by_cases h0:0<x
 ·obtain⟨p,s,g1,g2,g3,_,g5,g6⟩:=F.par hx h0;have hc:jv xs p x:=⟨s,g3,aG,g5⟩
  have hl:=eT g3;rcases h3 with rfl | ⟨k,rfl,u,e1,e2,e3⟩
  ·exact .inr ⟨p,g2,⟨aG,hl,.inl rfl⟩,g1,hc⟩
  have:=g6 k u e1 aG e3;by_cases he:k=p
  ·exact .inl aG
  exact .inr ⟨p,g2,⟨aG,hl,.inr ⟨k,rfl,F.jJ ⟨u,e1,e2,e3⟩ hc this⟩⟩,g1,hc⟩
 have:x=0:=aG
 subst this;rcases h3 with rfl | ⟨k,rfl,_⟩
 ·exact .inl (F.rt t hx).1
 omega
theorem Fo.Jx(h:Sb xs d k)(g:jv xs k x):Sb xs d x:=by
 obtain⟨h1,h2,h3⟩:=h;have hl:=F.pF g;have kB:k<=x:=by obtain⟨_,_,h,_⟩:=g;exact h
 refine⟨aG,hl,h3.imp id ?_⟩;rintro⟨m,e,hm⟩;exact⟨m,e,F.kH hm g⟩
theorem Fo.qz(h:Sb xs d k)(g:Sb xs k x):Sb xs d x:=by
 obtain⟨g1,g2,g3⟩:=g;rcases g3 with g3 | ⟨m,e,hm⟩
 ·omega
 have:m=k:=aG
 subst this;exact F.Jx h hm
theorem Fo.xF:∀(x:Nat),Sb xs d x->∃c,Kc xs d c/\jv xs c x
 | x,h=>by
  obtain⟨t,ht⟩:=fQ h.2.1;rcases F.xE h ht with e | ⟨p,_,hp,cd,hc⟩
  ·exact⟨x,⟨t,ht,e⟩,F.kj h.2.1⟩
  obtain⟨c,h1,h2⟩:=Fo.xF p hp;exact⟨c,h1,F.kH h2 hc⟩
theorem Fo.Ym(h:Kc xs d c)(h':Kc xs d c')(g:jv xs c x)(g':jv xs c' x):¬c<c':=λcd=>by
 obtain⟨t,h1,rfl⟩:=h';obtain⟨p,s,e1,e2,e3,_,e5,e6⟩:=F.par h1 aG;obtain⟨u,u1,u2,u3⟩:=F.jJ g g' (Nat.le_of_lt cd);have:=e6 c u u1 cd u3;have:=(F.iR h).1;omega
theorem Fo.E2(h:Kc xs d c)(h':Kc xs d c')(g:jv xs c x)(g':jv xs c' x):c=c':=by
 have:=F.Ym h h' g g';have:=F.Ym h' h g' g;omega
theorem Fo.mC(hk:∀(n c:Nat),Kc xs n c->SS xs n)(hG:Gd xs d G)(h1:d<x){g:Nat}(hg:G g)(hc:jv xs x g):SS xs x/\Sb xs d x:=by
 obtain⟨⟨b1,b2,b3⟩,hs⟩:=hG.bl g hg;have kB:x<=g:=by obtain⟨_,_,h,_⟩:=hc;exact h
 have hx:x<xs.length:=aG
 refine⟨?_,h1,hx,?_⟩
 ·by_cases he:x=g
  ·rw[he];exact hs
  obtain⟨c,hc,_⟩:=F.xF (d:=x) g ⟨aG,b2,.inr ⟨x,rfl,hc⟩⟩;exact hk x c hc
 rcases b3 with b3 | ⟨k,rfl,b3⟩
 ·exact .inl b3
 exact .inr ⟨k,rfl,F.jJ b3 hc aG⟩
theorem Fo.Bo(h:Kc xs (n:Int) c)(g:Sb xs d c):(n:Int)=d∨Sb xs d n:=by
 obtain⟨t,h1,h2⟩:=h;rcases F.xE g h1 with e | ⟨p,e,hp,_⟩
 ·exact .inl aG
 have:p=n:=aG
 subst this;exact .inr hp
theorem Fo.C5(hk:∀(n c:Nat),Kc xs n c->SS xs n)(hA:Ap xs D){G:Int->Nat->Prop}(hG:∀d,D d->Gd xs d (G d)):Part xs D λm=>∃d,D d/\d<m/\∃g,G d g/\jv xs m g where
 st:=by
  rintro x ⟨d,hD,h1,g,hg,hc⟩;obtain⟨h2,h3⟩:=F.mC hk (hG d hD) h1 hg hc;exact⟨h2,d,hD,h3⟩
 up:=by
  rintro x t ⟨d,hD,h1,g,hg,hc⟩ hx;obtain⟨_,h3⟩:=F.mC hk (hG d hD) h1 hg hc;rcases F.xE h3 hx with e | ⟨p,e,hp,_,hpc⟩
  ·exact .inl (by rw[e];exact hD)
  exact .inr ⟨p,e,d,hD,hp.1,g,hg,F.kH hpc hc⟩
 one:=by
  rintro n t hn h1 c c' hc rN ⟨d,hD,e1,g,hg,Y6⟩ ⟨d',hD',e1',g',yt,HX⟩;obtain⟨_,b⟩:=F.mC hk (hG d hD) e1 hg Y6;obtain⟨_,b'⟩:=F.mC hk (hG d' hD') e1' yt HX;have Ul:d=d':=by
   rcases F.Bo hc b with a | a<;>rcases F.Bo rN b' with a' | a'
   ·omega
   ·exact hA d d' c hD hD' b (F.qz a' (F.iR hc))
   ·exact hA d d' c' hD hD' (F.qz a (F.iR rN)) b'
   exact hA d d' n hD hD' a a'
  subst Ul;exact(hG d hD).con n t c c' g g' hn h1 hc rN hg yt Y6 HX
 top:=by
  intro d hD;obtain⟨g,hg⟩:=(hG d hD).ne;obtain⟨c,h1,h2⟩:=F.xF g ((hG d hD).bl g hg).1;exact⟨c,h1,d,hD,(F.iR h1).1,g,hg,h2⟩
theorem Fo.Yn(hA:Ap xs D)(P:Part xs D S)(hn:S n):∀(x:Nat),S x->Sb xs n x->∃c,Kc xs n c/\S c
 | x,hx,h=>by
  obtain⟨t,ht⟩:=fQ h.2.1;rcases F.xE h ht with e | ⟨p,e,hp,cd,hc⟩
  ·exact⟨x,⟨t,ht,e⟩,hx⟩
  rcases P.up x t hx ht with hD | ⟨q,eq,hq⟩
  ·obtain⟨_,d,hd,hb⟩:=P.st n hn;rw[e]at hD;have:=hA d p x hd hD (F.qz hb h) ⟨aG,h.2.1,.inr ⟨p,rfl,hc⟩⟩;have:=hb.1;have:=hp.1;omega
  have:q=p:=aG
  subst this;exact Fo.Yn hA P hn q hq hp
theorem Fo.Wm(hk:∀(n c:Nat),Kc xs n c->SS xs n)(hA:Ap xs D)(P:Part xs D S)(hn:S n)(h0:∀c,Kc xs n c->¬S c)(hG:Gd xs n G):Part xs D λm=>S m∨((n:Int)<m/\∃g,G g/\jv xs m g):=by
 have no:∀x,S x->¬Sb xs n x:=λx hx h=>by
  obtain⟨c,h1,h2⟩:=F.Yn hA P hn x hx h;exact h0 c h1 h2
 refine⟨?_,?_,?_,λd hD=>?_⟩
 ·rintro x (hx | ⟨h1,g,hg,hc⟩)
  ·exact P.st x hx
  obtain⟨h2,h3⟩:=F.mC hk hG h1 hg hc;obtain⟨_,d,hD,hb⟩:=P.st n hn;exact⟨h2,d,hD,F.qz hb h3⟩
 ·rintro x t (hx | ⟨h1,g,hg,hc⟩) ht
  ·exact(P.up x t hx ht).imp id λ⟨p,e,h⟩=>⟨p,e,.inl h⟩
  obtain⟨_,h3⟩:=F.mC hk hG h1 hg hc;rcases F.xE h3 ht with e | ⟨p,e,hp,_,hpc⟩
  ·exact .inr ⟨n,e,.inl hn⟩
  exact .inr ⟨p,e,.inr ⟨hp.1,g,hg,F.kH hpc hc⟩⟩
 ·rintro m t hm h1 c c' hc rN (hx | ⟨e1,g,hg,Y6⟩) (Bz | ⟨e1',g',yt,HX⟩)
  ·exact P.one m t hm h1 c c' hc rN hx Bz
  ·obtain⟨_,b⟩:=F.mC hk hG e1' yt HX;rcases F.Bo rN b with e | b
   ·exact absurd hx (h0 c (by rw[<-e];exact hc))
   exact absurd (F.qz b (F.iR hc)) (no c hx)
  ·obtain⟨_,b⟩:=F.mC hk hG e1 hg Y6;rcases F.Bo hc b with e | b
   ·exact absurd Bz (h0 c' (by rw[<-e];exact rN))
   exact absurd (F.qz b (F.iR rN)) (no c' Bz)
  exact hG.con m t c c' g g' hm h1 hc rN hg yt Y6 HX
 obtain⟨c,h1,h2⟩:=P.top d hD;exact⟨c,h1,.inl h2⟩
theorem Fo.aa6(P:Part xs D S)(hn:S n)(ht:xs[n]? =some t)(h2:t.k=2):Part xs D λm=>S m∨(Kc xs n m/\SS xs m):=by
 refine⟨?_,?_,?_,λd hD=>?_⟩
 ·rintro x (hx | ⟨h1,hs⟩)
  ·exact P.st x hx
  obtain⟨_,d,hD,hb⟩:=P.st n hn;exact⟨hs,d,hD,F.qz hb (F.iR h1)⟩
 ·rintro x u (hx | ⟨⟨v,h1,e⟩,hs⟩) hu
  ·exact(P.up x u hx hu).imp id λ⟨p,e,h⟩=>⟨p,e,.inl h⟩
  rw[hu,bc]at h1;subst h1;exact .inr ⟨n,e,.inl hn⟩
 ·have no:∀(m:Nat) (u:cR) (c:Nat),xs[m]? =some u->u.k=1->Kc xs m c->¬Kc xs n c:=by
   rintro m u c hm h1 ⟨v,e1,e2⟩ ⟨v',e1',e2'⟩;rw[e1,bc]at e1';subst e1';have:m=n:=aG
   subst this;rw[hm,bc]at ht;subst ht;omega
  rintro m u hm h1 c c' hc rN (hx | ⟨a,_⟩) (Bz | ⟨a',_⟩)
  ·exact P.one m u hm h1 c c' hc rN hx Bz
  ·exact absurd a' (no m u c' hm h1 rN)
  ·exact absurd a (no m u c hm h1 hc)
  exact absurd a (no m u c hm h1 hc)
 obtain⟨c,h1,h2⟩:=P.top d hD;exact⟨c,h1,.inl h2⟩
end
end Go.Proofs.YtpbgcbdclnfpnaaGreatDoor.Con
namespace Go.Proofs.YtpbgcbdclnfpnaaGreatDoor.Con
open Go Go.RowKit Go.Kt
def Si(n:Int):Nat:=if 0<=n/\n<=63 then 2 ^ n.toNat else 0
def CR(m:Nat)(n:Int):Nat:=m||| Si n
def Ba(l:List Int):Nat:=l.foldl CR 0
theorem Bb(n:Int)(i:Nat):(Si n).testBit i=decide (i<64/\n=i):=by
 unfold Si;split
 ·rw[Nat.testBit_two_pow,fS];omega
 rw[iO];exact(bH aG).symm
theorem VY(n:Int):Si n<2 ^ 64:=by
 unfold Si;split
 ·exact Nat.pow_lt_pow_right aN aG
 decide
theorem wj:∀(l:List Int) (m i:Nat),(l.foldl CR m).testBit i=(m.testBit i||decide (i<64/\(i:Int)∈l))
 | [],m,i=>aaa
 | n::l,m,i=>by
  rw[kM,wj l,CR,Nat.testBit_or,Bb,Bool.or_assoc];congr 1;rw[<-Bool.decide_or,fS,aR];constructor
  ·rintro(⟨h,rfl⟩ | ⟨h,h2⟩)
   ·exact⟨h,.inl rfl⟩
   exact⟨h,.inr h2⟩
  rintro⟨h,h2 | h2⟩
  ·exact .inl ⟨h,h2.symm⟩
  exact .inr ⟨h,h2⟩
theorem N9(l:List Int)(i:Nat):(Ba l).testBit i=decide (i<64/\(i:Int)∈l):=by
 unfold Ba;rw[wj,iO,nf]
theorem amG{x:Nat}(h:∀i,x.testBit i=true->i<64):x<2 ^ 64:=Nat.lt_pow_two_of_testBit x λi hi=>by
 cases hx:x.testBit i with
 | true=>have:=h i hx;omega
 | false=>rfl
theorem VZ(l:List Int){m:Nat}(hm:m<2 ^ 64):l.foldl CR m<2 ^ 64:=amG λi hi=>by
 rw[wj,bU,bJ]at hi;rcases hi with hi | hi
 ·refine O0 λkB=>?_;rw[Nat.testBit_lt_two_pow (cq hm (lD aN kB))]at hi;cases hi
 exact hi.1
def gX(x:Nat):List Int:=CQ 64 λi=>x.testBit i
theorem nX{x:Nat}{n:Int}:n∈gX x↔∃k:Nat,n=k/\k<64/\x.testBit k=true:=tM
theorem uR(x:Nat):(gX x).Pairwise (· <·):=wh _ _
theorem xu(x:Nat):(gX x).length<=64:=wg _ _
def Mh(xs:List cR)(d:Int):Nat->Int->Nat->Nat
 | 0,_,S=>S
 | f+1,g,S=>if d<g then Mh xs d f (GQ xs g) (CR S g)else S
def jz(xs:List cR)(d:Int)(G:List Int)(S:Nat):Nat:=G.foldl (λS g=>Mh xs d xs.length g S) S
def EF(xs:List cR)(gl:Nat->List Int)(S n:Nat):Nat:=
 if S.testBit n then(if kd xs n=2 then(cV xs n).foldl CR S else if cV xs n≠[]/\((cV xs n).all λr=>!S.testBit r.toNat)=true then jz xs n (gl n) S else S)else S
def jj(xs:List cR)(gl:Nat->List Int):Nat->Nat->Nat
 | 0,S=>S
 | n+1,S=>EF xs gl (jj xs gl n S) n
section
variable {xs:List cR} (F:Fo xs) (hl:xs.length<=64)
include F hl
theorem Mi{d:Int}(h0: -1<=d):∀(f g S:Nat),g<f->g<xs.length->∀m,(Mh xs d f g S).testBit m=true↔S.testBit m=true∨(d<m/\jv xs m g)
 | 0,g,S,h,_,m=>aG
 | f+1,g,S,h,hg,m=>by
  unfold Mh;obtain⟨t,ht⟩:=fQ hg;by_cases hd:d<g
  ·rw[aZ hd,lj ht];have hor:∀m,(CR S g).testBit m=true↔S.testBit m=true∨m=g:=λm=>by
    unfold CR;rw[Nat.testBit_or,Bb,bU,bJ];exact oT ⟨λh=>aG,λh=>⟨aG,aG⟩⟩
   by_cases hz:0<g
   ·obtain⟨p,s,e1,e2,e3,_,e5,e6⟩:=F.par ht hz;have hc:jv xs p g:=⟨s,e3,aG,e5⟩
    rw[e2,Mi h0 f p (CR S g) aG (eT e3) m,hor,or_assoc];refine oT ⟨?_,?_⟩
    ·rintro(rfl | ⟨a,b⟩)
     ·exact⟨hd,F.kj hg⟩
     exact⟨a,F.kH b hc⟩
    rintro⟨a,u,b1,b2,b3⟩;by_cases he:m=g
    ·exact .inl he
    have:=e6 m u b1 aG b3;exact .inr ⟨a,F.jJ ⟨u,b1,b2,b3⟩ hc this⟩
   have:g=0:=aG
   subst this;rw[(F.rt t ht).1];have e:Mh xs d f (-1) (CR S (0:Nat))=CR S (0:Nat):=by
    cases f with
    | zero=>rfl
    | succ f=>unfold Mh;rw[aX aG]
   rw[e,hor];refine oT ⟨?_,?_⟩
   ·rintro rfl;exact⟨hd,F.kj hg⟩
   rintro⟨_,_,_,b2,_⟩;omega
  rw[aX hd];refine⟨.inl,λh=>h.elim id λ⟨a,_,_,b,_⟩=>?_⟩;omega
theorem nY{d:Int}(h0: -1<=d):∀(G:List Int) (S:Nat),(∀g,g∈G->pf xs g)->∀m,(jz xs d G S).testBit m=true↔S.testBit m=true∨(d<m/\∃g:Nat,(g:Int)∈G/\jv xs m g)
 | [],S,_,m=>⟨.inl,λh=>h.elim id λ⟨_,g,h,_⟩=>abk⟩
 | g::G,S,hG,m=>by
  obtain⟨a1,a2⟩:=hG g (.head _);obtain⟨g,rfl⟩:∃k:Nat,g=k:=⟨g.toNat,aG⟩
  have:=nY h0 G (Mh xs d xs.length g S) (λy hy=>hG y (.tail _ hy)) m;unfold jz at this⊢;rw[kM,this,Mi F hl h0 _ _ _ aG aG,or_assoc];refine oT ⟨?_,?_⟩
  ·rintro(⟨b1,b2⟩ | ⟨b1,q,b2,b3⟩)
   ·exact⟨b1,g,.head _,b2⟩
   exact⟨b1,q,.tail _ b2,b3⟩
  rintro⟨b1,q,b2,b3⟩;rcases aR.1 b2 with e | e
  ·have:q=g:=aG
   subst this;exact .inl ⟨b1,b3⟩
  exact .inr ⟨b1,q,e,b3⟩
omit F in
theorem Sj {n:Nat} (S m:Nat):((cV xs n).foldl CR S).testBit m=true↔S.testBit m=true∨(m:Int)∈cV xs n:=by
 rw[wj,bU,bJ];refine oT ⟨λh=>h.2,λh=>⟨?_,h⟩⟩;obtain⟨q,t,e,h1,_⟩:=gx.1 h;have:=eT h1;omega
end
def EG(xs:List cR)(S n:Nat):Prop:=(kd xs n=2->∀r,r∈cV xs n->S.testBit r.toNat=true)/\(kd xs n=1->cV xs n=[]∨∃r,r∈cV xs n/\S.testBit r.toNat=true)
theorem EG.mono{xs:List cR}{S S' n:Nat}(h:EG xs S n)(hs:∀m,S.testBit m=true->S'.testBit m=true):EG xs S' n:=
 ⟨λe r hr=>hs _ (h.1 e r hr),λe=>(h.2 e).imp id λ⟨r,hr,hb⟩=>⟨r,hr,hs _ hb⟩⟩
section
variable {xs:List cR} (sd:Sd xs) {D:Int->Prop} {gl:Nat->List Int}
include sd
theorem eS{n c:Nat}:(c:Int)∈cV xs n↔Kc xs n c/\SS xs c:=by
 rw[gx];constructor
 ·rintro⟨q,t,e,h1,h2,h3⟩;have:q=c:=aG
  subst this;refine⟨⟨t,h1,h2⟩,t,h1,?_⟩;unfold wF at h3;rw[bU,de,de]at h3;exact h3
 rintro⟨⟨t,h1,h2⟩,u,h3,h4⟩;rw[h1,bc]at h3;subst h3;refine⟨c,t,rfl,h1,h2,?_⟩;unfold wF;rw[bU,de,de];exact h4
theorem tR(hk:∀(n c:Nat),Kc xs n c->SS xs n)(hA:Ap xs D)(WW:∀(n:Nat) (t:cR),xs[n]? =some t->t.k=1->cV xs n≠[]->Gd xs n (λg=>(g:Int)∈gl n)/\∀g,g∈gl n->pf xs g){S:Nat}(P:Part xs D λm=>S.testBit m=true):
  ∀k,k<=xs.length->Part xs D (λm=>(jj xs gl k S).testBit m=true)/\(∀m,S.testBit m=true->(jj xs gl k S).testBit m=true)/\∀n,n<k->(jj xs gl k S).testBit n=true->EG xs (jj xs gl k S) n
 | 0,_=>⟨P,λ_ h=>h,λn h=>aG⟩
 | k+1,Px=>by
  obtain⟨Q,hm,hf⟩:=tR hk hA WW P k aG;rw[jj];generalize jj xs gl k S=U at Q hm hf;obtain⟨t,ht⟩:=fQ (xs:=xs) (i:=k) aG;have ek:=ki ht;have fin:∀U':Nat,Part xs D (λm=>U'.testBit m=true)->(∀m,U.testBit m=true->U'.testBit m=true)->(∀m,U'.testBit m=true->m<=k->U.testBit m=true)->(U.testBit k=true->EG xs U' k)->Part xs D (λm=>U'.testBit m=true)/\(∀m,S.testBit m=true->U'.testBit m=true)/\∀n,n<k+1->U'.testBit n=true->EG xs U' n:=λU' Q' hU hb hF=>by
   refine⟨Q',λm h=>hU m (hm m h),λn hn hu=>?_⟩;have:=hb n hu aG;by_cases he:n=k
   ·subst he;exact hF this
   exact(hf n aG this).mono hU
  unfold EF;by_cases hU:U.testBit k=true
  ·rw[aZ hU];by_cases h2:kd xs k=2
   ·rw[aZ h2];have hb:=Sj (xs:=xs) sd.le (n:=k) U;have yM:(λm=>((cV xs k).foldl CR U).testBit m=true)=λm=>U.testBit m=true∨(Kc xs k m/\SS xs m):=funext λm=>propext ((hb m).trans (oT (eS sd)));refine fin _ (by rw[yM];exact sd.fo.aa6 Q hU ht (by rw[<-ek];exact h2)) (λm h=>(hb m).2 (.inl h)) (λm h kB=>?_) λ_=>⟨λ_ r hr=>?_,λe=>aG⟩
    ·rcases(hb m).1 h with h | h
     ·exact h
     have:=(sd.fo.iR ((eS sd).1 h).1).1;omega
    obtain⟨q,_,rfl,_⟩:=gx.1 hr;exact(hb _).2 (.inr (by rw[aV];exact hr))
   rw[aX h2];by_cases h3:cV xs k≠[]/\((cV xs k).all λr=>!U.testBit r.toNat)=true
   ·rw[aZ h3];have h1:t.k=1:=by
     obtain⟨⟨v,hv,e⟩,_⟩:=Q.st k hU;rw[ht,bc]at hv;subst hv;omega
    obtain⟨hG,hH⟩:=WW k t ht h1 h3.1;have hb:=nY sd.fo sd.le (d:=(k:Int)) aG (gl k) U hH;have h0:∀c,Kc xs k c->¬U.testBit c=true:=λc hc hu=>by
     have:=dY.1 h3.2 _ ((eS sd).2 ⟨hc,(Q.st c hu).1⟩);rw[aV,hu]at this;cases this
    have yM:(λm=>(jz xs k (gl k) U).testBit m=true)=λm=>U.testBit m=true∨((k:Int)<m/\∃g:Nat,(g:Int)∈gl k/\jv xs m g):=funext λm=>propext (hb m);refine fin _ (by rw[yM];exact sd.fo.Wm hk hA Q hU h0 hG) (λm h=>(hb m).2 (.inl h)) (λm h kB=>?_) λ_=>⟨λe=>absurd e h2,λ_=>.inr ?_⟩
    ·rcases(hb m).1 h with h | ⟨h,_⟩
     ·exact h
     omega
    obtain⟨g,hg⟩:=hG.ne;obtain⟨c,c1,c2⟩:=sd.fo.xF g (hG.bl g hg).1;have hc:(jz xs k (gl k) U).testBit c=true:=(hb c).2 (.inr ⟨(sd.fo.iR c1).1,g,hg,c2⟩);obtain⟨hs,_⟩:=sd.fo.mC hk hG (sd.fo.iR c1).1 hg c2;exact⟨c,(eS sd).2 ⟨c1,hs⟩,by rw[aV];exact hc⟩
   rw[aX h3];refine fin _ Q (λ_ h=>h) (λ_ h _=>h) λ_=>⟨λe=>absurd e h2,λ_=>?_⟩
   by_cases h4:cV xs k=[]
   ·exact .inl h4
   refine .inr ?_;have:¬((cV xs k).all λr=>!U.testBit r.toNat)=true:=λh=>h3 ⟨h4,h⟩;obtain⟨r,hr,hb⟩:=List.all_eq_false.1 (ft.2 this);exact⟨r,hr,abj⟩
  rw[aX hU];exact fin _ Q (λ_ h=>h) (λ_ h _=>h) λh=>absurd h hU
end
theorem Bc{α:Type}{p:α->Bool}:∀{l:List α},(∀x,x∈l->p x=false)->l.countP p=0
 | [],_=>rfl
 | x::l,h=>by rw[List.countP_cons_of_neg (by rw[h x (.head _)];simp),Bc λy hy=>h y (.tail _ hy)]
theorem CS{p:Int->Bool}:∀{l:List Int},l.Pairwise (· <·)->(∃x,x∈l/\p x=true)->(∀x y,x∈l->y∈l->p x=true->p y=true->x=y)->l.countP p=1
 | [],_,⟨x,hx,_⟩,_=>by simp at hx
 | x::l,hr,⟨y,hy,hp⟩,h1=>by
  rw[dM]at hr;cases hx:p x with
  | true=>
   rw[xR hx,Bc];intro z hz;cases hzp:p z with
   | false=>rfl
   | true=>
    have:=h1 x z (.head _) (.tail _ hz) hx hzp;have:=hr.1 z hz;omega
  | false=>
   rw[List.countP_cons_of_neg (by rw[hx];simp)];rcases aR.1 hy with e | e
   ·subst e;rw[hp]at hx;cases hx
   ·exact CS hr.2 ⟨y,e,hp⟩ λa b ha hb=>h1 a b (.tail _ ha) (.tail _ hb)
section
variable {xs:List cR} (sd:Sd xs) {D:Int->Prop} {S:Nat} {nx act:List Int}
include sd
theorem EH{x:Nat}(h:SS xs x):wF (kd xs x)=true/\(kd xs x=1∨kd xs x=2):=by
 obtain⟨t,h1,h2⟩:=h;rw[ki h1];refine⟨?_,h2⟩;unfold wF;rw[bU,de,de];exact h2
theorem Sk{x:Nat}(P:Part xs D λm=>S.testBit m=true)(h1:kd xs x=1)(hn:∀r,r∈cV xs x->(r∈nx↔S.testBit r.toNat=true))(he:∃r,r∈cV xs x/\S.testBit r.toNat=true):mO xs nx x=true:=by
 have hc:Hn xs nx x=1:=by
  refine CS (nW xs x) ?_ λa b ha hb pa pb=>?_
  ·obtain⟨r,hr,hb⟩:=he;exact⟨r,hr,bL ((hn r hr).2 hb)⟩
  have ea:=(hn a ha).1 (aP pa);have eb:=(hn b hb).1 (aP pb);obtain⟨q,u,rfl,hq,_⟩:=gx.1 ha;obtain⟨q',u',rfl,hq',_⟩:=gx.1 hb;rw[aV]at ea eb;have k1:=((eS sd).1 ha).1;have k2:=((eS sd).1 hb).1;obtain⟨t,ht⟩:∃t,xs[x]? =some t:=by
   cases hx:xs[x]? with
   | some t=>exact⟨t,rfl⟩
   | none=>
    unfold kd at h1;rw[aV,hx]at h1;exact absurd h1 aN
  have:=P.one x t ht (by rw[<-ki ht];exact h1) q q' k1 k2 ea eb;rw[this]
 unfold mO;rw[aX aG,hc];obtain⟨r,hr,_⟩:=he;have:=List.length_pos_of_mem hr;rw[Nat.min_eq_left aG];rfl
theorem Mj{x:Nat}(P:Part xs D λm=>S.testBit m=true)(hf:∀n,S.testBit n=true->EG xs S n)(hx:S.testBit x=true)(hn:∀r,r∈cV xs x->(r∈nx↔S.testBit r.toNat=true)):mO xs nx x=true:=by
 obtain⟨_,Ff⟩:=EH sd (P.st x hx).1;rcases Ff with h1 | h2
 ·rcases(hf x hx).2 h1 with e | he
  ·unfold mO Hn;rw[aX aG,e];rfl
  exact Sk sd P h1 hn he
 unfold mO Hn;rw[aZ h2,de,List.countP_eq_length];exact λr hr=>bL ((hn r hr).2 ((hf x hx).1 h2 r hr))
theorem EI(P:Part xs D λm=>S.testBit m=true){x:Nat}(h:S.testBit x=true):x<xs.length:=by
 obtain⟨_,_,_,hb⟩:=P.st x h;exact hb.2.1
theorem Sm(P : Part xs (λd => d = -1) λm => S.testBit m = true)(hf : ∀ n, S.testBit n = true -> EG xs S n)(hr : nx.Pairwise (· < ·))(hm : ∀ x, x ∈ nx ↔ ∃ n : Nat, x = n /\ S.testBit n = true) : Lg xs nx where
  rt := by
    obtain ⟨c, ⟨t, h1, h2⟩, h3⟩ := P.top (-1) rfl
    have : c = 0 := by
      refine Nat.eq_zero_of_not_pos λh0 => ?_
      obtain ⟨p, s, _, e, _⟩ := sd.fo.par h1 h0
      omega
    subst this
    exact (hm 0).2 ⟨0, rfl, h3⟩
  rise := hr
  at_ := by
    intro x hx
    obtain ⟨n, rfl, hb⟩ := (hm x).1 hx
    obtain ⟨hs, _⟩ := P.st n hb
    refine ⟨aG, by have := EI sd P hb; omega, (EH sd hs).1, ?_, ?_⟩
    · by_cases h0 : n = 0
      · exact .inl aG
      · refine .inr λs wx => ?_
        rw [aV] at wx
        rcases P.up n s hb wx with e | ⟨p, e, hp⟩
        · obtain ⟨p, s', _, e', _⟩ := sd.fo.par wx aG
          omega
        · rw [e]; exact (hm p).2 ⟨p, rfl, hp⟩
    · rw [aV]
      refine Mj sd P hf hb λr hr => ?_
      obtain ⟨q, _, rfl, _⟩ := gx.1 hr
      rw [hm, aV]
      exact ⟨λ⟨m, e, h⟩ => by obtain rfl : m = q := (by omega); exact h, λh => ⟨q, rfl, h⟩⟩
theorem Sn(hA:Ap xs D)(A:Lg xs act)(hD:∀d,D d->∃k:Nat,d=k/\(k:Int)∈act/\kd xs k=1)(P:Part xs D λm=>S.testBit m=true)(hf:∀n,S.testBit n=true->EG xs S n)(hr:nx.Pairwise (· <·))
  (hm:∀x,x∈nx↔∃n:Nat,x=n/\((x∈act/\∀d,D d->¬Sb xs d n)∨S.testBit n=true)):Lg xs nx:=by
 have F:=sd.fo;have dn:∀d,D d->∀d',D d'->∀k:Nat,d=k->¬Sb xs d' k:=λd h d' h' k e hb=>by
  obtain⟨c,hc,hs⟩:=P.top d h;have h1:=F.iR hc;have h2:Sb xs (k:Int) c:=by rw[<-e];exact h1
  have:=hA d d' c h h' h1 (F.qz hb h2);have:=hb.1;omega
 refine⟨(hm 0).2 ⟨0,rfl,.inl ⟨A.rt,λd h hb=>?_⟩⟩,hr,λx hx=>?_⟩
 ·obtain⟨k,rfl,_⟩:=hD d h;have:=hb.1;omega
 obtain⟨n,rfl,⟨ha,hb⟩ | hb⟩:=(hm x).1 hx
 ·obtain⟨g1,g2,g3,g4,g5⟩:=A.at_ n ha;rw[aV]at g4 g5;have hn:n<xs.length:=aG
  obtain⟨t,ht⟩:=fQ hn;have sub:∀(q:Nat),Kc xs n q->∀d,D d->Sb xs d q->(n:Int)=d:=λq hq d h h'=>(F.Bo hq h').elim id λh''=>absurd h'' (hb d h);refine⟨aG,aG,g3,g4.imp id λh s hs=>?_,?_⟩
  ·rw[aV]at hs;have hp:=h s hs;refine(hm _).2 ?_;obtain⟨p,e⟩:∃p:Nat,s.pa=p:=⟨s.pa.toNat,by have:=(A.at_ _ hp).ge;omega⟩
   refine⟨p,e,.inl ⟨hp,λd h jC=>hb d h ?_⟩⟩;have hk:Kc xs (p:Int) n:=⟨s,hs,e⟩
   exact F.qz jC (F.iR hk)
  ·rw[aV];by_cases hx:D n
   ·obtain⟨k,e,_,h1⟩:=hD _ hx;have:k=n:=aG
    subst this;have apI:∀r,r∈cV xs k->(r∈nx↔S.testBit r.toNat=true):=λr hr=>by
     obtain⟨q,_,rfl,_⟩:=gx.1 hr;have hq:=((eS sd).1 hr).1;rw[hm,aV];constructor
     ·rintro⟨m,e,⟨_,h⟩ | h⟩
      ·have:m=q:=aG
       subst this;exact absurd (F.iR hq) (h _ hx)
      ·have:m=q:=aG
       subst this;exact h
     ·exact λh=>⟨q,rfl,.inr h⟩
    obtain⟨c,hc,hs⟩:=P.top _ hx;exact Sk sd P h1 apI ⟨c,(eS sd).2 ⟨hc,(P.st c hs).1⟩,by rw[aV];exact hs⟩
   ·have e:Hn xs nx n=Hn xs act n:=by
     unfold Hn;refine List.countP_congr λr hr=>?_;obtain⟨q,u,rfl,hu,hup,_⟩:=gx.1 hr;have hq:=((eS sd).1 hr).1;rw[bJ,bJ,hm];constructor
     ·rintro⟨m,e,h | h⟩
      ·exact h.1
      ·have:m=q:=aG
       subst this;rcases P.up m u h hu with e | ⟨p,e,hp⟩
       ·rw[hup]at e;exact absurd e hx
       ·have:p=n:=aG
        subst this;obtain⟨_,d,h,jC⟩:=P.st p hp;exact absurd jC (hb d h)
     ·refine λh=>⟨q,rfl,.inl ⟨h,λd hd jC=>hx ?_⟩⟩
      rw[sub q hq d hd jC];exact hd
    unfold mO at g5⊢;rw[e];exact g5
 ·obtain⟨hs,d0,hd0,yK⟩:=P.st n hb;refine⟨aG,by have:=EI sd P hb;omega,(EH sd hs).1,.inr λs wx=>?_,?_⟩
  ·rw[aV]at wx;rcases P.up n s hb wx with e | ⟨p,e,hp⟩
   ·obtain⟨k,ek,ha,_⟩:=hD _ e;exact(hm _).2 ⟨k,ek,.inl ⟨by rw[ek];exact ha,λd h=>dn _ e d h k ek⟩⟩
   ·rw[e];exact(hm p).2 ⟨p,rfl,.inr hp⟩
  ·rw[aV];refine Mj sd P hf hb λr hr=>?_;obtain⟨q,_,rfl,_⟩:=gx.1 hr;have hq:=((eS sd).1 hr).1;rw[hm,aV];constructor
   ·rintro⟨m,e,⟨_,h⟩ | h⟩
    ·have:m=q:=aG
     subst this;exact absurd (F.qz yK (F.iR hq)) (h d0 hd0)
    ·have:m=q:=aG
     subst this;exact h
   ·exact λh=>⟨q,rfl,.inr h⟩
end
theorem Bd{s}(h:eZ s=true):s≠[]:=λe=>by subst e;exact absurd h aN
mutual
def O9:Nd->List Nd
 | .mk b l=>.mk b l::Sp l
def Sp:List Nd->List Nd
 | []=>[]
 | x::l=>O9 x++Sp l
end
mutual
theorem EJ:∀x,(O9 x).length=jd x
 | .mk b l=>by rw[O9,jd,bp,Ml]
theorem Ml:∀l,(Sp l).length=fe l
 | []=>by rw[Sp,fe];rfl
 | x::l=>by rw[Sp,fe,aW,EJ,Ml]
end
mutual
theorem Mm:∀x,(O9 x).map (λy=>y.b)=sZ x
 | .mk b l=>by rw[O9,sZ,bG,Yc];rfl
theorem Yc:∀l,(Sp l).map (λy=>y.b)=A7 l
 | []=>by rw[Sp,A7];rfl
 | x::l=>by rw[Sp,A7,dc,Mm,Yc]
end
def aaL(xs:List cR)(vs:List (aJ))(a:Nat)(x:Nd):Prop:=∃pa dp,vZ xs (Ei a pa dp x) a/\zf xs x.b x.kids a=[]/\(∀m,m∈x.b.mv->GU xs vs m=[])/\AO x.b x.kids.length=true/\∀y,y∈x.kids->∃d,qn d y=true
section
variable {xs:List cR} {vs:List (aJ)}
theorem CT:∀{l:List Nd} {d:Nat} {y:Nd},nE d l=true->y∈l->qn d y=true
 | [],_,_,_,h=>aaH
 | x::l,d,y,h,hy=>by
  rw[nE,aU]at h;rcases aR.1 hy with rfl | hy
  ·exact h.1
  exact CT h.2 hy
mutual
theorem Mn:∀(x:Nd) (a d:Nat) (pa dp:Int),Rv xs vs a x=[]->qn d x=true->vZ xs (Ei a pa dp x) a->∀i y,(O9 x)[i]? =some y->aaL xs vs (a+i) y
 | .mk b l,a,d,pa,dp,h,mP,hs,i,y,hy=>by
  rw[Rv]at h;obtain⟨h1,h2⟩:=dU.1 h;obtain⟨h2,h3⟩:=dU.1 h2;obtain⟨h3,h4⟩:=dU.1 h3;rw[qn,aU,aU]at mP;obtain⟨⟨_,hb⟩,hko⟩:=mP;rw[O9]at hy;cases i with
  | zero=>
   rw[cO,bc]at hy;subst hy;exact⟨pa,dp,hs,h1,λm hm=>List.flatMap_eq_nil_iff.1 h3 m hm,hb,λy hy=>⟨d+1,CT hko hy⟩⟩
  | succ i=>
   rw[dl]at hy;rw[Ei]at hs;have wx:vZ xs (qp (a+1) a (dp+1) l) (a+1):=λi x hi=>by rw[eU,jp 1 i];exact hs (i+1) x hi
   have:=Hr l (a+1) (d+1) a (dp+1) h4 hko wx i y hy;rwa[eU,jp 1 i]at this
theorem Hr:∀(l:List Nd) (a d:Nat) (pa dp:Int),rh xs vs a l=[]->nE d l=true->vZ xs (qp a pa dp l) a->∀i y,(Sp l)[i]? =some y->aaL xs vs (a+i) y
 | [],_,_,_,_,_,_,_,i,y,hy=>by rw[Sp]at hy;simp at hy
 | x::l,a,d,pa,dp,h,mP,hs,i,y,hy=>by
  rw[rh]at h;obtain⟨h1,h2⟩:=dU.1 h;rw[nE,aU]at mP;rw[qp]at hs;rw[Sp]at hy;have PD:=EJ x;by_cases hi:i<jd x
  ·rw[bK aG]at hy;exact Mn x a d pa dp h1 mP.1 hs.left i y hy
  rw[bX aG,PD]at hy;have hr:=hs.right;rw[mw]at hr;have:=Hr l (a+jd x) d pa dp h2 mP.2 hr _ y hy;rwa[show a+jd x+(i-jd x)=a+i by omega]at this
end
theorem Hs{pa dp}:∀{l:List Nd} {a i:Nat} {s:cR},(qp a pa dp l)[i]? =some s->s.pa=pa->pa<a->∃y,y∈l/\s.k=y.b.k/\s.nm=y.b.nm
 | [],a,i,s,h,_,_=>by rw[qp]at h;simp at h
 | .mk b ks::l,a,i,s,h,hp,ha=>by
  rw[qp]at h;have hl:=mw a pa dp (.mk b ks);by_cases hi:i<jd (.mk b ks)
  ·rw[bK aG]at h;obtain⟨h1,h2,h3,h4⟩:=Ej a pa dp _ i s h;by_cases h0:i=0
   ·subst h0;rw[Ei,cO,bc]at h;subst h;exact⟨_,.head _,rfl,rfl⟩
   obtain⟨p,t,_,_,e,_⟩:=h4 aG;omega
  rw[bX aG,hl]at h;obtain⟨y,hy,e⟩:=Hs h hp aG;exact⟨y,.tail _ hy,e⟩
theorem Ht{y}{pa dp}:∀{l:List Nd} a,y∈l->∃(j:Nat) (t:cR),(qp a pa dp l)[j]? =some t/\t.pa=pa/\t.k=y.b.k
 | [],_,h=>aaH
 | .mk b ks::l,a,h=>by
  rw[qp];rw[aR]at h;rcases h with rfl | h
  ·exact⟨0,_,rfl,rfl,rfl⟩
  obtain⟨j,t,h1,h2⟩:=Ht _ h;exact⟨(Ei a pa dp (.mk b ks)).length+j,t,by rw[bX aG,ez];exact h1,h2⟩
end
structure Snd (c:Ch) (xs:List cR) (vs:List (aJ)):Prop where
 fo:Fo xs
 le:xs.length<=64
 len:xs.length=jd c.root
 nd:(xs.map λx:cR=>x.nm).Nodup
 rt:c.root.b.k=1
 nice:∀i y,(O9 c.root)[i]? =some y->aaL xs vs i y
theorem Sq{c}(h:(jy c).1=0):Snd c (cH c) (En c):=by
 obtain⟨h1,h2⟩:=uQ h;have mP:=N4 h1;unfold GP at mP;simp only[aU]at mP;obtain⟨g1,g2⟩:=dU.1 h2;obtain⟨g2,g3⟩:=dU.1 g2;have hnd:=(CN g1).1;rw[(Ru 0 (-1) 0 c.root).symm]at hnd;have hd:=aP mP.2;have fl:(cH c).length=jd c.root:=mw 0 _ 0 c.root;refine⟨Ek c,aG,fl,hnd,hd.1,λi y hy=>?_⟩;have:=Mn c.root 0 0 _ 0 g3 mP.1.2 (λi x hi=>by rw[bM];exact hi) i y hy;rwa[bM]at this
section
variable {c:Ch} {xs:List cR} {vs:List (aJ)} (N:Snd c xs vs)
include N
theorem Snd.at_{i}{t}(h:xs[i]? =some t):∃b l pa dp,(O9 c.root)[i]? =some (.mk b l)/\t=⟨b.k,b.nm,pa,dp,((i+jd (.mk b l):Nat))⟩/\vZ xs (qp (i+1) i (dp+1) l) (i+1)/\zf xs b l i=[]/\(∀m,m∈b.mv->GU xs vs m=[])/\AO b l.length=true/\∀y,y∈l->∃d,qn d y=true:=by
 have hi:i<(O9 c.root).length:=by rw[EJ,<-N.len];exact eT h
 obtain⟨y,hy⟩:∃y,(O9 c.root)[i]? =some y:=⟨_,aQ hi⟩
 obtain⟨pa,dp,h1,h2,h3,h4,h5⟩:=N.nice i y hy;obtain⟨b,l⟩:=y;have h0:=h1 0 _ rfl;rw[fE,h,bc]at h0;refine⟨b,l,pa,dp,hy,?_,λj x hj=>?_,h2,h3,h4,h5⟩
 ·rw[h0];congr 1;rw[jd];omega
 have:=h1 (j+1) x hj;rwa[show i+_=i+1+j by omega]at this
theorem Snd.kn{i:Nat}{t}(h:xs[i]? =some t):1<=t.k/\t.k<=4:=by
 obtain⟨b,l,pa,dp,_,rfl,_,_,_,hb,_⟩:=N.at_ h;dsimp only;unfold AO at hb;by_cases hh:fM b.k=true
 ·have:=aP hh;omega
 rw[aX hh]at hb;simp only[aU]at hb;have:=(aP hb.2.1.1.1.1).1;omega
theorem Snd.hk(n k:Nat)(h:Kc xs n k):SS xs n:=by
 have hb:=N.fo.iR h;obtain⟨h1,h2,h3⟩:=hb;rcases h3 with h3 | ⟨m,e,u,u1,u2,u3⟩
 ·omega
 have:m=n:=aG
 subst this;refine⟨u,u1,?_⟩;obtain⟨b,l,pa,dp,_,rfl,_,_,_,hb,_⟩:=N.at_ u1;dsimp only at u3⊢;unfold AO at hb;by_cases hh:fM b.k=true
 ·rw[aZ hh]at hb;simp only[aU]at hb;have:=(aP hb.2.2).2.2.2.2;have:=ob.1 this;subst this;rw[jd,fe]at u3;omega
 rw[aX hh]at hb;simp only[aU]at hb;exact(aP hb.2.1.1.1.1).1
theorem Snd.Wn{n}{t}{b}{l}{dp}(ht:xs[n]? =some t)(he:t.en=((n+jd (.mk b l):Nat):Int))(hs:vZ xs (qp (n+1) n (dp+1) l) (n+1))(hr:cV xs n≠[]):0<Lw l:=by
 obtain⟨r,hr⟩:=gD _ hr;obtain⟨q,u,rfl,hu,hp,hk⟩:=gx.1 hr;obtain⟨h1,h2,h3⟩:=N.fo.iR ⟨u,hu,hp⟩;rcases h3 with h3 | ⟨m,e,v,v1,v2,v3⟩
 ·omega
 have:m=n:=aG
 subst this;rw[ht,bc]at v1;subst v1;rw[he,jd]at v3;have hl:=tJ (m+1) m (dp+1) l;obtain⟨s,wx⟩:=fQ (xs:=qp (m+1) m (dp+1) l) (i:=q-(m+1)) aG;have:=hs _ s wx;rw[show m+1+_=q by omega,hu,bc]at this;subst this;obtain⟨y,hy,e1,_⟩:=Hs wx hp aG;refine List.length_pos_of_mem (dv.2 ⟨hy,?_⟩);unfold wF at hk;rw[bU,de,de]at hk;unfold fM;rw[dj,dq];omega
theorem Snd.MM{n}{l}{dp}(hs:vZ xs (qp (n+1) n (dp+1) l) (n+1))(h:0<Lw l):cV xs n≠[]:=by
 obtain⟨y,hy⟩:=List.exists_mem_of_length_pos h;obtain⟨hy,hh⟩:=dv.1 hy;obtain⟨j,t,h1,h2,h3⟩:=Ht (pa:=n) (dp:=dp+1) _ hy;have ht:=hs j t h1;have:=N.kn ht;have hm:=gx.2 ⟨_,t,rfl,ht,h2,by
  unfold fM at hh;rw[dj,dq]at hh;unfold wF;rw[bU,de,de];omega⟩
 exact kw hm
theorem Snd.sd:Sd xs:=by
 refine⟨N.fo,N.le,λi s h=>N.kn h,?_,λi s hs hk=>?_⟩
 ·obtain⟨t,ht⟩:=fQ N.fo.ne;refine⟨t,ht,?_⟩;obtain⟨b,l,pa,dp,h1,rfl,_⟩:=N.at_ ht;have hr:=N.rt;generalize c.root=r at h1 hr;obtain⟨b',l'⟩:=r;rw[O9,cO,bc]at h1;injection h1 with h1;subst h1;exact hr
 obtain⟨b,l,pa,dp,_,rfl,h2,h3,_⟩:=N.at_ hs;dsimp only at hk;unfold zf at h3;rw[aX (by unfold fM;rw[hk];decide),aZ hk]at h3;have:=tK.1 h3;rw[aU,bJ,bJ]at this;exact N.MM h2 aG
theorem Snd.ini{n}{t}{b}(h:xs[n]? =some t)(hb:(sZ c.root)[n]? =some b)(h1:t.k=1)(hr:cV xs n≠[]):∃q:Nat,mA xs b.ini=q/\Kc xs n q:=by
 obtain⟨b',l,pa,dp,e0,rfl,h2,h3,_,h4,h5⟩:=N.at_ h;have eb:b'=b:=by
  rw[<-Mm,bW,e0]at hb;injection hb
 subst eb;dsimp only at h1;unfold zf at h3;rw[aX (by unfold fM;rw[h1];decide),aX aG,aZ (N.Wn h rfl h2 hr)]at h3;have MY:=tK.1 h3;obtain⟨i,x,g1,g2,g3,_⟩:=Mf MY h2;have fX:b'.ini≠[]:=by
  obtain⟨y,hy,e⟩:=fF.1 MY;rw[<-aP e];obtain⟨d,hd⟩:=h5 y hy;obtain⟨by_,ly⟩:=y;rw[qn,aU,aU]at hd;have:=hd.1.2;unfold AO at this;rw[aU]at this;exact Bd this.1
 refine⟨i,?_,x,g1,g3⟩;unfold mA;rw[aX fX,<-g2];exact Hj N.nd g1
theorem Snd.dft{n:Nat}{t}{b}(h:xs[n]? =some t)(hb:(sZ c.root)[n]? =some b)(h1:fM t.k=true):∃q:Nat,mA xs b.dft=q/\SS xs q/\Sb xs t.pa q:=by
 obtain⟨b',l,pa,dp,e0,et,h2,h3,_,h4,h5⟩:=N.at_ h;have eb:b'=b:=by
  rw[<-Mm,bW,e0]at hb;injection hb
 subst eb;have e1:t.k=b'.k:=by rw[et]
 rw[e1]at h1;unfold zf at h3;rw[aZ h1]at h3;have:=tK.1 h3;rw[aU,om]at this;obtain⟨nS,i,j,ei,ej,rO,hc⟩:=this;unfold stM at nS;rw[aU,bJ]at nS;unfold AO at h4;rw[aZ h1]at h4;simp at h4;have hl:=N.fo.pF hc;obtain⟨u,hu⟩:=fQ hl;refine⟨j,?_,⟨u,hu,?_⟩,?_⟩
 ·unfold mA;rw[aX (Bd h4.2.1)];exact ej
 ·have hk:=nS.2;rw[ej,fR hu]at hk;have:=N.kn hu;unfold fM at hk;rw[dj,dq]at hk;omega
 rw[<-lj h,ei];exact⟨aG,hl,.inr ⟨i,rfl,hc⟩⟩
end
def Cn(xs:List cR)(G:aL):Prop:=∀(n:Nat) (t:cR) (c c' g g':Nat),xs[n]? =some t->t.k=1->Kc xs n c->Kc xs n c'->G g->G g'->jv xs c g->jv xs c' g'->c=c'
abbrev xv:=Int->Option (List Int)
def dT(xs:List cR)(dft:List Int)(M:xv)(t:Int):List Int:=
 if t<0∨(xs.length:Int)<=t then[]else if fM (li xs t)then(match M t with
  | some l=>l
  | none=>[(dft[t.toNat]?).getD 0])else[t]
def qy(xs:List cR)(M:xv):Prop:=∀(n:Nat) (t:cR) (l:List Int),xs[n]? =some t->fM t.k=true->M n=some l->l≠[]/\(∀g,g∈l->∃k:Nat,g=k/\SS xs k/\Sb xs t.pa k)/\Cn xs λk=>(k:Int)∈l
theorem qy.none(xs:List cR):qy xs λ_=>none:=λ_ _ _ _ _ h=>aaH
theorem Be{α:Type}{R:α->α->Prop}:∀{l:List α} {a b:α},l.Pairwise R->a∈l->b∈l->a≠b->R a b∨R b a
 | [],_,_,_,h,_,_=>aaH
 | x::l,a,b,h,ha,hb,hn=>by
  rw[dM]at h;rcases aR.1 ha with rfl | OS<;>rcases aR.1 hb with rfl | qC
  ·exact absurd rfl hn
  ·exact .inl (h.1 b qC)
  ·exact .inr (h.1 a OS)
  exact Be h.2 OS qC hn
theorem Hu{xs:List cR}:∀{r:List (aJ)} {l:List Int},O6 xs l r=true->(∀s,s∈r->∀o,o∈l->El xs (BD xs s) o=true)/\r.Pairwise λs s'=>El xs (BD xs s') (BD xs s)=true
 | [],l,_=>⟨λ_ h=>aaH,List.Pairwise.nil⟩
 | s::r,l,h=>by
  rw[O6]at h;by_cases h1:gw xs s<1
  ·rw[aZ h1]at h;cases h
  rw[aX h1]at h;by_cases h2:(l.any λo=>!El xs (BD xs s) o)=true
  ·rw[aZ h2]at h;cases h
  rw[aX h2]at h;obtain⟨g1,g2⟩:=Hu h;refine⟨λs' hs o ho=>?_,dM.2 ⟨λs' hs=>g1 s' hs _ aaa,g2⟩⟩;rcases aR.1 hs with rfl | hs
  ·cases ha:El xs (BD xs s') o with
   | true=>rfl
   | false=>exact absurd (fF.2 ⟨o,ho,by rw[ha];rfl⟩) h2
  exact g1 s' hs o (ci.2 (.inl ho))
section
variable {xs:List cR} (F:Fo xs)
include F
theorem Fo.Wo{a b:Nat}(ha:a<xs.length)(hb:b<xs.length):∃m:Nat,CB xs a b=m/\jv xs m a/\jv xs m b/\∀j,jv xs j a->jv xs j b->j<=m:=by
 have key:∀j:Nat,(oE xs j a&&oE xs j b)=true↔jv xs j a/\jv xs j b:=λj=>by
  rw[aU,ol,ol];constructor
  ·rintro⟨⟨i,k,e1,e2,h⟩,⟨i',k',e1',e2',h'⟩⟩;have:i=j:=aG
   have:i'=j:=aG
   have:k=a:=aG
   have:k'=b:=aG
   subst_vars;exact⟨h,h'⟩
  rintro⟨h,h'⟩;exact⟨⟨j,a,rfl,rfl,h⟩,⟨j,b,rfl,rfl,h'⟩⟩
 rcases xh (xs:=xs) a b xs.length with⟨_,h⟩ | ⟨m,h1,h2,h3,h4⟩
 ·have:=h 0 F.ne;rw[(key 0).2 ⟨F.tq ha,F.tq hb⟩]at this;cases this
 obtain⟨c1,c2⟩:=(key m).1 h3;refine⟨m,h1,c1,c2,λj Pj Yw=>qL λcd=>?_⟩;have iY:j<xs.length:=by
  obtain⟨_,e,_⟩:=Pj;exact eT e
 have:=h4 j cd iY;rw[(key j).2 ⟨Pj,Yw⟩]at this;cases this
theorem Fo.S5{a b:Nat}(ha:a<xs.length)(hb:b<xs.length)(h:El xs a b=true){n c c' g g':Nat}{t:cR}(hn:xs[n]? =some t)(h1:t.k=1)(hc:Kc xs n c)(rN:Kc xs n c')(hg:jv xs a g)(yt:jv xs b g')(Y6:jv xs c g)(HX:jv xs c' g'):c=c':=by
 obtain⟨m,e,c1,c2,HP⟩:=F.Wo ha hb;unfold El at h;rw[aU,bJ,bJ,e]at h;obtain⟨⟨n1,n2⟩,h2⟩:=h;have hmg:=F.kH c1 hg;have apK:=F.kH c2 yt;have cvn:jv xs n c:=by
  obtain⟨_,_,h3⟩:=F.iR hc;rcases h3 with h3 | ⟨k,e,h3⟩
  ·omega
  have:k=n:=aG
  rw[<-this];exact h3
 have apL:jv xs n c':=by
  obtain⟨_,_,h3⟩:=F.iR rN;rcases h3 with h3 | ⟨k,e,h3⟩
  ·omega
  have:k=n:=aG
  rw[<-this];exact h3
 have hng:=F.kH cvn Y6;have acP:=F.kH apL HX;rcases Nat.lt_trichotomy n m with cd | heq | YZ
 ·have hnm:=F.jJ hng hmg (Nat.le_of_lt cd);obtain⟨c0,k1,k2⟩:=F.xF (d:=(n:Int)) m ⟨aG,F.pF hnm,.inr ⟨n,rfl,hnm⟩⟩;have e1:=F.E2 hc k1 Y6 (F.kH k2 hmg);have e2:=F.E2 rN k1 HX (F.kH k2 apK);omega
 ·subst heq;rw[fR hn]at h2;omega
 exfalso;by_cases hna:n<=a
 ·have ca:=F.jJ hng hg hna;by_cases xG:n<=b
  ·have:=HP n ca (F.jJ acP yt xG);omega
  have:=F.jJ yt acP aG;have:=HP b (F.kH this ca) (F.kj hb);have:b<=m:=this;have h4:m<=b:=by obtain⟨_,_,h,_⟩:=c2;exact h
  omega
 have cn:=F.jJ hg hng aG;have cg:=F.kH cn acP;rcases Nat.le_total a b with hab | hab
 ·have:=HP a (F.kj ha) (F.jJ cg yt hab);have h4:m<=a:=by obtain⟨_,_,h,_⟩:=c1;exact h
  omega
 have:=HP b (F.jJ yt cg hab) (F.kj hb);have h4:m<=b:=by obtain⟨_,_,h,_⟩:=c2;exact h
 omega
end
section
variable {xs:List cR} (F:Fo xs) {l:List Int}
include F
theorem Mo:∀(f d:Nat),d<xs.length->d<=f->(∀n,n∈l->∃k:Nat,n=k/\jv xs d k)->∃r:Nat,Ji xs l f d=r/\r<xs.length/\(∀n,n∈l->∃k:Nat,n=k/\jv xs r k)/\(r=0∨li xs r=1/\(r:Int)∉l)
 | 0,d,h,hf,hc=>⟨d,rfl,h,hc,.inl aG⟩
 | f+1,d,h,hf,hc=>by
  unfold Ji;by_cases hd:0<(d:Int)/\(li xs d≠1∨(d:Int)∈l)
  ·rw[aZ hd];obtain⟨t,ht⟩:=fQ h;obtain⟨p,s,e1,e2,e3,_,e5,_⟩:=F.par ht aG;rw[lj ht,e2];exact Mo f p (eT e3) aG λn hn=>by
    obtain⟨k,e,hk⟩:=hc n hn;exact⟨k,e,F.kH ⟨s,e3,aG,e5⟩ hk⟩
  rw[aX hd];refine⟨d,rfl,h,hc,?_⟩;by_cases h0:d=0
  ·exact .inl h0
  refine .inr ⟨?_,λh=>hd ⟨aG,.inr h⟩⟩;exact Decidable.not_not.1 λh=>hd ⟨aG,.inl h⟩
theorem V0{a:Nat}{tg:List Int}(ha:a<xs.length)(h:∀t,t∈tg->pf xs t)(fX:tg≠[]):∃r:Nat,EA xs a tg=r/\r<xs.length/\(∀n,n∈(a:Int)::tg->∃k:Nat,n=k/\jv xs r k)/\(r=0∨li xs r=1/\(r:Int)∉(a:Int)::tg):=by
 unfold EA mtM;rw[aX fX,aX]
 ·rcases wa xs ((a:Int)::tg) xs.length with⟨_,g⟩ | ⟨q,g1,g2,g3,g4⟩
  ·have:=g 0 F.ne;rw[wb.2]at this
   ·cases this
   intro n hn;rcases aR.1 hn with rfl | hn
   ·exact⟨a,rfl,F.tq ha⟩
   obtain⟨b1,b2⟩:=h n hn;exact⟨n.toNat,aG,F.tq aG⟩
  rw[g1];exact Mo F _ q g2 aG (wb.1 g3)
 rintro(e | e)
 ·cases e
 obtain⟨n,hn,hb⟩:=fF.1 e;rw[dj,ft]at hb;refine hb (A6.2 ?_);rcases aR.1 hn with rfl | hn
 ·exact⟨aG,aG⟩
 exact h n hn
end
section
variable {c:Ch} {xs:List cR} {vs:List (aJ)} (N:Snd c xs vs) {M:xv} (hM:qy xs M) {dft:List Int} (xP:dft=(sZ c.root).map λb=>mA xs b.dft)
include N hM xP
theorem Snd.Wp{n:Nat}{t:cR}(h:xs[n]? =some t):dT xs dft M n≠[]/\(Cn xs λk=>(k:Int)∈dT xs dft M n)/\∀g,g∈dT xs dft M n->∃k:Nat,g=k/\SS xs k/\((fM t.k=false/\k=n)∨(fM t.k=true/\Sb xs t.pa k)):=by
 unfold dT;have hl:=eT h;rw[aX aG,fR h];have hk:=N.kn h;cases hh:fM t.k with
 | false=>
  rw[aX aaa];refine⟨aaa,λm u a a' g g' h1 h2 h3 h4 hg yt h5 h6=>?_,λg hg=>⟨n,by simpa using hg,⟨t,h,?_⟩,.inl ⟨rfl,rfl⟩⟩⟩
  ·have e1:g=n:=FC (show(g:Int)=n by simpa using hg);have e2:g'=n:=FC (show(g':Int)=n by simpa using yt);subst e1 e2;exact N.fo.E2 h3 h4 h5 h6
  unfold fM at hh;rw[dq]at hh;omega
 | true=>
  rw[aZ rfl];cases hm:M n with
  | some l=>
   obtain⟨g1,g2,g3⟩:=hM n t l h hh hm;exact⟨g1,g3,λg hg=>by
    obtain⟨k,e,h1,h2⟩:=g2 g hg;exact⟨k,e,h1,.inr ⟨rfl,h2⟩⟩⟩
  | none=>
   have hb:n<(sZ c.root).length:=by rw[nQ,<-N.len];exact hl
   obtain⟨b,hb⟩:∃b,(sZ c.root)[n]? =some b:=⟨_,aQ hb⟩
   obtain⟨q,e,h1,h2⟩:=N.dft h hb hh;have ed:(dft[(n:Int).toNat]?).getD 0=q:=by
    rw[xP,aV,bW,hb];exact e
   dsimp only;rw[ed];refine⟨aaa,λm u a a' g g' _ _ h3 h4 hg yt h5 h6=>?_,λg hg=>⟨q,by simpa using hg,h1,.inr ⟨rfl,h2⟩⟩⟩;have e1:g=q:=FC (show(g:Int)=q by simpa using hg);have e2:g'=q:=FC (show(g':Int)=q by simpa using yt);subst e1 e2;exact N.fo.E2 h3 h4 h5 h6
theorem Snd.Jy{n:Nat}{t:cR}{b:Nb}(h:xs[n]? =some t)(hb:(sZ c.root)[n]? =some b)(h1:t.k=1)(hr:cV xs n≠[]):Gd xs n (λg=>(g:Int)∈dT xs dft M (mA xs b.ini))/\∀g,g∈dT xs dft M (mA xs b.ini)->pf xs g:=by
 obtain⟨q,e,hq⟩:=N.ini h hb h1 hr;obtain⟨u,hu,hp⟩:=hq;rw[e];obtain⟨g1,g2,g3⟩:=N.Wp hM xP hu;have hs:=N.fo.iR ⟨u,hu,hp⟩;have all:∀g,g∈dT xs dft M q->∃k:Nat,g=k/\SS xs k/\Sb xs n k:=λg hg=>by
  obtain⟨k,ek,h2,⟨_,e⟩ | ⟨_,h3⟩⟩:=g3 g hg
  ·exact⟨k,ek,h2,by rw[e];exact hs⟩
  exact⟨k,ek,h2,by rw[<-hp];exact h3⟩
 refine⟨⟨?_,λg hg=>?_,g2⟩,λg hg=>?_⟩
 ·obtain⟨g,hg⟩:=gD _ g1;obtain⟨k,ek,_⟩:=all g hg;exact⟨k,by rw[<-ek];exact hg⟩
 ·obtain⟨k,ek,h2,h3⟩:=all _ hg;have:k=g:=aG
  subst this;exact⟨h3,h2⟩
 obtain⟨k,ek,h2,h3⟩:=all _ hg;exact⟨aG,by have:=h3.2.1;omega⟩
theorem Snd.Wq{a:Nat}{t:cR}{b:Nb}{m:Mv}(h:xs[a]? =some t)(hb:(sZ c.root)[a]? =some b)(hm:m∈b.mv)(fX:m.tg≠[]):
  (∀s,s∈m.tg.map (mA xs)->pf xs s)/\∃d:Nat,EA xs a (m.tg.map (mA xs))=d/\kd xs d=1/\jv xs d a/\Gd xs d (λk=>∃s,s∈m.tg.map (mA xs)/\(k:Int)∈dT xs dft M s)/\∀s,s∈m.tg.map (mA xs)->∀g,g∈dT xs dft M s->pf xs g:=by
 obtain⟨b',l,pa,dp,e0,rfl,_,_,rW,mP,_⟩:=N.at_ h;have eb:b'=b:=by
  rw[<-Mm,bW,e0]at hb;injection hb
 subst eb;have F:=N.fo;have rS:O6 xs [] m.tg=true:=by
  have:=rW m hm;unfold GU at this;obtain⟨_,this⟩:=dU.1 this;obtain⟨_,this⟩:=dU.1 this;obtain⟨_,this⟩:=dU.1 this;exact tK.1 this
 have hnm:∀s,s∈m.tg->s≠[]:=λs hs=>by
  unfold AO at mP;by_cases hh:fM b'.k=true
  ·rw[aZ hh]at mP;simp only[aU]at mP;have:b'.mv=[]:=ob.1 (aP mP.2.2).2.2.2.1;rw[this]at hm;cases hm
  rw[aX hh]at mP;simp only[aU]at mP;have:=dY.1 mP.2.2 m hm;unfold AN at this;simp only[aU]at this;exact Bd (dY.1 this.1.2 s hs)
 have iW:=Me rS;have M4:∀s,s∈m.tg->∃(k:Nat) (u:cR),mA xs s=k/\1<=k/\xs[k]? =some u/\gw xs s=k:=λs hs=>by
  have h1:=iW s hs;rcases mN xs s with⟨e,_⟩ | ⟨k,u,e,hu,_⟩
  ·omega
  refine⟨k,u,?_,aG,hu,e⟩;unfold mA;rw[aX (hnm s hs)];exact e
 have hH:∀s,s∈m.tg.map (mA xs)->pf xs s:=λs hs=>by
  obtain⟨s',wx,rfl⟩:=cP.1 hs;obtain⟨k,u,e,_,hu,_⟩:=M4 s' wx;rw[e];exact⟨aG,by have:=eT hu;omega⟩
 refine⟨hH,?_⟩;obtain⟨d,e,hd,hc,hdk⟩:=V0 F (eT h) hH (by simpa using fX);have PF:kd xs d=1:=by
  obtain⟨u,hu⟩:=fQ hd;rw[ki hu];rcases hdk with rfl | ⟨hk,_⟩
  ·obtain⟨s,hs,hk⟩:=N.sd.rt;rw[hu,bc]at hs;subst hs;exact hk
  rwa[fR hu]at hk
 have hca:jv xs d a:=by
  obtain⟨k,ek,hk⟩:=hc a (.head _);have:k=a:=aG
  rw[<-this];exact hk
 have nS:∀s,s∈m.tg->∀k:Nat,mA xs s=k->1<=k->Sb xs d k:=λs hs k ek h1=>by
  have mZ:(k:Int)∈m.tg.map (mA xs):=cP.2 ⟨s,hs,ek⟩;obtain⟨k',ek',hk⟩:=hc k (.tail _ mZ);have:k'=k:=aG
  subst this;have kB:d<=k':=by obtain⟨_,_,h,_⟩:=hk;exact h
  refine⟨?_,F.pF hk,.inr ⟨d,rfl,hk⟩⟩;rcases hdk with rfl | ⟨_,hn⟩
  ·omega
  have:d≠k':=λe=>hn (.tail _ (by rw[e];exact mZ));omega
 have TY:∀s,s∈m.tg->∃A:Nat,BD xs s=A/\A<xs.length/\∀g,g∈dT xs dft M (mA xs s)->∃k:Nat,g=k/\SS xs k/\jv xs A k/\Sb xs d k:=λs hs=>by
  obtain⟨k,u,ek,h1,hu,hf⟩:=M4 s hs;obtain⟨_,_,g3⟩:=N.Wp hM xP hu;have hsb:=nS s hs k ek h1;unfold BD;rw[hf,fR hu,ek,lj hu];cases hh:fM u.k with
  | false=>
   refine⟨k,by rw[aX aaa],eT hu,λg hg=>?_⟩;obtain⟨q,eq,h2,⟨_,e⟩ | ⟨h3,_⟩⟩:=g3 g hg
   ·subst e;exact⟨q,eq,h2,F.kj (eT hu),hsb⟩
   rw[hh]at h3;cases h3
  | true=>
   obtain⟨p,s',e1,e2,e3,_⟩:=F.par hu aG;refine⟨p,by rw[aZ rfl];exact e2,eT e3,λg hg=>?_⟩;obtain⟨q,eq,h2,⟨h3,_⟩ | ⟨_,h3⟩⟩:=g3 g hg
   ·rw[hh]at h3;cases h3
   rw[e2]at h3;have hpq:jv xs p q:=by
    obtain⟨_,_,h4 | ⟨p',ep,h4⟩⟩:=h3
    ·omega
    have:p'=p:=aG
    rw[<-this];exact h4
   refine⟨q,eq,h2,hpq,?_⟩;rcases F.xE hsb hu with e | ⟨p',ep,YJ,_⟩
   ·rw[<-e,e2];exact h3
   have:p'=p:=aG
   subst this;exact F.qz YJ h3
 refine⟨d,e,PF,hca,⟨?_,?_,?_⟩,?_⟩
 ·obtain⟨s,hs⟩:=gD _ fX;obtain⟨k,u,ek,h1,hu,_⟩:=M4 s hs;obtain⟨g1,_,_⟩:=N.Wp hM xP hu;obtain⟨g,hg⟩:=gD _ g1;rw[<-ek]at hg;obtain⟨A,_,_,hA⟩:=TY s hs;obtain⟨q,eq,_⟩:=hA g hg;exact⟨q,_,cP.2 ⟨s,hs,rfl⟩,by rw[<-eq];exact hg⟩
 ·rintro g ⟨_,hs,hg⟩;obtain⟨s,u7,rfl⟩:=cP.1 hs;obtain⟨A,_,_,hA⟩:=TY s u7;obtain⟨q,eq,h2,_,h3⟩:=hA g hg;have:q=g:=aG
  subst this;exact⟨h3,h2⟩
 ·rintro n u k k' g g' hn h1 hk iy ⟨_,hs,hg⟩ ⟨_,wx,yt⟩ YO acQ;obtain⟨s,u7,rfl⟩:=cP.1 hs;obtain⟨s',aix,rfl⟩:=cP.1 wx;obtain⟨A,eA,hAl,hA⟩:=TY s u7;obtain⟨A',eA',aiy,hA'⟩:=TY s' aix;obtain⟨q,eq,_,hAq,_⟩:=hA g hg;obtain⟨q',eq',_,aiz,_⟩:=hA' g' yt;have:q=g:=aG
  subst this;have:q'=g':=aG
  subst this;by_cases hss:s=s'
  ·subst hss;obtain⟨j,v,ej,_,hv,_⟩:=M4 s u7;obtain⟨_,g2,_⟩:=N.Wp hM xP hv;rw[ej]at hg yt;exact g2 n u k k' q q' hn h1 hk iy hg yt YO acQ
  have hp:=(Hu rS).2;have two:El xs (BD xs s') (BD xs s)=true∨El xs (BD xs s) (BD xs s')=true:=Be hp u7 aix hss;rw[eA,eA']at two;rcases two with h | h
  ·exact(F.S5 aiy hAl h hn h1 iy hk aiz hAq acQ YO).symm
  exact F.S5 hAl aiy h hn h1 hk iy hAq aiz YO acQ
 rintro _ hs g hg;obtain⟨s,u7,rfl⟩:=cP.1 hs;obtain⟨A,_,_,hA⟩:=TY s u7;obtain⟨q,eq,_,_,h3⟩:=hA g hg;exact⟨aG,by have:=h3.2.1;omega⟩
end
theorem CU{p:Int->Bool}{a b:Int}(hn:a≠b)(pa:p a=true)(pb:p b=true):∀{l:List Int},a∈l->b∈l->2<=l.countP p
 | [],h,_=>aaH
 | x::l,ha,hb=>by
  have one:∀{y:Int},p y=true->y∈l->1<=l.countP p:=λhy hm=>List.countP_pos_iff.2 ⟨_,hm,hy⟩;rcases aR.1 ha with rfl | OS<;>rcases aR.1 hb with rfl | qC
  ·exact absurd rfl hn
  ·rw[xR pa];have:=one pb qC;omega
  ·rw[xR pb];have:=one pa OS;omega
  have:=CU hn pa pb OS qC;rw[O1];omega
section
variable {xs:List cR} (sd:Sd xs) {act:List Int} (A:Lg xs act)
include sd A
theorem uS{x:Int}(h:x∈act):∃n:Nat,x=n/\n<xs.length/\SS xs n:=by
 obtain⟨g1,g2,g3,_,_⟩:=A.at_ x h;obtain⟨t,ht⟩:=fQ (xs:=xs) (i:=x.toNat) aG;refine⟨x.toNat,aG,aG,t,ht,?_⟩;have:kd xs x=t.k:=by rw[show x=(x.toNat:Int) by omega];exact ki ht
 rw[this]at g3;unfold wF at g3;rw[bU,de,de]at g3;exact g3
theorem Hv:∀(x k:Nat),(x:Int)∈act->jv xs k x->(k:Int)∈act
 | x,k,hx,hc=>by
  by_cases he:k=x
  ·rw[he];exact hx
  have cd:k<x:=by obtain⟨_,_,h,_⟩:=hc;omega
  obtain⟨_,g2,_,g4,_⟩:=A.at_ x hx;obtain⟨t,ht⟩:=fQ (sd.fo.pF hc);obtain⟨p,s,e1,e2,e3,_,e5,e6⟩:=sd.fo.par ht aG;rcases g4 with g4 | g4
  ·omega
  have hp:=g4 t (by rw[aV];exact ht);rw[e2]at hp;obtain⟨u,u1,u2,u3⟩:=hc;have:=e6 k u u1 cd u3;exact Hv p k hp (sd.fo.jJ ⟨u,u1,u2,u3⟩ ⟨s,e3,aG,e5⟩ this)
theorem af6:Cn xs λk=>(k:Int)∈act:=λn t c c' g g' hn h1 hc rN hg yt h h'=>by
 have a1:=Hv sd A g c hg h;have a2:=Hv sd A g' c' yt h';have cov:jv xs n c:=by
  obtain⟨_,_,h3 | ⟨k,e,h3⟩⟩:=sd.fo.iR hc
  ·omega
  have:k=n:=aG
  rw[<-this];exact h3
 have an:=Hv sd A c n a1 cov;have ss:∀{x:Nat},(x:Int)∈act->SS xs x:=fun{x} hx=>by
  obtain⟨m,e,_,hs⟩:=uS sd A hx;have:m=x:=aG
  rw[<-this];exact hs
 have r1:=(eS sd).2 ⟨hc,ss a1⟩;have r2:=(eS sd).2 ⟨rN,ss a2⟩;refine cr λfX=>?_;have h2:=CU (p:=λr=>decide (r∈act)) (by omega:(c:Int)≠c') (bL a1) (bL a2) r1 r2;have:=(A.at_ n an).on;unfold mO Hn at this;rw[aV,ki hn,aX aG,de]at this;omega
theorem Jl{n:Nat}(h:(n:Int)∈act)(hr:cV xs n≠[]):∃q:Nat,(q:Int)∈cV xs n/\(q:Int)∈act:=by
 have:=(A.at_ n h).on;unfold mO Hn at this;rw[aV]at this;have hp:=gq.2 hr;have h1:0<(cV xs n).countP λr=>decide (r∈act):=by
  split at this
  ·rw[de]at this;omega
  rw[de]at this;omega
 obtain⟨r,JL,JM⟩:=List.countP_pos_iff.1 h1;obtain⟨q,_,rfl,_⟩:=gx.1 JL;exact⟨q,JL,aP JM⟩
theorem Mp:∀(f n:Nat),xs.length-n<=f->(n:Int)∈act->∃y:Nat,(y:Int)∈Jk xs act/\jv xs n y
 | 0,n,hf,h=>by
  obtain⟨m,e,hm,_⟩:=uS sd A h;omega
 | f+1,n,hf,h=>by
  obtain⟨m,e,hm,hs⟩:=uS sd A h;have:m=n:=aG
  subst this;by_cases hr:cV xs m=[]
  ·refine⟨m,?_,sd.fo.kj hm⟩;obtain⟨t,ht,hk⟩:=hs;have h1:t.k=1:=by
    rcases hk with hk | hk
    ·exact hk
    exact absurd hr (sd.pr m t ht hk)
   unfold Jk;refine tM.2 ⟨m,rfl,hm,?_⟩;unfold lvP;rw[bL h,ki ht,h1,hr];rfl
  obtain⟨q,hq,ha⟩:=Jl sd A h hr;have hk:=((eS sd).1 hq).1;have hb:=sd.fo.iR hk;obtain⟨y,hy,hc⟩:=Mp f q (by have:=hb.1;omega) ha;refine⟨y,hy,?_⟩;obtain⟨_,_,h3 | ⟨k,e,h3⟩⟩:=sd.fo.Jx hb hc
  ·omega
  have:k=m:=aG
  rw[<-this];exact h3
end
def uT(xs:List cR)(act left:List Int)(M:xv):xv:=λh=>match(if h<0 then none else xs[h.toNat]?)with
 | some t=>if fM t.k&&decide (t.pa∈act)&&decide (t.pa∈left)then some (if t.k=4 then(Jk xs act).filter λk=>jA xs k t.pa else(eX xs t.pa.toNat xs.length).filter λk=>decide (k∈act))else M h
 | none=>M h
section
variable {c:Ch} {xs:List cR} {vs:List (aJ)} (N:Snd c xs vs) {M:xv} (hM:qy xs M) {act left:List Int} (A:Lg xs act)
include N hM A
theorem Snd.aa7:qy xs (uT xs act left M):=λn t l ht hh hl=>by
 unfold uT at hl;rw[aX aG,aV,ht]at hl;dsimp only at hl;by_cases hc:(fM t.k&&decide (t.pa∈act)&&decide (t.pa∈left))=true
 ·rw[aZ hc,bc]at hl;simp only[aU,bJ]at hc;obtain⟨⟨_,hp⟩,_⟩:=hc;have sd:=N.sd;obtain⟨p,ep,M4,H6⟩:=uS sd A hp;have hkc:Kc xs (p:Int) n:=⟨t,ht,ep⟩
  have hr:cV xs p≠[]:=by
   obtain⟨u,hu,hk⟩:=H6;rcases hk with hk | hk
   ·obtain⟨b,ks,pa,dp,_,rfl,h2,h3,_⟩:=N.at_ hu;dsimp only at hk;unfold zf at h3;rw[aX (by unfold fM;rw[hk];decide),aX aG]at h3;by_cases nS:0<Lw ks
    ·exact N.MM h2 nS
    rw[aX nS]at h3;have h0:=aP (tK.1 (dU.1 h3).2);have:ks=[]:=ob.1 h0;subst this;obtain⟨e1,_,e2 | ⟨k,e,v,v1,v2,v3⟩⟩:=sd.fo.iR hkc
    ·omega
    have:k=p:=aG
    subst this;rw[hu,bc]at v1;subst v1;dsimp only at v3;rw[jd,fe]at v3;omega
   exact sd.pr p u hu hk
  have ss:∀{x:Int},x∈act->∃k:Nat,x=k/\SS xs k:=λhx=>by
   obtain⟨m,e,_,hs⟩:=uS sd A hx;exact⟨m,e,hs⟩
  have sub:∀x,x∈l->x∈act/\∃k:Nat,x=k/\Sb xs t.pa k:=λx hx=>by
   subst hl;split at hx
   ·obtain⟨h1,h2⟩:=dv.1 hx;obtain⟨k,rfl,hk,HV⟩:=tM.1 h1;unfold lvP at HV;simp only[aU,bJ]at HV;obtain⟨i,j,e1,e2,e3,e4⟩:=om.1 h2;have:j=k:=aG
    subst this;exact⟨HV.1.1,j,rfl,aG,hk,.inr ⟨i,e1,e4⟩⟩
   obtain⟨h1,h2⟩:=dv.1 hx;obtain⟨q,u,rfl,_,hu,hup⟩:=qw.1 h1;refine⟨aP h2,q,rfl,sd.fo.iR ⟨u,hu,?_⟩⟩;rw[hup,ep,aV]
  refine⟨?_,λg hg=>?_,λm u a a' g g' h1 h2 h3 h4 hg yt=>af6 sd A m u a a' g g' h1 h2 h3 h4 (sub _ hg).1 (sub _ yt).1⟩
  ·obtain⟨q,hq,hqa⟩:=Jl sd A (by rw[<-ep];exact hp) hr;obtain⟨hqk,hqs⟩:=(eS sd).1 hq;subst hl;split
   ·obtain⟨y,hy,hc⟩:=Mp sd A xs.length q aG hqa;refine kw (a:=(y:Int)) (dv.2 ⟨hy,om.2 ?_⟩);obtain⟨h1,h2,h3 | ⟨k,e,h3⟩⟩:=sd.fo.Jx (sd.fo.iR hqk) hc
    ·omega
    exact⟨k,y,aG,rfl,aG,h3⟩
   obtain⟨v,hv,hvp⟩:=hqk;exact kw (a:=(q:Int)) (dv.2 ⟨qw.2 ⟨q,v,rfl,eT hv,hv,by rw[ep,aV];exact hvp⟩,bL hqa⟩)
  obtain⟨h1,k,e,h2⟩:=sub g hg;obtain⟨k',e',h3⟩:=ss h1;have:k'=k:=aG
  subst this;exact⟨k',e,h3,h2⟩
 rw[aX hc]at hl;exact hM n t l ht hh hl
end
theorem Mq{xs:List cR}{a:Nat}{r:Ro}:∀{l:List Mv} {i:Nat},r∈Jj xs a i l->∃j m,m∈l/\r=roM xs a j m
 | [],_,h=>aaH
 | m::l,i,h=>by
  rw[Jj]at h;rcases aR.1 h with rfl | h
  ·exact⟨i,m,.head _,rfl⟩
  obtain⟨j,m',h1,h2⟩:=Mq h;exact⟨j,m',.tail _ h1,h2⟩
mutual
theorem Mr{xs:List cR}{r:Ro}:∀{x:Nd} {a:Nat},r∈O8 xs a x->∃n b j m,(sZ x)[n]? =some b/\m∈b.mv/\r=roM xs (a+n) j m
 | .mk b l,a,h=>by
  rw[O8]at h;rw[sZ];rcases ci.1 h with h | h
  ·obtain⟨j,m,h1,h2⟩:=Mq h;exact⟨0,b,j,m,rfl,h1,h2⟩
  obtain⟨n,b',j,m,h1,h2,h3⟩:=Hw h;exact⟨n+1,b',j,m,by rw[dl];exact h1,h2,by rw[h3];congr 1;omega⟩
theorem Hw{xs:List cR}{r:Ro}:∀{l:List Nd} {a:Nat},r∈rk xs a l->∃n b j m,(A7 l)[n]? =some b/\m∈b.mv/\r=roM xs (a+n) j m
 | [],_,h=>by rw[rk]at h;cases h
 | x::l,a,h=>by
  rw[rk]at h;rw[A7];rcases ci.1 h with h | h
  ·obtain⟨n,b',j,m,h1,h2⟩:=Mr h;exact⟨n,b',j,m,by rw[bK (be.1 h1).1];exact h1,h2⟩
  obtain⟨n,b',j,m,h1,h2,h3⟩:=Hw h;have:=nQ x;exact⟨jd x+n,b',j,m,by rw[bX aG,this,ez];exact h1,h2,by rw[h3,eU]⟩
end
theorem Jm{xs:List cR}{x d:Nat}:jA xs x d=true↔d<x/\jv xs d x:=by
 rw[om];constructor
 ·rintro⟨i,j,e1,e2,h1,h2⟩;have:i=d:=aG
  have:j=x:=aG
  subst_vars;exact⟨h1,h2⟩
 rintro⟨h1,h2⟩;exact⟨d,x,rfl,rfl,h1,h2⟩
section
variable {c:Ch} {xs:List cR} {vs:List (aJ)} (N:Snd c xs vs) {M:xv} (hM:qy xs M) {dft:List Int} (xP:dft=(sZ c.root).map λb=>mA xs b.dft)
include N hM xP
theorem Snd.wq{r:Ro}(h:r∈O8 xs 0 c.root):(r.tg=[]/\r.dom= -1)∨(r.tg≠[]/\(∀s,s∈r.tg->pf xs s)/\∃a d:Nat,r.src=a/\a<xs.length/\r.dom=d/\kd xs d=1/\jv xs d a/\Gd xs d (λk=>∃s,s∈r.tg/\(k:Int)∈dT xs dft M s)/\∀s,s∈r.tg->∀g,g∈dT xs dft M s->pf xs g):=by
 obtain⟨n,b,j,m,h1,h2,rfl⟩:=Mr h;rw[bM]at*
 have hn:n<xs.length:=by rw[N.len,<-nQ];exact(be.1 h1).1
 obtain⟨t,ht⟩:=fQ hn;unfold roM;dsimp only;by_cases hm:m.tg=[]
 ·left;rw[hm];exact⟨rfl,rfl⟩
 right;obtain⟨g1,d,g2,g3,g4,g5,g6⟩:=N.Wq hM xP ht h1 h2 hm;exact⟨abu,g1,n,d,rfl,hn,g2,g3,g4,g5,g6⟩
theorem Snd.leaves{act:List Int}(A:Lg xs act){d a:Nat}{G:aL}(ha:(a:Int)∈act)(hc:jv xs d a)(hG:Gd xs d G):(d:Int)∈act/\∃y:Nat,(y:Int)∈act/\Sb xs d y:=by
 have sd:=N.sd;have hd:=Hv sd A a d ha hc;refine⟨hd,?_⟩;obtain⟨g,hg⟩:=hG.ne;obtain⟨k,hk,YO⟩:=N.fo.xF g (hG.bl g hg).1;obtain⟨hs,_⟩:=N.fo.mC N.hk hG (N.fo.iR hk).1 hg YO;have hr:cV xs d≠[]:=kw ((eS sd).2 ⟨hk,hs⟩);obtain⟨q,hq,hqa⟩:=Jl sd A hd hr;exact⟨q,hqa,N.fo.iR ((eS sd).1 hq).1⟩
theorem Snd.C6{act:List Int}(A:Lg xs act){rs:List Ro}(hr:∀r,r∈rs->r∈O8 xs 0 c.root/\r.tg≠[]/\r.src∈act)(hp:rs.Pairwise λr r'=>∀x,x∈act->¬(jA xs x r.dom=true/\jA xs x r'.dom=true))
  {ini:List Int} (acR:ini=(sZ c.root).map λb=>mA xs b.ini) {S:Nat} (hS:∀m:Nat,S.testBit m=true↔∃r,r∈rs/\r.dom<m/\∃s,s∈r.tg/\∃g:Nat,(g:Int)∈dT xs dft M s/\jv xs m g) {T:Nat} (hT:T=jj xs (λn=>dT xs dft M ((ini[n]?).getD 0)) xs.length S)
  {nx:List Int} (hx:nx.Pairwise (· <·)) (hm:∀x,x∈nx↔∃n:Nat,x=n/\((x∈act/\∀r,r∈rs->jA xs x r.dom=false)∨T.testBit n=true)):Lg xs nx/\∀n:Nat,T.testBit n=true->∃r,r∈rs/\jA xs n r.dom=true:=by
 have F:=N.fo;have sd:=N.sd;have rt:=λr (h:r∈rs)=>(N.wq hM xP (hr r h).1).resolve_left λh'=>(hr r h).2.1 h'.1;have same:∀r r',r∈rs->r'∈rs->∀x,x∈act->jA xs x r.dom=true->jA xs x r'.dom=true->r=r':=λr r' h h' x hx h1 h2=>by
  by_cases e:r=r'
  ·exact e
  ·rcases Be hp h h' e with g | g
   ·exact absurd ⟨h1,h2⟩ (g x hx)
   ·exact absurd ⟨h2,h1⟩ (g x hx)
 have lv:∀r,r∈rs->∀d:Nat,r.dom=d->(d:Int)∈act/\kd xs d=1/\∃y:Nat,(y:Int)∈act/\Sb xs d y:=λr h d e=>by
  obtain⟨_,_,a,d',e1,_,e2,e3,e4,e5,_⟩:=rt r h;have:d'=d:=aG
  subst this;have ha:=(hr r h).2.2;rw[e1]at ha;obtain⟨g1,g2⟩:=N.leaves hM xP A ha e4 e5;exact⟨g1,e3,g2⟩
 have Y7:∀{r:Ro} {d y:Nat},r.dom=d->Sb xs d y->jA xs y r.dom=true:=fun{r d y} e h=>by
  rw[e];obtain⟨h1,h2,h3 | ⟨k,ek,h3⟩⟩:=h
  ·omega
  ·have:k=d:=aG
   subst this;exact Jm.2 ⟨aG,h3⟩
 let D:Int->Prop:=λd=>∃r,r∈rs/\r.dom=d
 let G:Int->Nat->Prop:=λd k=>∃r,r∈rs/\r.dom=d/\∃s,s∈r.tg/\(k:Int)∈dT xs dft M s
 have hA:Ap xs D:=by
  rintro d d' x ⟨r,h,rfl⟩ ⟨r',h',rfl⟩ hb jC;obtain⟨_,_,_,d,_,_,e,_⟩:=rt r h;obtain⟨_,_,_,d',_,_,e',_⟩:=rt r' h';rw[e]at hb;rw[e']at jC;have cv:∀{k:Nat},Sb xs (k:Int) x->jv xs k x:=fun{k} hb=>by
   obtain⟨_,_,h3 | ⟨q,eq,h3⟩⟩:=hb
   ·omega
   ·have:q=k:=aG
    rw[<-this];exact h3
  have c1:=cv hb;have c2:=cv jC;rcases Nat.le_total d d' with kB | kB
  ·by_cases he:d=d'
   ·rw[e,e',he]
   ·obtain⟨_,_,y,hy,TX⟩:=lv r' h' d' e';have:=F.qz (d:=(d:Int)) ⟨aG,F.pF (F.jJ c1 c2 kB),.inr ⟨d,rfl,F.jJ c1 c2 kB⟩⟩ TX;rw[same r r' h h' y hy (Y7 e this) (Y7 e' TX)]
  ·by_cases he:d=d'
   ·rw[e,e',he]
   ·obtain⟨_,_,y,hy,TX⟩:=lv r h d e;have:=F.qz (d:=(d':Int)) ⟨aG,F.pF (F.jJ c2 c1 kB),.inr ⟨d',rfl,F.jJ c2 c1 kB⟩⟩ TX;rw[same r r' h h' y hy (Y7 e TX) (Y7 e' this)]
 have hG:∀d,D d->Gd xs d (G d):=by
  rintro _ ⟨r,h,rfl⟩;obtain⟨_,_,_,d,_,_,e,_,_,g,_⟩:=rt r h;rw[e];have one:∀r',r'∈rs->r'.dom=d->r'=r:=λr' h' e'=>by
   obtain⟨_,_,y,hy,TX⟩:=lv r h d e;exact same r' r h' h y hy (Y7 e' TX) (Y7 e TX)
  have:G d=λk:Nat=>∃s,s∈r.tg/\(k:Int)∈dT xs dft M s:=funext λk=>propext ⟨λ⟨r',h1,h2,h3⟩=>by rw[one r' h1 h2]at h3;exact h3,λh1=>⟨r,h,e,h1⟩⟩;rw[this];exact g
 have hP:Part xs D λm=>S.testBit m=true:=by
  have:=F.C5 N.hk hA hG;have e:(λm=>S.testBit m=true)=λm:Nat=>∃d,D d/\d<m/\∃g,G d g/\jv xs m g:=funext λm=>propext ((hS m).trans ⟨λ⟨r,h1,h2,s,h3,g,h4,h5⟩=>⟨r.dom,⟨r,h1,rfl⟩,h2,g,⟨r,h1,rfl,s,h3,h4⟩,h5⟩,λ⟨d,_,h2,g,⟨r,h1,e,s,h3,h4⟩,h5⟩=>⟨r,h1,by rw[e];exact h2,s,h3,g,h4,h5⟩⟩);rw[e];exact this
 have WW:∀(n:Nat) (t:cR),xs[n]? =some t->t.k=1->cV xs n≠[]->Gd xs n (λg=>(g:Int)∈dT xs dft M ((ini[n]?).getD 0))/\∀g,g∈dT xs dft M ((ini[n]?).getD 0)->pf xs g:=λn t ht h1 hr=>by
  have hb:n<(sZ c.root).length:=adh
  obtain⟨b,hb⟩:∃b,(sZ c.root)[n]? =some b:=⟨_,aQ hb⟩
  have:(ini[n]?).getD 0=mA xs b.ini:=by rw[acR,bW,hb];rfl
  rw[this];exact N.Jy hM xP ht hb h1 hr
 obtain⟨Q,_,hf⟩:=tR sd N.hk hA WW hP xs.length (ba _);rw[<-hT]at Q hf;have OO:∀n:Nat,T.testBit n=true->∃r,r∈rs/\jA xs n r.dom=true:=λn hn=>by
  obtain⟨_,_,⟨r,h,rfl⟩,hb⟩:=Q.st n hn;obtain⟨_,_,_,d,_,_,e,_⟩:=rt r h;rw[e]at hb;exact⟨r,h,Y7 e hb⟩
 refine⟨Sn sd hA A ?_ Q (λn hn=>hf n (EI sd Q hn) hn) hx λx=>(hm x).trans (oU λn=>?_),OO⟩
 ·rintro _ ⟨r,h,rfl⟩;obtain⟨_,_,_,d,_,_,e,_⟩:=rt r h;obtain⟨g1,g2,_⟩:=lv r h d e;exact⟨d,e,g1,g2⟩
 ·constructor
  ·rintro⟨rfl,⟨h1,h2⟩ | h⟩
   ·refine⟨rfl,.inl ⟨h1,?_⟩⟩;rintro _ ⟨r,h,rfl⟩ hb;obtain⟨_,_,_,d,_,_,e,_⟩:=rt r h;rw[e]at hb;have:=h2 r h;rw[Y7 e hb]at this;cases this
   ·exact⟨rfl,.inr h⟩
  ·rintro⟨rfl,⟨h1,h2⟩ | h⟩
   ·refine⟨rfl,.inl ⟨h1,λr h=>?_⟩⟩;cases hw:jA xs n r.dom with
    | false=>rfl
    | true=>
     obtain⟨_,_,_,d,_,_,e,_⟩:=rt r h;rw[e]at hw;obtain⟨g1,g2⟩:=Jm.1 hw;exact absurd ⟨aG,F.pF g2,.inr ⟨d,e,g2⟩⟩ (h2 _ ⟨r,h,rfl⟩)
   ·exact⟨rfl,.inr h⟩
theorem Snd.S6{ini:List Int}(acR:ini=(sZ c.root).map λb=>mA xs b.ini){nx:List Int}(hx:nx.Pairwise (· <·))(hm:∀x,x∈nx↔∃n:Nat,x=n/\(jj xs (λn=>dT xs dft M ((ini[n]?).getD 0)) xs.length 1).testBit n=true):Lg xs nx:=by
 have F:=N.fo;have sd:=N.sd;have one:∀m:Nat,(1:Nat).testBit m=true↔m=0:=λm=>by
  rw[show(1:Nat)=2 ^ 0 from rfl,Nat.testBit_two_pow,bJ];exact⟨λh=>h.symm,λh=>h.symm⟩
 have hP:Part xs (λd=>d= -1) λm=>(1:Nat).testBit m=true:=by
  have e:(λm=>(1:Nat).testBit m=true)=λm=>m=0:=funext λm=>propext (one m);rw[e];obtain⟨t,ht,hk⟩:=sd.rt;refine⟨λx h=>?_,λx u h hu=>?_,λn u hn h1 a b ha hb h h'=>aG,λd h=>?_⟩
  ·subst h;exact⟨⟨t,ht,.inl hk⟩, -1,rfl,aG,F.ne,.inl rfl⟩
  ·subst h;exact .inl (F.rt u hu).1
  ·exact⟨0,⟨t,ht,by rw[h];exact(F.rt t ht).1⟩,rfl⟩
 have WW:∀(n:Nat) (t:cR),xs[n]? =some t->t.k=1->cV xs n≠[]->Gd xs n (λg=>(g:Int)∈dT xs dft M ((ini[n]?).getD 0))/\∀g,g∈dT xs dft M ((ini[n]?).getD 0)->pf xs g:=λn t ht h1 hr=>by
  have hb:n<(sZ c.root).length:=adh
  obtain⟨b,hb⟩:∃b,(sZ c.root)[n]? =some b:=⟨_,aQ hb⟩
  have:(ini[n]?).getD 0=mA xs b.ini:=by rw[acR,bW,hb];rfl
  rw[this];exact N.Jy hM xP ht hb h1 hr
 obtain⟨Q,_,hf⟩:=tR sd N.hk (λd d' x h h' _ _=>by rw[h,h']) WW hP xs.length (ba _);exact Sm sd Q (λn hn=>hf n (EI sd Q hn) hn) hx hm
end
end Go.Proofs.YtpbgcbdclnfpnaaGreatDoor.Con
