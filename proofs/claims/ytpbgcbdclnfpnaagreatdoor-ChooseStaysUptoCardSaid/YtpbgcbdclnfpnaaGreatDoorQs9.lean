import Derived.Test.YtpbgcbdclnfpnaaGreatDoorQs8
set_option linter.unusedSectionVars false
set_option linter.unusedSimpArgs false
set_option linter.unusedVariables false
set_option maxHeartbeats 4000000
set_option maxRecDepth 100000
open Go renaming World->ay,Value->az
open Go.Value renaming int->O,string->ah,pointer->ai,agg->aj,tuple->ak,bool->ao
open Go.IntKind renaming i64->ae,wrap->av
open Go.Ending renaming returned->aq
open _root_.ByteArray renaming mk->ar
open _root_.Go.Proofs.Tryz renaming prog->au
open Go.Instr renaming buildSlice->aw
open Go renaming World->ay,Value->az,Calls->aB
open Go.Kt renaming Only->aA,SliceF->aD,Cells->aE,OnlyP->aF,Blk->aH
namespace Go.Kt
open Go Go.RowKit Go.ChangeShapes Go.WideShapes
structure IsBulk {H:Type} (B:DataW H->Nat):Prop where
 one:∀d,1<=B d
 sl:∀e s,(e.map B).sum+1<=B (.slice e s)
 str:∀b,b.length+1<=B (.lit (.string b))
 agg:∀p,(p.map B).sum+1<=B (.agg p)
 ptr:∀d,B d+1<=B (.ptr d)
 iface:∀t d,B d+1<=B (.iface t d)
section
variable {H:Type} {enc:TypeId×az->H} {P:Program} {W:ay} {base:Nat} {spare:Nat->Bool} {held:Bool} {α β:Type} {B:DataW H->Nat}
def Tf:Rp ByteArray:=λ_ _ s cs=>cs=[.string s]/\s.size<=140737488351232
def iW(B:DataW H->Nat)(enc:TypeId×az->H)(P:Program)(W:ay)(base:Nat)(spare:Nat->Bool)(held:Bool)(t:TypeId)(r:Rp α)(m:α->Nat):Prop:=
 ∀ft cs x,DataW.trod enc P W base spare held ft t cs=some x->(∀n,n∈x.1.weights P t->n<=reachBytes)->∃a,r W (λ_=>True) a cs/\m a<=B x.1
theorem opensB_of(hB:IsBulk B){t}{r:Rp α}(h:Dw enc P W base spare held t r):iW B enc P W base spare held t r λ_=>1:=λft cs x hx hw=>by
 obtain⟨a,ha⟩:=h ft cs x hx hw;exact⟨a,ha,hB.one _⟩
theorem jS(hB:IsBulk B){t}(ht:P.underlying t=some .string):iW B enc P W base spare held t Tf λs=>s.size+1:=λft cs x h hw=>by
 obtain⟨s,rfl,rfl,hs⟩:=DataW.trod_string ht h;have h1:=hw _ (by simp;exact eB);have e:s.data.toList.length=s.size:=rfl;simp[e,reachBytes]at h1;refine⟨s,⟨rfl,?_⟩,?_⟩
 ·omega
 have:=hB.str s.data.toList;exact this
theorem Tg{p}{g:Nat->Nat}:∀{l:List α} {o:Nat},(∀i b,l[i]? =some b->p b<=g (o+i))->(l.map p).sum<=((List.range l.length).map λi=>g (o+i)).sum
 | [],_,_=>aac
 | a::l,o,h=>by
  rw[bn,List.range_succ_eq_map,bH,bH,cE,cE,iK];have ih:=Tg (p:=p) (g:=g) (l:=l) (o:=o+1) λi b hb=>by
   have:=h (i+1) b hb;rw[show o+1+i=o+(i+1) by omega];exact this
  refine lC (h 0 a rfl) (bf ih (oX ?_));congr 1;refine sL λi _=>?_;congr 1;omega
theorem opensB_slice(hB:IsBulk B){t e}{r:Rp α}{m}{size}(ht:P.underlying t=some (.slice e))(hs:P.cellsOf e=size){bytes}(hb:P.bytesOf e=bytes)(he:iW B enc P W base spare held e r m):
  iW B enc P W base spare held t (rSl r size bytes) λxs=>(xs.map m).sum+1:=λft cs x h hw=>by
 subst hs;rcases Deep.open_slice ht h with⟨rfl,rfl⟩ | ⟨a,len,cap,mm,n,D,Pl,rfl,_,hl,hm,hmm,rfl,hel⟩
 ·exact⟨[],⟨Sl.nil,rfl,SliceF.nil _ _ _ _,aac⟩,hB.one _⟩
 have hlm:len<=mm:=by rw[hmm];split<;>omega
 have hex:∀i,i<len->∃b,(∃cs',cs'.length=P.cellsOf e/\Cells W _ cs'/\r W _ b cs')/\m b<=B _:=λi hi=>by
  obtain⟨cs',g1,g2⟩:=hel i aG;obtain⟨_,g3,g4⟩:=World.cells?_some g1;obtain⟨b,g5,g6⟩:=he n cs' _ g2 λk hk=>hw k (by
   simp[DataW.weights,ht,aV,bN];exact .inr (.inl (tL (cQ.2 ⟨i,jb.2 hi,rfl⟩) k hk)))
  refine⟨b,⟨cs',g3,λj v hj=>?_,g5⟩,g6⟩;rw[g4 j (by have:=(aZ.1 hj).1;omega)];exact hj
 obtain⟨l,h1,h2⟩:=yO len hex;refine⟨l,⟨⟨some a,len,cap⟩,rfl,⟨h1.symm,hl,λh=>aal,hm,λj x hj=>?_⟩,?_⟩,?_⟩
 ·obtain⟨⟨cs',g1,g2,g3⟩,_⟩:=h2 j x hj;exact⟨a,cs',rfl,trivial,g1,g2,g3⟩
 ·have:=hw _ (by simp only[DataW.weights,ht];exact eB);rw[hb]at this;simp[bA,fE,reachBytes]at this;rw[h1];have h3:len*bytes<=(len+(mm-len))*bytes:=jD _ aG;omega
 refine bf (P9 ?_) (hB.sl _ ((List.range _).map λj=>D _));have h4:=Tg (p:=m) (g:=λi=>B _) (l:=l) (o:=0) λi b hb=>by
  rw[bO];exact(h2 i b hb).2
 rw[h1]at h4;simpa[Function.comp_def]using h4
def Fq(B:DataW H->Nat)(enc:TypeId×az->H)(P:Program)(W:ay)(base:Nat)(spare:Nat->Bool)(held:Bool)(T off:Nat)(fs:List Field)(r:Rp α)(m:α->Nat):Prop:=
 ∀n (cs:List az) (xs:List _),cs.length=T->xs.length=fs.length->
  (∀(i:Nat) f,fs[i]? =some f->DataW.trod enc P W base spare held n f.type ((cs.drop f.offset).take (P.cellsOf f.type))=xs[i]?)->
  (∀(i:Nat) f x,fs[i]? =some f->xs[i]? =some x->∀k,k∈x.1.weights P f.type->k<=reachBytes)->∃a,r W (λ_=>True) a (cs.drop off)/\m a<=(xs.map λx=>B x.1).sum
theorem foB_nil{T off}(h:T=off):Fq B enc P W base spare held T off [] rUnit λ_=>0:=λn cs xs hl _ _ _=>⟨(),by
 exact oS aG,bh _⟩
theorem foB_cons{T off s}{f}{fs}{r:Rp α}{q:Rp β}{m}{m'}(ho:f.offset=off)(hs:P.cellsOf f.type=s)(hr:iW B enc P W base spare held f.type r m)(hq:Fq B enc P W base spare held T (off+s) fs q m'):
  Fq B enc P W base spare held T off (f::fs) (rPair r q) λx=>m x.1+m' x.2:=λn cs xs hl hx hf hw=>by
 cases xs with
 | nil=>simp at hx
 | cons x xs=>
  have h0:=hf 0 f rfl;rw[ho,hs]at h0;obtain⟨a,ha,FY⟩:=hr n _ x h0 (hw 0 f x rfl rfl);obtain⟨b,hb,jL⟩:=hq n cs xs hl aa3 (λi g hg=>hf (i+1) g hg) (λi g y hg hy=>hw (i+1) g y hg hy);exact⟨(a,b),⟨_,_,by rw[<-oV,dl],ha,hb⟩,lC FY jL⟩
theorem opensB_struct(hB:IsBulk B){t}{fs}{T}{r:Rp α}{m}(ht:P.underlying t=some (.struct fs))(hT:P.cellsOf t=T)(hF:Fq B enc P W base spare held T 0 fs.toList r m):iW B enc P W base spare held t r λx=>m x+1:=λft cs x h hw=>by
 obtain⟨xs,n,rfl,rfl,hl,Gs,hf⟩:=DataW.trod_struct ht h;obtain⟨a,ha,FY⟩:=hF n cs xs aG (by simpa using Gs) (λi f hi=>hf i f acR) (λi f x hi hx k hk=>hw k (by
  simp[DataW.weights,ht];refine DataW.weights_mem_each (j:=i) ?_ aeK k hk;simp only[Array.toList_map,ch,hi];rfl))
 refine⟨a,by simpa using ha,bf (P9 FY) ?_⟩;have:=hB.agg (xs.map (·.1));rwa[iK]at this
theorem iW.map{t}{r}{q}{m}{m'}(h:iW B enc P W base spare held t r m)(f:α->β)(hf:∀a cs,r W (λ_=>True) a cs->q W (λ_=>True) (f a) cs/\m' (f a)<=m a):iW B enc P W base spare held t q m':=λft cs x hx hw=>by
 obtain⟨a,ha,FY⟩:=h ft cs x hx hw;obtain⟨h1,h2⟩:=hf a cs ha;exact⟨f a,h1,bf h2 FY⟩
theorem argB_slice{t e}{r}{m}{size bytes}{b0}{v}{d}{p}(ht:P.underlying t=some (.slice e))(mr:Value.okWide P W .any b0 t v)(h:DataW.Trod enc P W base spare held t v d p)
  (F1:iW B enc P W base spare held t (rSl r size bytes) m) (hw:∀n,n∈d.weights P t->n<=reachBytes):∃(s:Sl) (xs:List α),v=s.v/\SliceF r size W (λ_=>True) s xs/\m xs<=B d:=by
 obtain⟨a0,aqQ,aqR,rfl⟩:=okWide_slice ht mr;obtain⟨ft,hf⟩:=h;obtain⟨xs,⟨s,h1,h2,h3⟩,h4⟩:=F1 ft _ _ hf hw;have h1:[Value.slice a0 aqQ aqR]=[s.v]:=h1;simp only[sK,and_true]at h1;exact⟨s,xs,h1,h2,h4⟩
theorem argB_struct{t}{fs}{r}{m}{b0}{v}{d}{p}(ht:P.underlying t=some (.struct fs))(mr:Value.okWide P W .any b0 t v)(h:DataW.Trod enc P W base spare held t v d p)
  (F1:iW B enc P W base spare held t r m) (hw:∀n,n∈d.weights P t->n<=reachBytes):∃(a:α) (cs:List az),v=.agg cs.toArray/\r W (λ_=>True) a cs/\m a<=B d:=by
 obtain⟨cs,rfl,_⟩:=okWide_struct ht mr;obtain⟨ft,hf⟩:=h;obtain⟨a,ha,FY⟩:=F1 ft _ _ hf hw;exact⟨a,cs.toList,aac,ha,FY⟩
theorem sum_one:∀l:List α,(l.map λ_=>1).sum=l.length
 | []=>rfl
 | _::l=>by rw[bH,cE,sum_one l,bn];omega
end
end Go.Kt
namespace Go.Proofs.YtpbgcbdclnfpnaaGreatDoor.Con
open Go Go.RowKit Go.Kt Go.Kt.V Go.Proofs.YtpbgcbdclnfpnaaGreatDoor.Vc Go.ChangeShapes Go.WideShapes
theorem Kh{D E:Type}{B:D->Nat}{sz:E->Nat}{Q:Nat->E->Prop}:∀(xs:List D) (o:Nat),(∀j y,xs[j]? =some y->∃e,Q (o+j) e/\sz e<=B y)->
  ∃l:List E,l.length=xs.length/\(∀j e,l[j]? =some e->Q (o+j) e)/\(l.map sz).sum<=(xs.map B).sum
 | [],o,_=>⟨[],rfl,λj p h=>aaB,ba _⟩
 | x::xs,o,h=>by
  obtain⟨e,h1,h2⟩:=h 0 x rfl;obtain⟨l,h3,h4,h5⟩:=Kh (B:=B) (sz:=sz) (Q:=Q) xs (o+1) λj y hj=>by
   have:=h (j+1) y hj;rwa[eY,jE 1 j]
  refine⟨e::l,by rw[bn,bn,h3],λj p hj=>?_,?_⟩
  ·cases j with
   | zero=>
    simp only[cR,be]at hj;subst hj;exact h1
   | succ j=>
    have:=h4 j p hj;rwa[eY,jE 1 j]at this
  rw[bH,cE,bH,cE];exact lC h2 h5
theorem BE{n:Nat}:∀{l:List Nat},n∈l->n<=l.sum
 | [],h=>aaB
 | x::l,h=>by
  rw[cE];rcases aV.1 h with rfl | h
  ·omega
  have:=BE h;omega
theorem Ki{E:Type}(f:E->Nat):∀(l:List E),∃m,∀p,p∈l->f p<=m
 | []=>⟨0,λp h=>aaB⟩
 | x::l=>by
  obtain⟨m,h⟩:=Ki f l;refine⟨max (f x) m,λp hp=>?_⟩;rcases aV.1 hp with rfl | hp
  ·exact Vg _ _
  exact bf (h p hp) (P8 _ _)
theorem M7{α β:Type}{r:Rp α}{q:Rp β}{size:Nat}{w:ay}{F:aL}{s:Sl}{xs:List α}(f:α->β)(h:aD r size w F s xs)(hf:∀x cs,x∈xs->r w F x cs->q w F (f x) cs):aD q size w F s (xs.map f):=by
 refine⟨by rw[bA];exact h.len,h.cap,h.nil0,h.big,λj y hj=>?_⟩;rw[ch,gv]at hj;obtain⟨x,hx,rfl⟩:=hj;obtain⟨bs,cs,g1,g2,g3,g4,g5⟩:=h.at_ j x hx;exact⟨bs,cs,g1,g2,g3,g4,hf x cs (bB hx) g5⟩
theorem Dx{α:Type}{r:Rp α}{size:Nat}{w:ay}{F:aL}{s:Sl}{xs:List α}(h:aD r size w F s xs){x:α}(hx:x∈xs):∃cs,r w F x cs:=h.mem hx
def rXU:Rp (Ex×Nat):=λw F x cs=>rE false w F x.1 cs/\okN x.1/\E6 x.1<=x.2
def Xe:Rp (Ac×Nat):=λw F x cs=>uT false w F x.1 cs/\Zl x.1/\SN x.1<=x.2
def ab3:Rp (Mv×Nat):=λw F x cs=>Mm false w F x.1 cs/\mvN x.1/\OW x.1<=x.2
def aob:Rp (Vr×Nat):=λw F x cs=>Vl w F x.1 cs/\rf x.1.v/\x.1.n.length+1<=x.2
theorem M8:∀l:List Ex,Vm l=(l.map E6).sum
 | []=>rfl
 | x::l=>by rw[Vm,bH,cE,M8 l]
theorem H4:∀l:List Ac,ky l=(l.map SN).sum
 | []=>rfl
 | x::l=>by rw[ky,bH,cE,H4 l]
theorem H5:∀l:List Mv,Bw l=(l.map OW).sum
 | []=>rfl
 | x::l=>by rw[Bw,bH,cE,H5 l]
theorem H6:∀l:List Vr,sB l=(l.map λv=>v.n.length+1).sum
 | []=>rfl
 | x::l=>by rw[sB,bH,cE,H6 l]
theorem H7:∀l:List Nd,jf l=(l.map pz).sum
 | []=>by rw[jf];rfl
 | x::l=>by rw[jf,bH,cE,H7 l]
theorem zU{α:Type}{f:α->Nat}:∀{l:List (α×Nat)},(∀x,x∈l->f x.1<=x.2)->((l.map (·.1)).map f).sum<=(l.map λx=>x.2).sum
 | [],_=>ba _
 | x::l,h=>by
  rw[bH,bH,cE,bH,cE];exact lC (h x aac) (zU λy hy=>h y (by simp[hy]))
theorem bsz(s:aM):s.data.toList.length=s.size:=by rw[fA];rfl
section
variable {H:Type} {enc:TypeId×az->H} {W:ay} {base:Nat} {spare:Nat->Bool} {held:Bool} {B:DataW H->Nat}
def Th(enc:TypeId×az->H)(W:ay)(base:Nat)(spare:Nat->Bool)(held:Bool)(t:TypeId):Rp (DataW H):=λ_ _ x cs=>∃ft p,DataW.trod enc au W base spare held ft t cs=some (x,p)/\∀n,n∈x.weights au t->n<=reachBytes
theorem H8(hB:IsBulk B)(t:TypeId):iW B enc au W base spare held t (Th enc W base spare held t) B:=λft cs x h hw=>⟨x.1,⟨ft,x.2,h,hw⟩,ba _⟩
theorem OZ(hB:IsBulk B):iW B enc au W base spare held 131 (rPair rInt (rPair rInt (rPair Tf (rPair rInt (rPair (rSl (Th enc W base spare held 131) 6 72) (rPair rInt rUnit))))))
  λx=>(1+(1+((x.2.2.1.size+1)+(1+(((x.2.2.2.2.1.map B).sum+1)+(1+0))))))+1:=by
 have h:=opensB_struct (enc:=enc) (P:=au) (W:=W) (base:=base) (spare:=spare) (held:=held) (T:=6) hB Tryz.underlying131 (by kernel_rfl)
  (foB_cons (s:=1) rfl (by kernel_rfl) (opensB_of hB (opens_int Tryz.underlying3)) (foB_cons (s:=1) rfl (by kernel_rfl) (opensB_of hB (opens_int Tryz.underlying3)) (foB_cons (s:=1) rfl (by kernel_rfl) (jS hB Tryz.underlying9) (foB_cons (s:=1) rfl (by kernel_rfl) (opensB_of hB (opens_int Tryz.underlying3)) (foB_cons (s:=1) rfl (by kernel_rfl) (opensB_slice (size:=6) (bytes:=72) hB Tryz.underlying129 (by kernel_rfl) (by kernel_rfl) (H8 hB _)) (foB_cons (s:=1) rfl (by kernel_rfl) (opensB_of hB (opens_int Tryz.underlying3)) (foB_nil rfl)))))))
 exact h
theorem Ti(hB:IsBulk B):∀(N:Nat) {x:DataW H} {cs:aK} {F:aL},B x<=N->Th enc W base spare held 131 W F x cs->∃(e:Ex) (d:Nat),Ml false d W (λ_=>True) e cs/\okN e/\E6 e<=B x
 | 0,x,cs,F,h,_=>by have:=hB.one x;omega
 | N+1,x,cs,F,h,⟨ft,p,ht,hw⟩=>by
  obtain⟨⟨k,n,s,op,xs,a,u⟩,hr,hm⟩:=OZ (enc:=enc) (W:=W) (base:=base) (spare:=spare) (held:=held) hB ft cs (x,p) ht hw;obtain⟨c1,r1,rfl,⟨rfl,i1⟩,c2,r2,rfl,⟨rfl,i2⟩,c3,r3,rfl,⟨rfl,i3⟩,c4,r4,rfl,⟨rfl,i4⟩,c5,r5,rfl,⟨sl,rfl,sQ,_⟩,c6,r6,rfl,⟨rfl,i6⟩,hu⟩:=hr;have hu:r6=[]:=hu;subst hu;dsimp only at hm sQ i1 i2 i3;have K1:∀y,y∈xs->B y<=(xs.map B).sum:=λy hy=>BE (List.mem_map_of_mem hy);obtain⟨l,l1,l2,l3⟩:=Kh (B:=B) (sz:=λe:Ex×Nat=>E6 e.1) (Q:=λj e=>∃base cs,sl.a=some base/\cs.length=6/\aE W (base.add (j*6)) cs/\Ml false e.2 W (λ_=>True) e.1 cs/\okN e.1) xs 0 λj y hj=>by
   rw[bO];obtain⟨bs,ds,g1,g2,g3,g4,g5⟩:=sQ.at_ j y hj;obtain⟨e,d,t1,t2,t3⟩:=Ti hB N (x:=y) (by have:=K1 y (bB hj);omega) g5;exact⟨(e,d),⟨bs,ds,g1,g3,g4,t1,t2⟩,t3⟩
  obtain⟨m,hmx⟩:=Ki (λe:Ex×Nat=>e.2) l;refine⟨.mk k n s.data.toList op (l.map (·.1)) a,m+1,⟨sl,?_,?_,λh=>aal⟩,λd=>?_,?_⟩
  ·have e:tB k n s.data.toList op sl a=[O ae k,O ae n,ah s,O ae op,sl.v,O ae a]:=by
    show[_,_,Value.string (T s.data.toList),_,_,_]=_;rw[<-Ar s]
   exact e.symm
  ·refine⟨by rw[Ex.gp,bA,l1];exact sQ.len,sQ.cap,sQ.nil0,sQ.big,λj e hj=>?_⟩;rw[Ex.gp,ch,gv]at hj;obtain⟨q,q1,rfl⟩:=hj;obtain⟨bs,ds,g1,g2,g3,g4,g5⟩:=l2 j q q1;rw[bO]at g3;exact⟨bs,ds,g1,trivial,g2,g3,JS (hmx q (bB q1)) g4⟩
  ·cases d with
   | zero=>trivial
   | succ d=>
    refine⟨i2,λy hy=>?_⟩;obtain⟨q,q1,rfl⟩:=cQ.1 hy;obtain⟨j,hj⟩:=fh q1;obtain⟨bs,ds,g1,g2,g3,g4,g5⟩:=l2 j q hj;exact g5 d
  rw[JV];show Vm (l.map (·.1))+(s.data.toList.length+1)<=_;rw[M8,iK,bsz];have e:(l.map (E6∘λx=>x.1)).sum=(l.map λe:Ex×Nat=>E6 e.1).sum:=rfl;omega
theorem Dy(hB:IsBulk B):iW B enc au W base spare held 131 rXU λx=>x.2:=λft cs x h hw=>by
 obtain⟨e,d,h1,h2,h3⟩:=Ti hB (B x.1) (x:=x.1) (F:=λ_=>True) (ba _) ⟨ft,x.2,h,hw⟩;exact⟨(e,B x.1),⟨⟨d,h1⟩,h2,h3⟩,ba _⟩
theorem xY(hB:IsBulk B):iW B enc au W base spare held 211 Xe λx=>x.2:=by
 have h:=opensB_struct (enc:=enc) (P:=au) (W:=W) (base:=base) (spare:=spare) (held:=held) (T:=9) hB Tryz.underlying211 (by kernel_rfl)
  (foB_cons (s:=1) rfl (by kernel_rfl) (opensB_of hB (opens_int Tryz.underlying3)) (foB_cons (s:=1) rfl (by kernel_rfl) (jS hB Tryz.underlying9) (foB_cons (s:=6) rfl (by kernel_rfl) (Dy hB) (foB_cons (s:=1) rfl (by kernel_rfl) (opensB_of hB (opens_int Tryz.underlying3)) (foB_nil rfl)))))
 refine h.map (λx=>((⟨x.1,x.2.1.data.toList,x.2.2.1.1,x.2.2.2.1⟩:Ac),x.2.2.1.2+(x.2.1.size+1))) ?_;rintro⟨k,n,⟨e,m⟩,a,u⟩ cs ⟨c1,r1,rfl,⟨rfl,i1⟩,c2,r2,rfl,⟨rfl,i2⟩,c3,r3,rfl,⟨he,hn,hz⟩,c4,r4,rfl,⟨rfl,i4⟩,hu⟩;have hu:r4=[]:=hu;subst hu;refine⟨⟨⟨c3,?_,he⟩,hn,?_⟩,aaw⟩
 ·show _=_::Value.string (T n.data.toList)::_;rw[<-Ar n];simp
 show E6 e+(n.data.toList.length+1)<=_;rw[bsz];dsimp only at hz⊢;omega
theorem Kj{w:ay}{F:aL}{s:Sl}{xs:List (Ac×Nat)}(h:aD Xe 9 w F s xs):j5 false (uT false) 9 211 w F s (xs.map (·.1))/\(∀a,a∈xs.map (·.1)->Zl a)/\ky (xs.map (·.1))<=(xs.map λx=>x.2).sum:=by
 refine⟨⟨M7 (·.1) h λx cs _ hx=>hx.1,λh=>aal⟩,λa ha=>?_,?_⟩
 ·obtain⟨x,hx,rfl⟩:=cQ.1 ha;obtain⟨cs,hc⟩:=Dx h hx;exact hc.2.1
 rw[H4];exact zU λx hx=>by
  obtain⟨cs,hc⟩:=Dx h hx;exact hc.2.2
theorem O0(hB:IsBulk B):iW B enc au W base spare held 134 ab3 λx=>x.2:=by
 have h:=opensB_struct (enc:=enc) (P:=au) (W:=W) (base:=base) (spare:=spare) (held:=held) (T:=13) hB Tryz.underlying134 (by kernel_rfl)
  (foB_cons (s:=1) rfl (by kernel_rfl) (opensB_of hB (opens_int Tryz.underlying3)) (foB_cons (s:=1) rfl (by kernel_rfl) (jS hB Tryz.underlying9) (foB_cons (s:=1) rfl (by kernel_rfl) (opensB_of hB (opens_int Tryz.underlying3)) (foB_cons (s:=1) rfl (by kernel_rfl) (opensB_of hB (opens_bool Tryz.underlying4)) (foB_cons (s:=6) rfl (by kernel_rfl) (Dy hB)
  (foB_cons (s:=1) rfl (by kernel_rfl) (opensB_slice (size:=9) (bytes:=104) hB Tryz.underlying23 (by kernel_rfl) (by kernel_rfl) (xY hB)) (foB_cons (s:=1) rfl (by kernel_rfl) (opensB_slice (size:=1) (bytes:=16) hB Tryz.underlying132 (by kernel_rfl) (by kernel_rfl) (jS hB Tryz.underlying9)) (foB_cons (s:=1) rfl (by kernel_rfl) (opensB_of hB (opens_int Tryz.underlying3)) (foB_nil rfl)))))))))
 refine h.map (λx=>((⟨x.1,x.2.1.data.toList,x.2.2.1,x.2.2.2.1,x.2.2.2.2.1.1,x.2.2.2.2.2.1.map (·.1),x.2.2.2.2.2.2.1.map λs=>s.data.toList,x.2.2.2.2.2.2.2.1⟩:Mv),(((x.2.2.2.2.2.1.map λx=>x.2).sum+x.2.2.2.2.1.2)+((x.2.2.2.2.2.2.1.map λs=>s.size+1).sum+(x.2.1.size+1))))) ?_;rintro⟨k,ev,wt,gd,⟨g,m⟩,ac,tg,a,u⟩ cs ⟨c1,r1,rfl,⟨rfl,i1⟩,c2,r2,rfl,⟨rfl,i2⟩,c3,r3,rfl,⟨rfl,i3⟩,c4,r4,rfl,h4,c5,r5,rfl,⟨he,hn,hz⟩,c6,r6,rfl,⟨uK,rfl,Je,_⟩,c7,r7,rfl,⟨tsl,rfl,sI,_⟩,c8,r8,rfl,⟨rfl,i8⟩,hu⟩;have hu:r8=[]:=hu;have h4:c4=[ao gd]:=h4;subst hu h4;obtain⟨a1,a2,a3⟩:=Kj Je;have aqT:aD lD 1 W (λ_=>True) tsl (tg.map λs=>s.data.toList):=M7 (λs=>s.data.toList) sI λx cs _ hx=>by
  obtain⟨rfl,_⟩:=hx;show _=[Value.string (T x.data.toList)]
  rw[<-Ar x]
 refine⟨⟨⟨c5,uK,tsl,?_,he,a1,⟨aqT,λh=>aal⟩⟩,⟨hn,a2,i3⟩,?_⟩,aaw⟩
 ·show _=_::Value.string (T ev.data.toList)::_;rw[<-Ar ev];simp
 show(ky (ac.map (·.1))+E6 g)+(HR (tg.map λs=>s.data.toList)+(ev.data.toList.length+1))<=_;have e:HR (tg.map λs=>s.data.toList)=(tg.map λs=>s.size+1).sum:=by
  unfold HR;rw[iK];congr 1
 rw[e,bsz];dsimp only at hz a3⊢;omega
theorem ab5{w:ay}{F:aL}{s:Sl}{xs:List (Mv×Nat)}(h:aD ab3 13 w F s xs):j5 false (Mm false) 13 134 w F s (xs.map (·.1))/\(∀a,a∈xs.map (·.1)->mvN a)/\Bw (xs.map (·.1))<=(xs.map λx=>x.2).sum:=by
 refine⟨⟨M7 (·.1) h λx cs _ hx=>hx.1,λh=>aal⟩,λa ha=>?_,?_⟩
 ·obtain⟨x,hx,rfl⟩:=cQ.1 ha;obtain⟨cs,hc⟩:=Dx h hx;exact hc.2.1
 rw[H5];exact zU λx hx=>by
  obtain⟨cs,hc⟩:=Dx h hx;exact hc.2.2
theorem O1(hB:IsBulk B):iW B enc au W base spare held 119 aob λx=>x.2:=by
 have h:=opensB_struct (enc:=enc) (P:=au) (W:=W) (base:=base) (spare:=spare) (held:=held) (T:=3) hB Tryz.underlying119 (by kernel_rfl)
  (foB_cons (s:=1) rfl (by kernel_rfl) (jS hB Tryz.underlying9) (foB_cons (s:=1) rfl (by kernel_rfl) (opensB_of hB (opens_int Tryz.underlying3)) (foB_cons (s:=1) rfl (by kernel_rfl) (opensB_of hB (opens_int Tryz.underlying3)) (foB_nil rfl))))
 refine h.map (λx=>((⟨x.1.data.toList,x.2.1,x.2.2.1⟩:Vr),x.1.size+1)) ?_;rintro⟨n,v,a,u⟩ cs ⟨c1,r1,rfl,⟨rfl,i1⟩,c2,r2,rfl,⟨rfl,i2⟩,c3,r3,rfl,⟨rfl,i3⟩,hu⟩;have hu:r3=[]:=hu;subst hu;refine⟨⟨?_,i2,?_⟩,aaw⟩
 ·show _=[Value.string (T n.data.toList),_,_]
  rw[<-Ar n];rfl
 show n.data.toList.length+1<=_;rw[bsz];exact ba _
theorem O2(hB:IsBulk B):iW B enc au W base spare held 27 (rPair rInt (rPair Tf (rPair Tf (rPair Tf (rPair (rSl Xe 9 104) (rPair (rSl Xe 9 104) (rPair (rSl ab3 13 168) (rPair (rSl (Th enc W base spare held 27) 9 160) (rPair rInt rUnit)))))))))
  λx=>(1+((x.2.1.size+1)+((x.2.2.1.size+1)+((x.2.2.2.1.size+1)+(((x.2.2.2.2.1.map λx=>x.2).sum+1)+(((x.2.2.2.2.2.1.map λx=>x.2).sum+1)+(((x.2.2.2.2.2.2.1.map λx=>x.2).sum+1)+(((x.2.2.2.2.2.2.2.1.map B).sum+1)+(1+0)))))))))+1:=by
 have h:=opensB_struct (enc:=enc) (P:=au) (W:=W) (base:=base) (spare:=spare) (held:=held) (T:=9) hB Tryz.underlying27 (by kernel_rfl)
  (foB_cons (s:=1) rfl (by kernel_rfl) (opensB_of hB (opens_int Tryz.underlying3)) (foB_cons (s:=1) rfl (by kernel_rfl) (jS hB Tryz.underlying9) (foB_cons (s:=1) rfl (by kernel_rfl) (jS hB Tryz.underlying9) (foB_cons (s:=1) rfl (by kernel_rfl) (jS hB Tryz.underlying9)
  (foB_cons (s:=1) rfl (by kernel_rfl) (opensB_slice (size:=9) (bytes:=104) hB Tryz.underlying23 (by kernel_rfl) (by kernel_rfl) (xY hB)) (foB_cons (s:=1) rfl (by kernel_rfl) (opensB_slice (size:=9) (bytes:=104) hB Tryz.underlying23 (by kernel_rfl) (by kernel_rfl) (xY hB))
  (foB_cons (s:=1) rfl (by kernel_rfl) (opensB_slice (size:=13) (bytes:=168) hB Tryz.underlying24 (by kernel_rfl) (by kernel_rfl) (O0 hB)) (foB_cons (s:=1) rfl (by kernel_rfl) (opensB_slice (size:=9) (bytes:=160) hB Tryz.underlying25 (by kernel_rfl) (by kernel_rfl) (H8 hB _)) (foB_cons (s:=1) rfl (by kernel_rfl) (opensB_of hB (opens_int Tryz.underlying3)) (foB_nil rfl))))))))))
 exact h
theorem M9:∀{l:List Nd},(∀x,x∈l->Mq x)->Bl l
 | [],_=>by rw[Bl];trivial
 | x::l,h=>by
  rw[Bl];exact⟨h x aac,M9 λy hy=>h y (by simp[hy])⟩
theorem Tj(hB:IsBulk B):∀(N:Nat) {x:DataW H} {cs:aK} {F:aL},B x<=N->Th enc W base spare held 27 W F x cs->∃(e:Nd) (d:Nat),pM false d W (λ_=>True) e cs/\Mq e/\pz e<=B x
 | 0,x,cs,F,h,_=>by have:=hB.one x;omega
 | N+1,x,cs,F,h,⟨ft,p,ht,hw⟩=>by
  obtain⟨⟨k,nm,ini,dft,en,lv,mv,xs,a,u⟩,hr,hm⟩:=O2 (enc:=enc) (W:=W) (base:=base) (spare:=spare) (held:=held) hB ft cs (x,p) ht hw;obtain⟨c1,r1,rfl,⟨rfl,i1⟩,c2,r2,rfl,⟨rfl,i2⟩,c3,r3,rfl,⟨rfl,i3⟩,c4,r4,rfl,⟨rfl,i4⟩,c5,r5,rfl,⟨ens,rfl,F8,_⟩,c6,r6,rfl,⟨CG,rfl,IV,_⟩,c7,r7,rfl,⟨mvs,rfl,sR,_⟩,c8,r8,rfl,⟨sl,rfl,sQ,_⟩,c9,r9,rfl,⟨rfl,i9⟩,hu⟩:=hr;have hu:r9=[]:=hu;subst hu;dsimp only at hm sQ F8 IV sR;have K1:∀y,y∈xs->B y<=(xs.map B).sum:=λy hy=>BE (List.mem_map_of_mem hy);obtain⟨l,l1,l2,l3⟩:=Kh (B:=B) (sz:=λe:Nd×Nat=>pz e.1) (Q:=λj e=>∃base cs,sl.a=some base/\cs.length=9/\aE W (base.add (j*9)) cs/\pM false e.2 W (λ_=>True) e.1 cs/\Mq e.1) xs 0 λj y hj=>by
   rw[bO];obtain⟨bs,ds,g1,g2,g3,g4,g5⟩:=sQ.at_ j y hj;obtain⟨e,d,t1,t2,t3⟩:=Tj hB N (x:=y) (by have:=K1 y (bB hj);omega) g5;exact⟨(e,d),⟨bs,ds,g1,g3,g4,t1,t2⟩,t3⟩
  obtain⟨m,hmx⟩:=Ki (λe:Nd×Nat=>e.2) l;obtain⟨a1,a2,a3⟩:=Kj F8;obtain⟨b1,b2,b3⟩:=Kj IV;obtain⟨d1,d2,d3⟩:=ab5 sR;refine⟨.mk ⟨k,nm.data.toList,ini.data.toList,dft.data.toList,en.map (·.1),lv.map (·.1),mv.map (·.1),a⟩ (l.map (·.1)),m+1,⟨ens,CG,mvs,sl,?_,⟨a1,b1,d1⟩,?_,λh=>aal⟩,?_,?_⟩
  ·show _=[_,Value.string (T nm.data.toList),Value.string (T ini.data.toList),Value.string (T dft.data.toList),_,_,_,_,_]
   rw[<-Ar nm,<-Ar ini,<-Ar dft];rfl
  ·refine⟨by rw[Nd.kids,bA,l1];exact sQ.len,sQ.cap,sQ.nil0,sQ.big,λj e hj=>?_⟩;rw[Nd.kids,ch,gv]at hj;obtain⟨q,q1,rfl⟩:=hj;obtain⟨bs,ds,g1,g2,g3,g4,g5⟩:=l2 j q q1;rw[bO]at g3;exact⟨bs,ds,g1,trivial,g2,g3,abx (hmx q (bB q1)) g4⟩
  ·rw[Mq];refine⟨⟨a2,b2,d2⟩,M9 λy hy=>?_⟩;obtain⟨q,q1,rfl⟩:=cQ.1 hy;obtain⟨j,hj⟩:=fh q1;obtain⟨bs,ds,g1,g2,g3,g4,g5⟩:=l2 j q hj;exact g5
  rw[pz,H7,iK];unfold HU;dsimp only;rw[bsz,bsz,bsz];have e:(l.map (pz∘λx=>x.1)).sum=(l.map λe:Nd×Nat=>pz e.1).sum:=rfl;omega
def aoc:Rp (Nd×Nat):=λw F x cs=>∃d,pM false d w F x.1 cs/\Mq x.1/\pz x.1<=x.2
theorem O3(hB:IsBulk B):iW B enc au W base spare held 27 aoc λx=>x.2:=λft cs x h hw=>by
 obtain⟨e,d,h1,h2,h3⟩:=Tj hB (B x.1) (x:=x.1) (F:=λ_=>True) (ba _) ⟨ft,x.2,h,hw⟩;exact⟨(e,B x.1),⟨d,h1,h2,h3⟩,ba _⟩
def rChU:Rp (Ch×Nat):=λw F x cs=>∃(D:Nat) (vs:Sl) (cs':aK),cs=vs.v::cs'/\ChR false D w F x.1 vs cs'/\Yq x.1/\sB x.1.vars+pz x.1.root<=x.2
theorem opensB_ch(hB:IsBulk B):iW B enc au W base spare held 29 rChU λx=>x.2:=by
 have h:=opensB_struct (enc:=enc) (P:=au) (W:=W) (base:=base) (spare:=spare) (held:=held) (T:=10) hB Tryz.underlying29 (by kernel_rfl)
  (foB_cons (s:=1) rfl (by kernel_rfl) (opensB_slice (size:=3) (bytes:=32) hB Tryz.underlying22 (by kernel_rfl) (by kernel_rfl) (O1 hB)) (foB_cons (s:=9) rfl (by kernel_rfl) (O3 hB) (foB_nil rfl)))
 refine h.map (λx=>((⟨x.1.map (·.1),x.2.1.1⟩:Ch),(x.1.map λx=>x.2).sum+x.2.1.2)) ?_;rintro⟨vs,⟨nd,m⟩,u⟩ cs ⟨c1,r1,rfl,⟨vsl,rfl,yV,_⟩,c2,r2,rfl,⟨d,hnd,hn,hz⟩,hu⟩;have hu:r2=[]:=hu;subst hu;rw[bQ];refine⟨⟨d,vsl,c2,rfl,⟨⟨M7 (·.1) yV λx cs _ hx=>hx.1,λh=>aal⟩,hnd⟩,⟨λv hv=>?_,hn⟩,?_⟩,aaw⟩
 ·obtain⟨x,hx,rfl⟩:=cQ.1 hv;obtain⟨cs,hc⟩:=Dx yV hx;exact hc.2.1
 show sB (vs.map (·.1))+pz nd<=_;rw[H6];have:=zU (f:=λv:Vr=>v.n.length+1) (l:=vs) λx hx=>by
  obtain⟨cs,hc⟩:=Dx yV hx;exact hc.2.2
 dsimp only at hz⊢;omega
end
theorem Dz:∀{p:List (aJ×Int)} {l:List (aJ)},yM l p=[]->(p.map λx=>x.1).Nodup/\∀x,x∈p.map (λx=>x.1)->x∉l
 | [],l,_=>⟨List.nodup_nil,λx h=>aaB⟩
 | x::p,l,h=>by
  rw[yM]at h;obtain⟨h1,h2⟩:=dS.1 h;have h1:x.1∉l:=by simpa using um.1 h1
  obtain⟨g1,g2⟩:=Dz h2;rw[bH];refine⟨kV.2 ⟨λhm=>g2 _ hm aac,g1⟩,λy hy=>?_⟩;rcases aV.1 hy with rfl | hy
  ·exact h1
  exact λhm=>g2 y hy (CU _ hm)
theorem DA:∀{l:List (aJ)} {i:Nat} {s:aJ},l.Nodup->l[i]? =some s->uS s l=i
 | [],i,s,_,h=>aaB
 | x::l,0,s,_,h=>by
  rw[cR,be]at h;rw[uS,bc h.symm]
 | x::l,i+1,s,hn,h=>by
  rw[du]at h;have hn:=kV.1 hn;rw[uS,aY (λe=>hn.1 (by rw[<-e];exact bB h)),DA hn.2 h]
theorem H9{xs:List cM}(hn:(xs.map λx:cM=>x.nm).Nodup){i:Nat}{x:cM}(h:xs[i]? =some x):gJ xs x.nm=i:=by
 unfold gJ;have:=DA hn (i:=i) (s:=x.nm) (by rw[ch,h];rfl);rw[this,bc (eS h)]
theorem Na{xs:List cM}:∀{r:List (aJ)} {l:List Int},Qh xs l r=true->∀t,t∈r->1<=gJ xs t
 | [],_,_,t,h=>aaB
 | s::r,l,h,t,ht=>by
  rw[H0]at h;by_cases h1:gJ xs s<1
  ·rw[bc h1]at h;cases h
  rw[aY h1]at h;split at h
  ·cases h
  rcases aV.1 ht with rfl | ht
  ·omega
  exact Na h t ht
def wJ(xs L:List cM)(a:Nat):Prop:=∀(i:Nat) (x:cM),L[i]? =some x->xs[a+i]? =some x
theorem wJ.left{xs L M:List cM}{a:Nat}(h:wJ xs (L++M) a):wJ xs L a:=λi x hi=>h i x (by rw[bM (eS hi)];exact hi)
theorem wJ.right{xs L M:List cM}{a:Nat}(h:wJ xs (L++M) a):wJ xs M (a+L.length):=λi x hi=>by
 rw[eY];exact h _ x (by rw[bZ aG,eE];exact hi)
theorem Nc{xs:List cM}{s:aJ}{pa dp:Int}:∀{l:List Nd} {a:Nat},HJ s l=true->wJ xs (qA a pa dp l) a->∃(i:Nat) (x:cM),xs[i]? =some x/\x.nm=s/\x.pa=pa/\a<=i
 | [],a,h,_=>by simp[HJ]at h
 | .mk b ks::l,a,h,hs=>by
  rw[qA]at hs;have hl:=mE a pa dp (.mk b ks);by_cases e:b.nm=s
  ·refine⟨a,⟨b.k,b.nm,pa,dp,_⟩,hs.left 0 _ (by rw[E9];rfl),e,rfl,ba _⟩
  have h':HJ s l=true:=by
   unfold HJ at h⊢;rw[List.any_cons]at h;simpa[Nd.b,e]using h
  have hr:=hs.right;rw[hl]at hr;obtain⟨i,x,h1,h2,h3,h4⟩:=Nc h' hr;exact⟨i,x,h1,h2,h3,aG⟩
theorem vD{c:Ch}(h:(jK c).1=0):(gN c).2=0/\HL c=[]:=by
 unfold jK at h;by_cases hp:(gN c).2≠0
 ·rw[bc hp]at h;exact absurd h hp
 rw[aY hp]at h;exact⟨Decidable.not_not.1 hp,SA (SF c) h⟩
theorem O4{c:Ch}(h:(gN c).2=0):HF c=true:=by
 unfold gN at h;by_cases h1:HF c=true
 ·exact h1
 rw[aY h1]at h;exact absurd h aN
section
variable {w w':ay} {F G:aL} {s:Sl} {xs:List cM}
theorem Xf{k0:Nat}(x:cM)(n:aJ)(hB:aH w k0 9 [ah (T n)]):aB au 149 #[aj (spv x).toArray,ai (some ⟨k0,0,none⟩)] w λe w'=>e=aq (ao (decide (x.nm=n)))/\aA [] w w':=by
 refine ret (am8 _ _ _ _ _ _ _ _ ?_);intro k1 w0 hk iJ hO;exact⟨_,(hO.blk hB aac).cells 0 [_] λj v hj=>adV,by rw[mM],hO⟩
theorem Kk{n:aJ}{j:Nat}{x:cM}(hj:xs[j]? =some x)(h:∀y,y∈xs.take j->y.nm≠n)(e:x.nm=n):gJ xs n=j:=by
 unfold gJ;have hl:=eS hj;have:uS n (xs.map λx:cM=>x.nm)=j:=by
  have e1:xs.map (λx:cM=>x.nm)=(xs.take j).map (λx:cM=>x.nm)++n::(xs.drop (j+1)).map λx:cM=>x.nm:=by
   rw[<-e,<-bH,<-dh];congr 1;rw[<-(aZ.1 hj).2,List.getElem_cons_drop,dl]
  rw[e1,Fg]
  ·rw[bA,cJ];omega
  intro hm;obtain⟨y,hy,e'⟩:=cQ.1 hm;exact h y hy e'
 rw[this,bc hl]
theorem ab6(h:aD nN 5 w F s xs)(n:aJ):aB au 101 #[s.v,ah (T n)] w λe w'=>e=aq (O ae (gJ xs n))/\aA [] w w':=by
 refine ret (am7 _ _ _ _ ?_);intro k0 w0 gU fD cO sF;have hl:=h.len;have QD:=h.cap;have xt:=h.big;refine(ahd s ⟨.func (.func 149) #[] #[ai (some ⟨k0,0,none⟩)],rfl⟩ (λv w'=>v=O ae (gJ xs n)/\aA [] w0 w') w0 ?_).mono (by
  rintro _ w' ⟨v,rfl,rfl,hO⟩;exact⟨_,rfl,_,hO.blk sF aac,rfl,cO.cr hO⟩)
 refine⟨λkv i u=>∃j:Nat,i=(j:Int)/\kv+j=xs.length/\j<=xs.length/\(∀y,y∈xs.take j->y.nm≠n)/\aA [] w0 u,xs.length,⟨0,rfl,aG,bh _,aac,Only.refl _ _⟩,?_⟩;rintro kv _ u ⟨j,rfl,sJ,hj,hh,hO⟩;refine⟨λhc=>?_,λhc=>?_⟩
 ·have hc:=aP hc;obtain⟨x,hx⟩:=fL (xs:=xs) (i:=j) aG;obtain⟨ad,a1,a2,_⟩:=jJ (SliceF.only db aN h (cO.cr hO) aac) hx;refine⟨ad,a1,_,_,_,_,_,a2,149,[],[ai (some ⟨k0,0,none⟩)],rfl,eU (by kernel_rfl),(Xf x n (hO.blk sF aac)).mono ?_⟩;rintro _ u1 ⟨rfl,cG⟩;refine⟨_,rfl,λhb=>⟨?_,hO.cr cG⟩,λhb=>⟨kv-1,aG,j+1,aad,aG,aG,λy hy=>?_,hO.cr cG⟩⟩
  ·rw[Kk hx hh (aP hb)]
  rw[bE,hx,bN]at hy;rcases hy with hy | hy
  ·exact hh y hy
  simp only[Option.toList,aO]at hy;subst hy;exact aX hb
 have hc:=aX hc;rw[bq aG]at hh;refine⟨?_,hO⟩;rcases mU xs n with⟨e,_⟩ | ⟨i,x,_,hx,e⟩
 ·rw[e]
 exact absurd e (hh x (bB hx))
end
end Go.Proofs.YtpbgcbdclnfpnaaGreatDoor.Con
namespace Go.Proofs.YtpbgcbdclnfpnaaGreatDoor.Con
open Go Go.RowKit Go.Kt Go.Kt.V Go.Proofs.YtpbgcbdclnfpnaaGreatDoor.Vc
def mY(xs:List cM)(s:aJ):Int:=if s=[]then -1 else gJ xs s
def Tl(xs:List cM)(l:List Int):Nat->Int
 | 0=> -1
 | n+1=>if(l.all λk=>oM xs n k)=true then n else Tl xs l n
def ab7(xs:List cM)(n:Int):Bool:=decide (0<=n)&&decide (n<xs.length)
theorem BF{xs:List cM}{n:Int}:ab7 xs n=true↔pu xs n:=by
 unfold ab7 pu;rw[aR,bL,bL]
def mtM(xs:List cM)(l:List Int):Int:=if l=[]∨(l.any λn=>!ab7 xs n)=true then -1 else Tl xs l xs.length
theorem wK(xs:List cM)(l:List Int):∀n:Nat,(Tl xs l n= -1/\∀m,m<n->(l.all λk=>oM xs m k)=false)∨∃m:Nat,Tl xs l n=m/\m<n/\(l.all λk=>oM xs m k)=true/\∀j,m<j->j<n->(l.all λk=>oM xs j k)=false
 | 0=>.inl ⟨rfl,λm h=>aG⟩
 | n+1=>by
  unfold Tl;by_cases h:(l.all λk=>oM xs n k)=true
  ·rw[bc h];exact .inr ⟨n,rfl,aG,h,λj h1 h2=>aG⟩
  rw[aY h];have h:(l.all λk=>oM xs n k)=false:=aaA
  rcases wK xs l n with⟨h1,h2⟩ | ⟨m,h1,h2,h3,h4⟩
  ·exact .inl ⟨h1,λm hm=>(Nat.lt_succ_iff_lt_or_eq.1 hm).elim (h2 m) λe=>by rw[e];exact h⟩
  exact .inr ⟨m,h1,aG,h3,λj h5 h6=>(Nat.lt_succ_iff_lt_or_eq.1 h6).elim (h4 j h5) λe=>by rw[e];exact h⟩
theorem wL{xs:List cM}{l:List Int}{m:Nat}:(l.all λk=>oM xs m k)=true↔∀n:Int,n∈l->∃k:Nat,n=k/\jp xs m k:=by
 rw[dF];constructor
 ·intro h n hn;obtain⟨i,j,h1,h2,h3⟩:=oA.1 (h n hn);have:i=m:=aG
  subst this;exact⟨j,h2,h3⟩
 intro h n hn;obtain⟨k,h1,h2⟩:=h n hn;exact oA.2 ⟨m,k,rfl,h1,h2⟩
theorem Fo.ahY{xs:List cM}(F:Fo xs){l:List Int}{r:Int}(h:Mt xs l r):r=mtM xs l:=by
 unfold mtM;rcases h with⟨h1,h2⟩ | ⟨⟨h1,h2⟩,m,h3,h4,h5⟩
 ·rw[bc,h2];rcases h1 with h1 | ⟨n,hn,hb⟩
  ·exact .inl h1
  refine .inr (fz.2 ⟨n,hn,?_⟩);rw[da,eu];exact λh=>hb (BF.1 h)
 rw[aY]
 ·obtain⟨n,hn⟩:=gM l h1;obtain⟨k,_,hk⟩:=h4 n hn;have hm:m<xs.length:=by
   obtain⟨s,hs,_⟩:=hk;exact eS hs
  rcases wK xs l xs.length with⟨_,g⟩ | ⟨q,g1,g2,g3,g4⟩
  ·have:=g m hm;rw[wL.2 h4]at this;cases this
  have hq:=h5 q (wL.1 g3);have:m<=q:=by
   refine qV λhl=>?_;have:=g4 m hl hm;rw[wL.2 h4]at this;cases this
  rw[g1,h3];omega
 rintro(h | h)
 ·exact h1 h
 obtain⟨n,hn,hb⟩:=fz.1 h;rw[BF.2 (h2 n hn)]at hb;cases hb
def Kl(xs:List cM)(l:List Int):Nat->Int->Int
 | 0,d=>d
 | n+1,d=>if 0<d/\(lq xs d≠1∨d∈l)then Kl xs l n (Fc xs d)else d
def Fs(xs:List cM)(src:Int)(tg:List Int):Int:=if tg=[]then -1 else Kl xs (src::tg) xs.length (mtM xs (src::tg))
structure Ro where
 src:Int
 slot:Int
 k:Int
 ev:aJ
 wt:Int
 tg:List Int
 dom:Int
def Xg(xs:List cM)(a i:Nat)(m:Mv):Ro:=⟨a,i,m.k,m.ev,m.wt,m.tg.map (mY xs),Fs xs a (m.tg.map (mY xs))⟩
def I6(xs:List cM)(a:Nat):Nat->List Mv->List Ro
 | _,[]=>[]
 | i,m::l=>Xg xs a i m::I6 xs a (i+1) l
mutual
def Fu(xs:List cM):Nat->Nd->List Ro
 | a,.mk b l=>I6 xs a 0 b.mv++oE xs (a+1) l
def oE(xs:List cM):Nat->List Nd->List Ro
 | _,[]=>[]
 | a,x::l=>Fu xs a x++oE xs (a+jk x) l
end
mutual
def uV:Nd->List Nb
 | .mk b l=>b::BG l
def BG:List Nd->List Nb
 | []=>[]
 | x::l=>uV x++BG l
end
structure Pl where
 sp:List cM
 ini:List Int
 dft:List Int
 ro:List Ro
def dR(c:Ch):Pl:=⟨cx c,(uV c.root).map λb=>mY (cx c) b.ini,(uV c.root).map λb=>mY (cx c) b.dft,Fu (cx c) 0 c.root⟩
theorem Nf:∀l m:List Nd,BG (l++m)=BG l++BG m
 | [],m=>by rw[cF,BG,cF]
 | x::l,m=>by rw[cp,BG,BG,Nf l m,bP]
mutual
theorem nV:∀x,(uV x).length=jk x
 | .mk b l=>by rw[uV,jk,bn,wM]
theorem wM:∀l,(BG l).length=ff l
 | []=>by rw[BG,ff];rfl
 | x::l=>by rw[BG,ff,aW,nV,wM]
end
theorem Ia(xs:List cM):∀(l m:List Nd) (a:Nat),oE xs a (l++m)=oE xs a l++oE xs (a+ff l) m
 | [],m,a=>by rw[cF,oE,cF,ff,fJ]
 | x::l,m,a=>by rw[cp,oE,oE,Ia xs l m,bP,ff,eY]
theorem Ib(xs:List cM)(a:Nat):∀(l:List Mv) (i:Nat) (m:Mv),I6 xs a i (l++[m])=I6 xs a i l++[Xg xs a (i+l.length) m]
 | [],i,m=>rfl
 | x::l,i,m=>by
  rw[cp,I6,I6,Ib xs a l,cp,bn];congr 4;omega
theorem zV(xs:List cM)(a:Nat):∀(l:List Mv) (i:Nat),(I6 xs a i l).length=l.length
 | [],_=>rfl
 | x::l,i=>by rw[I6,bn,bn,zV xs a l]
theorem dd.sl{B:Nat}{w:ay}{s:Sl}{xs:List Int}(h:dd B w s xs):aD rInt 1 w (λk=>B<=k) s xs:=(h.slice bF).mono bF λk hk=>hk.elim (λh=>h.elim) λh=>h.1
theorem gD{w:ay}{F:aL}{s:Sl}{l:List Int}(h:aD rInt 1 w F s l){i:Nat}{x:Int}(hx:l[i]? =some x):∃ad,dE s (i:Int) 1 ad/\aE w ad [O ae x]:=by
 have bT:=(aZ.1 hx).1;have hl:=h.len;obtain⟨ad,y,cs,g1,g2,g3,g4,g5,g6⟩:=h.get (bD i) aG;rw[aU,hx]at g2;injection g2 with g2;subst g2;obtain⟨rfl,_⟩:=g6;exact⟨ad,g1,g5⟩
theorem kI{w w':ay}{F:aL}{s:Sl}{l:List Int}(h:aD rInt 1 w F s l)(hO:aA [] w w'):aD rInt 1 w' F s l:=SliceF.only bF aN h hO aac
def im(s:Sl)(k:Nat):Prop:=s.a=some ⟨k,0,none⟩
theorem Tm{w:ay}{F:aL}{s:Sl}{l:List Int}(h:aD rInt 1 w F s l)(c:Int):
  aB au 73 #[Sl.v s,O ae c] w λe w'=>∃i:Int,e=aq (O ae i)/\decide (i>=0)=decide (c∈l)/\aA [] w w':=by
 refine(ahi s c (λv w'=>∃i:Int,v=O ae i/\decide (i>=0)=decide (c∈l)/\aA [] w w') w ?_).mono (by
  rintro e w' ⟨v,rfl,i,rfl,h⟩;exact⟨i,rfl,h⟩)
 have fy:=h.len;have qR:=h.big;have lI:=h.cap;refine⟨λnv i w'=>∃n:Nat,n<=l.length/\i=(n:Int)/\nv=l.length-n/\(∀x,x∈l.take n->x≠c)/\w'=w,l.length,⟨0,bh _,rfl,rfl,aac,rfl⟩,?_⟩;rintro nv _ u ⟨n,hn,rfl,rfl,hp,hu⟩;obtain rfl:w=u:=hu.symm;refine⟨λhc=>?_,λhc=>?_⟩
 ·have bT:(n:Int)<s.n:=aP hc;have VN:n<l.length:=aG
  obtain⟨ad,g1,g5⟩:=gD h (aQ VN);refine⟨ad,g1,_,g5,λhe=>⟨_,rfl,?_,Only.refl _ _⟩,λhe=>⟨l.length-(n+1),aG,n+1,aG,aad,rfl,?_,rfl⟩⟩
  ·have he:c=l[n]:=acQ
   rw[bJ aG];symm;rw[bX,he];exact dZ VN
  have he:c≠l[n]:=acQ
  intro y hy;rw[bE,aQ VN]at hy;simp only[oc,bN,aO]at hy;rcases hy with hy | rfl
  ·exact hp y hy
  exact λe=>he e.symm
 have lz:¬((n:Int)<s.n):=aX hc;rw[bq aG]at hp;refine⟨_,rfl,?_,Only.refl _ _⟩;rw[bI aG];exact(bI λhh=>hp c hh rfl).symm
theorem mV{w:ay}{F:aL}{s:Sl}{l:List Int}(h:aD rInt 1 w F s l)(c:Int):
  aB au 35 #[Sl.v s,O ae c] w λe w'=>e=aq (ao (decide (c∈l)))/\aA [] w w':=by
 refine ret (ahg _ _ _ _ ?_);refine(Tm h c).mono ?_;rintro _ w1 ⟨i,rfl,hi,hO⟩;exact⟨i,rfl,by rw[hi],hO⟩
theorem BH(u:ay){a:Int}(ha:rf a):∃y w1,(aw 33 1 #[.mk 0 (O ae a)]).run au u=.ok (Sl.v y) w1/\aA [] u w1/\dd u.heap.size w1 y [a]:=by
 obtain⟨y,w1,k1,k2,k3,_⟩:=jv (P:=au) (t:=33) (e:=3) (i:=Tryz.t3) (z:=O ae 0) (w:=u) (F:=λ_=>False) (vs:=[O ae a]) (parts:=#[.mk 0 (O ae a)]) (len:=1) (xs:=[a]) (r:=rInt) (size:=1) (by kernel_rfl) (by kernel_rfl) rfl rfl aN rfl rfl aN aN bF ⟨⟨rfl,rfl,ha⟩,trivial⟩;exact⟨y,w1,k1,k3,k2⟩
theorem Ng{A:Nat}{u:ay}{s y:Sl}{is js:List Int}{G:aL}(h:dd A u s is)(hA:A<=u.heap.size)(hy:aD rInt 1 u G y js)(hG:∀k,G k->¬im s k)(hm:is.length+js.length<=1000000000):
  ∃s' w2,(Builtin.append_ #[33,33] 33 #[Sl.v s,Sl.v y]).run au u=.ok (Sl.v s') w2/\dd A w2 s' (is++js)/\aF (im s) u w2/\∀k,im s' k->im s k∨u.heap.size<=k:=by
 obtain⟨s',w2,g1,g2,gs,g3,g4,g5⟩:=vT (P:=au) (t:=33) (ty:=33) (e:=3) (i:=Tryz.t3) (bytes:=8) (size:=1) (r:=rInt) (F:=λ_=>True) (y:=y) (ys:=js) (by kernel_rfl) (by kernel_rfl) rfl rfl rfl rfl bF (h.mono bF λk hk=>trivial) (hy.mono bF λk hk=>⟨trivial,hG k hk⟩) hA aG aN;refine⟨s',w2,g1,dd.of g2,g3.p λg hg=>.inl (g4 g hg).1,λk hk=>?_⟩;unfold im at hk⊢;rcases g5 with e | e
 ·exact .inl acf
 rw[e]at hk;injection hk with hk;injection hk with hk;exact .inr aG
theorem O5{A:Nat}{u:ay}{s:Sl}{is:List Int}(h:dd A u s is)(hA:A<=u.heap.size){n:Int}(hn:rf n)(hm:is.length<=20000000):
  ∃y w1,(aw 33 1 #[.mk 0 (O ae n)]).run au u=.ok (Sl.v y) w1/\aA [] u w1/\∃s' w2,(Builtin.append_ #[33,33] 33 #[Sl.v s,Sl.v y]).run au w1=.ok (Sl.v s') w2/\dd A w2 s' (is++[n])/\aF (im s) w1 w2/\∀k,im s' k->im s k∨u.heap.size<=k:=by
 obtain⟨y,w1,k1,k3,s',w2,g1,g2,⟨gs,g3,g4⟩,g5⟩:=jG (P:=au) (t:=33) (ty:=33) (e:=3) (i:=Tryz.t3) (bytes:=8) (size:=1) (r:=rInt) (G:=λ_=>False) (v:=O ae n) (x:=n) (by kernel_rfl) (by kernel_rfl) rfl rfl rfl rfl aN aN aN bF h hA rfl ⟨rfl,hn⟩ (λ_ h=>h.elim) aG;refine⟨y,w1,k1,k3,s',w2,g1,dd.of g2,g3.p λg hg=>.inl (g4 g hg).1,λk hk=>?_⟩;unfold im at hk⊢;rcases g5 with e | ⟨g,e,h⟩
 ·exact .inl acf
 rw[e]at hk;injection hk with hk;injection hk with hk;exact .inr aG
section
variable {w w':ay} {F G:aL} {s:Sl} {xs:List cM} {b:Nat} {ty:TypeId} {x1 x2 x3:az}
theorem Tn(hB:aH w b ty [s.v,x1,x2,x3])(h:aD nN 5 w F s xs)(n:aJ):aB au 62 #[ai (some ⟨b,0,none⟩),ah (T n)] w λe w'=>e=aq (O ae (mY xs n))/\aA [] w w':=by
 refine ret (anF _ _ _ _ ?_);have q0:((T n).toList==(ar #[]).toList)=decide (n=[]):=mM n [];rw[q0];refine⟨λhc=>⟨?_,Only.refl _ _⟩,λhc=>⟨s,Blk.eh hB 0 rfl,(ab6 h n).mono ?_⟩⟩
 ·unfold mY;rw[bc (aP hc)]
 rintro _ w0 ⟨rfl,hO⟩;exact⟨_,rfl,by unfold mY;rw[aY (aX hc)],hO⟩
theorem ab8(xs:List cM)(n:aJ):mY xs n= -1∨∃j:Nat,mY xs n=j/\j<xs.length:=by
 unfold mY;split
 ·exact .inl rfl
 exact BD xs n
theorem O6(hB:aH w b ty [s.v,x1,x2,x3])(h:aD nN 5 w F s xs)(hF:Fo xs)(Gs:xs.length<=1000000){sT:Sl}{tg:List Int}(hT:aD rInt 1 w G sT tg)(hm:tg.length<=20000000){a:Nat}(ha:a<=1000000):
  aB au 63 #[ai (some ⟨b,0,none⟩),O ae (a:Int),sT.v] w λe w'=>e=aq (O ae (Fs xs a tg))/\aA [] w w':=by
 refine ret (anG _ _ _ _ _ ?_);have hl:=hT.len;refine⟨λhc=>⟨?_,Only.refl _ _⟩,λhc=>?_⟩
 ·have hc:(sT.n:Int)=0:=aai
  have:tg=[]:=bR aG;unfold Fs;rw[bc this]
 have hc:¬(sT.n:Int)=0:=aai
 have gq:tg≠[]:=λe=>hc (by rw[e]at hl;simp at hl;omega);obtain⟨y,w0,k1,k3,k2⟩:=BH w (a:=(a:Int)) ⟨aG,aG⟩;have z0:=k3.size;have hT0:aD rInt 1 w0 (λk=>G k/\k<w.heap.size) sT tg:=kI (SliceF.inHeap bF hT aN) k3;obtain⟨q,w1,g1,g2,g3,_⟩:=Ng k2 z0 hT0 (λk hk e=>by have:=(k2.blk e).1;dsimp only at this;omega) (by rw[bK];omega);have o1:aA [] w w1:=(k3.mZ (g3.mono (G:=λk=>w.heap.size<=k) λk _ e=>by have:=(k2.blk e).1;exact this)).only λk hk=>hk;refine⟨y,w0,k1,q,w1,g1,s,Blk.eh (o1.blk hB aac) 0 rfl,(S6 (SliceF.only db aN h o1 aac) hF (g2.slice bF)).mono ?_⟩;rintro _ w2 ⟨⟨r,rfl,hr⟩,dk⟩;have o2:=o1.cr dk;have er:=hF.ahY hr;have e1:[(a:Int)]++tg=(a:Int)::tg:=rfl;rw[e1]at er g2;have U3:r<xs.length:=by
  have hl:=hF.ne;rw[er];unfold mtM;split
  ·omega
  rcases wK xs ((a:Int)::tg) xs.length with⟨g,_⟩ | ⟨m,g1,g2,_,_⟩<;>omega
 refine⟨r,rfl,λkv d u=>Kl xs ((a:Int)::tg) kv d=Fs xs a tg/\d<xs.length/\d<=kv/\aA [] w u/\aA [] w1 u,xs.length,⟨?_,U3,aG,o2,dk⟩,?_⟩
 ·unfold Fs;rw[aY gq,er]
 rintro kv d w3 ⟨hd,zm,hdk,o3,p3⟩;refine⟨λc u=>c=decide (0<d/\(lq xs d≠1∨d∈(a:Int)::tg))/\aA [] w u/\aA [] w1 u,?_,λtW=>?_,λtW=>?_⟩
 ·rintro _ w4 ⟨rfl,o4,p4⟩;refine⟨λhb=>?_,λhb=>⟨?_,o4⟩⟩
  ·have hb:=aP hb;obtain⟨i,rfl⟩:∃i:Nat,d=i:=⟨d.toNat,aG⟩
   obtain⟨x,hx⟩:=fL (xs:=xs) (i:=i) aG;obtain⟨ad,a1,_,a3,_⟩:=jJ (SliceF.only db aN h o4 aac) hx;have hp:=hF.uX hx;obtain⟨n,rfl⟩:∃n,kv=n+1:=⟨kv-1,aG⟩
   refine⟨s,Blk.eh (o4.blk hB aac) 0 rfl,ad,a1,x.pa,a3,n,aG,?_,aG,aG,o4,p4⟩;rw[Kl,bc hb,jr hx]at hd;exact hd
  have hb:=aX hb;congr 1;rw[<-hd];cases kv with
  | zero=>rfl
  | succ n=>rw[Kl,aY hb]
 ·have tW:=aP tW;obtain⟨i,rfl⟩:∃i:Nat,d=i:=⟨d.toNat,aG⟩
  obtain⟨x,hx⟩:=fL (xs:=xs) (i:=i) aG;obtain⟨ad,a1,a2,_⟩:=jJ (SliceF.only db aN h o3 aac) hx;refine⟨s,Blk.eh (o3.blk hB aac) 0 rfl,ad,a1,x.k,a2.eh 0 _ rfl,λhk=>⟨?_,o3,p3⟩,λhk=>(mV (kI (g2.slice bF) p3) _).mono ?_⟩
  ·have hk:x.k≠1:=aas
   exact(bJ ⟨tW,.inl (by rw[fZ hx];exact hk)⟩).symm
  have hk:x.k=1:=aas
  rintro _ w5 ⟨rfl,eJ⟩;refine⟨_,rfl,?_,o3.cr eJ,p3.cr eJ⟩;rw[ga,fZ hx];exact⟨λh=>⟨tW,.inr h⟩,λh=>h.2.resolve_left λh'=>h' hk⟩
 have tW:=aX tW;exact⟨(bI λh=>tW h.1).symm,o3,p3⟩
end
def ZA:Rp Ro:=λw F x cs=>∃tg:Sl,cs=[O ae x.src,O ae x.slot,O ae x.k,ah (T x.ev),O ae x.wt,tg.v,O ae x.dom]/\aD rInt 1 w F tg x.tg
theorem gP:ZA.Ok where
 keep:=by
  rintro w w' F x cs ⟨d,h1,h2⟩ hk;exact⟨d,h1,h2.keep bF aN hk⟩
 inHeap:=by
  rintro w F x cs ⟨d,h1,h2⟩;exact⟨d,h1,h2.inHeap bF aN⟩
 mono:=by
  rintro w F G x cs ⟨d,h1,h2⟩ hk;exact⟨d,h1,h2.mono bF hk⟩
 one:=by
  rintro w F x cs ⟨d,rfl,_⟩ v hv;simp only[aV,bp,cm]at hv;rcases hv with rfl | rfl | rfl | rfl | rfl | rfl | rfl<;>rfl
def Q3(a c d:Sl)(k:Nat):Prop:=im a k∨im c k∨im d k
structure Lb (w:ay) (b:Nat) (F:aL) (s si sd sr:Sl) (xs:List cM) (ini dft:List Int) (ro:List Ro):Prop where
 sp:aD nN 5 w F s xs
 hF:∀k,F k->k<w.heap.size/\k≠b/\¬Q3 si sd sr k
 i:dd (b+1) w si ini
 d:dd (b+1) w sd dft
 r:Own ZA 7 54 (b+1) w (λk=>b<k/\¬im si k/\¬im sd k) sr ro
 ap:∀k,im si k->¬im sd k/\¬im sr k
 ap2:∀k,im sd k->¬im sr k
structure La (w:ay) (b:Nat) (F:aL) (s si sd sr:Sl) (xs:List cM) (ini dft:List Int) (ro:List Ro):Prop extends Lb w b F s si sd sr xs ini dft ro where
 blk:aH w b 66 [s.v,si.v,sd.v,sr.v]
section
variable {w w':ay} {F:aL} {s si sd sr:Sl} {xs:List cM} {b:Nat} {ini dft:List Int} {ro:List Ro}
theorem La.lt(h:La w b F s si sd sr xs ini dft ro):b<w.heap.size:=h.blk.lt
theorem Lb.bi(h:Lb w b F s si sd sr xs ini dft ro):∀k,im si k->b<k/\k<w.heap.size:=λk e=>by have:=h.i.blk e;dsimp only at this;omega
theorem Lb.bd(h:Lb w b F s si sd sr xs ini dft ro):∀k,im sd k->b<k/\k<w.heap.size:=λk e=>by have:=h.d.blk e;dsimp only at this;omega
theorem Lb.br(h:Lb w b F s si sd sr xs ini dft ro):∀k,im sr k->b<k/\k<w.heap.size:=λk e=>by have:=h.r.blk e;dsimp only at this;omega
theorem Lb.o0(h:Lb w b F s si sd sr xs ini dft ro)(hO:aA [] w w'):Lb w' b F s si sd sr xs ini dft ro:=
 ⟨SliceF.only db aN h.sp hO aac,λk hk=>⟨cq (h.hF k hk).1 hO.size,(h.hF k hk).2⟩,h.i.keep bF λk _ bT=>hO.block k bT aac,h.d.keep bF λk _ bT=>hO.block k bT aac,h.r.keep gP λk _ bT=>hO.block k bT aac,h.ap,h.ap2⟩
theorem La.o0(h:La w b F s si sd sr xs ini dft ro)(hO:aA [] w w'):La w' b F s si sd sr xs ini dft ro:=⟨h.toLb.o0 hO,hO.blk h.blk aac⟩
theorem Lb.acr(h:Lb w b F s si sd sr xs ini dft ro){n:Int}(hn:rf n)(bT:b<w.heap.size)(hm:ini.length<=20000000):
  ∃y w1,(aw 33 1 #[.mk 0 (O ae n)]).run au w=.ok (Sl.v y) w1/\aA [] w w1/\∃s' w2,(Builtin.append_ #[33,33] 33 #[Sl.v si,Sl.v y]).run au w1=.ok (Sl.v s') w2/\aF (im si) w1 w2/\(∀k,im s' k->im si k∨w.heap.size<=k)/\
   ∀w3,aA [b] w2 w3->Lb w3 b F s s' sd sr xs (ini++[n]) dft ro:=by
 obtain⟨y,w1,k1,k3,s',w2,g1,g2,g3,g4⟩:=O5 h.i aG hn hm;have z1:=k3.size;have z2:=g3.size;refine⟨y,w1,k1,k3,s',w2,g1,g3,g4,λw3 hO=>?_⟩;have hk:∀k,k<w.heap.size->k≠b->¬im si k->w3.heap[k]? =w.heap[k]? :=λk h1 h2 h3=>by
  rw[hO.block k aG acM,g3.block k aG h3,k3.block k h1 aac]
 refine⟨h.sp.keep db aN λk vh hl=>hk k hl (h.hF k vh).2.1 λe=>(h.hF k vh).2.2 (.inl e),λk vh=>⟨acJ,(h.hF k vh).2.1,λhq=>hq.elim (λe=>(g4 k e).elim (λe=>(h.hF k vh).2.2 (.inl e)) λe=>adW) λe=>(h.hF k vh).2.2 (.inr e)⟩,g2.keep bF λk iJ hl=>hO.block k hl (by have:=iJ.resolve_left id;simp;omega),h.d.keep bF λk iJ hl=>?_,((h.r.inHeap gP).keep gP λk iJ hl=>?_).mono gP λk iJ=>⟨iJ.1.1,λe=>?_,iJ.1.2.2⟩,λk e=>?_,h.ap2⟩
 ·have:=iJ.resolve_left id;exact hk k hl aG λe=>(h.ap k e).1 this.2
 ·rcases iJ with iJ | iJ
  ·exact hk k hl (by have:=iJ.1.1;omega) iJ.1.2.1
  exact hk k hl aG λe=>(h.ap k e).2 iJ.2
 ·rcases g4 k e with e | e
  ·exact iJ.1.2.1 e
  have:=iJ.2;omega
 rcases g4 k e with e | e
 ·exact h.ap k e
 exact⟨λe'=>by have:=h.bd k e';omega,λe'=>by have:=h.br k e';omega⟩
theorem La.acr(h:La w b F s si sd sr xs ini dft ro){n:Int}(hn:rf n)(hm:ini.length<=20000000):
  ∃y w1,(aw 33 1 #[.mk 0 (O ae n)]).run au w=.ok (Sl.v y) w1/\aA [] w w1/\∃s' w2,(Builtin.append_ #[33,33] 33 #[Sl.v si,Sl.v y]).run au w1=.ok (Sl.v s') w2/\aF (im si) w1 w2/\(∀k,im s' k->im si k∨w.heap.size<=k)/\aH w2 b 66 [s.v,si.v,sd.v,sr.v]/\
   ∀w3,aA [b] w2 w3->aH w3 b 66 [s.v,s'.v,sd.v,sr.v]->La w3 b F s s' sd sr xs (ini++[n]) dft ro:=by
 obtain⟨y,w1,k1,k3,s',w2,g1,g3,g4,h'⟩:=h.toLb.acr hn h.lt hm;exact⟨y,w1,k1,k3,s',w2,g1,g3,g4,g3.blk (k3.blk h.blk aac) λe=>by have:=h.bi b e;omega,λw3 hO hB=>⟨h' w3 hO,hB⟩⟩
theorem Lb.acs(h:Lb w b F s si sd sr xs ini dft ro){n:Int}(hn:rf n)(bT:b<w.heap.size)(hm:dft.length<=20000000):
  ∃y w1,(aw 33 1 #[.mk 0 (O ae n)]).run au w=.ok (Sl.v y) w1/\aA [] w w1/\∃s' w2,(Builtin.append_ #[33,33] 33 #[Sl.v sd,Sl.v y]).run au w1=.ok (Sl.v s') w2/\aF (im sd) w1 w2/\(∀k,im s' k->im sd k∨w.heap.size<=k)/\
   ∀w3,aA [b] w2 w3->Lb w3 b F s si s' sr xs ini (dft++[n]) ro:=by
 obtain⟨y,w1,k1,k3,s',w2,g1,g2,g3,g4⟩:=O5 h.d aG hn hm;have z1:=k3.size;have z2:=g3.size;refine⟨y,w1,k1,k3,s',w2,g1,g3,g4,λw3 hO=>?_⟩;have hk:∀k,k<w.heap.size->k≠b->¬im sd k->w3.heap[k]? =w.heap[k]? :=λk h1 h2 h3=>by
  rw[hO.block k aG acM,g3.block k aG h3,k3.block k h1 aac]
 refine⟨h.sp.keep db aN λk vh hl=>hk k hl (h.hF k vh).2.1 λe=>(h.hF k vh).2.2 (.inr (.inl e)),λk vh=>⟨acJ,(h.hF k vh).2.1,λhq=>hq.elim (λe=>(h.hF k vh).2.2 (.inl e)) λhq=>hq.elim (λe=>(g4 k e).elim (λe=>(h.hF k vh).2.2 (.inr (.inl e))) λe=>adW) λe=>(h.hF k vh).2.2 (.inr (.inr e))⟩,h.i.keep bF λk iJ hl=>?_,g2.keep bF λk iJ hl=>hO.block k hl (by have:=iJ.resolve_left id;simp;omega),((h.r.inHeap gP).keep gP λk iJ hl=>?_).mono gP λk iJ=>⟨iJ.1.1,iJ.1.2.1,λe=>?_⟩,λk e=>⟨λe'=>?_,(h.ap k e).2⟩,λk e=>?_⟩
 ·have:=iJ.resolve_left id;exact hk k hl aG (h.ap k this.2).1
 ·rcases iJ with iJ | iJ
  ·exact hk k hl (by have:=iJ.1.1;omega) iJ.1.2.2
  exact hk k hl aG λe=>h.ap2 k e iJ.2
 ·rcases g4 k e with e | e
  ·exact iJ.1.2.2 e
  have:=iJ.2;omega
 ·rcases g4 k e' with e' | e'
  ·exact(h.ap k e).1 e'
  have:=h.bi k e;omega
 rcases g4 k e with e | e
 ·exact h.ap2 k e
 exact λe'=>by have:=h.br k e';omega
theorem La.acs(h:La w b F s si sd sr xs ini dft ro){n:Int}(hn:rf n)(hm:dft.length<=20000000):
  ∃y w1,(aw 33 1 #[.mk 0 (O ae n)]).run au w=.ok (Sl.v y) w1/\aA [] w w1/\∃s' w2,(Builtin.append_ #[33,33] 33 #[Sl.v sd,Sl.v y]).run au w1=.ok (Sl.v s') w2/\aF (im sd) w1 w2/\(∀k,im s' k->im sd k∨w.heap.size<=k)/\aH w2 b 66 [s.v,si.v,sd.v,sr.v]/\
   ∀w3,aA [b] w2 w3->aH w3 b 66 [s.v,si.v,s'.v,sr.v]->La w3 b F s si s' sr xs ini (dft++[n]) ro:=by
 obtain⟨y,w1,k1,k3,s',w2,g1,g3,g4,h'⟩:=h.toLb.acs hn h.lt hm;exact⟨y,w1,k1,k3,s',w2,g1,g3,g4,g3.blk (k3.blk h.blk aac) λe=>by have:=h.bd b e;omega,λw3 hO hB=>⟨h' w3 hO,hB⟩⟩
theorem Lb.acu(h:Lb w b F s si sd sr xs ini dft ro){x:Ro}{tg:Sl}{G:aL}(hT:aD rInt 1 w G tg x.tg)(hG:∀k,G k->b<k/\¬im si k/\¬im sd k/\¬im sr k)(bT:b<w.heap.size)(hm:ro.length<=20000000):
  ∃y w1,(aw 34 1 #[.mk 0 (aj #[O ae x.src,O ae x.slot,O ae x.k,ah (T x.ev),O ae x.wt,tg.v,O ae x.dom])]).run au w=.ok (Sl.v y) w1/\aA [] w w1/\∃s' w2,(Builtin.append_ #[34,34] 34 #[Sl.v sr,Sl.v y]).run au w1=.ok (Sl.v s') w2/\aF (im sr) w1 w2/\(∀k,im s' k->im sr k∨w.heap.size<=k)/\
   ∀w3,aA [b] w2 w3->Lb w3 b F s si sd s' xs ini dft (ro++[x]):=by
 obtain⟨y,w1,k1,k3,s',w2,g1,g2,⟨gs,g3',g4'⟩,g5⟩:=jG (P:=au) (t:=34) (ty:=34) (e:=54) (i:=Tryz.t54) (bytes:=80) (size:=7) (r:=ZA) (G:=G) (v:=aj #[O ae x.src,O ae x.slot,O ae x.k,ah (T x.ev),O ae x.wt,tg.v,O ae x.dom]) (x:=x) (by kernel_rfl) (by kernel_rfl) rfl rfl rfl rfl aN aN aN gP h.r aG rfl ⟨tg,rfl,hT⟩ (λk hk _=>by have:=hG k hk;exact⟨⟨this.1,this.2.1,this.2.2.1⟩,this.2.2.2⟩) aG;have g3:aF (im sr) w1 w2:=g3'.p λg hg=>.inl (g4' g hg).1;have g4:∀k,im s' k->im sr k∨w.heap.size<=k:=λk hk=>by
  unfold im at hk⊢;rcases g5 with e | ⟨g,e,h⟩
  ·exact .inl acf
  rw[e]at hk;injection hk with hk;injection hk with hk;exact .inr aG
 have z1:=k3.size;have z2:=g3.size;refine⟨y,w1,k1,k3,s',w2,g1,g3,g4,λw3 hO=>?_⟩;have hk:∀k,k<w.heap.size->k≠b->¬im sr k->w3.heap[k]? =w.heap[k]? :=λk h1 h2 h3=>by
  rw[hO.block k aG acM,g3.block k aG h3,k3.block k h1 aac]
 refine⟨h.sp.keep db aN λk vh hl=>hk k hl (h.hF k vh).2.1 λe=>(h.hF k vh).2.2 (.inr (.inr e)),λk vh=>⟨acJ,(h.hF k vh).2.1,λhq=>hq.elim (λe=>(h.hF k vh).2.2 (.inl e)) λhq=>hq.elim (λe=>(h.hF k vh).2.2 (.inr (.inl e))) λe=>(g4 k e).elim (λe=>(h.hF k vh).2.2 (.inr (.inr e))) λe=>adW⟩,h.i.keep bF λk iJ hl=>?_,h.d.keep bF λk iJ hl=>?_,(g2.keep gP λk iJ hl=>hO.block k hl ?_).mono gP λk iJ=>?_,λk e=>⟨(h.ap k e).1,λe'=>?_⟩,λk e e'=>?_⟩
 ·have:=iJ.resolve_left id;exact hk k hl aG (h.ap k this.2).2
 ·have:=iJ.resolve_left id;exact hk k hl aG (h.ap2 k this.2)
 ·simp only[aO];rcases iJ with(iJ | iJ) | iJ<;>omega
 ·rcases iJ with iJ | iJ
  ·exact iJ
  exact⟨aG,λe=>by have:=h.bi k e;omega,λe=>by have:=h.bd k e;omega⟩
 ·rcases g4 k e' with e' | e'
  ·exact(h.ap k e).2 e'
  have:=h.bi k e;omega
 rcases g4 k e' with e' | e'
 ·exact h.ap2 k e e'
 have:=h.bd k e;omega
theorem La.acu(h:La w b F s si sd sr xs ini dft ro){x:Ro}{tg:Sl}{G:aL}(hT:aD rInt 1 w G tg x.tg)(hG:∀k,G k->b<k/\¬im si k/\¬im sd k/\¬im sr k)(hm:ro.length<=20000000):
  ∃y w1,(aw 34 1 #[.mk 0 (aj #[O ae x.src,O ae x.slot,O ae x.k,ah (T x.ev),O ae x.wt,tg.v,O ae x.dom])]).run au w=.ok (Sl.v y) w1/\aA [] w w1/\∃s' w2,(Builtin.append_ #[34,34] 34 #[Sl.v sr,Sl.v y]).run au w1=.ok (Sl.v s') w2/\aF (im sr) w1 w2/\(∀k,im s' k->im sr k∨w.heap.size<=k)/\aH w2 b 66 [s.v,si.v,sd.v,sr.v]/\
   ∀w3,aA [b] w2 w3->aH w3 b 66 [s.v,si.v,sd.v,s'.v]->La w3 b F s si sd s' xs ini dft (ro++[x]):=by
 obtain⟨y,w1,k1,k3,s',w2,g1,g3,g4,h'⟩:=h.toLb.acu hT hG h.lt hm;exact⟨y,w1,k1,k3,s',w2,g1,g3,g4,g3.blk (k3.blk h.blk aac) λe=>by have:=h.br b e;omega,λw3 hO hB=>⟨h' w3 hO,hB⟩⟩
end
section
def zi(b:Nat)(Q:aL)(w:ay)(Q':aL)(w':ay):Prop:=aF (λk=>k=b∨Q k) w w'/\∀k,Q' k->Q k∨w.heap.size<=k
theorem zi.refl(b:Nat)(Q:aL)(w:ay):zi b Q w Q w:=⟨OnlyP.refl _ _,λ_ h=>.inl h⟩
theorem zi.trans{b:Nat}{Q R S:aL}{u v w:ay}(h:zi b Q u R v)(g:zi b R v S w):zi b Q u S w:=by
 refine⟨h.1.trans g.1 λk hk=>?_,λk hk=>?_⟩
 ·rcases hk with hk | hk
  ·exact .inl (.inl hk)
  exact(h.2 k hk).elim (λh=>.inl (.inr h)) .inr
 rcases g.2 k hk with hk | hk
 ·exact h.2 k hk
 exact .inr (bf h.1.size hk)
theorem zi.cr{b:Nat}{Q R:aL}{u v w:ay}(h:zi b Q u R v)(hO:aA [] v w):zi b Q u R w:=⟨h.1.cr hO,h.2⟩
theorem zi.of0{b:Nat}{Q R:aL}{u v w:ay}(hO:aA [] u v)(h:zi b Q v R w):zi b Q u R w:=⟨hO.mZ h.1,λk hk=>(h.2 k hk).imp id λh=>bf hO.size h⟩
theorem DB{y:Nd}:∀{l:List Nd} {j:Nat},l[j]? =some y->jf (l.take j)+pz y<=jf l
 | [],j,h=>aaB
 | x::l,0,h=>by
  rw[cR,be]at h;subst h;rw[de,jf,jf];omega
 | x::l,j+1,h=>by
  rw[du]at h;have:=DB h;rw[eF,jf,jf];omega
mutual
theorem Tp(xs:List cM):∀(x:Nd) (a:Nat),(Fu xs a x).length<=pz x
 | .mk b l,a=>by
  have:=Fv xs l (a+1);have:=oC b.mv;rw[Fu,aW,zV,pz];unfold HU;omega
theorem Fv(xs:List cM):∀(l:List Nd) (a:Nat),(oE xs a l).length<=jf l
 | [],a=>by rw[oE];exact bh _
 | x::l,a=>by
  have:=Tp xs x a;have:=Fv xs l (a+jk x);rw[oE,aW,jf];omega
end
section
variable {b:Nat} {F:aL} {s:Sl} {xs:List cM}
theorem La.q3{w:ay}{si sd sr:Sl}{ini dft:List Int}{ro:List Ro}(h:La w b F s si sd sr xs ini dft ro):∀k,Q3 si sd sr k->b<k/\k<w.heap.size:=λk hk=>hk.elim (h.bi k) λhk=>hk.elim (h.bd k) (h.br k)
theorem ZB(zZ:Fo xs)(Gs:xs.length<=64):∀(D:Nat) {w:ay} {G:aL} {x:Nd} {cs:aK} {si sd sr:Sl} {ini dft:List Int} {ro:List Ro},pM false D w G x cs->(∀k,G k->k<b)->La w b F s si sd sr xs ini dft ro->
  pz x<=8388608->ini.length+jk x<=1000000->dft.length=ini.length->ro.length+pz x<=16777216->
  aB au 22 #[ai (some ⟨b,0,none⟩),aj cs.toArray] w λe w'=>e=aq (ak #[])/\∃si' rQ sr',La w' b F s si' rQ sr' xs (ini++(uV x).map λc=>mY xs c.ini) (dft++(uV x).map λc=>mY xs c.dft) (ro++Fu xs ini.length x)/\zi b (Q3 si sd sr) w (Q3 si' rQ sr') w'
 | 0,_,_,_,_,_,_,_,_,_,_,h,_,_,_,_,_,_=>h.elim
 | D+1,w,G,.mk bb ks,cs,si,sd,sr,ini,dft,ro,⟨en,lv,mv,kids,oP,⟨_,_,sR⟩,gU⟩,hG,hL,hz,hn,zm,hro=>by
  have hk:=gU.1;have sR:=sR.1;clear gU;dsimp only[Nd.kids,Nd.b]at hk oP sR;subst oP;rw[jk]at hn;rw[pz]at hz hro;have KN:=hk.len;have Cs:=sR.len;have hnn:=tG ks;have CK:=oC bb.mv;have ay0:Bw bb.mv<=HU bb:=by unfold HU;omega
  refine ret (anj _ _ _ _ _ _ _ _ _ _ _ _ ?_);intro k0 w0 gU fD cO;have z0:=cO.size;have DY:=hL.lt;have hq:=hL.q3;have VC:=hL.o0 cO;have inA:∀n,rf (mY xs n):=λn=>by
   rcases ab8 xs n with h | ⟨j,h,hj⟩
   ·rw[h];exact⟨aN,aN⟩
   rw[h];exact⟨aG,aG⟩
  have Vw:si.n=ini.length:=hL.i.len;have sw:∀{Q':aL} {u v:ay} {bs:List Nat} {P:aL},zi b (Q3 si sd sr) w0 Q' u->aF P u v->(∀k,P k->k=b∨Q' k)->(∀k,k∈bs->k<w0.heap.size/\w.heap.size<=k)->ci bs u v:=fun{Q' u v bs P} m hO hP hb=>hO.same λx hx=>by
   have hx:=hb x hx;refine⟨by have:=m.1.size;omega,λhh=>?_⟩;rcases hP x hh with rfl | hh
   ·omega
   rcases m.2 x hh with hh | hh
   ·have:=hq x hh;omega
   omega
  refine⟨si,Blk.eh VC.blk 1 rfl,λw1 cG=>⟨λk=>k=b,rfl,si,Blk.eh (cG.blk VC.blk aac) 1 rfl,?_⟩⟩;have hL1:=VC.o0 cG;have z1:=cG.size;have m1:zi b (Q3 si sd sr) w0 (Q3 si sd sr) w1:=(zi.refl _ _ _).cr cG;refine(Tn hL1.blk hL1.sp bb.ini).mono ?_;rintro _ w2 ⟨rfl,dk⟩;have hL2:=hL1.o0 dk;have m2:=m1.cr dk;obtain⟨y,w3,p1,p2,s1,w4,p3,p4,p5,p6,p7⟩:=hL2.acr (inA bb.ini) aG;have z2:=dk.size;have z3:=p2.size;have z4:=p4.size;refine⟨_,rfl,dk.same aae,bS.only dk,y,w3,p1,p2.same aae,bS.only p2,s1,w4,p3,sw (m2.cr p2) p4 (λk hk=>.inr (.inl hk)) aae,λk hk bT=>?_,b,1,_,_,rfl,p6,cH rfl,aG,λw5 eJ xb w6 eH=>?_⟩
  ·subst hk;exact p4.block _ bT λe=>by have:=hL.bi _ e;omega
  have hL5:=p7 w5 eJ xb;have z5:=eJ.size;have m5:zi b (Q3 si sd sr) w0 (Q3 s1 sd sr) w5:=by
   refine m2.trans ⟨(p2.mZ (p4.mono (G:=λk=>k=b∨Q3 si sd sr k) λk _ hk=>.inr (.inl hk))).trans (eJ.p (F:=λk=>k=b) aac) λk hk=>.inl (.inl hk),λk hk=>?_⟩;rcases hk with hk | hk
   ·exact(p5 k hk).imp .inl λh=>aG
   exact .inl (.inr hk)
  have P1:=hL5.o0 eH;have z6:=eH.size;have m6:=m5.cr eH;refine⟨λk=>k=b,rfl,sd,Blk.eh P1.blk 2 rfl,(Tn P1.blk P1.sp bb.dft).mono ?_⟩;rintro _ w7 ⟨rfl,fN⟩;have F9:=P1.o0 fN;have m7:=m6.cr fN;obtain⟨y8,w8,r1,r2,s2,w9,r3,r4,r5,r6,r7⟩:=F9.acs (inA bb.dft) aG;have z7:=fN.size;have z8:=r2.size;have z9:=r4.size;refine⟨_,rfl,fN.same aae,bS.only fN,y8,w8,r1,r2.same aae,bS.only r2,s2,w9,r3,sw (m7.cr r2) r4 (λk hk=>.inr (.inr (.inl hk))) aae,λk hk bT=>?_,b,2,_,_,rfl,r6,cH rfl,aG,λdL dW uJ=>?_⟩
  ·subst hk;exact r4.block _ bT λe=>by have:=F9.bd _ e;omega
  have U4:=r7 dL dW uJ;have PM:=dW.size;have m10:zi b (Q3 si sd sr) w0 (Q3 s1 s2 sr) dL:=by
   refine m7.trans ⟨(r2.mZ (r4.mono (G:=λk=>k=b∨Q3 s1 sd sr k) λk _ hk=>.inr (.inr (.inl hk)))).trans (dW.p (F:=λk=>k=b) aac) λk hk=>.inl (.inl hk),λk hk=>?_⟩;rcases hk with hk | hk | hk
   ·exact .inl (.inl hk)
   ·exact(r5 k hk).imp (λh=>.inr (.inl h)) λh=>aG
   exact .inl (.inr (.inr hk))
  have hq0:∀{Q':aL} {u:ay},zi b (Q3 si sd sr) w0 Q' u->¬Q' k0:=λm e=>by
   rcases m.2 k0 e with h | h
   ·have:=hq k0 h;omega
   omega
  have iJ:∀{u:ay} {Q':aL},zi b (Q3 si sd sr) w0 Q' u->aD (pM false D) 9 u G kids ks:=λm=>SliceF.nP (cX false D) aN hk (cO.mZ m.1) λk hGk _=>by
   have:=hG k hGk;exact λh=>h.elim aG λh=>by have:=hq k h;omega
  have yW:∀{u:ay} {Q':aL},zi b (Q3 si sd sr) w0 Q' u->aD (Mm false) 13 u G mv bb.mv:=λm=>SliceF.nP (ni false) aN sR (cO.mZ m.1) λk hGk _=>by
   have:=hG k hGk;exact λh=>h.elim aG λh=>by have:=hq k h;omega
  refine⟨λkv i u=>∃(j:Nat) (q:Sl),i=(j:Int)/\kv+j=bb.mv.length/\j<=bb.mv.length/\La u b F s s1 s2 q xs (ini++[mY xs bb.ini]) (dft++[mY xs bb.dft]) (ro++I6 xs ini.length 0 (bb.mv.take j))/\zi b (Q3 si sd sr) w0 (Q3 s1 s2 q) u,bb.mv.length,⟨0,sr,rfl,aG,bh _,by rw[de,I6,bQ];exact U4,m10⟩,?_⟩;rintro kv _ dN ⟨j,q,rfl,sJ,hj,zz,m11⟩;have D1:=m11.1.size;refine⟨λhc=>?_,λhc=>?_⟩
  ·have hc:=aP hc;obtain⟨ad,m,ds,a1,a2,a3,a4,a5,a6⟩:=(yW m11).get (bD j) aG;rw[aU]at a2;obtain⟨gc,uK,tg,rfl,hgx,Je,sI⟩:=a6;obtain⟨sl,rfl⟩:=jo hgx;have sI:=sI.1;have ux:=sI.len;have hmz:OW m<=Bw bb.mv:=wC (bB a2);have htz:=Fj m.tg;unfold OW at hmz;refine⟨ad,a1,_,_,_,_,_,_,_,_,sl,_,uK,tg,_,a5,λk9 pV eT hk9 ajM ay2 ajT fk=>?_⟩;have z12:=fk.size;refine⟨λCi i a2' sl2 k2 ev wt l dm u=>∃t:Nat,i=(t:Int)/\a2'=(ini.length:Int)/\sl2=(j:Int)/\k2=m.k/\ev=T m.ev/\wt=m.wt/\dm=0/\Ci+t=m.tg.length/\t<=m.tg.length/\dd eT.heap.size u l ((m.tg.take t).map (mY xs))/\aA [] dN u/\eT.heap.size<=u.heap.size,m.tg.length,⟨0,rfl,by rw[Vw],rfl,rfl,rfl,rfl,rfl,aG,bh _,Own.nil _ _ _ _ _ _,fk,ba _⟩,?_⟩;rintro Ci _ _ _ _ _ _ l _ fI ⟨t,rfl,rfl,rfl,rfl,rfl,rfl,rfl,YA,ht,hT,ez,VK⟩;have lz:∀k,im l k->eT.heap.size<=k:=λk e=>(hT.blk e).1;have aeh:=zz.o0 ez;have htn:((m.tg.take t).map (mY xs)).length=t:=by rw[bA,cJ];omega
   refine⟨λoh=>?_,λoh=>?_⟩
   ·have oh:=aP oh;obtain⟨uz,x2,cs2,b1,b2,b3,b4,b5,b6⟩:=(SliceF.only dJ aN sI ez aac).get (bD t) aG;rw[aU]at b2;unfold lD at b6;subst b6;refine⟨uz,b1,_,b5,λfS ey=>⟨λk=>k<eT.heap.size,ajT,?_⟩⟩;have z14:=ey.size;have ajU:=aeh.o0 ey;refine(Tn ajU.blk ajU.sp x2).mono ?_;rintro _ ia ⟨rfl,iY⟩;have z15:=iY.size;have aqX:dd eT.heap.size ia l _:=(hT.keep bF λk _ bT=>ey.block k bT aac).keep bF λk _ bT=>iY.block k bT aac;obtain⟨y2,io,c1,c2,l2,gn,c3,c4,c5,c6⟩:=O5 aqX aG (inA x2) (by rw[htn];omega);have z16:=c2.size;have z17:=c5.size;have o17:aA [] dN gn:=((((ez.cr ey).cr iY).cr c2).mZ (c5.mono (G:=λk=>dN.heap.size<=k) λk _ e=>by have:=lz k e;omega)).only λk hk=>hk;refine⟨_,rfl,iY.same aae,bS.only iY,y2,io,c1,c2.same aae,bS.only c2,l2,gn,c3,c5.same λx hx=>?_,λk hk _=>c5.block k aG λe=>(by have:=lz k e;omega),λjC mw=>⟨Ci-1,aG,t+1,aad,rfl,rfl,rfl,rfl,rfl,rfl,aG,aG,?_,o17.trans mw λx hx=>.inr aaj,by have:=mw.size;omega⟩⟩
    ·simp only[aV,bp,cm]at hx;rcases hx with rfl | rfl | rfl
     ·exact⟨aG,λe=>by have:=lz _ e;omega⟩
     ·exact⟨aG,λe=>by have:=lz _ e;omega⟩
     exact⟨aG,λe=>by have:=lz _ e;omega⟩
    rw[bE,b2,dh];exact c4.keep bF λk hk bT=>mw.block k bT (by have:=hk.resolve_left id;simp;omega)
   have oh:=aX oh;have hte:t=m.tg.length:=aG
   subst hte;rw[bq (ba _)]at hT htn;rw[Vw];refine(O6 aeh.blk aeh.sp zZ aG (hT.slice bF) (by rw[htn];omega) (a:=ini.length) aG).mono ?_;rintro _ j8 ⟨rfl,kj⟩;have z19:=kj.size;refine⟨_,rfl,kj.same aae,λjM nu=>⟨λk=>k=b,rfl,?_⟩⟩;have z20:=nu.size;have o20:aA [] dN jM:=(ez.cr kj).trans nu λx hx=>.inr aaj;have ajV:=zz.o0 o20;have aqY:dd eT.heap.size jM l _:=(hT.keep bF λk _ bT=>kj.block k bT aac).keep bF λk hk bT=>nu.block k bT (by have:=hk.resolve_left id;simp;omega);obtain⟨y3,lQ,d1,d2,q',pR,d3,d4,d5,d6,d7⟩:=ajV.acu (x:=Xg xs ini.length j m) (aqY.slice bF) (λk hk=>by
    have hk:=hk.resolve_left id;exact⟨aG,λe=>by have:=zz.bi k e;omega,λe=>by have:=zz.bd k e;omega,λe=>by have:=zz.br k e;omega⟩) (by rw[aW,zV,cJ];omega)
   have z21:=d2.size;have z22:=d4.size;refine⟨q,Blk.eh ajV.blk 3 rfl,y3,lQ,d1,d2.same aae,bS.only d2,q',pR,d3,d4.same λx hx=>?_,λk hk bT=>?_,b,3,_,_,rfl,d6,cH rfl,aG,aG,aG,λpE lJ aqZ=>⟨kv-1,aG,j+1,q',aad,aG,aG,?_,?_⟩⟩
   ·simp only[aV,bp,cm]at hx;rcases hx with rfl | rfl | rfl
    ·exact⟨aG,λe=>hq0 m11 (.inr (.inr e))⟩
    ·exact⟨aG,λe=>aex⟩
    exact⟨aG,λe=>aex⟩
   ·subst hk;exact d4.block _ bT λe=>aex
   ·have e:bb.mv.take (j+1)=bb.mv.take j++[m]:=aeN
    have hl:(bb.mv.take j).length=j:=ac9
    rw[e,Ib,hl,bO,<-bP];exact d7 pE lJ aqZ
   refine(m11.cr o20).trans ⟨(d2.mZ (d4.mono (G:=λk=>k=b∨Q3 s1 s2 q k) λk _ hk=>.inr (.inr (.inr hk)))).trans (lJ.p (F:=λk=>k=b) aac) λk hk=>.inl (.inl hk),λk hk=>?_⟩;rcases hk with hk | hk | hk
   ·exact .inl (.inl hk)
   ·exact .inl (.inr (.inl hk))
   exact(d5 k hk).imp (λh=>.inr (.inr h)) λh=>aG
  have hc:=aX hc;have qT:j=bb.mv.length:=aG
  subst qT;rw[bq (ba _)]at zz;clear sJ;refine⟨λkv i u=>∃(j:Nat) (qi qd qr:Sl),i=(j:Int)/\kv+j=ks.length/\j<=ks.length/\La u b F s qi qd qr xs (ini++(mY xs bb.ini::(BG (ks.take j)).map λc=>mY xs c.ini)) (dft++(mY xs bb.dft::(BG (ks.take j)).map λc=>mY xs c.dft)) (ro++(I6 xs ini.length 0 bb.mv++oE xs (ini.length+1) (ks.take j)))/\zi b (Q3 si sd sr) w0 (Q3 qi qd qr) u,ks.length,⟨0,s1,s2,q,rfl,aG,bh _,by rw[de,BG,oE,bQ];exact zz,m11⟩,?_⟩;rintro kv _ oQ ⟨j,qi,qd,qr,rfl,sJ,hj,YC,m24⟩;have z24:=m24.1.size;refine⟨λoh=>?_,λoh=>?_⟩
  ·have oh:=aP oh;obtain⟨ad,y,ds,a1,a2,a3,a4,a5,a6⟩:=(iJ m24).get (bD j) aG;rw[aU]at a2;have Yx:=a6;obtain⟨D',rfl⟩:∃D',D=D'+1:=by
    cases D with
    | zero=>exact a6.elim
    | succ D'=>exact⟨D',rfl⟩
   obtain⟨zx,zy,uA,lR,rfl,_⟩:=Yx;have kA:=qB a2;have hyz:pz y<=jf ks:=qD (bB a2);have hzt:=DB a2;refine⟨ad,a1,_,_,_,_,zx,zy,uA,lR,_,a5,λGw ob ay6 ajW xj=>?_⟩;have z25:=xj.size;have ajX:=YC.o0 xj;have IP:(ini++(mY xs bb.ini::(BG (ks.take j)).map λc=>mY xs c.ini)).length=ini.length+1+ff (ks.take j):=by
    rw[aW,bn,bA,wM];omega
   have aq0:(dft++(mY xs bb.dft::(BG (ks.take j)).map λc=>mY xs c.dft)).length=dft.length+1+ff (ks.take j):=by
    rw[aW,bn,bA,wM];omega
   have U3:(ro++(I6 xs ini.length 0 bb.mv++oE xs (ini.length+1) (ks.take j))).length<=ro.length+(HU bb+jf (ks.take j)):=by
    have:=Fv xs (ks.take j) (ini.length+1);rw[aW,aW,zV];omega
   refine(ZB zZ Gs (D'+1) ((cX false (D'+1)).keep a6 λk _ bT=>xj.block k bT aac) hG ajX aG (by rw[IP];omega) (by rw[IP,aq0];omega) aG).mono ?_;rintro _ rY ⟨rfl,ti,td,tr,aei,m26⟩;have z26:=m26.1.size;have ay7:=ajX.q3;have aq2:=hq0 m24;refine⟨rfl,m26.1.same λx hx=>?_,kv-1,aG,j+1,ti,td,tr,aad,aG,aG,?_,(m24.cr xj).trans m26⟩
   ·simp only[aV,bp,cm]at hx;rcases hx with rfl | rfl
    ·exact⟨aG,λh=>h.elim aG aq2⟩
    exact⟨ajW,λh=>h.elim aG λh=>by have:=YC.q3 _ h;omega⟩
   have e:ks.take (j+1)=ks.take j++[y]:=aeN
   rw[IP]at aei;rw[e,Nf,BG,BG,bQ,Ia,oE,oE,bQ,dh,dh,<-bP (I6 xs ini.length 0 bb.mv),<-bP ro];rw[bP,bP,cp,cp]at aei;exact aei
  have oh:=aX oh;have qT:j=ks.length:=aG
  subst qT;rw[bq (ba _)]at YC;refine⟨rfl,qi,qd,qr,?_,zi.of0 cO m24⟩;rw[uV,Fu,bH,bH];exact YC
end
structure PlR (w:ay) (F:aL) (s si sd sr:Sl) (p:Pl):Prop where
 sp:aD nN 5 w F s p.sp
 ini:aD rInt 1 w F si p.ini
 dft:aD rInt 1 w F sd p.dft
 ro:aD ZA 7 w F sr p.ro
theorem PlR.o0{w w':ay}{F:aL}{s si sd sr:Sl}{p:Pl}(h:PlR w F s si sd sr p)(hO:aA [] w w'):PlR w' F s si sd sr p:=
 ⟨SliceF.only db aN h.sp hO aac,SliceF.only bF aN h.ini hO aac,SliceF.only bF aN h.dft hO aac,SliceF.only gP aN h.ro hO aac⟩
theorem Tr{c:Ch}(h:(jK c).1=0):jK c=(0,0):=by
 obtain⟨h1,h2⟩:=vD h;unfold jK;rw[aY (λe=>e h1),h2];rfl
theorem Ts{w:ay}{F:aL}{D:Nat}{c:Ch}{vs:Sl}{cs:aK}(hx:ChR false (D+1) w F c vs cs)(hn:Yq c)(hs:sB c.vars+pz c.root<=8388608)(hE:Er w)(hT:Tb w):
  aB au 6 #[aj (vs.v::cs).toArray] w λe w'=>(∃s si sd sr:Sl,e=aq (ak #[aj #[s.v,si.v,sd.v,sr.v],aj #[O ae (jK c).1,O ae (jK c).2]])/\((jK c).1=0->PlR w' (λk=>w.heap.size<=k) s si sd sr (dR c)))/\aA [] w w':=by
 obtain⟨en,lv,mv,kids,oP,_⟩:=hx.root;subst oP;refine(ana vs c.root.b.k (T c.root.b.nm) (T c.root.b.ini) (T c.root.b.dft) en lv mv kids c.root.b.a (λv w'=>(∃s si sd sr:Sl,v=ak #[aj #[s.v,si.v,sd.v,sr.v],aj #[O ae (jK c).1,O ae (jK c).2]]/\((jK c).1=0->PlR w' (λk=>w.heap.size<=k) s si sd sr (dR c)))/\aA [] w w') w ?_).mono (by rintro _ w' ⟨v,rfl,⟨s,si,sd,sr,rfl,h⟩,h'⟩;exact⟨⟨s,si,sd,sr,rfl,h⟩,h'⟩);intro k0 k1 k2 w0 gU fD kc jO vf xh cO;have z0:=cO.size;have keep:∀{u:ay},aA [] w u->ChR false (D+1) u F c vs (oL c.root.b.k c.root.b.nm c.root.b.ini c.root.b.dft en lv mv kids c.root.b.a):=λhO=>⟨hx.vars.keep gC aN λk _ bT=>hO.block k bT aac,(cX false _).keep hx.root λk _ bT=>hO.block k bT aac⟩
 refine(H3 (keep cO) hn hs (hE.only cO) (hT.only cO)).mono ?_;rintro _ w1 ⟨rfl,cG⟩;have z1:=cG.size;have o1:=cO.cr cG;refine⟨_,_,rfl,cG.same aae,λhc k3 w2 zr xi dk n1 n2 n3 n4 n5 n6=>?_,λhc k4 k5 w4 zY CM CN F5 dK=>?_⟩
 ·have hc:(jK c).1≠0:=aai
  refine⟨λk=>k=k3,rfl,λh=>n5 h,λh=>n6 h,λw3 dz=>⟨⟨Sl.nil,Sl.nil,Sl.nil,Sl.nil,rfl,λh=>absurd h hc⟩,(o1.cr dk).trans dz λx hx=>.inr aam⟩⟩
 have hc:(jK c).1=0:=aai
 have hp:=(vD hc).1;have hnd:=xW hp;have z4:=dK.size;have o4:=o1.cr dK;refine(S4 (keep o4) hn hs (hE.only o4) (hT.only o4)).mono ?_;rintro _ w5 ⟨⟨s,rfl,h1,_⟩,eJ⟩;have hS:=h1 hp;have z5:=eJ.size;have o5:=o4.cr eJ;refine⟨s,_,rfl,eJ.same aae,λw6 eH KQ n1 n2 n3 n4=>?_⟩;have z6:=eH.size;have o6:aA [] w w6:=o5.trans eH λx hx=>.inr aaj;have hr6:pM false (D+1) w6 (λk=>k<w.heap.size) c.root (oL c.root.b.k c.root.b.nm c.root.b.ini c.root.b.dft en lv mv kids c.root.b.a):=
  (cX false _).keep ((cX false _).mono ((cX false _).inHeap hx.root) λk hk=>hk.2) λk _ bT=>o6.block k bT aac
 have xx:aD nN 5 w6 (λk=>w4.heap.size<=k/\k<w5.heap.size) s (cx c):=SliceF.only db aN ((SliceF.inHeap db (hS.slice db) aN).mono db λk hk=>⟨(hk.1.resolve_left id).1,hk.2⟩) eH λk hk _ hm=>by simp only[aO]at hm;omega
 have noQ:∀k,¬Q3 Sl.nil Sl.nil Sl.nil k:=λk hk=>by rcases hk with hk | hk | hk<;>cases hk
 have hLa:La w6 k5 (λk=>w4.heap.size<=k/\k<w5.heap.size) s Sl.nil Sl.nil Sl.nil (cx c) [] [] []:=⟨⟨xx,λk hk=>⟨aG,aG,noQ k⟩,Own.nil _ _ _ _ _ _,Own.nil _ _ _ _ _ _,Own.nil _ _ _ _ _ _,λk h=>aal,λk h=>aal⟩,KQ⟩
 have fy:(cx c).length=jk c.root:=by unfold cx;rw[mE]
 refine(ZB (Fb c) aG (D+1) hr6 (λk hk=>aG) hLa aG ad1 rfl ad1).mono ?_;rintro _ w7 ⟨rfl,si,sd,sr,F9,m7⟩;have z7:=m7.1.size;refine⟨rfl,m7.1.same λx hx=>?_,s,si,sd,sr,F9.blk,λw8 fX ve=>⟨⟨s,si,sd,sr,by rw[Tr hc],λ_=>?_⟩,?_⟩⟩
 ·simp only[aV,bp,cm]at hx;refine⟨aG,λh=>h.elim aG (noQ x)⟩
 ·have kp:∀k,k<w7.heap.size->k∉[k2,k1]->w8.heap[k]? =w7.heap[k]? :=λk h1 h2=>fX.block k h1 h2;simp only[cF]at F9;rw[show([]:List Int).length=0 from rfl]at F9;refine⟨(F9.sp.keep db aN λk hk bT=>kp k bT aae).mono db λk hk=>aG,((F9.i.slice bF).keep bF aN λk hk bT=>kp k bT ?_).mono bF λk hk=>?_,((F9.d.slice bF).keep bF aN λk hk bT=>kp k bT ?_).mono bF λk hk=>?_,((F9.r.slice gP).keep gP aN λk hk bT=>kp k bT ?_).mono gP λk hk=>?_⟩
  ·have:=hk.resolve_left id;simp;omega
  ·have:=hk.resolve_left id;omega
  ·have:=hk.resolve_left id;simp;omega
  ·have:=hk.resolve_left id;omega
  ·rcases hk with hk | hk
   ·have:=hk.1;simp;omega
   simp;omega
  rcases hk with hk | hk
  ·have:=hk.1;omega
  omega
 refine((o6.mZ (m7.1.mono (G:=λk=>w.heap.size<=k) λk _ hk=>hk.elim aG λh=>absurd h (noQ k))).only λk hk=>hk).trans fX λx hx=>.inr aam
end
def kd(xs:List cM)(i:Int):Int:=((xs[i.toNat]?).map λs:cM=>s.k).getD 0
theorem kz{xs:List cM}{i:Nat}{s:cM}(h:xs[i]? =some s):kd xs (i:Int)=s.k:=by
 unfold kd;rw[aU,h];rfl
def xr(k:Int):Bool:=(k==1)||(k==2)
def cY(xs:List cM)(n:Nat):List Int:=(fg xs n xs.length).filter λk=>xr (kd xs k)
structure Sd (xs:List cM):Prop where
 fo:Fo xs
 le:xs.length<=64
 kn:∀(i:Nat) (s:cM),xs[i]? =some s->1<=s.k/\s.k<=4
 rt:∃s,xs[0]? =some s/\s.k=1
 pr:∀(i:Nat) (s:cM),xs[i]? =some s->s.k=2->cY xs i≠[]
theorem qG{xs:List cM}{i n:Nat}{k:Int}:k∈fg xs i n↔∃(q:Nat) (t:cM),k=q/\q<n/\xs[q]? =some t/\t.pa=i:=by
 unfold fg;rw[cQ];constructor
 ·rintro⟨q,hq,rfl⟩;rw[di,jb]at hq;have:=aP hq.2;cases hx:xs[q]? with
  | none=>rw[hx]at this;cases this
  | some t=>
   rw[hx]at this;injection this with this;exact⟨q,t,rfl,hq.1,hx,this⟩
 rintro⟨q,t,rfl,h1,h2,h3⟩;exact⟨q,by rw[di,jb];exact⟨h1,bJ (by rw[h2];exact bm some h3)⟩,rfl⟩
theorem hY{xs:List cM}{i:Nat}{k:Int}:k∈cY xs i↔∃(q:Nat) (t:cM),k=q/\xs[q]? =some t/\t.pa=i/\xr t.k=true:=by
 unfold cY;rw[di,qG];constructor
 ·rintro⟨⟨q,t,rfl,_,h2,h3⟩,h4⟩;rw[kz h2]at h4;exact⟨q,t,rfl,h2,h3,h4⟩
 rintro⟨q,t,rfl,h2,h3,h4⟩;exact⟨⟨q,t,rfl,eS h2,h2,h3⟩,by rw[kz h2];exact h4⟩
theorem og(xs:List cM)(i:Nat):(cY xs i).Pairwise (· <·):=(yL xs i xs.length).1.filter _
theorem wN(xs:List cM)(i:Nat):(cY xs i).length<=xs.length:=by
 unfold cY;refine bf (cu _ _) ?_;unfold fg;rw[bA];exact bf (cu _ _) acY
theorem wO:∀{l m:List Int},l.Pairwise (· <·)->m.Pairwise (· <·)->(∀x,x∈l↔x∈m)->l=m
 | [],[],_,_,_=>rfl
 | [],y::m,_,_,h=>absurd ((h y).2 (.head _)) aac
 | x::l,[],_,_,h=>absurd ((h x).1 (.head _)) aac
 | x::l,y::m,hl,hm,h=>by
  rw[dG]at hl hm;have hxy:x=y:=by
   have h1:=(h x).1 (.head _);have h2:=(h y).2 (.head _);rw[aV]at h1 h2;rcases h1 with h1 | h1
   ·exact h1
   rcases h2 with h2 | h2
   ·exact h2.symm
   have:=hl.1 y h2;have:=hm.1 x h1;omega
  subst hxy;rw[wO hl.2 hm.2 λz=>?_];have hz:=h z;rw[aV,aV]at hz;constructor
  ·intro Vz;rcases hz.1 (.inr Vz)with e | e
   ·subst e;exact absurd (hl.1 z Vz) aG
   ·exact e
  ·intro Vz;rcases hz.2 (.inr Vz)with e | e
   ·subst e;exact absurd (hm.1 z Vz) aG
   ·exact e
def Gn(n:Nat)(p:Nat->Bool):List Int:=((List.range n).filter p).map λk:Nat=>(k:Int)
theorem Ic(n:Nat)(p:Nat->Bool):Gn (n+1) p=Gn n p++if p n then[(n:Int)]else[]:=by
 unfold Gn;rw[List.range_succ,eC,dh];cases h:p n<;>simp[h]
theorem rI(n:Nat)(p:Nat->Bool):(Gn n p).length<=n:=by
 unfold Gn;rw[bA];exact bf (cu _ _) acY
theorem pA{n:Nat}{p:Nat->Bool}{x:Int}:x∈Gn n p↔∃k:Nat,x=k/\k<n/\p k=true:=by
 unfold Gn;rw[cQ];constructor
 ·rintro⟨k,hk,rfl⟩;rw[di,jb]at hk;exact⟨k,rfl,hk⟩
 rintro⟨k,rfl,hk⟩;exact⟨k,by rw[di,jb];exact hk,rfl⟩
theorem wP(n:Nat)(p:Nat->Bool):(Gn n p).Pairwise (· <·):=by
 unfold Gn;rw[oY];refine List.Pairwise.imp (R:=(· <·)) (λh=>aG) ?_;exact List.Pairwise.filter _ List.pairwise_lt_range
def lvP(xs:List cM)(act:List Int)(n:Nat):Bool:=decide ((n:Int)∈act)&&(kd xs n==1)&&((cY xs n).length==0)
def CG(xs:List cM)(act:List Int):List Int:=Gn xs.length (lvP xs act)
def Ie(xs:List cM)(act:List Int)(n:Nat):Nat:=(cY xs n).countP λr=>decide (r∈act)
def mW(xs:List cM)(act:List Int)(n:Nat):Bool:=if kd xs n=2 then Ie xs act n==(cY xs n).length else Ie xs act n==min 1 (cY xs n).length
structure aq5 (xs:List cM) (act:List Int) (x:Int):Prop where
 ge:0<=x
 lt:x<xs.length
 st:xr (kd xs x)=true
 up:x=0∨∀s,xs[x.toNat]? =some s->s.pa∈act
 on:mW xs act x.toNat=true
structure Lg (xs:List cM) (act:List Int):Prop where
 rt:(0:Int)∈act
 rise:act.Pairwise (· <·)
 at_:∀x,x∈act->aq5 xs act x
theorem wQ:∀{m l:List Int},m.Pairwise (· <·)->l.Pairwise (· <·)->(∀x,x∈l->x∈m)->l.length<=m.length
 | [],[],_,_,_=>ba _
 | [],x::l,_,_,h=>absurd (h x (.head _)) aac
 | y::m,[],_,_,_=>bh _
 | y::m,x::l,hm,hl,h=>by
  rw[dG]at hm hl;have hx:=h x (.head _);rw[aV]at hx;have hl':∀z,z∈l->z∈m:=λz hz=>by
   have h1:=hl.1 z hz;have h2:=h z (.tail _ hz);rw[aV]at h2;rcases h2 with h2 | h2
   ·rcases hx with hx | hx
    ·omega
    ·have:=hm.1 x hx;omega
   ·exact h2
  have:=wQ hm.2 hl.2 hl';simp;omega
theorem yP:∀{m l:List Int},m.Pairwise (· <·)->l.Pairwise (· <·)->(∀x,x∈l->x∈m)->m.length<=l.length->l=m
 | [],[],_,_,_,_=>rfl
 | [],x::l,_,_,h,_=>absurd (h x (.head _)) aac
 | y::m,[],_,_,_,hn=>by simp at hn
 | y::m,x::l,hm,hl,h,hn=>by
  have ZW:=hl;rw[dG]at hm hl;have hx:=h x (.head _);rw[aV]at hx;rcases hx with rfl | hx
  ·have hl':∀z,z∈l->z∈m:=λz hz=>by
    have h1:=hl.1 z hz;have h2:=h z (.tail _ hz);rw[aV]at h2;rcases h2 with h2 | h2
    ·omega
    ·exact h2
   rw[yP hm.2 hl.2 hl' acH]
  ·have h1:=hm.1 x hx;have jh:∀z,z∈x::l->z∈m:=λz hz=>by
    have h2:=h z hz;rw[aV]at h2 hz;rcases h2 with rfl | h2
    ·rcases hz with hz | hz
     ·omega
     ·have:=hl.1 z hz;omega
    ·exact h2
   have:=wQ hm.2 ZW jh;simp at this hn;omega
section
variable {xs:List cM}
theorem Sd.DV(hF:Sd xs){n}{r}(h:r∈cY xs n):∃(q:Nat) (t:cM),r=q/\xs[q]? =some t/\t.pa=n/\xr t.k=true/\n<q/\∀s,xs[n]? =some s->q<s.en:=by
 obtain⟨q,t,h1,h2,h3,h4⟩:=hY.1 h;have h5:=hF.fo.uX h2;refine⟨q,t,h1,h2,h3,h4,aG,λs hs=>?_⟩;obtain⟨p,s',g1,g2,g3,g4,g5,_⟩:=hF.fo.par h2 aG;have:p=n:=aG
 subst this;rw[hs]at g3;injection g3 with g3;rw[g3];exact g5
theorem Sd.apart(hF:Sd xs){n q r:Nat}{s t}(hq:xs[q]? =some s)(hr:xs[r]? =some t)(h1:s.pa=n)(h2:t.pa=n)(hqr:q<r):s.en<=r:=by
 have h5:=hF.fo.uX hq;obtain⟨p,s',g1,g2,g3,g4,g5,g6⟩:=hF.fo.par hr aG;refine gL λhh=>?_;have:=g6 q s hq hqr aG;omega
def onR(xs:List cM)(act:List Int)(n:Nat):List Int:=(cY xs n).filter λr=>decide (r∈act)
def ur(xs:List cM)(act:List Int):Nat->Nat->List Int
 | 0,n=>[n]
 | f+1,n=>n::(onR xs act n).flatMap λr=>ur xs act f r.toNat
theorem xZ{α:Type}{f}{lo:α->Int}{hi:α->Int}:∀{rs:List α},rs.Pairwise (λa b=>hi a<=lo b)->(∀r,r∈rs->(f r).Pairwise (· <·)/\∀x,x∈f r->lo r<=x/\x<hi r)->(rs.flatMap f).Pairwise (· <·)
 | [],_,_=>aac
 | r::rs,hp,hr=>by
  rw[dG]at hp;rw[vO,gf];refine⟨(hr r (.head _)).1,xZ hp.2 λq hq=>hr q (.tail _ hq),λx hx y hy=>?_⟩;obtain⟨q,hq,hy⟩:=dY.1 hy;have h1:=(hr r (.head _)).2 x hx;have h2:=(hr q (.tail _ hq)).2 y hy;have h3:=hp.1 q hq;omega
def Fw(xs:List cM)(r:Int):Int:=((xs[r.toNat]?).map λs:cM=>s.en).getD 0
theorem mq{i:Nat}{s}(h:xs[i]? =some s):Fw xs i=s.en:=by
 unfold Fw;rw[aU,h];rfl
theorem Sd.rO(hF:Sd xs) n {l:List Int} (hl:l.Pairwise (· <·)) (hm:∀r,r∈l->r∈cY xs n):l.Pairwise λa b=>Fw xs a<=b:=by
 refine List.Pairwise.imp_of_mem (fun{a b} ha hb bT=>?_) hl;obtain⟨q,s,rfl,h2,h3,_⟩:=hF.DV (hm a ha);obtain⟨r,t,rfl,g2,g3,_⟩:=hF.DV (hm b hb);rw[mq h2];exact hF.apart h2 g2 h3 g3 aG
theorem Tt xs act n:(onR xs act n).Pairwise (· <·):=(og xs n).filter _
theorem uu{act}{n}{r}:r∈onR xs act n↔r∈cY xs n/\r∈act:=by
 unfold onR;rw[di,bL]
theorem Sd.KA(hF:Sd xs) act:∀f n {s:cM},xs[n]? =some s->(ur xs act f n).Pairwise (· <·)/\∀x,x∈ur xs act f n->n<=x/\x<s.en
 | 0,n,s,hs=>by
  have:=hF.fo.up n s hs;rw[ur];exact⟨aac,λx hx=>by rw[aO]at hx;omega⟩
 | f+1,n,s,hs=>by
  have hu:=hF.fo.up n s hs;rw[ur];have key:∀r,r∈onR xs act n->(ur xs act f r.toNat).Pairwise _/\∀x,x∈ur xs act f r.toNat->r<=x/\x<Fw xs r:=λr hr=>by
   obtain⟨q,t,rfl,h2,_⟩:=hF.DV (uu.1 hr).1;rw[aU,mq h2];exact hF.KA act f q h2
  have QF:∀x,x∈(onR xs act n).flatMap _->(n:Int)<x/\x<s.en:=λx hx=>by
   obtain⟨r,hr,hx⟩:=dY.1 hx;have h1:=(key r hr).2 x hx;obtain⟨q,t,rfl,h2,_,_,h5,h6⟩:=hF.DV (uu.1 hr).1;rw[mq h2]at h1;have:=h6 s hs;have:=hF.fo.ZM q hs h2 h5 this;omega
  refine⟨dG.2 ⟨λx hx=>(QF x hx).1,xZ (f:=λr=>ur xs act f r.toNat) (lo:=λr=>r) (hi:=Fw xs) (hF.rO n (Tt xs act n) λr hr=>(uu.1 hr).1) key⟩,λx hx=>?_⟩;rw[aV]at hx;rcases hx with rfl | hx
  ·omega
  ·have:=QF x hx;omega
theorem BI:∀{l:List Int} {lo hi:Int},l.Pairwise (· <·)->(∀x,x∈l->lo<=x/\x<hi)->lo<=hi->l.length<=hi-lo
 | [],lo,hi,_,_,h=>aae
 | a::l,lo,hi,hp,hm,h=>by
  rw[dG]at hp;have ha:=hm a (.head _);have:=BI (lo:=a+1) (hi:=hi) hp.2 (λx hx=>⟨by have:=hp.1 x hx;omega,(hm x (.tail _ hx)).2⟩) aG;rw[bn];omega
theorem Sd.XP(hF:Sd xs) act f {n} {s} (hs:xs[n]? =some s):(ur xs act f n).length<=64:=by
 obtain⟨h1,h2⟩:=hF.KA act f n hs;have hu:=hF.fo.up n s hs;have kA:=hF.le;have:=BI h1 h2 aG;omega
theorem Sd.NI(hF:Sd xs) act:∀(f n:Nat) {s:cM},xs[n]? =some s->(n:Int)∈act->xr s.k=true->∀x,x∈ur xs act f n->x∈act/\xr (kd xs x)=true/\(x=n∨∀t,xs[x.toNat]? =some t->t.pa∈act)
 | 0,n,s,hs,ha,hk,x,hx=>by
  rw[ur,aO]at hx;subst hx;exact⟨ha,by rw[kz hs];exact hk,.inl rfl⟩
 | f+1,n,s,hs,ha,hk,x,hx=>by
  rw[ur,aV]at hx;rcases hx with rfl | hx
  ·exact⟨ha,by rw[kz hs];exact hk,.inl rfl⟩
  obtain⟨r,hr,hx⟩:=dY.1 hx;obtain⟨NW,KR⟩:=uu.1 hr;obtain⟨q,t,rfl,h2,h3,h4,h5,_⟩:=hF.DV NW;obtain⟨g1,g2,g3⟩:=hF.NI act f q h2 KR h4 x hx;refine⟨g1,g2,.inr ?_⟩;rcases g3 with rfl | g3
  ·intro t' Gb;rw[aU,h2]at Gb;injection Gb with Gb;rw[<-Gb,h3];exact ha
  exact g3
theorem Sd.IH(hF:Sd xs) act:∀f n,xs.length<=n+f->∀(m q:Nat) {t:cM},(m:Int)∈ur xs act f n->xs[q]? =some t->t.pa=m->xr t.k=true->(q:Int)∈act->(q:Int)∈ur xs act f n
 | 0,n,hf,m,q,t,hm,hq,hp,hk,ha=>by
  rw[ur,aO]at hm;have:=eS hq;have:=hF.fo.uX hq;omega
 | f+1,n,hf,m,q,t,hm,hq,hp,hk,ha=>by
  rw[ur,aV]at hm⊢;right;rw[dY]at hm⊢;rcases hm with hm | ⟨r,hr,hm⟩
  ·have:m=n:=aG
   subst this;refine⟨q,uu.2 ⟨hY.2 ⟨q,t,rfl,hq,hp,hk⟩,ha⟩,?_⟩;cases f<;>simp[ur]
  obtain⟨q',t',rfl,h2,_,_,h5,_⟩:=hF.DV (uu.1 hr).1;exact⟨q',hr,hF.IH act f q' aG m q hm hq hp hk ha⟩
theorem Sd.Pu(hF:Sd xs){act}(h0:act[0]? =some 0)(f:Nat)(hf:xs.length<=f):
  (act.Pairwise (· <·)/\(∀m,m∈ur xs act f 0->mW xs act m.toNat=true)/\(ur xs act f 0).length=act.length)↔Lg xs act:=by
 obtain⟨s,hs,kc⟩:=hF.rt;have h0m:=bB h0;have lH:xr s.k=true:=by rw[kc];rfl
 obtain⟨hr,QF⟩:=hF.KA act f 0 hs;have hu:=hF.fo.up 0 s hs;have hva:=hF.NI act f 0 hs (by exact_mod_cast h0m) lH;constructor
 ·rintro⟨h1,h2,h3⟩;have P4:=yP h1 hr (λx hx=>(hva x hx).1) aG;refine⟨h0m,h1,λx hx=>?_⟩;rw[<-P4]at hx;have hi:=QF x hx;obtain⟨g1,g2,g3⟩:=hva x hx;exact⟨aG,aG,g2,g3.imp (λh=>aaA) id,h2 x hx⟩
 ·intro hL;have jh:∀(n:Nat),(n:Int)∈act->(n:Int)∈ur xs act f 0:=by
   intro n
   induction n using Nat.strongRecOn with
   | ind n ih=>
    intro hn;have hA:=hL.at_ n hn;obtain⟨t,ht⟩:=fL (xs:=xs) (i:=n) (by have:=hA.lt;omega);have QG:=hA.st;rw[kz ht]at QG;rcases hA.up with h | h
    ·have:n=0:=aG
     subst this;cases f<;>simp[ur]
    ·have hp:=h t (by rw[aU];exact ht);have PX:=(hL.at_ _ hp).ge;have NZ:=hF.fo.uX ht;obtain⟨p,hp'⟩:∃p:Nat,t.pa=p:=⟨t.pa.toNat,aG⟩
     rw[hp']at hp;exact hF.IH act f 0 aG p n (ih p aG hp) ht hp' QG hn
  have heq:=wO hr hL.rise λx=>⟨λhx=>(hva x hx).1,λhx=>by
   have:=(hL.at_ x hx).ge;obtain⟨n,rfl⟩:∃n:Nat,x=n:=⟨x.toNat,aG⟩
   exact jh n hx⟩
  refine⟨hL.rise,λm hm=>?_,by rw[heq]⟩;rw[heq]at hm;exact(hL.at_ m hm).on
end
section
variable {B:Nat} {w w':ay} {s:Sl} {l d:List Int}
theorem dd.cells(h:dd B w s l){g:Nat}(ha:s.a=some ⟨g,0,none⟩):∃tail,B<=g/\aH w g 3 (l.map (Value.int ae)++tail)/\tail.length=s.c-s.n/\s.n=l.length/\s.n<=s.c/\s.c<=9223372036854775807/\∀x,x∈l->rf x:=by
 rcases h with⟨rfl,rfl⟩ | ⟨g',css,tail,h1,h2,h4,h5,h6,h7,h9,h8⟩
 ·cases ha
 rw[h1]at ha;injection ha with ha;injection ha with ha;subst ha;have KE:∀{l:List Int} {css:List (aK)},lV rInt 1 w (λk=>False/\k≠g') l css->css.flatten=l.map (Value.int ae)/\∀x,x∈l->rf x:=by
  intro l css
  induction l generalizing css with
  | nil=>
   intro h;have:=h.len;cases css with
   | nil=>exact⟨rfl,λx hx=>adK⟩
   | cons c css=>cases this
  | cons a l ih=>
   intro h;cases css with
   | nil=>have:=h.len;cases this
   | cons c css=>
    have hh:=h;unfold lV at hh;obtain⟨⟨tW,oh,IW⟩,hr⟩:(c.length=1/\rInt w (λk=>False/\k≠g') a c)/\lV rInt 1 w (λk=>False/\k≠g') l css:=hh;obtain⟨e1,e2⟩:=ih hr;refine⟨by rw[dy,e1,oh];rfl,λx hx=>?_⟩;rw[aV]at hx;rcases hx with rfl | hx
    ·exact IW
    exact e2 x hx
 obtain⟨e1,e2⟩:=KE h8;rw[e1]at h4;exact⟨tail,h2,h4,aG,h6,h7,h9,e2⟩
theorem dd.mk{g:Nat}{tail:aK}(ha:s.a=some ⟨g,0,none⟩)(hB:B<=g)(hb:aH w g 3 (l.map (Value.int ae)++tail))(ht:tail.length=s.c-s.n)(hn:s.n=l.length)(hc:s.n<=s.c)(Ul:s.c<=9223372036854775807)(hi:∀x,x∈l->rf x):dd B w s l:=by
 refine .inr ⟨g,l.map λx=>[Value.int ae x],tail,ha,hB,?_,aG,hn,hc,Ul,?_⟩
 ·have:(l.map λx=>[Value.int ae x]).flatten=l.map (Value.int ae):=by
   clear hb hn hi
   induction l with
   | nil=>rfl
   | cons a l ih=>rw[bH,dy,ih];rfl
  rw[this];exact hb
 clear hb hn
 induction l with
 | nil=>trivial
 | cons a l ih=>exact⟨⟨rfl,rfl,hi a (.head _)⟩,ih λx hx=>hi x (.tail _ hx)⟩
theorem dd.Ue(h:dd B w s l):(s=Sl.nil/\l=[])∨∃g,s.a=some ⟨g,0,none⟩:=by
 rcases h with h | ⟨g,css,tail,h1,_⟩
 ·exact .inl h
 exact .inr ⟨g,h1⟩
theorem dd.ofRow{v:az}(h:w'.ownsRow B 3 1 v l.length (l.map (Value.int ae)))(hi:∀x,x∈l->rf x):∃s:Sl,v=s.v/\dd B w' s l:=by
 rcases h.2 with⟨rfl,hn⟩ | ⟨g,cap,cur,rfl,h1,h2,h3,h4,h5,h6⟩
 ·have:l=[]:=bR hn;subst this;exact⟨Sl.nil,rfl,Own.nil _ _ _ _ _ _⟩
 refine⟨⟨some ⟨g,0,none⟩,l.length,cap⟩,rfl,dd.mk (tail:=cur.toList.drop l.length) rfl h1 ?_ ?_ rfl h3 ?_ hi⟩
 ·rw[kl]at h6;rw[<-h6,dl];unfold aH;rw[h2]
 ·dsimp only;rw[cP,fA,h5];omega
 have:maxLen=9223372036854775807:=rfl;dsimp only;omega
end
theorem BJ{zs:List Int}{j:Nat}(h:j<zs.length):zs.toArray[j]! =zs[j]:=by
 rw[oT _ j aaA];simp
theorem qH{zs:List Int}(h:zs.Pairwise (· <=·)):∀m,m<=zs.length->(Lib.compactUpTo zs.toArray m).Pairwise (· <·)/\∀x,x∈Lib.compactUpTo zs.toArray m↔∃j,j<m/\zs[j]? =some x
 | 0,_=>by
  refine⟨by simp[Lib.compactUpTo],λx=>⟨λhx=>by simp[Lib.compactUpTo]at hx,λ⟨j,hj,_⟩=>aG⟩⟩
 | m+1,hm=>by
  obtain⟨h1,h2⟩:=qH h m aG;rw[Lib.compactUpTo_succ,BJ aG];have Cs:m<zs.length:=aG
  by_cases hk:Lib.keeps zs.toArray m=true
  ·rw[bc hk];refine⟨gf.2 ⟨h1,aac,λp hp q hq=>?_⟩,λx=>?_⟩
   ·simp only[aO]at hq;subst hq;obtain⟨j,hj,hjp⟩:=(h2 p).1 hp;rw[aQ aG]at hjp;injection hjp with hjp;have hk:=aP hk;rcases hk with hk | hk
    ·omega
    ·rw[BJ Cs,BJ aG]at hk;have a1:=dB.1 h (m-1) m aG Cs aG;by_cases hjm:j=m-1
     ·subst hjm;omega
     ·have a2:=dB.1 h j (m-1) aG aG aG;omega
   ·rw[bN,h2,aO];constructor
    ·rintro(⟨j,hj,hx⟩ | rfl)
     ·exact⟨j,aG,hx⟩
     ·exact⟨m,aG,aQ Cs⟩
    ·rintro⟨j,hj,hx⟩;by_cases hjm:j=m
     ·subst hjm;rw[aQ Cs]at hx;injection hx with hx;exact .inr hx.symm
     ·exact .inl ⟨j,aG,hx⟩
  ·rw[aY hk,bQ];refine⟨h1,λx=>(h2 x).trans ⟨λ⟨j,hj,hx⟩=>⟨j,aG,hx⟩,λ⟨j,hj,hx⟩=>?_⟩⟩;by_cases hjm:j=m
   ·subst hjm;have iJ:¬(j=0∨zs.toArray[j]! ≠zs.toArray[j-1]!):=λhh=>hk (bJ hh);rw[BJ Cs]at iJ;have h0:j≠0:=λe=>iJ (.inl e);have e:zs[j]=zs.toArray[j-1]! :=gL λe=>iJ (.inr e);rw[BJ aG]at e;rw[aQ Cs]at hx;injection hx with hx;exact⟨j-1,aG,by rw[aQ aG,<-e,hx]⟩
   ·exact⟨j,aG,hx⟩
theorem nW{zs:List Int}(h:zs.Pairwise (· <=·)):(Lib.compact zs).Pairwise (· <·)/\∀x,x∈Lib.compact zs↔x∈zs:=by
 obtain⟨h1,h2⟩:=qH h zs.length (ba _);refine⟨h1,λx=>(h2 x).trans ⟨λ⟨j,_,hx⟩=>bB hx,λhx=>?_⟩⟩;obtain⟨j,hj⟩:=fh hx;exact⟨j,(aZ.1 hj).1,hj⟩
def rJ(l:List Int):List Int:=Lib.compact (l.mergeSort λx y=>decide (x<=y))
theorem uv(l:List Int):(l.mergeSort λx y=>decide (x<=y)).Pairwise (· <=·):=by
 have:=List.pairwise_mergeSort (le:=λx y:Int=>decide (x<=y)) (λa b c h1 h2=>by simp only[bL]at*;omega) (λa b=>by simp only[bU,bL];omega) l;exact this.imp λh=>aaA
theorem O7(l:List Int):(rJ l).Pairwise (· <·):=(nW (uv l)).1
theorem BK{l:List Int}{x:Int}:x∈rJ l↔x∈l:=by
 unfold rJ;rw[(nW (uv l)).2 x];exact(sM l _).mem_iff
theorem Ig:rJ []=[]:=qX.2 λx hx=>by rw[BK]at hx;cases hx
theorem tM(zs:List Int):(Lib.compact zs).length<=zs.length:=by
 unfold Lib.compact Lib.compactUpTo;rw[bA];exact bf (cu _ _) acY
section
variable {B:Nat} {w w':ay} {s:Sl} {l d:List Int}
theorem dd.cut(h:dd B w s l)(k:Nat)(hk:k<=l.length)(ha:s.a≠none):dd B w ⟨s.a,k,s.c⟩ (l.take k):=by
 rcases h.Ue with⟨rfl,_⟩ | ⟨g,hg⟩
 ·exact absurd rfl ha
 obtain⟨tail,h1,h2,h3,h4,h5,h6,h7⟩:=h.cells hg;refine dd.mk (tail:=(l.drop k).map (Value.int ae)++tail) hg h1 ?_ ?_ ?_ aaw h6 λx hx=>h7 x (List.mem_of_mem_take hx)
 ·rw[<-bP,<-dh,dl];exact h2
 ·dsimp only;rw[aW,bA,cP];omega
 dsimp only;rw[cJ];omega
theorem O8{tail:aK}(hd:d.length=l.length):Sort.putCells (Value.int ae) 0 d.toArray ((l.map (Value.int ae)++tail).toArray)=(d.map (Value.int ae)++tail).toArray:=by
 apply Array.ext_getElem?;intro k;simp only[Sort.putCells,Array.getElem?_mapIdx,je,eK];by_cases hk:k<d.length
 ·rw[bM ab4,bM ab4,ch,ch,aQ (show k<l.length by omega),aQ hk];simp only[dH];rw[bc ⟨bh _,aG⟩,kD,BJ hk]
 rw[bZ ab4,bZ ab4,bA,bA,hd];cases tail[k-l.length]? with
 | none=>rfl
 | some v=>
  simp only[dH];rw[aY aG]
theorem dd.put(h:dd B w s l){g:Nat}(ha:s.a=some ⟨g,0,none⟩)(hd:d.length=l.length)(hi:∀x,x∈d->rf x)(n:Nat)(os:Array Obj):dd B (Sort.grow (Sort.putRow (Value.int ae) (Sort.ahead w n) g 0 d.toArray) os) s d/\aA [g] w (Sort.grow (Sort.putRow (Value.int ae) (Sort.ahead w n) g 0 d.toArray) os):=by
 obtain⟨tail,h1,h2,h3,h4,h5,h6,h7⟩:=h.cells ha;have bT:=h2.lt;refine⟨dd.mk (tail:=tail) ha h1 ?_ h3 aG h5 h6 hi,rfl,rfl,rfl,aac,λk hk hn=>?_⟩
 ·unfold aH;rw[Sort.heap_grow_old _ _ (by simpa using bT)];show(w.heap.modify g _)[g]? =_;rw[gQ,bc rfl];unfold aH at h2;rw[h2];show some (Sort.onCells _ _)=_;unfold Sort.onCells;dsimp only;rw[O8 hd]
 rw[Sort.heap_grow_old _ _ aas];show(w.heap.modify g _)[k]? =_;rw[gQ,aY λe=>hn (by simp[e])]
theorem dd.holds(h:dd B w s l){g:Nat}(ha:s.a=some ⟨g,0,none⟩):Sort.Holds (Value.int ae) w g 0 l.toArray:=by
 obtain⟨tail,h1,h2,h3,h4,h5,h6,h7⟩:=h.cells ha;intro j hj;have hj:j<l.length:=ac6
 rw[BJ hj,bO];refine⟨?_,?_⟩
 ·rw[h2.cell,bM ab4,ch,aQ hj];rfl
 unfold World.frozen?;unfold aH at h2;dsimp only;rw[h2];simp
theorem Tu(h:dd B w s l)(hm:l.length<=1000000000):aB au 75 #[s.v] w λe w'=>∃s':Sl,e=aq s'.v/\s'.a=s.a/\dd B w' s' (rJ l)/\aF (λk=>s.a=some ⟨k,0,none⟩) w w':=by
 refine(anI s (λv w'=>∃s':Sl,v=s'.v/\s'.a=s.a/\dd B w' s' (rJ l)/\aF (λk=>s.a=some ⟨k,0,none⟩) w w') w ?_).mono (by rintro _ w' ⟨v,rfl,s',rfl,h⟩;exact⟨s',rfl,h⟩);rcases h.Ue with⟨rfl,rfl⟩ | ⟨g,hg⟩
 ·refine(Tryz.slices_Sort_int_none none 0 w).mono ?_;rintro _ u ⟨rfl,hu⟩;obtain rfl:w=u:=hu.symm;refine⟨rfl,(Tryz.slices_Compact_int_empty none 0 w).mono ?_⟩;rintro _ u ⟨rfl,hu⟩;obtain rfl:w=u:=hu.symm;exact⟨Sl.nil,rfl,Sl.nil,rfl,rfl,by rw[Ig];exact Own.nil _ _ _ _ _ _,OnlyP.refl _ _⟩
 obtain⟨tail,h1,h2,h3,h4,h5,h6,h7⟩:=h.cells hg;obtain⟨sa,sn,sc⟩:=s;dsimp only at hg h3 h4 h5 h6;subst hg h4;refine(Tryz.slices_Sort_int g 0 sc l w (h.holds rfl) h2.lt aG).mono ?_;rintro _ w1 ⟨rfl,n,os,rfl⟩;have Cj:=sM l λx y=>decide (x<=y);have hli:∀x,x∈(l.mergeSort λx y=>decide (x<=y))->rf x:=λx hx=>h7 x (Cj.mem_iff.1 hx);obtain⟨xo,cG⟩:=h.put (d:=l.mergeSort λx y=>decide (x<=y)) rfl Cj.length_eq hli n os;refine⟨rfl,?_⟩;have esr:rJ l=Lib.compact (l.mergeSort λx y=>decide (x<=y)):=rfl;have Cs:=Cj.length_eq;rw[esr];generalize hw1:Sort.grow _ os=w1 at*
 generalize hms:(l.mergeSort λx y=>decide (x<=y))=ms at*
 have pC:=tM ms;have U5:∀x,x∈Lib.compact ms->x∈ms:=λx hx=>by
  have:=(nW (uv l)).2 x;rw[hms]at this;exact this.1 hx
 rw[<-Cs];refine(Tryz.slices_Compact_int g 0 sc ms w1 (xo.holds rfl) aG aG).mono ?_;rintro _ w2 ⟨rfl,q,rfl⟩;obtain⟨Gx,dk⟩:=xo.put (d:=Lib.compact ms++List.replicate (ms.length-(Lib.compact ms).length) 0) rfl (by rw[aW,fT];omega) (λx hx=>by
  rw[bN]at hx;rcases hx with hx | hx
  ·exact hli x (U5 x hx)
  rw[(I2.1 hx).2];exact⟨aN,aN⟩) q #[]
 rw[Sort.grow_empty]at Gx dk;have Ct:=Gx.cut (Lib.compact ms).length abA aac;rw[CR]at Ct;have t0:∀x,x∈[g]->(some (⟨g,0,none⟩:Addr)=some ⟨x,0,none⟩)∨w.heap.size<=x:=λx hx=>by
  simp only[aO]at hx;subst hx;exact .inl rfl
 exact⟨⟨some ⟨g,0,none⟩,_,sc⟩,rfl,_,rfl,rfl,Ct,(cG.mem dk aac).p t0⟩
theorem Fx{F:aL}{sa:Sl}{act:List Int}(ha:aD rInt 1 w F sa act)(hm:act.length<=1000000000):aB au 33 #[sa.v] w λe w'=>∃s:Sl,e=aq s.v/\dd w.heap.size w' s act/\aA [] w w':=by
 have hi:∀x,x∈act->rf x:=λx hx=>by
  obtain⟨cs,h⟩:=ha.mem hx;exact h.2
 obtain⟨a,n,c⟩:=sa;have hl:=ha.len;dsimp only at hl;subst hl;cases a with
 | none=>
  have:=aaK ha rfl;subst this;refine(Tryz.slices_Clone_int_nil 0 c w).mono ?_;rintro _ u ⟨rfl,hu⟩;obtain rfl:w=u:=hu.symm;exact⟨Sl.nil,rfl,Own.nil _ _ _ _ _ _,Only.refl _ _⟩
 | some base=>
  by_cases h0:act=[]
  ·subst h0;refine(Tryz.slices_Clone_int_zero base c w).mono ?_;rintro _ w' ⟨v,rfl,h1,_,h2⟩;obtain⟨s,rfl,hs⟩:=dd.ofRow (l:=[]) h1 hi;exact⟨s,rfl,hs,Only.oH h2⟩
  have h0:0<act.length:=gz.2 h0;obtain⟨auP,cs,e1,_,fy,c0,_⟩:=ha.at_ 0 _ (aQ h0);injection e1 with e1;subst e1;obtain⟨b,o,sp⟩:=base;have xx:sp=none:=by
   cases cs with
   | nil=>cases fy
   | cons v cs=>exact World.cell?_spot (c0 0 v rfl)
  subst xx;have Cg:∀j,j<act.length->w.cell? ⟨b,o+j,none⟩=some (.int ae (act.getD j 0)):=λj hj=>by
   obtain⟨base,cs,e1,_,_,c0,hc,_⟩:=ha.at_ j _ (aQ hj);injection e1 with e1;subst e1 hc;have:=c0 0 _ rfl;rw[fP,fP]at this;rw[List.getD_eq_getElem?_getD,aQ hj];simpa using this
  refine(Tryz.slices_Clone_int b o act.length c act w (ba _) aG Cg).mono ?_;rintro _ w' ⟨v,rfl,h1,_,h2⟩;rw[bq (ba _)]at h1;obtain⟨s,rfl,hs⟩:=dd.ofRow (l:=act) h1 hi;exact⟨s,rfl,hs,Only.oH h2⟩
end
structure ClI (w:ay) (S:aL) (P5:FuncId) (cap:aK) (l:List Int) (p:Int->Bool):Prop where
 en:∀(args:Array az) (w:ay),(callFunc P5 args).run au w=.ok (.enter P5 args) w
 call:∀x,x∈l->∀u,aF S w u->aB au P5 ((O ae x::cap):aK).toArray u λe u'=>e=aq (ao (p x))/\aA [] u u'
section
variable {w:ay} {s:Sl} {l:List Int} {B P5:Nat} {cap:aK} {p:Int->Bool}
theorem Tv{S F:aL}(hs:aD rInt 1 w F s l)(hl:l.length<=2000000)(hF:∀k,F k->S k)(hc:ClI w (λ_=>False) P5 cap l p){f:OV}(hf:f.v=.func (.func P5) #[] cap.toArray):
  aB au 72 #[s.v,f.v] w λe w'=>(∃i:Int,e=aq (O ae i)/\((i= -1/\∀x,x∈l->p x=false)∨∃n:Nat,i=(n:Int)/\n<l.length/\(l.take n).filter (λx=>!p x)=l.take n/\∀x,l[n]? =some x->p x=true))/\aA [] w w':=by
 refine(RU s f (λv w'=>(∃i:Int,v=O ae i/\((i= -1/\∀x,x∈l->p x=false)∨∃n:Nat,i=(n:Int)/\n<l.length/\(l.take n).filter (λx=>!p x)=l.take n/\∀x,l[n]? =some x->p x=true))/\aA [] w w') w ?_).mono (by rintro _ w' ⟨v,rfl,⟨i,rfl,h⟩,h'⟩;exact⟨⟨i,rfl,h⟩,h'⟩);have hn:=hs.len;refine⟨λkv i u=>∃j:Nat,i=(j:Int)/\kv+j=l.length/\j<=l.length/\(∀x,x∈l.take j->p x=false)/\aA [] w u,l.length,⟨0,rfl,aG,bh _,aac,Only.refl _ _⟩,?_⟩;rintro kv _ u ⟨j,rfl,sJ,hj,hp,hO⟩;refine⟨λK3=>?_,λK3=>?_⟩
 ·have K3:=aP K3;have iA:j<l.length:=aG
  obtain⟨ad,a1,a2⟩:=gD (kI hs hO) (aQ iA);refine⟨ad,a1,_,a2,P5,[],cap,hf,hc.en,(hc.call _ (dZ iA) u hO.p0).mono ?_⟩;rintro _ u' ⟨rfl,IY⟩;have mJ:l.take (j+1)=l.take j++[l[j]]:=acT
  refine⟨_,rfl,λht=>⟨⟨_,rfl,.inr ⟨j,rfl,iA,?_,λx hx=>?_⟩⟩,hO.cr IY⟩,λhf=>⟨kv-1,aG,j+1,aad,aG,aG,λx hx=>?_,hO.cr IY⟩⟩
  ·rw[Gj];intro x hx;rw[hp x hx];rfl
  ·rw[aQ iA]at hx;injection hx with hx;rw[<-hx];exact ht
  rw[mJ,bN,aO]at hx;rcases hx with hx | rfl
  ·exact hp x hx
  exact hf
 have K3:=aX K3;rw[bq aG]at hp;exact⟨⟨-1,rfl,.inl ⟨rfl,hp⟩⟩,hO⟩
theorem rK(hs:dd B w s l)(hl:l.length<=2000000)(hc:ClI w (λk=>s.a=some ⟨k,0,none⟩) P5 cap l p){f:OV}(hf:f.v=.func (.func P5) #[] cap.toArray):
  aB au 32 #[s.v,f.v] w λe w'=>∃s':Sl,e=aq s'.v/\s'.a=s.a/\s'.c=s.c/\dd B w' s' (l.filter λx=>!p x)/\aF (λk=>s.a=some ⟨k,0,none⟩) w w':=by
 refine(ahf s f (λv w'=>∃s':Sl,v=s'.v/\s'.a=s.a/\s'.c=s.c/\dd B w' s' (l.filter λx=>!p x)/\aF (λk=>s.a=some ⟨k,0,none⟩) w w') w ?_).mono (by rintro _ w' ⟨v,rfl,s',rfl,h⟩;exact⟨s',rfl,h⟩);have hn:=hs.len;have lI:=hs.cap;refine(Tv (S:=λ_=>True) hs.sl hl (λ_ _=>trivial) ⟨hc.en,λx hx u hO=>hc.call x hx u (hO.mono λk _ h=>h.elim)⟩ hf).mono ?_;rintro _ w1 ⟨⟨i,rfl,hi⟩,cG⟩;have vL:dd B w1 s l:=hs.keep bF λk _ bT=>cG.block k bT aac;refine⟨i,rfl,λh1=>?_,λh1=>?_⟩
 ·have h1:i= -1:=abB
  rcases hi with⟨_,hi⟩ | ⟨n,rfl,_⟩
  ·have:l.filter (λx=>!p x)=l:=by
    rw[Gj];intro x hx;rw[hi x hx];rfl
   rw[this];exact⟨s,rfl,rfl,rfl,vL,cG.p0⟩
  omega
 have h1:i≠ -1:=abB
 rcases hi with⟨hi,_⟩ | ⟨n,rfl,VN,hft,hpn⟩
 ·exact absurd hi h1
 rw[gx (x:=(n:Int)+1) aG aG];refine⟨λkv i j u=>∃(a b:Nat) (ys:List Int),i=(a:Int)/\j=(b:Int)/\a<b/\b<=l.length/\kv=l.length-b/\ys.length=l.length/\ys.take a=(l.take b).filter (λx=>!p x)/\ys.drop b=l.drop b/\dd B u s ys/\aF (λk=>s.a=some ⟨k,0,none⟩) w u,l.length-(n+1),⟨n,n+1,l,rfl,aG,aG,aG,rfl,rfl,?_,rfl,vL,cG.p0⟩,?_⟩
 ·have:l.take (n+1)=l.take n++[l[n]]:=by rw[bE,aQ VN];rfl
  rw[this,eC,hft];simp[hpn _ (aQ VN)]
 rintro kv _ _ w2 ⟨a,b,ys,rfl,rfl,hab,DY,rfl,PD,hya,U6,ny,dk⟩;refine⟨λoh=>?_,λoh=>?_⟩
 ·have oh:(b:Int)<s.n:=aP oh;have jL:b<l.length:=aG
  rw[gx (x:=(b:Int)+1) aG aG];have ajZ:ys[b]? =some l[b]:=by
   have:=bm List.head? U6;rw[List.head?_drop,List.head?_drop,aQ jL]at this;exact this
  have mJ:l.take (b+1)=l.take b++[l[b]]:=by rw[bE,aQ jL];rfl
  have hdr:ys.drop (b+1)=l.drop (b+1):=by
   have:=bm (List.drop 1) U6;simpa[oV]using this
  obtain⟨ad,a1,a2⟩:=gD ny.sl ajZ;obtain⟨cs,QF⟩:=ny.sl.mem (bB ajZ);refine⟨λi1 u=>∃(a':Nat) (ys':List Int),i1=(a':Int)/\a'<b+1/\ys'.length=l.length/\ys'.take a'=(l.take (b+1)).filter (λx=>!p x)/\ys'.drop (b+1)=l.drop (b+1)/\dd B u s ys'/\aF (λk=>s.a=some ⟨k,0,none⟩) w u,?_,ad,a1,_,a2,P5,[],cap,hf,hc.en,(hc.call _ (dZ jL) w2 dk).mono ?_⟩
  ·rintro _ w3 ⟨a',ys',rfl,q1,q2,q3,q4,q5,q6⟩;exact⟨l.length-(b+1),aG,a',b+1,ys',rfl,aG,q1,aG,rfl,q2,q3,q4,q5,q6⟩
  rintro _ w5 ⟨rfl,eJ⟩;have aay:dd B w5 s ys:=ny.keep bF λk _ bT=>eJ.block k bT aac;have adg:=dk.cr eJ;refine⟨_,rfl,λKI=>?_,λKI=>?_⟩
  ·have KI:p l[b]=false:=by simpa using KI
   obtain⟨g,cells,p1,p2,p3,p4,p5⟩:=Own.store (x:=l[b]) (n:=a) (vs:=[O ae l[b]]) (G:=λ_=>False) bF aay aG rfl ⟨rfl,QF.2⟩ (λk hk _=>hk.elim) aN;refine⟨_,p2,g,a*1,cells,_,rfl,p3,p4,λw6 eH hb6=>?_⟩;rw[gx (x:=(a:Int)+1) aG aG];refine⟨a+1,ys.set a l[b],aG,aG,by rw[iB];exact PD,?_,?_,p5 w6 eH hb6,adg.trans (eH.p (F:=λk=>s.a=some ⟨k,0,none⟩) λk hk=>.inl (by simp only[aO]at hk;rw[hk];exact p1)) λk hk=>.inl hk⟩
   ·rw[bE,Gh (ba _),hya,oU aG,mJ,eC];simp[KI]
   rw[Gi aG];exact hdr
  have KI:p l[b]=true:=by simpa using KI
  refine⟨a,ys,rfl,aG,PD,?_,hdr,aay,adg⟩;rw[mJ,eC,hya];simp[KI]
 have oh:¬(b:Int)<s.n:=aX oh;have Un:b=l.length:=aG
 subst Un;rw[bq (ba _)]at hya;obtain⟨w3,g,k1,k2,k3,k4⟩:=Own.clear (P:=au) (t:=33) (ty:=0) (i:=a) bF aN (by kernel_rfl) (λw=>Tryz.zeroValue3 w) (by intro v hv;simp[Value.cells]at hv;rcases hv with rfl<;>rfl) rfl ny aG;refine⟨a,⟨rfl,aG,lI⟩,w3,k1,a,⟨rfl,aG⟩,_,rfl,?_,?_,by rw[<-hya];exact k4,dk.trans (k3.p (F:=λk=>s.a=some ⟨k,0,none⟩) λk hk=>.inl (by simp only[aO]at hk;rw[hk];exact k2)) λk hk=>.inl hk⟩
 ·simp only[Sl.cut];split
  ·rfl
  rw[k2];rfl
 exact kD _
end
end Go.Proofs.YtpbgcbdclnfpnaaGreatDoor.Con
namespace Go.Proofs.YtpbgcbdclnfpnaaGreatDoor.Con
def Kc(xs:List cM)(d:Int)(c:Nat):Prop:=∃t,xs[c]? =some t/\t.pa=d
def Sb(xs:List cM)(d:Int)(x:Nat):Prop:=d<x/\x<xs.length/\(d= -1∨∃k:Nat,d=k/\jp xs k x)
def SS(xs:List cM)(x:Nat):Prop:=∃t,xs[x]? =some t/\(t.k=1∨t.k=2)
def O9(xs:List cM)(S:aL)(d:Int):Prop:=∀c c',Kc xs d c->Kc xs d c'->S c->S c'->c=c'
structure Gd (xs:List cM) (d:Int) (G:aL):Prop where
 ne:∃g,G g
 bl:∀g,G g->Sb xs d g/\SS xs g
 con:∀(n:Nat) (t:cM) (c c' g g':Nat),xs[n]? =some t->t.k=1->Kc xs n c->Kc xs n c'->G g->G g'->jp xs c g->jp xs c' g'->c=c'
def Ap(xs:List cM)(D:Int->Prop):Prop:=∀d d' x,D d->D d'->Sb xs d x->Sb xs d' x->d=d'
structure Part (xs:List cM) (D:Int->Prop) (S:aL):Prop where
 st:∀x,S x->SS xs x/\∃d,D d/\Sb xs d x
 up:∀x t,S x->xs[x]? =some t->D t.pa∨∃p:Nat,t.pa=p/\S p
 one:∀(n:Nat) (t:cM),xs[n]? =some t->t.k=1->O9 xs S n
 top:∀d,D d->∃c,Kc xs d c/\S c
section
variable {xs:List cM} (F:Fo xs) {d d':Int} {c c' k n x:Nat} {t:cM} {D:Int->Prop} {S G:aL}
include F
theorem Fo.jd(h:Kc xs d c):Sb xs d c:=by
 obtain⟨t,h1,rfl⟩:=h;have hl:=eS h1;by_cases h0:0<c
 ·obtain⟨p,s,g1,g2,g3,_,g5,_⟩:=F.par h1 h0;exact⟨aG,hl,.inr ⟨p,g2,s,g3,aG,g5⟩⟩
 have:c=0:=aG
 subst this;have:=(F.rt t h1).1;exact⟨aG,hl,.inl this⟩
theorem Fo.yp(h:Sb xs d x)(hx:xs[x]? =some t):t.pa=d∨∃p:Nat,t.pa=p/\Sb xs d p/\p<x/\jp xs p x:=by
 obtain⟨h1,h2,h3⟩:=h;by_cases h0:0<x
 ·obtain⟨p,s,g1,g2,g3,_,g5,g6⟩:=F.par hx h0;have hc:jp xs p x:=⟨s,g3,aG,g5⟩
  have hl:=eS g3;rcases h3 with rfl | ⟨k,rfl,u,e1,e2,e3⟩
  ·exact .inr ⟨p,g2,⟨aG,hl,.inl rfl⟩,g1,hc⟩
  have:=g6 k u e1 aG e3;by_cases he:k=p
  ·exact .inl aG
  exact .inr ⟨p,g2,⟨aG,hl,.inr ⟨k,rfl,F.jB ⟨u,e1,e2,e3⟩ hc this⟩⟩,g1,hc⟩
 have:x=0:=aG
 subst this;rcases h3 with rfl | ⟨k,rfl,_⟩
 ·exact .inl (F.rt t hx).1
 omega
theorem Fo.KB(h:Sb xs d k)(g:jp xs k x):Sb xs d x:=by
 obtain⟨h1,h2,h3⟩:=h;have hl:=F.pQ g;have kA:k<=x:=by obtain⟨_,_,h,_⟩:=g;exact h
 refine⟨aG,hl,h3.imp id ?_⟩;rintro⟨m,e,hm⟩;exact⟨m,e,F.kg hm g⟩
theorem Fo.qK(h:Sb xs d k)(g:Sb xs k x):Sb xs d x:=by
 obtain⟨g1,g2,g3⟩:=g;rcases g3 with g3 | ⟨m,e,hm⟩
 ·omega
 have:m=k:=aG
 subst this;exact F.KB h hm
theorem Fo.yq:∀(x:Nat),Sb xs d x->∃c,Kc xs d c/\jp xs c x
 | x,h=>by
  obtain⟨t,ht⟩:=fL h.2.1;rcases F.yp h ht with e | ⟨p,_,hp,bT,hc⟩
  ·exact⟨x,⟨t,ht,e⟩,F.jT h.2.1⟩
  obtain⟨c,h1,h2⟩:=Fo.yq p hp;exact⟨c,h1,F.kg h2 hc⟩
theorem Fo.ZN(h:Kc xs d c)(h':Kc xs d c')(g:jp xs c x)(g':jp xs c' x):¬c<c':=λbT=>by
 obtain⟨t,h1,rfl⟩:=h';obtain⟨p,s,e1,e2,e3,_,e5,e6⟩:=F.par h1 aG;obtain⟨u,u1,u2,u3⟩:=F.jB g g' (Nat.le_of_lt bT);have:=e6 c u u1 bT u3;have:=(F.jd h).1;omega
theorem Fo.FR(h:Kc xs d c)(h':Kc xs d c')(g:jp xs c x)(g':jp xs c' x):c=c':=by
 have:=F.ZN h h' g g';have:=F.ZN h' h g' g;omega
theorem Fo.mH(hk:∀(n c:Nat),Kc xs n c->SS xs n)(hG:Gd xs d G)(h1:d<x){g:Nat}(hg:G g)(hc:jp xs x g):SS xs x/\Sb xs d x:=by
 obtain⟨⟨b1,b2,b3⟩,hs⟩:=hG.bl g hg;have kA:x<=g:=by obtain⟨_,_,h,_⟩:=hc;exact h
 have hx:x<xs.length:=aG
 refine⟨?_,h1,hx,?_⟩
 ·by_cases he:x=g
  ·rw[he];exact hs
  obtain⟨c,hc,_⟩:=F.yq (d:=x) g ⟨aG,b2,.inr ⟨x,rfl,hc⟩⟩;exact hk x c hc
 rcases b3 with b3 | ⟨k,rfl,b3⟩
 ·exact .inl b3
 exact .inr ⟨k,rfl,F.jB b3 hc aG⟩
theorem Fo.B6(h:Kc xs (n:Int) c)(g:Sb xs d c):(n:Int)=d∨Sb xs d n:=by
 obtain⟨t,h1,h2⟩:=h;rcases F.yp g h1 with e | ⟨p,e,hp,_⟩
 ·exact .inl aG
 have:p=n:=aG
 subst this;exact .inr hp
theorem Fo.Pv(hk:∀(n c:Nat),Kc xs n c->SS xs n)(hA:Ap xs D){G:Int->Nat->Prop}(hG:∀d,D d->Gd xs d (G d)):Part xs D λm=>∃d,D d/\d<m/\∃g,G d g/\jp xs m g where
 st:=by
  rintro x ⟨d,hD,h1,g,hg,hc⟩;obtain⟨h2,h3⟩:=F.mH hk (hG d hD) h1 hg hc;exact⟨h2,d,hD,h3⟩
 up:=by
  rintro x t ⟨d,hD,h1,g,hg,hc⟩ hx;obtain⟨_,h3⟩:=F.mH hk (hG d hD) h1 hg hc;rcases F.yp h3 hx with e | ⟨p,e,hp,_,hpc⟩
  ·exact .inl (by rw[e];exact hD)
  exact .inr ⟨p,e,d,hD,hp.1,g,hg,F.kg hpc hc⟩
 one:=by
  rintro n t hn h1 c c' hc sC ⟨d,hD,e1,g,hg,hcg⟩ ⟨d',hD',e1',g',yU,IZ⟩;obtain⟨_,b⟩:=F.mH hk (hG d hD) e1 hg hcg;obtain⟨_,b'⟩:=F.mH hk (hG d' hD') e1' yU IZ;have VA:d=d':=by
   rcases F.B6 hc b with a | a<;>rcases F.B6 sC b' with a' | a'
   ·omega
   ·exact hA d d' c hD hD' b (F.qK a' (F.jd hc))
   ·exact hA d d' c' hD hD' (F.qK a (F.jd sC)) b'
   exact hA d d' n hD hD' a a'
  subst VA;exact(hG d hD).con n t c c' g g' hn h1 hc sC hg yU hcg IZ
 top:=by
  intro d hD;obtain⟨g,hg⟩:=(hG d hD).ne;obtain⟨c,h1,h2⟩:=F.yq g ((hG d hD).bl g hg).1;exact⟨c,h1,d,hD,(F.jd h1).1,g,hg,h2⟩
theorem Fo.ZO(hA:Ap xs D)(P:Part xs D S)(hn:S n):∀(x:Nat),S x->Sb xs n x->∃c,Kc xs n c/\S c
 | x,hx,h=>by
  obtain⟨t,ht⟩:=fL h.2.1;rcases F.yp h ht with e | ⟨p,e,hp,bT,hc⟩
  ·exact⟨x,⟨t,ht,e⟩,hx⟩
  rcases P.up x t hx ht with hD | ⟨q,eq,hq⟩
  ·obtain⟨_,d,hd,hb⟩:=P.st n hn;rw[e]at hD;have:=hA d p x hd hD (F.qK hb h) ⟨aG,h.2.1,.inr ⟨p,rfl,hc⟩⟩;have:=hb.1;have:=hp.1;omega
  have:q=p:=aG
  subst this;exact Fo.ZO hA P hn q hq hp
theorem Fo.XQ(hk:∀(n c:Nat),Kc xs n c->SS xs n)(hA:Ap xs D)(P:Part xs D S)(hn:S n)(h0:∀c,Kc xs n c->¬S c)(hG:Gd xs n G):Part xs D λm=>S m∨((n:Int)<m/\∃g,G g/\jp xs m g):=by
 have no:∀x,S x->¬Sb xs n x:=λx hx h=>by
  obtain⟨c,h1,h2⟩:=F.ZO hA P hn x hx h;exact h0 c h1 h2
 refine⟨?_,?_,?_,λd hD=>?_⟩
 ·rintro x (hx | ⟨h1,g,hg,hc⟩)
  ·exact P.st x hx
  obtain⟨h2,h3⟩:=F.mH hk hG h1 hg hc;obtain⟨_,d,hD,hb⟩:=P.st n hn;exact⟨h2,d,hD,F.qK hb h3⟩
 ·rintro x t (hx | ⟨h1,g,hg,hc⟩) ht
  ·exact(P.up x t hx ht).imp id λ⟨p,e,h⟩=>⟨p,e,.inl h⟩
  obtain⟨_,h3⟩:=F.mH hk hG h1 hg hc;rcases F.yp h3 ht with e | ⟨p,e,hp,_,hpc⟩
  ·exact .inr ⟨n,e,.inl hn⟩
  exact .inr ⟨p,e,.inr ⟨hp.1,g,hg,F.kg hpc hc⟩⟩
 ·rintro m t hm h1 c c' hc sC (hx | ⟨e1,g,hg,hcg⟩) (yX | ⟨e1',g',yU,IZ⟩)
  ·exact P.one m t hm h1 c c' hc sC hx yX
  ·obtain⟨_,b⟩:=F.mH hk hG e1' yU IZ;rcases F.B6 sC b with e | b
   ·exact absurd hx (h0 c (by rw[<-e];exact hc))
   exact absurd (F.qK b (F.jd hc)) (no c hx)
  ·obtain⟨_,b⟩:=F.mH hk hG e1 hg hcg;rcases F.B6 hc b with e | b
   ·exact absurd yX (h0 c' (by rw[<-e];exact sC))
   exact absurd (F.qK b (F.jd sC)) (no c' yX)
  exact hG.con m t c c' g g' hm h1 hc sC hg yU hcg IZ
 obtain⟨c,h1,h2⟩:=P.top d hD;exact⟨c,h1,.inl h2⟩
theorem Fo.acw(P:Part xs D S)(hn:S n)(ht:xs[n]? =some t)(h2:t.k=2):Part xs D λm=>S m∨(Kc xs n m/\SS xs m):=by
 refine⟨?_,?_,?_,λd hD=>?_⟩
 ·rintro x (hx | ⟨h1,hs⟩)
  ·exact P.st x hx
  obtain⟨_,d,hD,hb⟩:=P.st n hn;exact⟨hs,d,hD,F.qK hb (F.jd h1)⟩
 ·rintro x u (hx | ⟨⟨v,h1,e⟩,hs⟩) hu
  ·exact(P.up x u hx hu).imp id λ⟨p,e,h⟩=>⟨p,e,.inl h⟩
  rw[hu,be]at h1;subst h1;exact .inr ⟨n,e,.inl hn⟩
 ·have no:∀(m:Nat) (u:cM) (c:Nat),xs[m]? =some u->u.k=1->Kc xs m c->¬Kc xs n c:=by
   rintro m u c hm h1 ⟨v,e1,e2⟩ ⟨v',e1',e2'⟩;rw[e1,be]at e1';subst e1';have:m=n:=aG
   subst this;rw[hm,be]at ht;subst ht;omega
  rintro m u hm h1 c c' hc sC (hx | ⟨a,_⟩) (yX | ⟨a',_⟩)
  ·exact P.one m u hm h1 c c' hc sC hx yX
  ·exact absurd a' (no m u c' hm h1 sC)
  ·exact absurd a (no m u c hm h1 hc)
  exact absurd a (no m u c hm h1 hc)
 obtain⟨c,h1,h2⟩:=P.top d hD;exact⟨c,h1,.inl h2⟩
end
end Go.Proofs.YtpbgcbdclnfpnaaGreatDoor.Con
namespace Go.Proofs.YtpbgcbdclnfpnaaGreatDoor.Con
open Go Go.RowKit Go.Kt
def Tw(n:Int):Nat:=if 0<=n/\n<=63 then 2 ^ n.toNat else 0
def Fy(m:Nat)(n:Int):Nat:=m||| Tw n
def BL(l:List Int):Nat:=l.foldl Fy 0
theorem BM(n:Int)(i:Nat):(Tw n).testBit i=decide (i<64/\n=i):=by
 unfold Tw;split
 ·rw[Nat.testBit_two_pow,ga];omega
 rw[yA];exact(bI aG).symm
theorem Xh(n:Int):Tw n<2 ^ 64:=by
 unfold Tw;split
 ·exact Nat.pow_lt_pow_right aN aG
 decide
theorem wR:∀(l:List Int) (m i:Nat),(l.foldl Fy m).testBit i=(m.testBit i||decide (i<64/\(i:Int)∈l))
 | [],m,i=>aac
 | n::l,m,i=>by
  rw[iC,wR l,Fy,Nat.testBit_or,BM,Bool.or_assoc];congr 1;rw[<-Bool.decide_or,ga,aV];constructor
  ·rintro(⟨h,rfl⟩ | ⟨h,h2⟩)
   ·exact⟨h,.inl rfl⟩
   exact⟨h,.inr h2⟩
  rintro⟨h,h2 | h2⟩
  ·exact .inl ⟨h,h2.symm⟩
  exact .inr ⟨h,h2⟩
theorem Pa(l:List Int)(i:Nat):(BL l).testBit i=decide (i<64/\(i:Int)∈l):=by
 unfold BL;rw[wR,yA,nA]
theorem aod{x:Nat}(h:∀i,x.testBit i=true->i<64):x<2 ^ 64:=Nat.lt_pow_two_of_testBit x λi hi=>by
 cases hx:x.testBit i with
 | true=>have:=h i hx;omega
 | false=>rfl
theorem Xi(l:List Int){m:Nat}(hm:m<2 ^ 64):l.foldl Fy m<2 ^ 64:=aod λi hi=>by
 rw[wR,bU,bL]at hi;rcases hi with hi | hi
 ·refine Qb λkA=>?_;rw[Nat.testBit_lt_two_pow (cq hm (lK aN kA))]at hi;cases hi
 exact hi.1
def jg(x:Nat):List Int:=Gn 64 λi=>x.testBit i
theorem yd{x:Nat}{n:Int}:n∈jg x↔∃k:Nat,n=k/\k<64/\x.testBit k=true:=pA
theorem BN(x:Nat):(jg x).Pairwise (· <·):=wP _ _
theorem DC(x:Nat):(jg x).length<=64:=rI _ _
def Nh(xs:List cM)(d:Int):Nat->Int->Nat->Nat
 | 0,_,S=>S
 | f+1,g,S=>if d<g then Nh xs d f (Fc xs g) (Fy S g)else S
def kY(xs:List cM)(d:Int)(G:List Int)(S:Nat):Nat:=G.foldl (λS g=>Nh xs d xs.length g S) S
def Ih(xs:List cM)(gl:Nat->List Int)(S n:Nat):Nat:=
 if S.testBit n then(if kd xs n=2 then(cY xs n).foldl Fy S else if cY xs n≠[]/\((cY xs n).all λr=>!S.testBit r.toNat)=true then kY xs n (gl n) S else S)else S
def nX(xs:List cM)(gl:Nat->List Int):Nat->Nat->Nat
 | 0,S=>S
 | n+1,S=>Ih xs gl (nX xs gl n S) n
section
variable {xs:List cM} (F:Fo xs) (hl:xs.length<=64)
include F hl
theorem Ni{d:Int}(h0: -1<=d):∀(f g S:Nat),g<f->g<xs.length->∀m,(Nh xs d f g S).testBit m=true↔S.testBit m=true∨(d<m/\jp xs m g)
 | 0,g,S,h,_,m=>aG
 | f+1,g,S,h,hg,m=>by
  unfold Nh;obtain⟨t,ht⟩:=fL hg;by_cases hd:d<g
  ·rw[bc hd,jr ht];have hor:∀m,(Fy S g).testBit m=true↔S.testBit m=true∨m=g:=λm=>by
    unfold Fy;rw[Nat.testBit_or,BM,bU,bL];exact oZ ⟨λh=>aG,λh=>⟨aG,aG⟩⟩
   by_cases hz:0<g
   ·obtain⟨p,s,e1,e2,e3,_,e5,e6⟩:=F.par ht hz;have hc:jp xs p g:=⟨s,e3,aG,e5⟩
    rw[e2,Ni h0 f p (Fy S g) aG (eS e3) m,hor,or_assoc];refine oZ ⟨?_,?_⟩
    ·rintro(rfl | ⟨a,b⟩)
     ·exact⟨hd,F.jT hg⟩
     exact⟨a,F.kg b hc⟩
    rintro⟨a,u,b1,b2,b3⟩;by_cases he:m=g
    ·exact .inl he
    have:=e6 m u b1 aG b3;exact .inr ⟨a,F.jB ⟨u,b1,b2,b3⟩ hc this⟩
   have:g=0:=aG
   subst this;rw[(F.rt t ht).1];have e:Nh xs d f (-1) (Fy S (0:Nat))=Fy S (0:Nat):=by
    cases f with
    | zero=>rfl
    | succ f=>unfold Nh;rw[aY aG]
   rw[e,hor];refine oZ ⟨?_,?_⟩
   ·rintro rfl;exact⟨hd,F.jT hg⟩
   rintro⟨_,_,_,b2,_⟩;omega
  rw[aY hd];refine⟨.inl,λh=>h.elim id λ⟨a,_,_,b,_⟩=>?_⟩;omega
theorem qI{d:Int}(h0: -1<=d):∀(G:List Int) (S:Nat),(∀g,g∈G->pu xs g)->∀m,(kY xs d G S).testBit m=true↔S.testBit m=true∨(d<m/\∃g:Nat,(g:Int)∈G/\jp xs m g)
 | [],S,_,m=>⟨.inl,λh=>h.elim id λ⟨_,g,h,_⟩=>aaB⟩
 | g::G,S,hG,m=>by
  obtain⟨a1,a2⟩:=hG g (.head _);obtain⟨g,rfl⟩:∃k:Nat,g=k:=⟨g.toNat,aG⟩
  have:=qI h0 G (Nh xs d xs.length g S) (λy hy=>hG y (.tail _ hy)) m;unfold kY at this⊢;rw[iC,this,Ni F hl h0 _ _ _ aG aG,or_assoc];refine oZ ⟨?_,?_⟩
  ·rintro(⟨b1,b2⟩ | ⟨b1,q,b2,b3⟩)
   ·exact⟨b1,g,.head _,b2⟩
   exact⟨b1,q,.tail _ b2,b3⟩
  rintro⟨b1,q,b2,b3⟩;rcases aV.1 b2 with e | e
  ·have:q=g:=aG
   subst this;exact .inl ⟨b1,b3⟩
  exact .inr ⟨b1,q,e,b3⟩
omit F in
theorem Tx {n:Nat} (S m:Nat):((cY xs n).foldl Fy S).testBit m=true↔S.testBit m=true∨(m:Int)∈cY xs n:=by
 rw[wR,bU,bL];refine oZ ⟨λh=>h.2,λh=>⟨?_,h⟩⟩;obtain⟨q,t,e,h1,_⟩:=hY.1 h;have:=eS h1;omega
end
def Ii(xs:List cM)(S n:Nat):Prop:=(kd xs n=2->∀r,r∈cY xs n->S.testBit r.toNat=true)/\(kd xs n=1->cY xs n=[]∨∃r,r∈cY xs n/\S.testBit r.toNat=true)
theorem Ii.mono{xs:List cM}{S S' n:Nat}(h:Ii xs S n)(hs:∀m,S.testBit m=true->S'.testBit m=true):Ii xs S' n:=
 ⟨λe r hr=>hs _ (h.1 e r hr),λe=>(h.2 e).imp id λ⟨r,hr,hb⟩=>⟨r,hr,hs _ hb⟩⟩
section
variable {xs:List cM} (sd:Sd xs) {D:Int->Prop} {gl:Nat->List Int}
include sd
theorem eX{n c:Nat}:(c:Int)∈cY xs n↔Kc xs n c/\SS xs c:=by
 rw[hY];constructor
 ·rintro⟨q,t,e,h1,h2,h3⟩;have:q=c:=aG
  subst this;refine⟨⟨t,h1,h2⟩,t,h1,?_⟩;unfold xr at h3;rw[bU,dq,dq]at h3;exact h3
 rintro⟨⟨t,h1,h2⟩,u,h3,h4⟩;rw[h1,be]at h3;subst h3;refine⟨c,t,rfl,h1,h2,?_⟩;unfold xr;rw[bU,dq,dq];exact h4
theorem DD(hk:∀(n c:Nat),Kc xs n c->SS xs n)(hA:Ap xs D)(hgl:∀(n:Nat) (t:cM),xs[n]? =some t->t.k=1->cY xs n≠[]->Gd xs n (λg=>(g:Int)∈gl n)/\∀g,g∈gl n->pu xs g){S:Nat}(P:Part xs D λm=>S.testBit m=true):
  ∀k,k<=xs.length->Part xs D (λm=>(nX xs gl k S).testBit m=true)/\(∀m,S.testBit m=true->(nX xs gl k S).testBit m=true)/\∀n,n<k->(nX xs gl k S).testBit n=true->Ii xs (nX xs gl k S) n
 | 0,_=>⟨P,λ_ h=>h,λn h=>aG⟩
 | k+1,KN=>by
  obtain⟨Q,hm,hf⟩:=DD hk hA hgl P k aG;rw[nX];generalize nX xs gl k S=U at Q hm hf;obtain⟨t,ht⟩:=fL (xs:=xs) (i:=k) aG;have ek:=kz ht;have fin:∀U':Nat,Part xs D (λm=>U'.testBit m=true)->(∀m,U.testBit m=true->U'.testBit m=true)->(∀m,U'.testBit m=true->m<=k->U.testBit m=true)->(U.testBit k=true->Ii xs U' k)->Part xs D (λm=>U'.testBit m=true)/\(∀m,S.testBit m=true->U'.testBit m=true)/\∀n,n<k+1->U'.testBit n=true->Ii xs U' n:=λU' Q' hU hb hF=>by
   refine⟨Q',λm h=>hU m (hm m h),λn hn hu=>?_⟩;have:=hb n hu aG;by_cases he:n=k
   ·subst he;exact hF this
   exact(hf n aG this).mono hU
  unfold Ih;by_cases hU:U.testBit k=true
  ·rw[bc hU];by_cases h2:kd xs k=2
   ·rw[bc h2];have hb:=Tx (xs:=xs) sd.le (n:=k) U;have zo:(λm=>((cY xs k).foldl Fy U).testBit m=true)=λm=>U.testBit m=true∨(Kc xs k m/\SS xs m):=funext λm=>propext ((hb m).trans (oZ (eX sd)));refine fin _ (by rw[zo];exact sd.fo.acw Q hU ht (by rw[<-ek];exact h2)) (λm h=>(hb m).2 (.inl h)) (λm h kA=>?_) λ_=>⟨λ_ r hr=>?_,λe=>aG⟩
    ·rcases(hb m).1 h with h | h
     ·exact h
     have:=(sd.fo.jd ((eX sd).1 h).1).1;omega
    obtain⟨q,_,rfl,_⟩:=hY.1 hr;exact(hb _).2 (.inr (by rw[aU];exact hr))
   rw[aY h2];by_cases h3:cY xs k≠[]/\((cY xs k).all λr=>!U.testBit r.toNat)=true
   ·rw[bc h3];have h1:t.k=1:=by
     obtain⟨⟨v,hv,e⟩,_⟩:=Q.st k hU;rw[ht,be]at hv;subst hv;omega
    obtain⟨hG,hH⟩:=hgl k t ht h1 h3.1;have hb:=qI sd.fo sd.le (d:=(k:Int)) aG (gl k) U hH;have h0:∀c,Kc xs k c->¬U.testBit c=true:=λc hc hu=>by
     have:=dF.1 h3.2 _ ((eX sd).2 ⟨hc,(Q.st c hu).1⟩);rw[aU,hu]at this;cases this
    have zo:(λm=>(kY xs k (gl k) U).testBit m=true)=λm=>U.testBit m=true∨((k:Int)<m/\∃g:Nat,(g:Int)∈gl k/\jp xs m g):=funext λm=>propext (hb m);refine fin _ (by rw[zo];exact sd.fo.XQ hk hA Q hU h0 hG) (λm h=>(hb m).2 (.inl h)) (λm h kA=>?_) λ_=>⟨λe=>absurd e h2,λ_=>.inr ?_⟩
    ·rcases(hb m).1 h with h | ⟨h,_⟩
     ·exact h
     omega
    obtain⟨g,hg⟩:=hG.ne;obtain⟨c,c1,c2⟩:=sd.fo.yq g (hG.bl g hg).1;have hc:(kY xs k (gl k) U).testBit c=true:=(hb c).2 (.inr ⟨(sd.fo.jd c1).1,g,hg,c2⟩);obtain⟨hs,_⟩:=sd.fo.mH hk hG (sd.fo.jd c1).1 hg c2;exact⟨c,(eX sd).2 ⟨c1,hs⟩,by rw[aU];exact hc⟩
   rw[aY h3];refine fin _ Q (λ_ h=>h) (λ_ h _=>h) λ_=>⟨λe=>absurd e h2,λ_=>?_⟩
   by_cases h4:cY xs k=[]
   ·exact .inl h4
   refine .inr ?_;have:¬((cY xs k).all λr=>!U.testBit r.toNat)=true:=λh=>h3 ⟨h4,h⟩;obtain⟨r,hr,hb⟩:=List.all_eq_false.1 (eu.2 this);exact⟨r,hr,aaz⟩
  rw[aY hU];exact fin _ Q (λ_ h=>h) (λ_ h _=>h) λh=>absurd h hU
end
theorem BO{α:Type}{p:α->Bool}:∀{l:List α},(∀x,x∈l->p x=false)->l.countP p=0
 | [],_=>rfl
 | x::l,h=>by rw[List.countP_cons_of_neg (by rw[h x (.head _)];simp),BO λy hy=>h y (.tail _ hy)]
theorem DE{p:Int->Bool}:∀{l:List Int},l.Pairwise (· <·)->(∃x,x∈l/\p x=true)->(∀x y,x∈l->y∈l->p x=true->p y=true->x=y)->l.countP p=1
 | [],_,⟨x,hx,_⟩,_=>by simp at hx
 | x::l,hr,⟨y,hy,hp⟩,h1=>by
  rw[dG]at hr;cases hx:p x with
  | true=>
   rw[yB hx,BO];intro z hz;cases hzp:p z with
   | false=>rfl
   | true=>
    have:=h1 x z (.head _) (.tail _ hz) hx hzp;have:=hr.1 z hz;omega
  | false=>
   rw[List.countP_cons_of_neg (by rw[hx];simp)];rcases aV.1 hy with e | e
   ·subst e;rw[hp]at hx;cases hx
   ·exact DE hr.2 ⟨y,e,hp⟩ λa b ha hb=>h1 a b (.tail _ ha) (.tail _ hb)
section
variable {xs:List cM} (sd:Sd xs) {D:Int->Prop} {S:Nat} {nx act:List Int}
include sd
theorem Nj{x:Nat}(h:SS xs x):xr (kd xs x)=true/\(kd xs x=1∨kd xs x=2):=by
 obtain⟨t,h1,h2⟩:=h;rw[kz h1];refine⟨?_,h2⟩;unfold xr;rw[bU,dq,dq];exact h2
theorem Ty{x:Nat}(P:Part xs D λm=>S.testBit m=true)(h1:kd xs x=1)(hn:∀r,r∈cY xs x->(r∈nx↔S.testBit r.toNat=true))(he:∃r,r∈cY xs x/\S.testBit r.toNat=true):mW xs nx x=true:=by
 have hc:Ie xs nx x=1:=by
  refine DE (og xs x) ?_ λa b ha hb pa pb=>?_
  ·obtain⟨r,hr,hb⟩:=he;exact⟨r,hr,bJ ((hn r hr).2 hb)⟩
  have ea:=(hn a ha).1 (aP pa);have eb:=(hn b hb).1 (aP pb);obtain⟨q,u,rfl,hq,_⟩:=hY.1 ha;obtain⟨q',u',rfl,hq',_⟩:=hY.1 hb;rw[aU]at ea eb;have k1:=((eX sd).1 ha).1;have k2:=((eX sd).1 hb).1;obtain⟨t,ht⟩:∃t,xs[x]? =some t:=by
   cases hx:xs[x]? with
   | some t=>exact⟨t,rfl⟩
   | none=>
    unfold kd at h1;rw[aU,hx]at h1;exact absurd h1 aN
  have:=P.one x t ht (by rw[<-kz ht];exact h1) q q' k1 k2 ea eb;rw[this]
 unfold mW;rw[aY aG,hc];obtain⟨r,hr,_⟩:=he;have:=List.length_pos_of_mem hr;rw[Nat.min_eq_left aG];rfl
theorem Xj{x:Nat}(P:Part xs D λm=>S.testBit m=true)(hf:∀n,S.testBit n=true->Ii xs S n)(hx:S.testBit x=true)(hn:∀r,r∈cY xs x->(r∈nx↔S.testBit r.toNat=true)):mW xs nx x=true:=by
 obtain⟨_,F7⟩:=Nj sd (P.st x hx).1;rcases F7 with h1 | h2
 ·rcases(hf x hx).2 h1 with e | he
  ·unfold mW Ie;rw[aY aG,e];rfl
  exact Ty sd P h1 hn he
 unfold mW Ie;rw[bc h2,dq,List.countP_eq_length];exact λr hr=>bJ ((hn r hr).2 ((hf x hx).1 h2 r hr))
theorem Tz(P:Part xs D λm=>S.testBit m=true){x:Nat}(h:S.testBit x=true):x<xs.length:=by
 obtain⟨_,_,_,hb⟩:=P.st x h;exact hb.2.1
theorem TA(hA:Ap xs D)(A:Lg xs act)(hD:∀d,D d->∃k:Nat,d=k/\(k:Int)∈act/\kd xs k=1)(P:Part xs D λm=>S.testBit m=true)(hf:∀n,S.testBit n=true->Ii xs S n)(hr:nx.Pairwise (· <·))
  (hm:∀x,x∈nx↔∃n:Nat,x=n/\((x∈act/\∀d,D d->¬Sb xs d n)∨S.testBit n=true)):Lg xs nx:=by
 have F:=sd.fo;have dn:∀d,D d->∀d',D d'->∀k:Nat,d=k->¬Sb xs d' k:=λd h d' h' k e hb=>by
  obtain⟨c,hc,hs⟩:=P.top d h;have h1:=F.jd hc;have h2:Sb xs (k:Int) c:=by rw[<-e];exact h1
  have:=hA d d' c h h' h1 (F.qK hb h2);have:=hb.1;omega
 refine⟨(hm 0).2 ⟨0,rfl,.inl ⟨A.rt,λd h hb=>?_⟩⟩,hr,λx hx=>?_⟩
 ·obtain⟨k,rfl,_⟩:=hD d h;have:=hb.1;omega
 obtain⟨n,rfl,⟨ha,hb⟩ | hb⟩:=(hm x).1 hx
 ·obtain⟨g1,g2,g3,g4,g5⟩:=A.at_ n ha;rw[aU]at g4 g5;have hn:n<xs.length:=aG
  obtain⟨t,ht⟩:=fL hn;have sub:∀(q:Nat),Kc xs n q->∀d,D d->Sb xs d q->(n:Int)=d:=λq hq d h h'=>(F.B6 hq h').elim id λh''=>absurd h'' (hb d h);refine⟨aG,aG,g3,g4.imp id λh s hs=>?_,?_⟩
  ·rw[aU]at hs;have hp:=h s hs;refine(hm _).2 ?_;obtain⟨p,e⟩:∃p:Nat,s.pa=p:=⟨s.pa.toNat,by have:=(A.at_ _ hp).ge;omega⟩
   refine⟨p,e,.inl ⟨hp,λd h jL=>hb d h ?_⟩⟩;have hk:Kc xs (p:Int) n:=⟨s,hs,e⟩
   exact F.qK jL (F.jd hk)
  ·rw[aU];by_cases hx:D n
   ·obtain⟨k,e,_,h1⟩:=hD _ hx;have:k=n:=aG
    subst this;have arc:∀r,r∈cY xs k->(r∈nx↔S.testBit r.toNat=true):=λr hr=>by
     obtain⟨q,_,rfl,_⟩:=hY.1 hr;have hq:=((eX sd).1 hr).1;rw[hm,aU];constructor
     ·rintro⟨m,e,⟨_,h⟩ | h⟩
      ·have:m=q:=aG
       subst this;exact absurd (F.jd hq) (h _ hx)
      ·have:m=q:=aG
       subst this;exact h
     ·exact λh=>⟨q,rfl,.inr h⟩
    obtain⟨c,hc,hs⟩:=P.top _ hx;exact Ty sd P h1 arc ⟨c,(eX sd).2 ⟨hc,(P.st c hs).1⟩,by rw[aU];exact hs⟩
   ·have e:Ie xs nx n=Ie xs act n:=by
     unfold Ie;refine List.countP_congr λr hr=>?_;obtain⟨q,u,rfl,hu,hup,_⟩:=hY.1 hr;have hq:=((eX sd).1 hr).1;rw[bL,bL,hm];constructor
     ·rintro⟨m,e,h | h⟩
      ·exact h.1
      ·have:m=q:=aG
       subst this;rcases P.up m u h hu with e | ⟨p,e,hp⟩
       ·rw[hup]at e;exact absurd e hx
       ·have:p=n:=aG
        subst this;obtain⟨_,d,h,jL⟩:=P.st p hp;exact absurd jL (hb d h)
     ·refine λh=>⟨q,rfl,.inl ⟨h,λd hd jL=>hx ?_⟩⟩
      rw[sub q hq d hd jL];exact hd
    unfold mW at g5⊢;rw[e];exact g5
 ·obtain⟨hs,d0,hd0,xt⟩:=P.st n hb;refine⟨aG,by have:=Tz sd P hb;omega,(Nj sd hs).1,.inr λs xd=>?_,?_⟩
  ·rw[aU]at xd;rcases P.up n s hb xd with e | ⟨p,e,hp⟩
   ·obtain⟨k,ek,ha,_⟩:=hD _ e;exact(hm _).2 ⟨k,ek,.inl ⟨by rw[ek];exact ha,λd h=>dn _ e d h k ek⟩⟩
   ·rw[e];exact(hm p).2 ⟨p,rfl,.inr hp⟩
  ·rw[aU];refine Xj sd P hf hb λr hr=>?_;obtain⟨q,_,rfl,_⟩:=hY.1 hr;have hq:=((eX sd).1 hr).1;rw[hm,aU];constructor
   ·rintro⟨m,e,⟨_,h⟩ | h⟩
    ·have:m=q:=aG
     subst this;exact absurd (F.qK xt (F.jd hq)) (h d0 hd0)
    ·have:m=q:=aG
     subst this;exact h
   ·exact λh=>⟨q,rfl,.inr h⟩
end
theorem BP{s}(h:fi s=true):s≠[]:=λe=>by subst e;exact absurd h aN
mutual
def Qj:Nd->List Nd
 | .mk b l=>.mk b l::TB l
def TB:List Nd->List Nd
 | []=>[]
 | x::l=>Qj x++TB l
end
mutual
theorem FA:∀x,(Qj x).length=jk x
 | .mk b l=>by rw[Qj,jk,bn,Nk]
theorem Nk:∀l,(TB l).length=ff l
 | []=>by rw[TB,ff];rfl
 | x::l=>by rw[TB,ff,aW,FA,Nk]
end
mutual
theorem Nl:∀x,(Qj x).map (λy=>y.b)=uV x
 | .mk b l=>by rw[Qj,uV,bH,ZC];rfl
theorem ZC:∀l,(TB l).map (λy=>y.b)=BG l
 | []=>by rw[TB,BG];rfl
 | x::l=>by rw[TB,BG,dh,Nl,ZC]
end
def ab9(xs:List cM)(vs:List (aJ))(a:Nat)(x:Nd):Prop:=∃pa dp,wJ xs (E9 a pa dp x) a/\zQ xs x.b x.kids a=[]/\(∀m,m∈x.b.mv->HI xs vs m=[])/\Bk x.b x.kids.length=true/\∀y,y∈x.kids->∃d,qy d y=true
section
variable {xs:List cM} {vs:List (aJ)}
theorem DF:∀{l:List Nd} {d:Nat} {y:Nd},nM d l=true->y∈l->qy d y=true
 | [],_,_,_,h=>aal
 | x::l,d,y,h,hy=>by
  rw[nM,aR]at h;rcases aV.1 hy with rfl | hy
  ·exact h.1
  exact DF h.2 hy
mutual
theorem Nn:∀(x:Nd) (a d:Nat) (pa dp:Int),SD xs vs a x=[]->qy d x=true->wJ xs (E9 a pa dp x) a->∀i y,(Qj x)[i]? =some y->ab9 xs vs (a+i) y
 | .mk b l,a,d,pa,dp,h,mr,hs,i,y,hy=>by
  rw[SD]at h;obtain⟨h1,h2⟩:=dS.1 h;obtain⟨h2,h3⟩:=dS.1 h2;obtain⟨h3,h4⟩:=dS.1 h3;rw[qy,aR,aR]at mr;obtain⟨⟨_,hb⟩,hko⟩:=mr;rw[Qj]at hy;cases i with
  | zero=>
   rw[cR,be]at hy;subst hy;exact⟨pa,dp,hs,h1,λm hm=>List.flatMap_eq_nil_iff.1 h3 m hm,hb,λy hy=>⟨d+1,DF hko hy⟩⟩
  | succ i=>
   rw[du]at hy;rw[E9]at hs;have xd:wJ xs (qA (a+1) a (dp+1) l) (a+1):=λi x hi=>by rw[eY,jE 1 i];exact hs (i+1) x hi
   have:=Ij l (a+1) (d+1) a (dp+1) h4 hko xd i y hy;rwa[eY,jE 1 i]at this
theorem Ij:∀(l:List Nd) (a d:Nat) (pa dp:Int),rF xs vs a l=[]->nM d l=true->wJ xs (qA a pa dp l) a->∀i y,(TB l)[i]? =some y->ab9 xs vs (a+i) y
 | [],_,_,_,_,_,_,_,i,y,hy=>by rw[TB]at hy;simp at hy
 | x::l,a,d,pa,dp,h,mr,hs,i,y,hy=>by
  rw[rF]at h;obtain⟨h1,h2⟩:=dS.1 h;rw[nM,aR]at mr;rw[qA]at hs;rw[TB]at hy;have N4:=FA x;by_cases hi:i<jk x
  ·rw[bM aG]at hy;exact Nn x a d pa dp h1 mr.1 hs.left i y hy
  rw[bZ aG,N4]at hy;have hr:=hs.right;rw[mE]at hr;have:=Ij l (a+jk x) d pa dp h2 mr.2 hr _ y hy;rwa[show a+jk x+(i-jk x)=a+i by omega]at this
end
theorem Ik{pa dp}:∀{l:List Nd} {a i:Nat} {s:cM},(qA a pa dp l)[i]? =some s->s.pa=pa->pa<a->∃y,y∈l/\s.k=y.b.k/\s.nm=y.b.nm
 | [],a,i,s,h,_,_=>by rw[qA]at h;simp at h
 | .mk b ks::l,a,i,s,h,hp,ha=>by
  rw[qA]at h;have hl:=mE a pa dp (.mk b ks);by_cases hi:i<jk (.mk b ks)
  ·rw[bM aG]at h;obtain⟨h1,h2,h3,h4⟩:=Fa a pa dp _ i s h;by_cases h0:i=0
   ·subst h0;rw[E9,cR,be]at h;subst h;exact⟨_,.head _,rfl,rfl⟩
   obtain⟨p,t,_,_,e,_⟩:=h4 aG;omega
  rw[bZ aG,hl]at h;obtain⟨y,hy,e⟩:=Ik h hp aG;exact⟨y,.tail _ hy,e⟩
theorem Il{y}{pa dp}:∀{l:List Nd} a,y∈l->∃(j:Nat) (t:cM),(qA a pa dp l)[j]? =some t/\t.pa=pa/\t.k=y.b.k
 | [],_,h=>aal
 | .mk b ks::l,a,h=>by
  rw[qA];rw[aV]at h;rcases h with rfl | h
  ·exact⟨0,_,rfl,rfl,rfl⟩
  obtain⟨j,t,h1,h2⟩:=Il _ h;exact⟨(E9 a pa dp (.mk b ks)).length+j,t,by rw[bZ aG,eE];exact h1,h2⟩
end
structure Snd (c:Ch) (xs:List cM) (vs:List (aJ)):Prop where
 fo:Fo xs
 le:xs.length<=64
 len:xs.length=jk c.root
 nd:(xs.map λx:cM=>x.nm).Nodup
 rt:c.root.b.k=1
 nice:∀i y,(Qj c.root)[i]? =some y->ab9 xs vs i y
theorem TC{c}(h:(jK c).1=0):Snd c (cx c) (Gm c):=by
 obtain⟨h1,h2⟩:=vD h;have mr:=O4 h1;unfold HF at mr;simp only[aR]at mr;obtain⟨g1,g2⟩:=dS.1 h2;obtain⟨g2,g3⟩:=dS.1 g2;have hnd:=(Dz g1).1;rw[(SC 0 (-1) 0 c.root).symm]at hnd;have hd:=aP mr.2;have fy:(cx c).length=jk c.root:=mE 0 _ 0 c.root;refine⟨Fb c,aG,fy,hnd,hd.1,λi y hy=>?_⟩;have:=Nn c.root 0 0 _ 0 g3 mr.1.2 (λi x hi=>by rw[bO];exact hi) i y hy;rwa[bO]at this
section
variable {c:Ch} {xs:List cM} {vs:List (aJ)} (N:Snd c xs vs)
include N
theorem Snd.at_{i}{t}(h:xs[i]? =some t):∃b l pa dp,(Qj c.root)[i]? =some (.mk b l)/\t=⟨b.k,b.nm,pa,dp,((i+jk (.mk b l):Nat))⟩/\wJ xs (qA (i+1) i (dp+1) l) (i+1)/\zQ xs b l i=[]/\(∀m,m∈b.mv->HI xs vs m=[])/\Bk b l.length=true/\∀y,y∈l->∃d,qy d y=true:=by
 have hi:i<(Qj c.root).length:=by rw[FA,<-N.len];exact eS h
 obtain⟨y,hy⟩:∃y,(Qj c.root)[i]? =some y:=⟨_,aQ hi⟩
 obtain⟨pa,dp,h1,h2,h3,h4,h5⟩:=N.nice i y hy;obtain⟨b,l⟩:=y;have h0:=h1 0 _ rfl;rw[fJ,h,be]at h0;refine⟨b,l,pa,dp,hy,?_,λj x hj=>?_,h2,h3,h4,h5⟩
 ·rw[h0];congr 1;rw[jk];omega
 have:=h1 (j+1) x hj;rwa[show i+_=i+1+j by omega]at this
theorem Snd.kn{i:Nat}{t}(h:xs[i]? =some t):1<=t.k/\t.k<=4:=by
 obtain⟨b,l,pa,dp,_,rfl,_,_,_,hb,_⟩:=N.at_ h;dsimp only;unfold Bk at hb;by_cases hh:fU b.k=true
 ·have:=aP hh;omega
 rw[aY hh]at hb;simp only[aR]at hb;have:=(aP hb.2.1.1.1.1).1;omega
theorem Snd.hk(n k:Nat)(h:Kc xs n k):SS xs n:=by
 have hb:=N.fo.jd h;obtain⟨h1,h2,h3⟩:=hb;rcases h3 with h3 | ⟨m,e,u,u1,u2,u3⟩
 ·omega
 have:m=n:=aG
 subst this;refine⟨u,u1,?_⟩;obtain⟨b,l,pa,dp,_,rfl,_,_,_,hb,_⟩:=N.at_ u1;dsimp only at u3⊢;unfold Bk at hb;by_cases hh:fU b.k=true
 ·rw[bc hh]at hb;simp only[aR]at hb;have:=(aP hb.2.2).2.2.2.2;have:=ol.1 this;subst this;rw[jk,ff]at u3;omega
 rw[aY hh]at hb;simp only[aR]at hb;exact(aP hb.2.1.1.1.1).1
theorem Snd.XR{n}{t}{b}{l}{dp}(ht:xs[n]? =some t)(he:t.en=((n+jk (.mk b l):Nat):Int))(hs:wJ xs (qA (n+1) n (dp+1) l) (n+1))(hr:cY xs n≠[]):0<Mx l:=by
 obtain⟨r,hr⟩:=gM _ hr;obtain⟨q,u,rfl,hu,hp,hk⟩:=hY.1 hr;obtain⟨h1,h2,h3⟩:=N.fo.jd ⟨u,hu,hp⟩;rcases h3 with h3 | ⟨m,e,v,v1,v2,v3⟩
 ·omega
 have:m=n:=aG
 subst this;rw[ht,be]at v1;subst v1;rw[he,jk]at v3;have hl:=ul (m+1) m (dp+1) l;obtain⟨s,xd⟩:=fL (xs:=qA (m+1) m (dp+1) l) (i:=q-(m+1)) aG;have:=hs _ s xd;rw[show m+1+_=q by omega,hu,be]at this;subst this;obtain⟨y,hy,e1,_⟩:=Ik xd hp aG;refine List.length_pos_of_mem (di.2 ⟨hy,?_⟩);unfold xr at hk;rw[bU,dq,dq]at hk;unfold fU;rw[da,dv];omega
theorem Snd.NJ{n}{l}{dp}(hs:wJ xs (qA (n+1) n (dp+1) l) (n+1))(h:0<Mx l):cY xs n≠[]:=by
 obtain⟨y,hy⟩:=List.exists_mem_of_length_pos h;obtain⟨hy,hh⟩:=di.1 hy;obtain⟨j,t,h1,h2,h3⟩:=Il (pa:=n) (dp:=dp+1) _ hy;have ht:=hs j t h1;have:=N.kn ht;have hm:=hY.2 ⟨_,t,rfl,ht,h2,by
  unfold fU at hh;rw[da,dv]at hh;unfold xr;rw[bU,dq,dq];omega⟩
 exact od hm
theorem Snd.sd:Sd xs:=by
 refine⟨N.fo,N.le,λi s h=>N.kn h,?_,λi s hs hk=>?_⟩
 ·obtain⟨t,ht⟩:=fL N.fo.ne;refine⟨t,ht,?_⟩;obtain⟨b,l,pa,dp,h1,rfl,_⟩:=N.at_ ht;have hr:=N.rt;generalize c.root=r at h1 hr;obtain⟨b',l'⟩:=r;rw[Qj,cR,be]at h1;injection h1 with h1;subst h1;exact hr
 obtain⟨b,l,pa,dp,_,rfl,h2,h3,_⟩:=N.at_ hs;dsimp only at hk;unfold zQ at h3;rw[aY (by unfold fU;rw[hk];decide),bc hk]at h3;have:=um.1 h3;rw[aR,bL,bL]at this;exact N.NJ h2 aG
theorem Snd.ini{n}{t}{b}(h:xs[n]? =some t)(hb:(uV c.root)[n]? =some b)(h1:t.k=1)(hr:cY xs n≠[]):∃q:Nat,mY xs b.ini=q/\Kc xs n q:=by
 obtain⟨b',l,pa,dp,e0,rfl,h2,h3,_,h4,h5⟩:=N.at_ h;have eb:b'=b:=by
  rw[<-Nl,ch,e0]at hb;injection hb
 subst eb;dsimp only at h1;unfold zQ at h3;rw[aY (by unfold fU;rw[h1];decide),aY aG,bc (N.XR h rfl h2 hr)]at h3;have Jd:=um.1 h3;obtain⟨i,x,g1,g2,g3,_⟩:=Nc Jd h2;have gq:b'.ini≠[]:=by
  obtain⟨y,hy,e⟩:=fz.1 Jd;rw[<-aP e];obtain⟨d,hd⟩:=h5 y hy;obtain⟨by_,ly⟩:=y;rw[qy,aR,aR]at hd;have:=hd.1.2;unfold Bk at this;rw[aR]at this;exact BP this.1
 refine⟨i,?_,x,g1,g3⟩;unfold mY;rw[aY gq,<-g2];exact H9 N.nd g1
theorem Snd.dft{n:Nat}{t}{b}(h:xs[n]? =some t)(hb:(uV c.root)[n]? =some b)(h1:fU t.k=true):∃q:Nat,mY xs b.dft=q/\SS xs q/\Sb xs t.pa q:=by
 obtain⟨b',l,pa,dp,e0,et,h2,h3,_,h4,h5⟩:=N.at_ h;have eb:b'=b:=by
  rw[<-Nl,ch,e0]at hb;injection hb
 subst eb;have e1:t.k=b'.k:=by rw[et]
 rw[e1]at h1;unfold zQ at h3;rw[bc h1]at h3;have:=um.1 h3;rw[aR,lr]at this;obtain⟨lH,i,j,ei,ej,sD,hc⟩:=this;unfold stM at lH;rw[aR,bL]at lH;unfold Bk at h4;rw[bc h1]at h4;simp at h4;have hl:=N.fo.pQ hc;obtain⟨u,hu⟩:=fL hl;refine⟨j,?_,⟨u,hu,?_⟩,?_⟩
 ·unfold mY;rw[aY (BP h4.2.1)];exact ej
 ·have hk:=lH.2;rw[ej,fZ hu]at hk;have:=N.kn hu;unfold fU at hk;rw[da,dv]at hk;omega
 rw[<-jr h,ei];exact⟨aG,hl,.inr ⟨i,rfl,hc⟩⟩
end
def Cn(xs:List cM)(G:aL):Prop:=∀(n:Nat) (t:cM) (c c' g g':Nat),xs[n]? =some t->t.k=1->Kc xs n c->Kc xs n c'->G g->G g'->jp xs c g->jp xs c' g'->c=c'
abbrev ye:=Int->Option (List Int)
def fj(xs:List cM)(dft:List Int)(M:ye)(t:Int):List Int:=
 if t<0∨(xs.length:Int)<=t then[]else if fU (lq xs t)then(match M t with
  | some l=>l
  | none=>[(dft[t.toNat]?).getD 0])else[t]
def uW(xs:List cM)(M:ye):Prop:=∀(n:Nat) (t:cM) (l:List Int),xs[n]? =some t->fU t.k=true->M n=some l->l≠[]/\(∀g,g∈l->∃k:Nat,g=k/\SS xs k/\Sb xs t.pa k)/\Cn xs λk=>(k:Int)∈l
theorem uW.none(xs:List cM):uW xs λ_=>none:=λ_ _ _ _ _ h=>aal
theorem BQ{α:Type}{R:α->α->Prop}:∀{l:List α} {a b:α},l.Pairwise R->a∈l->b∈l->a≠b->R a b∨R b a
 | [],_,_,_,h,_,_=>aal
 | x::l,a,b,h,ha,hb,hn=>by
  rw[dG]at h;rcases aV.1 ha with rfl | P6<;>rcases aV.1 hb with rfl | pD
  ·exact absurd rfl hn
  ·exact .inl (h.1 b pD)
  ·exact .inr (h.1 a P6)
  exact BQ h.2 P6 pD hn
theorem Im{xs:List cM}:∀{r:List (aJ)} {l:List Int},Qh xs l r=true->(∀s,s∈r->∀o,o∈l->Fe xs (Cp xs s) o=true)/\r.Pairwise λs s'=>Fe xs (Cp xs s') (Cp xs s)=true
 | [],l,_=>⟨λ_ h=>aal,List.Pairwise.nil⟩
 | s::r,l,h=>by
  rw[Qh]at h;by_cases h1:gJ xs s<1
  ·rw[bc h1]at h;cases h
  rw[aY h1]at h;by_cases h2:(l.any λo=>!Fe xs (Cp xs s) o)=true
  ·rw[bc h2]at h;cases h
  rw[aY h2]at h;obtain⟨g1,g2⟩:=Im h;refine⟨λs' hs o ho=>?_,dG.2 ⟨λs' hs=>g1 s' hs _ aac,g2⟩⟩;rcases aV.1 hs with rfl | hs
  ·cases ha:Fe xs (Cp xs s') o with
   | true=>rfl
   | false=>exact absurd (fz.2 ⟨o,ho,by rw[ha];rfl⟩) h2
  exact g1 s' hs o (bN.2 (.inl ho))
section
variable {xs:List cM} (F:Fo xs)
include F
theorem Fo.XS{a b:Nat}(ha:a<xs.length)(hb:b<xs.length):∃m:Nat,Dl xs a b=m/\jp xs m a/\jp xs m b/\∀j,jp xs j a->jp xs j b->j<=m:=by
 have key:∀j:Nat,(oM xs j a&&oM xs j b)=true↔jp xs j a/\jp xs j b:=λj=>by
  rw[aR,oA,oA];constructor
  ·rintro⟨⟨i,k,e1,e2,h⟩,⟨i',k',e1',e2',h'⟩⟩;have:i=j:=aG
   have:i'=j:=aG
   have:k=a:=aG
   have:k'=b:=aG
   subst_vars;exact⟨h,h'⟩
  rintro⟨h,h'⟩;exact⟨⟨j,a,rfl,rfl,h⟩,⟨j,b,rfl,rfl,h'⟩⟩
 rcases xT (xs:=xs) a b xs.length with⟨_,h⟩ | ⟨m,h1,h2,h3,h4⟩
 ·have:=h 0 F.ne;rw[(key 0).2 ⟨F.tS ha,F.tS hb⟩]at this;cases this
 obtain⟨c1,c2⟩:=(key m).1 h3;refine⟨m,h1,c1,c2,λj Qq ZX=>qV λbT=>?_⟩;have iA:j<xs.length:=by
  obtain⟨_,e,_⟩:=Qq;exact eS e
 have:=h4 j bT iA;rw[(key j).2 ⟨Qq,ZX⟩]at this;cases this
theorem Fo.Uf{a b:Nat}(ha:a<xs.length)(hb:b<xs.length)(h:Fe xs a b=true){n c c' g g':Nat}{t:cM}(hn:xs[n]? =some t)(h1:t.k=1)(hc:Kc xs n c)(sC:Kc xs n c')(hg:jp xs a g)(yU:jp xs b g')(hcg:jp xs c g)(IZ:jp xs c' g'):c=c':=by
 obtain⟨m,e,c1,c2,IM⟩:=F.XS ha hb;unfold Fe at h;rw[aR,bL,bL,e]at h;obtain⟨⟨n1,n2⟩,h2⟩:=h;have hmg:=F.kg c1 hg;have ard:=F.kg c2 yU;have cvn:jp xs n c:=by
  obtain⟨_,_,h3⟩:=F.jd hc;rcases h3 with h3 | ⟨k,e,h3⟩
  ·omega
  have:k=n:=aG
  rw[<-this];exact h3
 have are:jp xs n c':=by
  obtain⟨_,_,h3⟩:=F.jd sC;rcases h3 with h3 | ⟨k,e,h3⟩
  ·omega
  have:k=n:=aG
  rw[<-this];exact h3
 have hng:=F.kg cvn hcg;have aek:=F.kg are IZ;rcases Nat.lt_trichotomy n m with bT | heq | hgt
 ·have hnm:=F.jB hng hmg (Nat.le_of_lt bT);obtain⟨c0,k1,k2⟩:=F.yq (d:=(n:Int)) m ⟨aG,F.pQ hnm,.inr ⟨n,rfl,hnm⟩⟩;have e1:=F.FR hc k1 hcg (F.kg k2 hmg);have e2:=F.FR sC k1 IZ (F.kg k2 ard);omega
 ·subst heq;rw[fZ hn]at h2;omega
 exfalso;by_cases hna:n<=a
 ·have ca:=F.jB hng hg hna;by_cases yr:n<=b
  ·have:=IM n ca (F.jB aek yU yr);omega
  have:=F.jB yU aek aG;have:=IM b (F.kg this ca) (F.jT hb);have:b<=m:=this;have h4:m<=b:=by obtain⟨_,_,h,_⟩:=c2;exact h
  omega
 have cn:=F.jB hg hng aG;have cg:=F.kg cn aek;rcases Nat.le_total a b with hab | hab
 ·have:=IM a (F.jT ha) (F.jB cg yU hab);have h4:m<=a:=by obtain⟨_,_,h,_⟩:=c1;exact h
  omega
 have:=IM b (F.jB yU cg hab) (F.jT hb);have h4:m<=b:=by obtain⟨_,_,h,_⟩:=c2;exact h
 omega
end
section
variable {xs:List cM} (F:Fo xs) {l:List Int}
include F
theorem Np:∀(f d:Nat),d<xs.length->d<=f->(∀n,n∈l->∃k:Nat,n=k/\jp xs d k)->∃r:Nat,Kl xs l f d=r/\r<xs.length/\(∀n,n∈l->∃k:Nat,n=k/\jp xs r k)/\(r=0∨lq xs r=1/\(r:Int)∉l)
 | 0,d,h,hf,hc=>⟨d,rfl,h,hc,.inl aG⟩
 | f+1,d,h,hf,hc=>by
  unfold Kl;by_cases hd:0<(d:Int)/\(lq xs d≠1∨(d:Int)∈l)
  ·rw[bc hd];obtain⟨t,ht⟩:=fL h;obtain⟨p,s,e1,e2,e3,_,e5,_⟩:=F.par ht aG;rw[jr ht,e2];exact Np f p (eS e3) aG λn hn=>by
    obtain⟨k,e,hk⟩:=hc n hn;exact⟨k,e,F.kg ⟨s,e3,aG,e5⟩ hk⟩
  rw[aY hd];refine⟨d,rfl,h,hc,?_⟩;by_cases h0:d=0
  ·exact .inl h0
  refine .inr ⟨?_,λh=>hd ⟨aG,.inr h⟩⟩;exact Decidable.not_not.1 λh=>hd ⟨aG,.inl h⟩
theorem Xk{a:Nat}{tg:List Int}(ha:a<xs.length)(h:∀t,t∈tg->pu xs t)(gq:tg≠[]):∃r:Nat,Fs xs a tg=r/\r<xs.length/\(∀n,n∈(a:Int)::tg->∃k:Nat,n=k/\jp xs r k)/\(r=0∨lq xs r=1/\(r:Int)∉(a:Int)::tg):=by
 unfold Fs mtM;rw[aY gq,aY]
 ·rcases wK xs ((a:Int)::tg) xs.length with⟨_,g⟩ | ⟨q,g1,g2,g3,g4⟩
  ·have:=g 0 F.ne;rw[wL.2]at this
   ·cases this
   intro n hn;rcases aV.1 hn with rfl | hn
   ·exact⟨a,rfl,F.tS ha⟩
   obtain⟨b1,b2⟩:=h n hn;exact⟨n.toNat,aG,F.tS aG⟩
  rw[g1];exact Np F _ q g2 aG (wL.1 g3)
 rintro(e | e)
 ·cases e
 obtain⟨n,hn,hb⟩:=fz.1 e;rw[da,eu]at hb;refine hb (BF.2 ?_);rcases aV.1 hn with rfl | hn
 ·exact⟨aG,aG⟩
 exact h n hn
end
section
variable {c:Ch} {xs:List cM} {vs:List (aJ)} (N:Snd c xs vs) {M:ye} (hM:uW xs M) {dft:List Int} (zA:dft=(uV c.root).map λb=>mY xs b.dft)
include N hM zA
theorem Snd.XU{n:Nat}{t:cM}(h:xs[n]? =some t):fj xs dft M n≠[]/\(Cn xs λk=>(k:Int)∈fj xs dft M n)/\∀g,g∈fj xs dft M n->∃k:Nat,g=k/\SS xs k/\((fU t.k=false/\k=n)∨(fU t.k=true/\Sb xs t.pa k)):=by
 unfold fj;have hl:=eS h;rw[aY aG,fZ h];have hk:=N.kn h;cases hh:fU t.k with
 | false=>
  rw[aY aac];refine⟨aac,λm u a a' g g' h1 h2 h3 h4 hg yU h5 h6=>?_,λg hg=>⟨n,by simpa using hg,⟨t,h,?_⟩,.inl ⟨rfl,rfl⟩⟩⟩
  ·have e1:g=n:=Gy (show(g:Int)=n by simpa using hg);have e2:g'=n:=Gy (show(g':Int)=n by simpa using yU);subst e1 e2;exact N.fo.FR h3 h4 h5 h6
  unfold fU at hh;rw[dv]at hh;omega
 | true=>
  rw[bc rfl];cases hm:M n with
  | some l=>
   obtain⟨g1,g2,g3⟩:=hM n t l h hh hm;exact⟨g1,g3,λg hg=>by
    obtain⟨k,e,h1,h2⟩:=g2 g hg;exact⟨k,e,h1,.inr ⟨rfl,h2⟩⟩⟩
  | none=>
   have hb:n<(uV c.root).length:=by rw[nV,<-N.len];exact hl
   obtain⟨b,hb⟩:∃b,(uV c.root)[n]? =some b:=⟨_,aQ hb⟩
   obtain⟨q,e,h1,h2⟩:=N.dft h hb hh;have ed:(dft[(n:Int).toNat]?).getD 0=q:=by
    rw[zA,aU,ch,hb];exact e
   dsimp only;rw[ed];refine⟨aac,λm u a a' g g' _ _ h3 h4 hg yU h5 h6=>?_,λg hg=>⟨q,by simpa using hg,h1,.inr ⟨rfl,h2⟩⟩⟩;have e1:g=q:=Gy (show(g:Int)=q by simpa using hg);have e2:g'=q:=Gy (show(g':Int)=q by simpa using yU);subst e1 e2;exact N.fo.FR h3 h4 h5 h6
theorem Snd.Ug{n:Nat}{t:cM}{b:Nb}(h:xs[n]? =some t)(hb:(uV c.root)[n]? =some b)(h1:t.k=1)(hr:cY xs n≠[]):Gd xs n (λg=>(g:Int)∈fj xs dft M (mY xs b.ini))/\∀g,g∈fj xs dft M (mY xs b.ini)->pu xs g:=by
 obtain⟨q,e,hq⟩:=N.ini h hb h1 hr;obtain⟨u,hu,hp⟩:=hq;rw[e];obtain⟨g1,g2,g3⟩:=N.XU hM zA hu;have hs:=N.fo.jd ⟨u,hu,hp⟩;have all:∀g,g∈fj xs dft M q->∃k:Nat,g=k/\SS xs k/\Sb xs n k:=λg hg=>by
  obtain⟨k,ek,h2,⟨_,e⟩ | ⟨_,h3⟩⟩:=g3 g hg
  ·exact⟨k,ek,h2,by rw[e];exact hs⟩
  exact⟨k,ek,h2,by rw[<-hp];exact h3⟩
 refine⟨⟨?_,λg hg=>?_,g2⟩,λg hg=>?_⟩
 ·obtain⟨g,hg⟩:=gM _ g1;obtain⟨k,ek,_⟩:=all g hg;exact⟨k,by rw[<-ek];exact hg⟩
 ·obtain⟨k,ek,h2,h3⟩:=all _ hg;have:k=g:=aG
  subst this;exact⟨h3,h2⟩
 obtain⟨k,ek,h2,h3⟩:=all _ hg;exact⟨aG,by have:=h3.2.1;omega⟩
theorem Snd.XV{a:Nat}{t:cM}{b:Nb}{m:Mv}(h:xs[a]? =some t)(hb:(uV c.root)[a]? =some b)(hm:m∈b.mv)(gq:m.tg≠[]):
  (∀s,s∈m.tg.map (mY xs)->pu xs s)/\∃d:Nat,Fs xs a (m.tg.map (mY xs))=d/\kd xs d=1/\jp xs d a/\Gd xs d (λk=>∃s,s∈m.tg.map (mY xs)/\(k:Int)∈fj xs dft M s)/\∀s,s∈m.tg.map (mY xs)->∀g,g∈fj xs dft M s->pu xs g:=by
 obtain⟨b',l,pa,dp,e0,rfl,_,_,sR,mr,_⟩:=N.at_ h;have eb:b'=b:=by
  rw[<-Nl,ch,e0]at hb;injection hb
 subst eb;have F:=N.fo;have sI:Qh xs [] m.tg=true:=by
  have:=sR m hm;unfold HI at this;obtain⟨_,this⟩:=dS.1 this;obtain⟨_,this⟩:=dS.1 this;obtain⟨_,this⟩:=dS.1 this;exact um.1 this
 have hnm:∀s,s∈m.tg->s≠[]:=λs hs=>by
  unfold Bk at mr;by_cases hh:fU b'.k=true
  ·rw[bc hh]at mr;simp only[aR]at mr;have:b'.mv=[]:=ol.1 (aP mr.2.2).2.2.2.1;rw[this]at hm;cases hm
  rw[aY hh]at mr;simp only[aR]at mr;have:=dF.1 mr.2.2 m hm;unfold Bj at this;simp only[aR]at this;exact BP (dF.1 this.1.2 s hs)
 have jh:=Na sI;have NZ:∀s,s∈m.tg->∃(k:Nat) (u:cM),mY xs s=k/\1<=k/\xs[k]? =some u/\gJ xs s=k:=λs hs=>by
  have h1:=jh s hs;rcases mU xs s with⟨e,_⟩ | ⟨k,u,e,hu,_⟩
  ·omega
  refine⟨k,u,?_,aG,hu,e⟩;unfold mY;rw[aY (hnm s hs)];exact e
 have hH:∀s,s∈m.tg.map (mY xs)->pu xs s:=λs hs=>by
  obtain⟨s',xd,rfl⟩:=cQ.1 hs;obtain⟨k,u,e,_,hu,_⟩:=NZ s' xd;rw[e];exact⟨aG,by have:=eS hu;omega⟩
 refine⟨hH,?_⟩;obtain⟨d,e,hd,hc,hdk⟩:=Xk F (eS h) hH (by simpa using gq);have QG:kd xs d=1:=by
  obtain⟨u,hu⟩:=fL hd;rw[kz hu];rcases hdk with rfl | ⟨hk,_⟩
  ·obtain⟨s,hs,hk⟩:=N.sd.rt;rw[hu,be]at hs;subst hs;exact hk
  rwa[fZ hu]at hk
 have hca:jp xs d a:=by
  obtain⟨k,ek,hk⟩:=hc a (.head _);have:k=a:=aG
  rw[<-this];exact hk
 have lH:∀s,s∈m.tg->∀k:Nat,mY xs s=k->1<=k->Sb xs d k:=λs hs k ek h1=>by
  have qN:(k:Int)∈m.tg.map (mY xs):=cQ.2 ⟨s,hs,ek⟩;obtain⟨k',ek',hk⟩:=hc k (.tail _ qN);have:k'=k:=aG
  subst this;have kA:d<=k':=by obtain⟨_,_,h,_⟩:=hk;exact h
  refine⟨?_,F.pQ hk,.inr ⟨d,rfl,hk⟩⟩;rcases hdk with rfl | ⟨_,hn⟩
  ·omega
  have:d≠k':=λe=>hn (.tail _ (by rw[e];exact qN));omega
 have U7:∀s,s∈m.tg->∃A:Nat,Cp xs s=A/\A<xs.length/\∀g,g∈fj xs dft M (mY xs s)->∃k:Nat,g=k/\SS xs k/\jp xs A k/\Sb xs d k:=λs hs=>by
  obtain⟨k,u,ek,h1,hu,hf⟩:=NZ s hs;obtain⟨_,_,g3⟩:=N.XU hM zA hu;have hsb:=lH s hs k ek h1;unfold Cp;rw[hf,fZ hu,ek,jr hu];cases hh:fU u.k with
  | false=>
   refine⟨k,by rw[aY aac],eS hu,λg hg=>?_⟩;obtain⟨q,eq,h2,⟨_,e⟩ | ⟨h3,_⟩⟩:=g3 g hg
   ·subst e;exact⟨q,eq,h2,F.jT (eS hu),hsb⟩
   rw[hh]at h3;cases h3
  | true=>
   obtain⟨p,s',e1,e2,e3,_⟩:=F.par hu aG;refine⟨p,by rw[bc rfl];exact e2,eS e3,λg hg=>?_⟩;obtain⟨q,eq,h2,⟨h3,_⟩ | ⟨_,h3⟩⟩:=g3 g hg
   ·rw[hh]at h3;cases h3
   rw[e2]at h3;have hpq:jp xs p q:=by
    obtain⟨_,_,h4 | ⟨p',ep,h4⟩⟩:=h3
    ·omega
    have:p'=p:=aG
    rw[<-this];exact h4
   refine⟨q,eq,h2,hpq,?_⟩;rcases F.yp hsb hu with e | ⟨p',ep,hp',_⟩
   ·rw[<-e,e2];exact h3
   have:p'=p:=aG
   subst this;exact F.qK hp' h3
 refine⟨d,e,QG,hca,⟨?_,?_,?_⟩,?_⟩
 ·obtain⟨s,hs⟩:=gM _ gq;obtain⟨k,u,ek,h1,hu,_⟩:=NZ s hs;obtain⟨g1,_,_⟩:=N.XU hM zA hu;obtain⟨g,hg⟩:=gM _ g1;rw[<-ek]at hg;obtain⟨A,_,_,hA⟩:=U7 s hs;obtain⟨q,eq,_⟩:=hA g hg;exact⟨q,_,cQ.2 ⟨s,hs,rfl⟩,by rw[<-eq];exact hg⟩
 ·rintro g ⟨_,hs,hg⟩;obtain⟨s,vL,rfl⟩:=cQ.1 hs;obtain⟨A,_,_,hA⟩:=U7 s vL;obtain⟨q,eq,h2,_,h3⟩:=hA g hg;have:q=g:=aG
  subst this;exact⟨h3,h2⟩
 ·rintro n u k k' g g' hn h1 hk iJ ⟨_,hs,hg⟩ ⟨_,xd,yU⟩ hkg ael;obtain⟨s,vL,rfl⟩:=cQ.1 hs;obtain⟨s',aj0,rfl⟩:=cQ.1 xd;obtain⟨A,eA,hAl,hA⟩:=U7 s vL;obtain⟨A',eA',aj1,UD⟩:=U7 s' aj0;obtain⟨q,eq,_,hAq,_⟩:=hA g hg;obtain⟨q',eq',_,aj2,_⟩:=UD g' yU;have:q=g:=aG
  subst this;have:q'=g':=aG
  subst this;by_cases hss:s=s'
  ·subst hss;obtain⟨j,v,ej,_,hv,_⟩:=NZ s vL;obtain⟨_,g2,_⟩:=N.XU hM zA hv;rw[ej]at hg yU;exact g2 n u k k' q q' hn h1 hk iJ hg yU hkg ael
  have hp:=(Im sI).2;have two:Fe xs (Cp xs s') (Cp xs s)=true∨Fe xs (Cp xs s) (Cp xs s')=true:=BQ hp vL aj0 hss;rw[eA,eA']at two;rcases two with h | h
  ·exact(F.Uf aj1 hAl h hn h1 iJ hk aj2 hAq ael hkg).symm
  exact F.Uf hAl aj1 h hn h1 hk iJ hAq aj2 hkg ael
 rintro _ hs g hg;obtain⟨s,vL,rfl⟩:=cQ.1 hs;obtain⟨A,_,_,hA⟩:=U7 s vL;obtain⟨q,eq,_,_,h3⟩:=hA g hg;exact⟨aG,by have:=h3.2.1;omega⟩
end
theorem DG{p:Int->Bool}{a b:Int}(hn:a≠b)(pa:p a=true)(pb:p b=true):∀{l:List Int},a∈l->b∈l->2<=l.countP p
 | [],h,_=>aal
 | x::l,ha,hb=>by
  have one:∀{y:Int},p y=true->y∈l->1<=l.countP p:=λhy hm=>List.countP_pos_iff.2 ⟨_,hm,hy⟩;rcases aV.1 ha with rfl | P6<;>rcases aV.1 hb with rfl | pD
  ·exact absurd rfl hn
  ·rw[yB pa];have:=one pb pD;omega
  ·rw[yB pb];have:=one pa P6;omega
  have:=DG hn pa pb P6 pD;rw[Qc];omega
section
variable {xs:List cM} (sd:Sd xs) {act:List Int} (A:Lg xs act)
include sd A
theorem rL{x:Int}(h:x∈act):∃n:Nat,x=n/\n<xs.length/\SS xs n:=by
 obtain⟨g1,g2,g3,_,_⟩:=A.at_ x h;obtain⟨t,ht⟩:=fL (xs:=xs) (i:=x.toNat) aG;refine⟨x.toNat,aG,aG,t,ht,?_⟩;have:kd xs x=t.k:=by rw[show x=(x.toNat:Int) by omega];exact kz ht
 rw[this]at g3;unfold xr at g3;rw[bU,dq,dq]at g3;exact g3
theorem DH:∀(x k:Nat),(x:Int)∈act->jp xs k x->(k:Int)∈act
 | x,k,hx,hc=>by
  by_cases he:k=x
  ·rw[he];exact hx
  have bT:k<x:=by obtain⟨_,_,h,_⟩:=hc;omega
  obtain⟨_,g2,_,g4,_⟩:=A.at_ x hx;obtain⟨t,ht⟩:=fL (sd.fo.pQ hc);obtain⟨p,s,e1,e2,e3,_,e5,e6⟩:=sd.fo.par ht aG;rcases g4 with g4 | g4
  ·omega
  have hp:=g4 t (by rw[aU];exact ht);rw[e2]at hp;obtain⟨u,u1,u2,u3⟩:=hc;have:=e6 k u u1 bT u3;exact DH p k hp (sd.fo.jB ⟨u,u1,u2,u3⟩ ⟨s,e3,aG,e5⟩ this)
theorem ahH:Cn xs λk=>(k:Int)∈act:=λn t c c' g g' hn h1 hc sC hg yU h h'=>by
 have a1:=DH sd A g c hg h;have a2:=DH sd A g' c' yU h';have cov:jp xs n c:=by
  obtain⟨_,_,h3 | ⟨k,e,h3⟩⟩:=sd.fo.jd hc
  ·omega
  have:k=n:=aG
  rw[<-this];exact h3
 have an:=DH sd A c n a1 cov;have ss:∀{x:Nat},(x:Int)∈act->SS xs x:=fun{x} hx=>by
  obtain⟨m,e,_,hs⟩:=rL sd A hx;have:m=x:=aG
  rw[<-this];exact hs
 have r1:=(eX sd).2 ⟨hc,ss a1⟩;have r2:=(eX sd).2 ⟨sC,ss a2⟩;refine cy λgq=>?_;have h2:=DG (p:=λr=>decide (r∈act)) (by omega:(c:Int)≠c') (bJ a1) (bJ a2) r1 r2;have:=(A.at_ n an).on;unfold mW Ie at this;rw[aU,kz hn,aY aG,dq]at this;omega
theorem Km{n:Nat}(h:(n:Int)∈act)(hr:cY xs n≠[]):∃q:Nat,(q:Int)∈cY xs n/\(q:Int)∈act:=by
 have:=(A.at_ n h).on;unfold mW Ie at this;rw[aU]at this;have hp:=gz.2 hr;have h1:0<(cY xs n).countP λr=>decide (r∈act):=by
  split at this
  ·rw[dq]at this;omega
  rw[dq]at this;omega
 obtain⟨r,NW,KR⟩:=List.countP_pos_iff.1 h1;obtain⟨q,_,rfl,_⟩:=hY.1 NW;exact⟨q,NW,aP KR⟩
theorem Nq:∀(f n:Nat),xs.length-n<=f->(n:Int)∈act->∃y:Nat,(y:Int)∈CG xs act/\jp xs n y
 | 0,n,hf,h=>by
  obtain⟨m,e,hm,_⟩:=rL sd A h;omega
 | f+1,n,hf,h=>by
  obtain⟨m,e,hm,hs⟩:=rL sd A h;have:m=n:=aG
  subst this;by_cases hr:cY xs m=[]
  ·refine⟨m,?_,sd.fo.jT hm⟩;obtain⟨t,ht,hk⟩:=hs;have h1:t.k=1:=by
    rcases hk with hk | hk
    ·exact hk
    exact absurd hr (sd.pr m t ht hk)
   unfold CG;refine pA.2 ⟨m,rfl,hm,?_⟩;unfold lvP;rw[bJ h,kz ht,h1,hr];rfl
  obtain⟨q,hq,ha⟩:=Km sd A h hr;have hk:=((eX sd).1 hq).1;have hb:=sd.fo.jd hk;obtain⟨y,hy,hc⟩:=Nq f q (by have:=hb.1;omega) ha;refine⟨y,hy,?_⟩;obtain⟨_,_,h3 | ⟨k,e,h3⟩⟩:=sd.fo.KB hb hc
  ·omega
  have:k=m:=aG
  rw[<-this];exact h3
end
def vE(xs:List cM)(act left:List Int)(M:ye):ye:=λh=>match(if h<0 then none else xs[h.toNat]?)with
 | some t=>if fU t.k&&decide (t.pa∈act)&&decide (t.pa∈left)then some (if t.k=4 then(CG xs act).filter λk=>jq xs k t.pa else(fg xs t.pa.toNat xs.length).filter λk=>decide (k∈act))else M h
 | none=>M h
section
variable {c:Ch} {xs:List cM} {vs:List (aJ)} (N:Snd c xs vs) {M:ye} (hM:uW xs M) {act left:List Int} (A:Lg xs act)
include N hM A
theorem Snd.acx:uW xs (vE xs act left M):=λn t l ht hh hl=>by
 unfold vE at hl;rw[aY aG,aU,ht]at hl;dsimp only at hl;by_cases hc:(fU t.k&&decide (t.pa∈act)&&decide (t.pa∈left))=true
 ·rw[bc hc,be]at hl;simp only[aR,bL]at hc;obtain⟨⟨_,hp⟩,_⟩:=hc;have sd:=N.sd;obtain⟨p,ep,NZ,I7⟩:=rL sd A hp;have hkc:Kc xs (p:Int) n:=⟨t,ht,ep⟩
  have hr:cY xs p≠[]:=by
   obtain⟨u,hu,hk⟩:=I7;rcases hk with hk | hk
   ·obtain⟨b,ks,pa,dp,_,rfl,h2,h3,_⟩:=N.at_ hu;dsimp only at hk;unfold zQ at h3;rw[aY (by unfold fU;rw[hk];decide),aY aG]at h3;by_cases lH:0<Mx ks
    ·exact N.NJ h2 lH
    rw[aY lH]at h3;have h0:=aP (um.1 (dS.1 h3).2);have:ks=[]:=ol.1 h0;subst this;obtain⟨e1,_,e2 | ⟨k,e,v,v1,v2,v3⟩⟩:=sd.fo.jd hkc
    ·omega
    have:k=p:=aG
    subst this;rw[hu,be]at v1;subst v1;dsimp only at v3;rw[jk,ff]at v3;omega
   exact sd.pr p u hu hk
  have ss:∀{x:Int},x∈act->∃k:Nat,x=k/\SS xs k:=λhx=>by
   obtain⟨m,e,_,hs⟩:=rL sd A hx;exact⟨m,e,hs⟩
  have sub:∀x,x∈l->x∈act/\∃k:Nat,x=k/\Sb xs t.pa k:=λx hx=>by
   subst hl;split at hx
   ·obtain⟨h1,h2⟩:=di.1 hx;obtain⟨k,rfl,hk,IV⟩:=pA.1 h1;unfold lvP at IV;simp only[aR,bL]at IV;obtain⟨i,j,e1,e2,e3,e4⟩:=lr.1 h2;have:j=k:=aG
    subst this;exact⟨IV.1.1,j,rfl,aG,hk,.inr ⟨i,e1,e4⟩⟩
   obtain⟨h1,h2⟩:=di.1 hx;obtain⟨q,u,rfl,_,hu,hup⟩:=qG.1 h1;refine⟨aP h2,q,rfl,sd.fo.jd ⟨u,hu,?_⟩⟩;rw[hup,ep,aU]
  refine⟨?_,λg hg=>?_,λm u a a' g g' h1 h2 h3 h4 hg yU=>ahH sd A m u a a' g g' h1 h2 h3 h4 (sub _ hg).1 (sub _ yU).1⟩
  ·obtain⟨q,hq,hqa⟩:=Km sd A (by rw[<-ep];exact hp) hr;obtain⟨hqk,hqs⟩:=(eX sd).1 hq;subst hl;split
   ·obtain⟨y,hy,hc⟩:=Nq sd A xs.length q aG hqa;refine od (a:=(y:Int)) (di.2 ⟨hy,lr.2 ?_⟩);obtain⟨h1,h2,h3 | ⟨k,e,h3⟩⟩:=sd.fo.KB (sd.fo.jd hqk) hc
    ·omega
    exact⟨k,y,aG,rfl,aG,h3⟩
   obtain⟨v,hv,hvp⟩:=hqk;exact od (a:=(q:Int)) (di.2 ⟨qG.2 ⟨q,v,rfl,eS hv,hv,by rw[ep,aU];exact hvp⟩,bJ hqa⟩)
  obtain⟨h1,k,e,h2⟩:=sub g hg;obtain⟨k',e',h3⟩:=ss h1;have:k'=k:=aG
  subst this;exact⟨k',e,h3,h2⟩
 rw[aY hc]at hl;exact hM n t l ht hh hl
end
end Go.Proofs.YtpbgcbdclnfpnaaGreatDoor.Con
