import Derived.Test.YtmhoiicofhlgbaaGreatDoorQf6
set_option linter.unusedSectionVars false
namespace Go.Kt
open Go renaming World->av,Value->aw
open Go Go.RowKit Go.ChangeShapes Go.WideShapes
set_option linter.unusedSimpArgs false
set_option linter.unusedVariables false
structure IsBulk {H:Type} (B:DataW H->Nat):Prop where
 one:∀d,1<=B d
 sl:∀e s,(e.map B).sum+1<=B (.slice e s)
 str:∀b,b.length+1<=B (.lit (.string b))
 agg:∀p,(p.map B).sum+1<=B (.agg p)
 ptr:∀d,B d+1<=B (.ptr d)
 iface:∀t d,B d+1<=B (.iface t d)
section
variable {H:Type} {enc:TypeId×aw->H} {P:Program} {W:av} {base:Nat} {spare:Nat->Bool} {held:Bool} {α β:Type} {B:DataW H->Nat}
def O3:Rp ByteArray:=fun _ _ s cs=>cs=[.string s]/\s.size<=140737488351232
def ji(B:DataW H->Nat)(enc:TypeId×aw->H)(P:Program)(W:av)(base:Nat)(spare:Nat->Bool)(held:Bool)(t:TypeId)(r:Rp α)(m:α->Nat):Prop:=
 ∀(eX:Nat) (cs:List aw) (x:DataW H×List MemPlace),DataW.trod enc P W base spare held eX t cs=some x->(∀n,n∈x.1.weights P t->n<=reachBytes)->∃a:α,r W (fun _=>True) a cs/\m a<=B x.1
theorem gv(hB:IsBulk B){t:TypeId}{r:Rp α}(h:BH enc P W base spare held t r):ji B enc P W base spare held t r fun _=>1:=fun eX cs x hx hw=>by
 obtain⟨a,ha⟩:=h eX cs x hx hw;exact⟨a,ha,hB.one _⟩
theorem jS(hB:IsBulk B){t:TypeId}(ht:P.underlying t=some .string):ji B enc P W base spare held t O3 fun s=>s.size+1:=fun eX cs x h hw=>by
 obtain⟨s,rfl,rfl,hs⟩:=DataW.trod_string ht h;have h1:=hw _ (by simp only[DataW.weights];exact dN);have e:s.data.toList.length=s.size:=by rw[mL];rfl
 simp only[e,reachBytes]at h1;refine⟨s,⟨rfl,?_⟩,?_⟩
 ·omega
 ·have:=hB.str s.data.toList;rw[e]at this;exact this
theorem O4{p:α->Nat}{g:Nat->Nat}:∀{l:List α} {o:Nat},(∀i b,l[i]? =some b->p b<=g (o+i))->(l.map p).sum<=((List.range l.length).map fun i=>g (o+i)).sum
 | [],_,_=>by simp
 | a::l,o,h=>by
  rw[aR,List.range_succ_eq_map,bE,bE,ck,ck,iH];have h0:=h 0 a rfl;have ih:=O4 (p:=p) (g:=g) (l:=l) (o:=o+1) fun i b hb=>by
   have:=h (i+1) b hb;rw[show o+1+i=o+(i+1) by omega];exact this
  refine jZ h0 (bh ih (Io ?_));congr 1;refine rC fun i _=>?_;show g _=g _;congr 1;omega
theorem ix(hB:IsBulk B){t e:TypeId}{r:Rp α}{m:α->Nat}{size:Nat}(ht:P.underlying t=some (.slice e))(hs:P.cellsOf e=size){bytes:Nat}(hb:P.bytesOf e=bytes)(he:ji B enc P W base spare held e r m):
  ji B enc P W base spare held t (YW r size bytes) fun xs=>(xs.map m).sum+1:=fun eX cs x h hw=>by
 subst hs;rcases Deep.open_slice ht h with⟨rfl,rfl⟩ | ⟨a,len,cap,mm,n,D,Pl,rfl,_,hl,hm,X8,rfl,ZE⟩
 ·exact⟨[],⟨Sl.nil,rfl,SliceF.nil _ _ _ _,by simp⟩,hB.one _⟩
 ·have hlm:len<=mm:=by rw[X8];split<;>omega
  have hex:∀i,i<len->∃b:α,(∃wU,wU.length=P.cellsOf e/\Cells W (a.add (i*P.cellsOf e)) wU/\r W (fun _=>True) b wU)/\m b<=B (D i):=fun i hi=>by
   obtain⟨wU,g1,g2⟩:=ZE i (by omega);obtain⟨_,g3,g4⟩:=World.cells?_some g1;obtain⟨b,g5,g6⟩:=he n wU _ g2 fun k hk=>hw k (by
    simp only[DataW.weights,ht,aY,cH];exact .inr (.inl (sD (kF.2 ⟨i,List.mem_range.2 hi,rfl⟩) k hk)))
   refine⟨b,⟨wU,g3,fun j v hj=>?_,g5⟩,g6⟩;rw[g4 j (by have:=(bc.1 hj).1;omega)];exact hj
  obtain⟨l,h1,h2⟩:=xy len hex;refine⟨l,⟨⟨some a,len,cap⟩,rfl,⟨h1.symm,hl,fun h=>(by cases h),hm,fun j x hj=>?_⟩,?_⟩,?_⟩
  ·obtain⟨⟨wU,g1,g2,g3⟩,_⟩:=h2 j x hj;exact⟨a,wU,rfl,trivial,g1,g2,g3⟩
  ·have:=hw _ (by simp only[DataW.weights,ht];exact dN);rw[hb]at this;simp only[bZ,List.length_range,reachBytes]at this;rw[h1];have h3:len*bytes<=(len+(mm-len))*bytes:=dU _ (by omega);omega
  ·have h3:=hB.sl ((List.range len).map D) ((List.range (mm-len)).map fun j=>D (len+j));refine bh (Me ?_) h3;have h4:=O4 (p:=m) (g:=fun i=>B (D i)) (l:=l) (o:=0) fun i b hb=>by
    rw[bD];exact(h2 i b hb).2
   rw[h1]at h4;rw[iH];simpa[Function.comp_def]using h4
def Dh(B:DataW H->Nat)(enc:TypeId×aw->H)(P:Program)(W:av)(base:Nat)(spare:Nat->Bool)(held:Bool)(T off:Nat)(fs:List Field)(r:Rp α)(m:α->Nat):Prop:=
 ∀(n:Nat) (cs:List aw) (xs:List (DataW H×List MemPlace)),cs.length=T->xs.length=fs.length->
  (∀(i:Nat) (f:Field),fs[i]? =some f->DataW.trod enc P W base spare held n f.type ((cs.drop f.offset).take (P.cellsOf f.type))=xs[i]?)->
  (∀(i:Nat) (f:Field) (x:DataW H×List MemPlace),fs[i]? =some f->xs[i]? =some x->∀k,k∈x.1.weights P f.type->k<=reachBytes)->∃a:α,r W (fun _=>True) a (cs.drop off)/\m a<=(xs.map fun x=>B x.1).sum
theorem tC{T off:Nat}(h:T=off):Dh B enc P W base spare held T off [] O2 fun _=>0:=fun n cs xs hl _ _ _=>⟨(),by
 show cs.drop off=[]
 exact List.drop_eq_nil_of_le (by omega),bd _⟩
theorem dC{T off s:Nat}{f:Field}{fs:List Field}{r:Rp α}{q:Rp β}{m:α->Nat}{m':β->Nat}(ho:f.offset=off)(hs:P.cellsOf f.type=s)(hr:ji B enc P W base spare held f.type r m)(hq:Dh B enc P W base spare held T (off+s) fs q m'):
  Dh B enc P W base spare held T off (f::fs) (ny r q) fun x=>m x.1+m' x.2:=fun n cs xs hl hx hf hw=>by
 cases xs with
 | nil=>simp at hx
 | cons x xs=>
  have h0:=hf 0 f rfl;rw[ho,hs]at h0;obtain⟨a,ha,F5⟩:=hr n _ x h0 (hw 0 f x rfl rfl);obtain⟨b,hb,nC⟩:=hq n cs xs hl (by simpa using hx) (fun i g hg=>hf (i+1) g hg) (fun i g y hg hy=>hw (i+1) g y hg hy);refine⟨(a,b),⟨_,_,by rw[<-jc,fg],ha,hb⟩,?_⟩;rw[bE,ck];exact jZ F5 nC
theorem jy(hB:IsBulk B){t:TypeId}{fs:Array Field}{T:Nat}{r:Rp α}{m:α->Nat}(ht:P.underlying t=some (.struct fs))(hT:P.cellsOf t=T)(hF:Dh B enc P W base spare held T 0 fs.toList r m):ji B enc P W base spare held t r fun x=>m x+1:=fun eX cs x h hw=>by
 obtain⟨xs,n,rfl,rfl,hl,HT,hf⟩:=DataW.trod_struct ht h;obtain⟨a,ha,F5⟩:=hF n cs xs (by omega) (by simpa using HT) (fun i f hi=>hf i f (by simpa using hi)) (fun i f x hi hx k hk=>hw k (by
  simp only[DataW.weights,ht];refine DataW.weights_mem_each (j:=i) ?_ (by rw[cX,hx];rfl) k hk;simp only[Array.toList_map,cX,hi];rfl))
 refine⟨a,by simpa using ha,bh (Me F5) ?_⟩;have:=hB.agg (xs.map (·.1));rwa[iH]at this
theorem ji.map{t:TypeId}{r:Rp α}{q:Rp β}{m:α->Nat}{m':β->Nat}(h:ji B enc P W base spare held t r m)(f:α->β)(hf:∀a cs,r W (fun _=>True) a cs->q W (fun _=>True) (f a) cs/\m' (f a)<=m a):ji B enc P W base spare held t q m':=fun eX cs x hx hw=>by
 obtain⟨a,ha,F5⟩:=h eX cs x hx hw;obtain⟨h1,h2⟩:=hf a cs ha;exact⟨f a,h1,bh h2 F5⟩
theorem argB_struct{t:TypeId}{fs:Array Field}{r:Rp α}{m:α->Nat}{b0:Nat}{v:aw}{d:DataW H}{p:List MemPlace}(ht:P.underlying t=some (.struct fs))(tU:Value.okWide P W .any b0 t v)(h:DataW.Trod enc P W base spare held t v d p)
  (oB:ji B enc P W base spare held t r m) (hw:∀n,n∈d.weights P t->n<=reachBytes):∃(a:α) (cs:List aw),v=.agg cs.toArray/\r W (fun _=>True) a cs/\m a<=B d:=by
 obtain⟨cs,rfl,_⟩:=okWide_struct ht tU;obtain⟨eX,hf⟩:=h;obtain⟨a,ha,F5⟩:=oB eX _ _ hf hw;exact⟨a,cs.toList,by simp,ha,F5⟩
theorem sum_one:∀l:List α,(l.map fun _=>1).sum=l.length
 | []=>rfl
 | _::l=>by rw[bE,ck,sum_one l,aR];omega
end
end Go.Kt
namespace Go.Proofs.YtmhoiicofhlgbaaGreatDoor.Con
open Go.Value renaming int->O,string->ab,pointer->ae,agg->ah,tuple->ai,bool->aj
open Go.IntKind renaming i64->U,wrap->ar
open Go.Ending renaming returned->ak
open _root_.ByteArray renaming mk->ao
open _root_.Go.Proofs.Tryz renaming prog->aq
open Go.Instr renaming buildSlice->au
open Go renaming World->av,Value->aw,Calls->az
open Go.Kt renaming Only->ay,SliceF->aA,Cells->aB,OnlyP->aD,Blk->aF
open Go Go.RowKit Go.Kt Go.Kt.V Go.Proofs.YtmhoiicofhlgbaaGreatDoor.Vc Go.ChangeShapes Go.WideShapes
set_option linter.unusedSimpArgs false
set_option linter.unusedVariables false
set_option maxHeartbeats 4000000
set_option maxRecDepth 100000
theorem HE{D E:Type}{B:D->Nat}{sz:E->Nat}{Q:Nat->E->Prop}:∀(xs:List D) (o:Nat),(∀j y,xs[j]? =some y->∃e,Q (o+j) e/\sz e<=B y)->
  ∃l:List E,l.length=xs.length/\(∀j e,l[j]? =some e->Q (o+j) e)/\(l.map sz).sum<=(xs.map B).sum
 | [],o,_=>⟨[],rfl,fun j p h=>by simp at h,aW _⟩
 | x::xs,o,h=>by
  obtain⟨e,h1,h2⟩:=h 0 x rfl;obtain⟨l,h3,h4,h5⟩:=HE (B:=B) (sz:=sz) (Q:=Q) xs (o+1) fun j y hj=>by
   have:=h (j+1) y hj;rwa[fe,jH 1 j]
  refine⟨e::l,by rw[aR,aR,h3],fun j p hj=>?_,?_⟩
  ·cases j with
   | zero=>
    simp only[bP,aV]at hj;subst hj;exact h1
   | succ j=>
    have:=h4 j p hj;rwa[fe,jH 1 j]at this
  ·rw[bE,ck,bE,ck];exact jZ h2 h5
theorem Al{n:Nat}:∀{l:List Nat},n∈l->n<=l.sum
 | [],h=>by simp at h
 | x::l,h=>by
  rw[ck];rcases aY.1 h with rfl | h
  ·omega
  ·have:=Al h;omega
theorem HF{E:Type}(f:E->Nat):∀(l:List E),∃m,∀p,p∈l->f p<=m
 | []=>⟨0,fun p h=>by simp at h⟩
 | x::l=>by
  obtain⟨m,h⟩:=HF f l;refine⟨max (f x) m,fun p hp=>?_⟩;rcases aY.1 hp with rfl | hp
  ·exact yG _ _
  ·exact bh (h p hp) (xf _ _)
theorem J7{α β:Type}{r:Rp α}{q:Rp β}{size:Nat}{w:av}{F:aJ}{s:Sl}{xs:List α}(f:α->β)(h:aA r size w F s xs)(hf:∀x cs,x∈xs->r w F x cs->q w F (f x) cs):aA q size w F s (xs.map f):=by
 refine⟨by rw[bZ];exact h.len,h.cap,h.nil0,h.big,fun j y hj=>?_⟩;rw[cX,eP]at hj;obtain⟨x,hx,rfl⟩:=hj;obtain⟨bs,cs,g1,g2,g3,g4,g5⟩:=h.at_ j x hx;exact⟨bs,cs,g1,g2,g3,g4,hf x cs (br hx) g5⟩
theorem BI{α:Type}{r:Rp α}{size:Nat}{w:av}{F:aJ}{s:Sl}{xs:List α}(h:aA r size w F s xs){x:α}(hx:x∈xs):∃cs,r w F x cs:=h.mem hx
def rXU:Rp (Ex×Nat):=fun w F x cs=>rE false w F x.1 cs/\Lg x.1/\zT x.1<=x.2
def S1:Rp (Ac×Nat):=fun w F x cs=>pC false w F x.1 cs/\Bx x.1/\C0 x.1<=x.2
def WB:Rp (Mv×Nat):=fun w F x cs=>yq false w F x.1 cs/\MC x.1/\Fp x.1<=x.2
def ahM:Rp (Vr×Nat):=fun w F x cs=>yr w F x.1 cs/\wa x.1.v/\x.1.n.length+1<=x.2
theorem J8:∀l:List Ex,Ld l=(l.map zT).sum
 | []=>rfl
 | x::l=>by rw[Ld,bE,ck,J8 l]
theorem FL:∀l:List Ac,iG l=(l.map C0).sum
 | []=>rfl
 | x::l=>by rw[iG,bE,ck,FL l]
theorem FM:∀l:List Mv,wC l=(l.map Fp).sum
 | []=>rfl
 | x::l=>by rw[wC,bE,ck,FM l]
theorem FN:∀l:List Vr,nQ l=(l.map fun v=>v.n.length+1).sum
 | []=>rfl
 | x::l=>by rw[nQ,bE,ck,FN l]
theorem FO:∀l:List Nd,iV l=(l.map nP).sum
 | []=>by rw[iV];rfl
 | x::l=>by rw[iV,bE,ck,FO l]
theorem yB{α:Type}{f:α->Nat}:∀{l:List (α×Nat)},(∀x,x∈l->f x.1<=x.2)->((l.map (·.1)).map f).sum<=(l.map fun x=>x.2).sum
 | [],_=>aW _
 | x::l,h=>by
  rw[bE,bE,ck,bE,ck];exact jZ (h x (by simp)) (yB fun y hy=>h y (by simp[hy]))
theorem WC(s:aK):s.data.toList.length=s.size:=by rw[mL];rfl
section
variable {H:Type} {enc:TypeId×aw->H} {W:av} {base:Nat} {spare:Nat->Bool} {held:Bool} {B:DataW H->Nat}
def O5(enc:TypeId×aw->H)(W:av)(base:Nat)(spare:Nat->Bool)(held:Bool)(t:TypeId):Rp (DataW H):=fun _ _ x cs=>∃eX p,DataW.trod enc aq W base spare held eX t cs=some (x,p)/\∀n,n∈x.weights aq t->n<=reachBytes
theorem FP(hB:IsBulk B)(t:TypeId):ji B enc aq W base spare held t (O5 enc W base spare held t) B:=fun eX cs x h hw=>⟨x.1,⟨eX,x.2,h,hw⟩,aW _⟩
theorem LA(hB:IsBulk B):ji B enc aq W base spare held 51 (ny uv (ny uv (ny O3 (ny uv (ny (YW (O5 enc W base spare held 51) 6 72) (ny uv O2))))))
  fun x=>(1+(1+((x.2.2.1.size+1)+(1+(((x.2.2.2.2.1.map B).sum+1)+(1+0))))))+1:=by
 have h:=jy (enc:=enc) (P:=aq) (W:=W) (base:=base) (spare:=spare) (held:=held) (T:=6) hB Tryz.underlying51 (by kernel_rfl)
  (dC (s:=1) rfl (by kernel_rfl) (gv hB (gM Tryz.underlying3)) (dC (s:=1) rfl (by kernel_rfl) (gv hB (gM Tryz.underlying3)) (dC (s:=1) rfl (by kernel_rfl) (jS hB Tryz.underlying9) (dC (s:=1) rfl (by kernel_rfl) (gv hB (gM Tryz.underlying3)) (dC (s:=1) rfl (by kernel_rfl) (ix (size:=6) (bytes:=72) hB Tryz.underlying49 (by kernel_rfl) (by kernel_rfl) (FP hB _)) (dC (s:=1) rfl (by kernel_rfl) (gv hB (gM Tryz.underlying3)) (tC rfl)))))))
 exact h
theorem O6(hB:IsBulk B):∀(N:Nat) {x:DataW H} {cs:aI} {F:aJ},B x<=N->O5 enc W base spare held 51 W F x cs->∃(e:Ex) (d:Nat),Ml false d W (fun _=>True) e cs/\Lg e/\zT e<=B x
 | 0,x,cs,F,h,_=>by have:=hB.one x;omega
 | N+1,x,cs,F,h,⟨eX,p,ht,hw⟩=>by
  obtain⟨⟨k,n,s,op,xs,a,u⟩,hr,hm⟩:=LA (enc:=enc) (W:=W) (base:=base) (spare:=spare) (held:=held) hB eX cs (x,p) ht hw;obtain⟨c1,r1,rfl,⟨rfl,i1⟩,c2,r2,rfl,⟨rfl,i2⟩,c3,r3,rfl,⟨rfl,i3⟩,c4,r4,rfl,⟨rfl,i4⟩,c5,r5,rfl,⟨sl,rfl,sI,_⟩,c6,r6,rfl,⟨rfl,i6⟩,hu⟩:=hr;have hu:r6=[]:=hu;subst hu;dsimp only at hm sI i1 i2 i3;have L8:∀y,y∈xs->B y<=(xs.map B).sum:=fun y hy=>Al (List.mem_map_of_mem hy);obtain⟨l,l1,l2,l3⟩:=HE (B:=B) (sz:=fun e:Ex×Nat=>zT e.1) (Q:=fun j e=>∃base cs,sl.a=some base/\cs.length=6/\aB W (base.add (j*6)) cs/\Ml false e.2 W (fun _=>True) e.1 cs/\Lg e.1) xs 0 fun j y hj=>by
   rw[bD];obtain⟨bs,ds,g1,g2,g3,g4,g5⟩:=sI.at_ j y hj;obtain⟨e,d,t1,t2,t3⟩:=O6 hB N (x:=y) (by have:=L8 y (br hj);omega) g5;exact⟨(e,d),⟨bs,ds,g1,g3,g4,t1,t2⟩,t3⟩
  obtain⟨m,hmx⟩:=HF (fun e:Ex×Nat=>e.2) l;refine⟨.mk k n s.data.toList op (l.map (·.1)) a,m+1,⟨sl,?_,?_,fun h=>(by cases h)⟩,fun d=>?_,?_⟩
  ·have e:j6 k n s.data.toList op sl a=[O U k,O U n,ab s,O U op,sl.v,O U a]:=by
    show[_,_,Value.string (T s.data.toList),_,_,_]=_;rw[<-wl s]
   exact e.symm
  ·refine⟨by rw[Ex.dj,bZ,l1];exact sI.len,sI.cap,sI.nil0,sI.big,fun j e hj=>?_⟩;rw[Ex.dj,cX,eP]at hj;obtain⟨q,q1,rfl⟩:=hj;obtain⟨bs,ds,g1,g2,g3,g4,g5⟩:=l2 j q q1;rw[bD]at g3;exact⟨bs,ds,g1,trivial,g2,g3,Hg (hmx q (br q1)) g4⟩
  ·cases d with
   | zero=>trivial
   | succ d=>
    refine⟨i2,fun y hy=>?_⟩;obtain⟨q,q1,rfl⟩:=kF.1 hy;obtain⟨j,hj⟩:=jG q1;obtain⟨bs,ds,g1,g2,g3,g4,g5⟩:=l2 j q hj;exact g5 d
  ·rw[CX];show Ld (l.map (·.1))+(s.data.toList.length+1)<=_;rw[J8,iH,WC];have e:(l.map (zT∘fun x=>x.1)).sum=(l.map fun e:Ex×Nat=>zT e.1).sum:=rfl;omega
theorem BJ(hB:IsBulk B):ji B enc aq W base spare held 51 rXU fun x=>x.2:=fun eX cs x h hw=>by
 obtain⟨e,d,h1,h2,h3⟩:=O6 hB (B x.1) (x:=x.1) (F:=fun _=>True) (aW _) ⟨eX,x.2,h,hw⟩;exact⟨(e,B x.1),⟨⟨d,h1⟩,h2,h3⟩,aW _⟩
theorem wL(hB:IsBulk B):ji B enc aq W base spare held 116 S1 fun x=>x.2:=by
 have h:=jy (enc:=enc) (P:=aq) (W:=W) (base:=base) (spare:=spare) (held:=held) (T:=9) hB Tryz.underlying116 (by kernel_rfl)
  (dC (s:=1) rfl (by kernel_rfl) (gv hB (gM Tryz.underlying3)) (dC (s:=1) rfl (by kernel_rfl) (jS hB Tryz.underlying9) (dC (s:=6) rfl (by kernel_rfl) (BJ hB) (dC (s:=1) rfl (by kernel_rfl) (gv hB (gM Tryz.underlying3)) (tC rfl)))))
 refine h.map (fun x=>((⟨x.1,x.2.1.data.toList,x.2.2.1.1,x.2.2.2.1⟩:Ac),x.2.2.1.2+(x.2.1.size+1))) ?_;rintro⟨k,n,⟨e,m⟩,a,u⟩ cs ⟨c1,r1,rfl,⟨rfl,i1⟩,c2,r2,rfl,⟨rfl,i2⟩,c3,r3,rfl,⟨he,hn,hz⟩,c4,r4,rfl,⟨rfl,i4⟩,hu⟩;have hu:r4=[]:=hu;subst hu;refine⟨⟨⟨c3,?_,he⟩,hn,?_⟩,by dsimp only;omega⟩
 ·show _=_::Value.string (T n.data.toList)::_;rw[<-wl n];simp
 ·show zT e+(n.data.toList.length+1)<=_;rw[WC];dsimp only at hz⊢;omega
theorem HG{w:av}{F:aJ}{s:Sl}{xs:List (Ac×Nat)}(h:aA S1 9 w F s xs):jE false (pC false) 9 116 w F s (xs.map (·.1))/\(∀a,a∈xs.map (·.1)->Bx a)/\iG (xs.map (·.1))<=(xs.map fun x=>x.2).sum:=by
 refine⟨⟨J7 (·.1) h fun x cs _ hx=>hx.1,fun h=>(by cases h)⟩,fun a ha=>?_,?_⟩
 ·obtain⟨x,hx,rfl⟩:=kF.1 ha;obtain⟨cs,hc⟩:=BI h hx;exact hc.2.1
 ·rw[FL];exact yB fun x hx=>by
   obtain⟨cs,hc⟩:=BI h hx;exact hc.2.2
theorem LB(hB:IsBulk B):ji B enc aq W base spare held 54 WB fun x=>x.2:=by
 have h:=jy (enc:=enc) (P:=aq) (W:=W) (base:=base) (spare:=spare) (held:=held) (T:=13) hB Tryz.underlying54 (by kernel_rfl)
  (dC (s:=1) rfl (by kernel_rfl) (gv hB (gM Tryz.underlying3)) (dC (s:=1) rfl (by kernel_rfl) (jS hB Tryz.underlying9) (dC (s:=1) rfl (by kernel_rfl) (gv hB (gM Tryz.underlying3)) (dC (s:=1) rfl (by kernel_rfl) (gv hB (HD Tryz.underlying4)) (dC (s:=6) rfl (by kernel_rfl) (BJ hB)
  (dC (s:=1) rfl (by kernel_rfl) (ix (size:=9) (bytes:=104) hB Tryz.underlying23 (by kernel_rfl) (by kernel_rfl) (wL hB)) (dC (s:=1) rfl (by kernel_rfl) (ix (size:=1) (bytes:=16) hB Tryz.underlying52 (by kernel_rfl) (by kernel_rfl) (jS hB Tryz.underlying9)) (dC (s:=1) rfl (by kernel_rfl) (gv hB (gM Tryz.underlying3)) (tC rfl)))))))))
 refine h.map (fun x=>((⟨x.1,x.2.1.data.toList,x.2.2.1,x.2.2.2.1,x.2.2.2.2.1.1,x.2.2.2.2.2.1.map (·.1),x.2.2.2.2.2.2.1.map fun s=>s.data.toList,x.2.2.2.2.2.2.2.1⟩:Mv),(((x.2.2.2.2.2.1.map fun x=>x.2).sum+x.2.2.2.2.1.2)+((x.2.2.2.2.2.2.1.map fun s=>s.size+1).sum+(x.2.1.size+1))))) ?_;rintro⟨k,ev,wt,gd,⟨g,m⟩,ac,tg,a,u⟩ cs ⟨c1,r1,rfl,⟨rfl,i1⟩,c2,r2,rfl,⟨rfl,i2⟩,c3,r3,rfl,⟨rfl,i3⟩,c4,r4,rfl,h4,c5,r5,rfl,⟨he,hn,hz⟩,c6,r6,rfl,⟨qU,rfl,Gj,_⟩,c7,r7,rfl,⟨tsl,rfl,AB,_⟩,c8,r8,rfl,⟨rfl,i8⟩,hu⟩;have hu:r8=[]:=hu;have h4:c4=[aj gd]:=h4;subst hu h4;obtain⟨a1,a2,a3⟩:=HG Gj;have akz:aA jB 1 W (fun _=>True) tsl (tg.map fun s=>s.data.toList):=J7 (fun s=>s.data.toList) AB fun x cs _ hx=>by
  obtain⟨rfl,_⟩:=hx;show _=[Value.string (T x.data.toList)]
  rw[<-wl x]
 refine⟨⟨⟨c5,qU,tsl,?_,he,a1,⟨akz,fun h=>(by cases h)⟩⟩,⟨hn,a2,i3⟩,?_⟩,by dsimp only;omega⟩
 ·show _=_::Value.string (T ev.data.toList)::_;rw[<-wl ev];simp
 ·show(iG (ac.map (·.1))+zT g)+(DS (tg.map fun s=>s.data.toList)+(ev.data.toList.length+1))<=_;have e:DS (tg.map fun s=>s.data.toList)=(tg.map fun s=>s.size+1).sum:=by
   unfold DS;rw[iH];congr 1
  rw[e,WC];dsimp only at hz a3⊢;omega
theorem WD{w:av}{F:aJ}{s:Sl}{xs:List (Mv×Nat)}(h:aA WB 13 w F s xs):jE false (yq false) 13 54 w F s (xs.map (·.1))/\(∀a,a∈xs.map (·.1)->MC a)/\wC (xs.map (·.1))<=(xs.map fun x=>x.2).sum:=by
 refine⟨⟨J7 (·.1) h fun x cs _ hx=>hx.1,fun h=>(by cases h)⟩,fun a ha=>?_,?_⟩
 ·obtain⟨x,hx,rfl⟩:=kF.1 ha;obtain⟨cs,hc⟩:=BI h hx;exact hc.2.1
 ·rw[FM];exact yB fun x hx=>by
   obtain⟨cs,hc⟩:=BI h hx;exact hc.2.2
theorem LC(hB:IsBulk B):ji B enc aq W base spare held 79 ahM fun x=>x.2:=by
 have h:=jy (enc:=enc) (P:=aq) (W:=W) (base:=base) (spare:=spare) (held:=held) (T:=3) hB Tryz.underlying79 (by kernel_rfl)
  (dC (s:=1) rfl (by kernel_rfl) (jS hB Tryz.underlying9) (dC (s:=1) rfl (by kernel_rfl) (gv hB (gM Tryz.underlying3)) (dC (s:=1) rfl (by kernel_rfl) (gv hB (gM Tryz.underlying3)) (tC rfl))))
 refine h.map (fun x=>((⟨x.1.data.toList,x.2.1,x.2.2.1⟩:Vr),x.1.size+1)) ?_;rintro⟨n,v,a,u⟩ cs ⟨c1,r1,rfl,⟨rfl,i1⟩,c2,r2,rfl,⟨rfl,i2⟩,c3,r3,rfl,⟨rfl,i3⟩,hu⟩;have hu:r3=[]:=hu;subst hu;refine⟨⟨?_,i2,?_⟩,by dsimp only;omega⟩
 ·show _=[Value.string (T n.data.toList),_,_]
  rw[<-wl n];rfl
 ·show n.data.toList.length+1<=_;rw[WC];exact aW _
theorem LD(hB:IsBulk B):ji B enc aq W base spare held 27 (ny uv (ny O3 (ny O3 (ny O3 (ny (YW S1 9 104) (ny (YW S1 9 104) (ny (YW WB 13 168) (ny (YW (O5 enc W base spare held 27) 9 160) (ny uv O2)))))))))
  fun x=>(1+((x.2.1.size+1)+((x.2.2.1.size+1)+((x.2.2.2.1.size+1)+(((x.2.2.2.2.1.map fun x=>x.2).sum+1)+(((x.2.2.2.2.2.1.map fun x=>x.2).sum+1)+(((x.2.2.2.2.2.2.1.map fun x=>x.2).sum+1)+(((x.2.2.2.2.2.2.2.1.map B).sum+1)+(1+0)))))))))+1:=by
 have h:=jy (enc:=enc) (P:=aq) (W:=W) (base:=base) (spare:=spare) (held:=held) (T:=9) hB Tryz.underlying27 (by kernel_rfl)
  (dC (s:=1) rfl (by kernel_rfl) (gv hB (gM Tryz.underlying3)) (dC (s:=1) rfl (by kernel_rfl) (jS hB Tryz.underlying9) (dC (s:=1) rfl (by kernel_rfl) (jS hB Tryz.underlying9) (dC (s:=1) rfl (by kernel_rfl) (jS hB Tryz.underlying9)
  (dC (s:=1) rfl (by kernel_rfl) (ix (size:=9) (bytes:=104) hB Tryz.underlying23 (by kernel_rfl) (by kernel_rfl) (wL hB)) (dC (s:=1) rfl (by kernel_rfl) (ix (size:=9) (bytes:=104) hB Tryz.underlying23 (by kernel_rfl) (by kernel_rfl) (wL hB))
  (dC (s:=1) rfl (by kernel_rfl) (ix (size:=13) (bytes:=168) hB Tryz.underlying24 (by kernel_rfl) (by kernel_rfl) (LB hB)) (dC (s:=1) rfl (by kernel_rfl) (ix (size:=9) (bytes:=160) hB Tryz.underlying25 (by kernel_rfl) (by kernel_rfl) (FP hB _)) (dC (s:=1) rfl (by kernel_rfl) (gv hB (gM Tryz.underlying3)) (tC rfl))))))))))
 exact h
theorem J9:∀{l:List Nd},(∀x,x∈l->xu x)->tQ l
 | [],_=>by rw[tQ];trivial
 | x::l,h=>by
  rw[tQ];exact⟨h x (by simp),J9 fun y hy=>h y (by simp[hy])⟩
theorem O7(hB:IsBulk B):∀(N:Nat) {x:DataW H} {cs:aI} {F:aJ},B x<=N->O5 enc W base spare held 27 W F x cs->∃(e:Nd) (d:Nat),li false d W (fun _=>True) e cs/\xu e/\nP e<=B x
 | 0,x,cs,F,h,_=>by have:=hB.one x;omega
 | N+1,x,cs,F,h,⟨eX,p,ht,hw⟩=>by
  obtain⟨⟨k,nm,ini,dft,en,lv,mv,xs,a,u⟩,hr,hm⟩:=LD (enc:=enc) (W:=W) (base:=base) (spare:=spare) (held:=held) hB eX cs (x,p) ht hw;obtain⟨c1,r1,rfl,⟨rfl,i1⟩,c2,r2,rfl,⟨rfl,i2⟩,c3,r3,rfl,⟨rfl,i3⟩,c4,r4,rfl,⟨rfl,i4⟩,c5,r5,rfl,⟨ens,rfl,A6,_⟩,c6,r6,rfl,⟨lvs,rfl,xd,_⟩,c7,r7,rfl,⟨mvs,rfl,rq,_⟩,c8,r8,rfl,⟨sl,rfl,sI,_⟩,c9,r9,rfl,⟨rfl,i9⟩,hu⟩:=hr;have hu:r9=[]:=hu;subst hu;dsimp only at hm sI A6 xd rq;have L8:∀y,y∈xs->B y<=(xs.map B).sum:=fun y hy=>Al (List.mem_map_of_mem hy);obtain⟨l,l1,l2,l3⟩:=HE (B:=B) (sz:=fun e:Nd×Nat=>nP e.1) (Q:=fun j e=>∃base cs,sl.a=some base/\cs.length=9/\aB W (base.add (j*9)) cs/\li false e.2 W (fun _=>True) e.1 cs/\xu e.1) xs 0 fun j y hj=>by
   rw[bD];obtain⟨bs,ds,g1,g2,g3,g4,g5⟩:=sI.at_ j y hj;obtain⟨e,d,t1,t2,t3⟩:=O7 hB N (x:=y) (by have:=L8 y (br hj);omega) g5;exact⟨(e,d),⟨bs,ds,g1,g3,g4,t1,t2⟩,t3⟩
  obtain⟨m,hmx⟩:=HF (fun e:Nd×Nat=>e.2) l;obtain⟨a1,a2,a3⟩:=HG A6;obtain⟨b1,b2,b3⟩:=HG xd;obtain⟨d1,d2,d3⟩:=WD rq;refine⟨.mk ⟨k,nm.data.toList,ini.data.toList,dft.data.toList,en.map (·.1),lv.map (·.1),mv.map (·.1),a⟩ (l.map (·.1)),m+1,⟨ens,lvs,mvs,sl,?_,⟨a1,b1,d1⟩,?_,fun h=>(by cases h)⟩,?_,?_⟩
  ·show _=[_,Value.string (T nm.data.toList),Value.string (T ini.data.toList),Value.string (T dft.data.toList),_,_,_,_,_]
   rw[<-wl nm,<-wl ini,<-wl dft];rfl
  ·refine⟨by rw[Nd.kids,bZ,l1];exact sI.len,sI.cap,sI.nil0,sI.big,fun j e hj=>?_⟩;rw[Nd.kids,cX,eP]at hj;obtain⟨q,q1,rfl⟩:=hj;obtain⟨bs,ds,g1,g2,g3,g4,g5⟩:=l2 j q q1;rw[bD]at g3;exact⟨bs,ds,g1,trivial,g2,g3,VZ (hmx q (br q1)) g4⟩
  ·rw[xu];refine⟨⟨a2,b2,d2⟩,J9 fun y hy=>?_⟩;obtain⟨q,q1,rfl⟩:=kF.1 hy;obtain⟨j,hj⟩:=jG q1;obtain⟨bs,ds,g1,g2,g3,g4,g5⟩:=l2 j q hj;exact g5
  ·rw[nP,FO,iH];unfold BD;dsimp only;rw[WC,WC,WC];have e:(l.map (nP∘fun x=>x.1)).sum=(l.map fun e:Nd×Nat=>nP e.1).sum:=rfl;omega
def ahN:Rp (Nd×Nat):=fun w F x cs=>∃d,li false d w F x.1 cs/\xu x.1/\nP x.1<=x.2
theorem LF(hB:IsBulk B):ji B enc aq W base spare held 27 ahN fun x=>x.2:=fun eX cs x h hw=>by
 obtain⟨e,d,h1,h2,h3⟩:=O7 hB (B x.1) (x:=x.1) (F:=fun _=>True) (aW _) ⟨eX,x.2,h,hw⟩;exact⟨(e,B x.1),⟨d,h1,h2,h3⟩,aW _⟩
def rChU:Rp (Ch×Nat):=fun w F x cs=>∃(D:Nat) (vs:Sl) (wU:aI),cs=vs.v::wU/\ChR false D w F x.1 vs wU/\MD x.1/\nQ x.1.vars+nP x.1.root<=x.2
theorem opensB_ch(hB:IsBulk B):ji B enc aq W base spare held 29 rChU fun x=>x.2:=by
 have h:=jy (enc:=enc) (P:=aq) (W:=W) (base:=base) (spare:=spare) (held:=held) (T:=10) hB Tryz.underlying29 (by kernel_rfl)
  (dC (s:=1) rfl (by kernel_rfl) (ix (size:=3) (bytes:=32) hB Tryz.underlying22 (by kernel_rfl) (by kernel_rfl) (LC hB)) (dC (s:=9) rfl (by kernel_rfl) (LF hB) (tC rfl)))
 refine h.map (fun x=>((⟨x.1.map (·.1),x.2.1.1⟩:Ch),(x.1.map fun x=>x.2).sum+x.2.1.2)) ?_;rintro⟨vs,⟨nd,m⟩,u⟩ cs ⟨c1,r1,rfl,⟨vsl,rfl,wV,_⟩,c2,r2,rfl,⟨d,hnd,hn,hz⟩,hu⟩;have hu:r2=[]:=hu;subst hu;rw[bL];refine⟨⟨d,vsl,c2,rfl,⟨⟨J7 (·.1) wV fun x cs _ hx=>hx.1,fun h=>(by cases h)⟩,hnd⟩,⟨fun v hv=>?_,hn⟩,?_⟩,by dsimp only;omega⟩
 ·obtain⟨x,hx,rfl⟩:=kF.1 hv;obtain⟨cs,hc⟩:=BI wV hx;exact hc.2.1
 ·show nQ (vs.map (·.1))+nP nd<=_;rw[FN];have:=yB (f:=fun v:Vr=>v.n.length+1) (l:=vs) fun x hx=>by
   obtain⟨cs,hc⟩:=BI wV hx;exact hc.2.2
  dsimp only at hz⊢;omega
end
theorem tD{c:Ch}(hn:MD c):iW c=jh c:=by
 unfold iW jh;by_cases h1:pZ c=true
 ·rw[if_pos h1,if_pos h1];by_cases h2:16384<(dq [] (yw c)).length
  ·rw[if_pos h2,if_pos h2]
  ·rw[if_neg h2,if_neg h2];have e:=N4 (yw c) [] (by omega);rw[ci]at e;have hl:=Lz h1 hn (by rw[<-e];omega);rw[e,if_neg (by rw[hl.1];decide)]
 ·rw[if_neg h1,if_neg h1]
structure Rr (F:aJ) (ts:List Tk) (w:av) (b:Nat) (l:Sl) (i:Nat) (fc fa d:Int):Prop where
 blk:aF w b 320 [l.v,O U (i:Int),O U d,O U fc,O U fa]
 tok:aA Bj 4 w F l ts
 hF:∀k,F k->k<b
 en:pb ts
 lt:i<ts.length
section
variable {F:aJ} {ts:List Tk} {w w':av} {b:Nat} {l:Sl} {i:Nat} {fc fa d:Int}
theorem Rr.only(h:Rr F ts w b l i fc fa d)(hO:ay [] w w'):Rr F ts w' b l i fc fa d:=
 ⟨hO.blk h.blk (by simp),SliceF.only gI (by decide) h.tok hO (by simp),h.hF,h.en,h.lt⟩
theorem Rr.kz(h:Rr F ts w b l i fc fa d)(hO:ay [b] w w'){i':Nat}{fc' fa' d':Int}(hB:aF w' b 320 [l.v,O U (i':Int),O U d',O U fc',O U fa'])(hi:i'<ts.length):Rr F ts w' b l i' fc' fa' d':=
 ⟨hB,SliceF.only gI (by decide) h.tok hO fun k hk _ hm=>by have:=h.hF k hk;simp only[aO]at hm;omega,h.hF,h.en,hi⟩
theorem Rr.own(h:Rr F ts w b l i fc fa d){bs:List Nat}(hO:ay bs w w')(hb:∀x,x∈bs->b<x):Rr F ts w' b l i fc fa d:=
 ⟨hO.blk h.blk fun hm=>by have:=hb b hm;omega,SliceF.only gI (by decide) h.tok hO fun k hk _ hm=>(by have:=h.hF k hk;have:=hb k hm;omega),h.hF,h.en,h.lt⟩
theorem Rr.lb(h:Rr F ts w b l i fc fa d):b<w.heap.size:=h.blk.lt
theorem Rr.big(h:Rr F ts w b l i fc fa d):ts.length<=9223372036854775807:=by
 have h1:=h.tok.len;have h2:=h.tok.cap;have h3:=h.tok.big;omega
theorem Rr.now(h:Rr F ts w b l i fc fa d):∃ad,dl l (i:Int) 4 ad/\aB w ad [O U (tk ts i).k,ab (T (tk ts i).t),O U (tk ts i).n,O U (tk ts i).a]:=by
 have hl:=h.tok.len;have bQ:=h.lt;obtain⟨ad,x,cs,g1,g2,g3,g4,g5,g6⟩:=h.tok.get (ba i) (by omega);rw[aX,zy h.lt]at g2;injection g2 with g2;subst g2;unfold Bj at g6;subst g6;exact⟨ad,g1,g5⟩
theorem Di(h:Rr F ts w b l i fc fa d)(c:Int):az aq 335 #[ae (some ⟨b,0,none⟩),O U c] w fun e w'=>e=ak (ai #[])/\ay [b] w w'/\
  Rr F ts w' b l i (if fc=0 then c else fc) (if fc=0 then(tk ts i).a else fa) d:=by
 refine ret (ag2 _ _ _ _ ?_);refine⟨fc,Blk.ec h.blk 3 rfl,fun hc w0 ch=>?_,fun hc=>?_⟩
 ·have hc:fc=0:=by simpa using hc
  subst hc;have h0:=h.only ch;obtain⟨ad,g1,g2⟩:=h0.now;refine⟨l,Blk.ec h0.blk 0 rfl,_,Blk.ec h0.blk 1 rfl,ad,g1,_,g2.ec 3 _ rfl,b,3,_,_,rfl,h0.blk,by simp,fun w2 cG lm=>⟨rfl,ch.weaken (fun _ h=>(by cases h)) |>.trans cG (fun x hx=>.inl hx),?_⟩⟩;rw[if_pos rfl,if_pos rfl];exact h0.kz cG lm h.lt
 ·have hc:fc≠0:=by simpa using hc
  rw[if_neg hc,if_neg hc];exact⟨rfl,Only.refl _ _,h⟩
theorem Am(h:Rr F ts w b l i fc fa d):az aq 324 #[ae (some ⟨b,0,none⟩)] w fun e w'=>e=ak (ai #[])/\ay [b] w w'/\
  Rr F ts w' b l i (if fc=0 then(fh ts i).1 else fc) (if fc=0 then(fh ts i).2 else fa) d:=by
 refine ret (ag4 _ _ _ ?_);obtain⟨ad,g1,g2⟩:=h.now;refine⟨l,Blk.ec h.blk 0 rfl,_,Blk.ec h.blk 1 rfl,ad,g1,_,g2.ec 0 _ rfl,fun hc w0 ch=>(Di (h.only ch) 3).mono ?_,fun hc w2 cG=>(Di (h.only cG) 4).mono ?_⟩
 ·have hc:(tk ts i).k=5:=by simpa using hc
  rintro _ w1 ⟨rfl,cn,hR⟩;unfold fh;rw[if_pos hc];exact⟨rfl,rfl,ch.weaken (fun _ h=>(by cases h)) |>.trans cn (fun x hx=>.inl hx),hR⟩
 ·have hc:(tk ts i).k≠5:=by simpa using hc
  rintro _ w1 ⟨rfl,cn,hR⟩;unfold fh;rw[if_neg hc];exact⟨rfl,rfl,cG.weaken (fun _ h=>(by cases h)) |>.trans cn (fun x hx=>.inl hx),hR⟩
theorem vP(h:Rr F ts w b l i fc fa d)(s:aH):az aq 320 #[ae (some ⟨b,0,none⟩),ab (T s)] w fun e w'=>e=ak (aj (fc==0&&sg ts i s))/\ay [] w w':=by
 refine ret (ag0 _ _ _ _ ?_);intro w0 ch;have h0:=h.only ch;obtain⟨ad,g1,g2⟩:=h0.now;refine⟨fun _=>True,trivial,l,Blk.ec h0.blk 0 rfl,trivial,_,Blk.ec h0.blk 1 rfl,ad,g1,trivial,_,_,_,_,g2,fun k0 w1 hk um cn=>⟨fc,Blk.ec (h0.only cn).blk 3 rfl,?_,ch.cd cn⟩⟩;rw[iO,ub];rfl
theorem yC(h:Rr F ts w b l i fc fa d)(s:aH):az aq 322 #[ae (some ⟨b,0,none⟩),ab (T s)] w fun e w'=>e=ak (ai #[])/\ay [b] w w'/\
  (if fc==0&&sg ts i s then Rr F ts w' b l (i+1) fc fa d else Rr F ts w' b l i (if fc=0 then(fh ts i).1 else fc) (if fc=0 then(fh ts i).2 else fa) d):=by
 refine ret (ag3 _ _ _ _ ?_);refine(vP h s).mono ?_;rintro _ w1 ⟨rfl,cn⟩;have h1:=h.only cn;have fG:ay [b] w w1:=cn.weaken fun _ h=>(by cases h)
 refine⟨_,rfl,fun hc=>(Am h1).mono ?_,fun hc=>?_⟩
 ·rintro _ w2 ⟨rfl,cG,hR⟩;have hc:(fc==0&&sg ts i s)=false:=by rwa[cx]at hc
  rw[hc];exact⟨rfl,rfl,fG.trans cG (fun x hx=>.inl hx),hR⟩
 ·have hc:(fc==0&&sg ts i s)=true:=by rwa[gP]at hc
  rw[hc];simp only[aP]at hc;have hn:=h.en.next h.lt (tK hc.2);have hb:=h.big;refine⟨(i:Int),Blk.ec h1.blk 1 rfl,b,1,_,_,rfl,h1.blk,by simp,fun w3 dh ru=>⟨rfl,fG.trans dh (fun x hx=>.inl hx),h1.kz dh ?_ hn⟩⟩;rw[fH (by omega) (by omega)]at ru;exact ru
theorem Ka{d:Nat}(hd:d<=20)(h:Rr F ts w b l i 0 0 (d:Int))(hn:i+1<ts.length):az aq 321 #[ae (some ⟨b,0,none⟩)] w fun e w'=>e=ak (aj (!decide (d=20)))/\ay [b] w w'/\
  (if d=20 then Rr F ts w' b l i 21 (tk ts i).a (d:Int)else Rr F ts w' b l (i+1) 0 0 ((d+1:Nat):Int)):=by
 refine ret (ag1 _ _ _ ?_);have hb:=h.big;refine⟨(d:Int),Blk.ec h.blk 2 rfl,fun hc=>(Di h 21).mono ?_,fun hc=>?_⟩
 ·have hc:d=20:=by
   have:(d:Int)=20:=by simpa using hc
   omega
  rintro _ w1 ⟨rfl,cn,hR⟩;rw[if_pos rfl,if_pos rfl]at hR;refine⟨rfl,by rw[bF hc];rfl,cn,?_⟩;rw[if_pos hc];exact hR
 ·have hc:d≠20:=fun e=>by subst e;simp at hc
  refine⟨(d:Int),Blk.ec h.blk 2 rfl,b,2,_,_,rfl,h.blk,by simp,fun w1 cn pD=>?_⟩;rw[fH (by omega) (by omega)]at pD;have h1:Rr F ts w1 b l i 0 0 ((d+1:Nat):Int):=h.kz cn pD h.lt;refine⟨(i:Int),Blk.ec h1.blk 1 rfl,b,1,_,_,rfl,h1.blk,by simp,fun w2 cG lm=>?_⟩;rw[fH (by omega) (by omega)]at lm;refine⟨by rw[bn hc];rfl,cn.trans cG fun x hx=>.inl hx,?_⟩;rw[if_neg hc];exact h1.kz cG lm hn
end
def nA:List (List (aH)):=[[[124,124]],[[38,38]],[[61,61],[33,61]],[[60],[60,61],[62],[62,61]],[[43],[45]],[[42],[47],[37]]]
def eu:List (List Int):=[[13],[12],[10,11],[6,7,8,9],[1,2],[3,4,5]]
def wM:Rp Int:=fun _ _ x cs=>cs=[O U x]
theorem lH:wM.Ok where
 keep h _:=h
 inHeap h:=h
 mono h _:=h
 one:=by
  rintro w F x cs rfl v hv;simp only[aO]at hv;subst hv;rfl
def An{α:Type}(r:Rp α):Rp (List α):=fun w F xs cs=>∃s:Sl,cs=[s.v]/\aA r 1 w F s xs
theorem tE{α:Type}{r:Rp α}(hr:r.Ok):(An r).Ok where
 keep:=fun⟨s,h1,h2⟩ hk=>⟨s,h1,SliceF.keep hr h2 (by decide) hk⟩
 inHeap:=fun⟨s,h1,h2⟩=>⟨s,h1,SliceF.inHeap hr h2 (by decide)⟩
 mono:=fun⟨s,h1,h2⟩ hk=>⟨s,h1,SliceF.mono hr h2 hk⟩
 one:=by
  rintro w F x cs ⟨s,rfl,_⟩ v hv;simp only[aO]at hv;subst hv;rfl
theorem wN(w:av)(l:List Int){n:Nat}{parts:Array (Nat×aw)}(hp:parts=(((l.map fun x=>Value.int U x).zipIdx 0).map fun x=>(x.2,x.1)).toArray)(hn:l.length=n)(h0:0<n)(tT:n*1<=16777216):
  ∃s w',(au 106 n parts).run aq w=.ok (Sl.v s) w'/\Own wM 1 3 w.heap.size w' (fun _=>True) s l/\ay [] w w':=by
 have hE:n9 wM 1 w (fun _=>True) l ((l.map fun x=>Value.int U x).map fun v=>v.cells.toList):=by
  clear hp hn
  induction l with
  | nil=>trivial
  | cons x l ih=>exact⟨⟨rfl,rfl⟩,ih⟩
 obtain⟨s,w',h1,h2,h3,_⟩:=lf (P:=aq) (t:=106) (e:=3) (i:=Tryz.t3) (r:=wM) (size:=1) (by kernel_rfl) (by kernel_rfl) rfl rfl (by decide) hp (by rw[bZ];exact hn) h0 tT lH hE;exact⟨s,w',h1,h2,h3⟩
theorem O8{α:Type}{r:Rp α}(hr:r.Ok){t e:TypeId}{ti:TypeInfo}(ht:Tryz.prog.underlying t=some (.slice e))(hi:Tryz.prog.info? e=some ti){z:aw}(hz:ti.zero=some z)(hs:ti.size=1){w:av}{F:aJ}{xs:List (List α)}(ss:List Sl){n:Nat}{parts:Array (Nat×aw)}(hp:parts=(((ss.map fun s=>s.v).zipIdx 0).map fun x=>(x.2,x.1)).toArray)(hn:ss.length=n)(h0:0<n)(tT:n*1<=16777216)
  (hE:gq (fun x (s:aI)=>s.length=1/\An r w F x s) xs (ss.map fun s=>[s.v])):
  ∃s w',(au t n parts).run aq w=.ok (Sl.v s) w'/\aA (An r) 1 w' (fun k=>F k∨w.heap.size<=k) s xs/\ay [] w w':=by
 have UT:n9 (An r) 1 w F xs ((ss.map fun s=>s.v).map fun v=>v.cells.toList):=by
  have:((ss.map fun s=>s.v).map fun v=>v.cells.toList)=ss.map fun s=>[s.v]:=by
   rw[iH];rfl
  rw[this];exact hE
 obtain⟨s,w',h1,h2,h3,_⟩:=lf (P:=aq) (t:=t) (e:=e) (i:=ti) (r:=An r) (size:=1) ht hi hz hs (by decide) hp (by rw[bZ];exact hn) h0 tT (tE hr) UT;exact⟨s,w',h1,SliceF.mono (tE hr) (h2.slice (tE hr)) (fun k hk=>hk.imp id fun h=>h.1),h3⟩
theorem O9(w:av):az aq 276 #[] w fun e w'=>∃s:Sl,e=ak s.v/\aA (An jB) 1 w' (fun k=>w.heap.size<=k) s nA/\ay [] w w':=by
 refine(agR (fun v w'=>∃s:Sl,v=s.v/\aA (An jB) 1 w' (fun k=>w.heap.size<=k) s nA/\ay [] w w') w ?_).mono (by
  rintro e w' ⟨v,rfl,s,rfl,h⟩;exact⟨s,rfl,h⟩)
 obtain⟨s0,w0,a0,b0,c0⟩:=jd w [[124,124]] (n:=1) (parts:=#[(0,ab (T [124,124]))]) rfl rfl (by decide) (by decide);obtain⟨s1,w1,a1,b1,c1⟩:=jd w0 [[38,38]] (n:=1) (parts:=#[(0,ab (T [38,38]))]) rfl rfl (by decide) (by decide);obtain⟨s2,w2,a2,b2,c2⟩:=jd w1 [[61,61],[33,61]] (n:=2) (parts:=#[(0,ab (T [61,61])),(1,ab (T [33,61]))]) rfl rfl (by decide) (by decide);obtain⟨s3,w3,a3,b3,c3⟩:=jd w2 [[60],[60,61],[62],[62,61]] (n:=4) (parts:=#[(0,ab (T [60])),(1,ab (T [60,61])),(2,ab (T [62])),(3,ab (T [62,61]))]) rfl rfl (by decide) (by decide);obtain⟨s4,w4,a4,b4,c4⟩:=jd w3 [[43],[45]] (n:=2) (parts:=#[(0,ab (T [43])),(1,ab (T [45]))]) rfl rfl (by decide) (by decide);obtain⟨s5,w5,a5,b5,c5⟩:=jd w4 [[42],[47],[37]] (n:=3) (parts:=#[(0,ab (T [42])),(1,ab (T [47])),(2,ab (T [37]))]) rfl rfl (by decide) (by decide);have z0:=c0.size;have z1:=c1.size;have z2:=c2.size;have z3:=c3.size;have z4:=c4.size;have mk:∀{u u':av} {s:Sl} {l:List (aH)},w.heap.size<=u.heap.size->∀{v:av},Own jB 1 9 u.heap.size v (fun _=>True) s l->ay [] v u'->[s.v].length=1/\An jB u' (fun k=>w.heap.size<=k) l [s.v]:=fun hu v hB hO=>⟨rfl,_,rfl,SliceF.only cZ (by decide) (SliceF.mono cZ (qY hB) fun k hk=>by have:=hk.1;omega) hO (by simp)⟩
 obtain⟨s6,w6,a6,b6,c6⟩:=O8 (r:=jB) cZ (t:=300) (e:=52) (ti:=Tryz.t52) (by kernel_rfl) (by kernel_rfl) rfl rfl (w:=w5) (F:=fun k=>w.heap.size<=k) (xs:=nA) [s0,s1,s2,s3,s4,s5] (n:=6) (parts:=#[(0,s0.v),(1,s1.v),(2,s2.v),(3,s3.v),(4,s4.v),(5,s5.v)]) rfl rfl (by decide) (by decide)
  ⟨mk (aW _) b0 (((((c1.cd c2).cd c3).cd c4).cd c5)),mk (by omega) b1 ((((c2.cd c3).cd c4).cd c5)),mk (by omega) b2 ((c3.cd c4).cd c5),mk (by omega) b3 (c4.cd c5),mk (by omega) b4 c5,mk (by omega) b5 (Only.refl _ _),trivial⟩
 have z5:=c5.size;exact⟨s0,w0,a0,s1,w1,a1,s2,w2,a2,s3,w3,a3,s4,w4,a4,s5,w5,a5,s6,w6,a6,s6,rfl,SliceF.mono (tE cZ) b6 (fun k hk=>by rcases hk with hk | hk<;>omega),(((((c0.cd c1).cd c2).cd c3).cd c4).cd c5).cd c6⟩
theorem HH(w:av):az aq 275 #[] w fun e w'=>∃s:Sl,e=ak s.v/\aA (An wM) 1 w' (fun k=>w.heap.size<=k) s eu/\ay [] w w':=by
 refine(agM (fun v w'=>∃s:Sl,v=s.v/\aA (An wM) 1 w' (fun k=>w.heap.size<=k) s eu/\ay [] w w') w ?_).mono (by
  rintro e w' ⟨v,rfl,s,rfl,h⟩;exact⟨s,rfl,h⟩)
 obtain⟨s0,w0,a0,b0,c0⟩:=wN w [13] (n:=1) (parts:=#[(0,O U 13)]) rfl rfl (by decide) (by decide);obtain⟨s1,w1,a1,b1,c1⟩:=wN w0 [12] (n:=1) (parts:=#[(0,O U 12)]) rfl rfl (by decide) (by decide);obtain⟨s2,w2,a2,b2,c2⟩:=wN w1 [10,11] (n:=2) (parts:=#[(0,O U 10),(1,O U 11)]) rfl rfl (by decide) (by decide);obtain⟨s3,w3,a3,b3,c3⟩:=wN w2 [6,7,8,9] (n:=4) (parts:=#[(0,O U 6),(1,O U 7),(2,O U 8),(3,O U 9)]) rfl rfl (by decide) (by decide);obtain⟨s4,w4,a4,b4,c4⟩:=wN w3 [1,2] (n:=2) (parts:=#[(0,O U 1),(1,O U 2)]) rfl rfl (by decide) (by decide);obtain⟨s5,w5,a5,b5,c5⟩:=wN w4 [3,4,5] (n:=3) (parts:=#[(0,O U 3),(1,O U 4),(2,O U 5)]) rfl rfl (by decide) (by decide);have z0:=c0.size;have z1:=c1.size;have z2:=c2.size;have z3:=c3.size;have z4:=c4.size;have mk:∀{u u':av} {s:Sl} {l:List Int},w.heap.size<=u.heap.size->∀{v:av},Own wM 1 3 u.heap.size v (fun _=>True) s l->ay [] v u'->[s.v].length=1/\An wM u' (fun k=>w.heap.size<=k) l [s.v]:=fun hu v hB hO=>⟨rfl,_,rfl,SliceF.only lH (by decide) (SliceF.mono lH (I0 lH (fun _ _ _ _ _ h=>h) hB) fun k hk=>by have:=hk.1;omega) hO (by simp)⟩
 obtain⟨s6,w6,a6,b6,c6⟩:=O8 (r:=wM) lH (t:=298) (e:=106) (ti:=Tryz.t106) (by kernel_rfl) (by kernel_rfl) rfl rfl (w:=w5) (F:=fun k=>w.heap.size<=k) (xs:=eu) [s0,s1,s2,s3,s4,s5] (n:=6) (parts:=#[(0,s0.v),(1,s1.v),(2,s2.v),(3,s3.v),(4,s4.v),(5,s5.v)]) rfl rfl (by decide) (by decide)
  ⟨mk (aW _) b0 (((((c1.cd c2).cd c3).cd c4).cd c5)),mk (by omega) b1 ((((c2.cd c3).cd c4).cd c5)),mk (by omega) b2 ((c3.cd c4).cd c5),mk (by omega) b3 (c4.cd c5),mk (by omega) b4 c5,mk (by omega) b5 (Only.refl _ _),trivial⟩
 have z5:=c5.size;exact⟨s0,w0,a0,s1,w1,a1,s2,w2,a2,s3,w3,a3,s4,w4,a4,s5,w5,a5,s6,w6,a6,s6,rfl,SliceF.mono (tE lH) b6 (fun k hk=>by rcases hk with hk | hk<;>omega),(((((c0.cd c1).cd c2).cd c3).cd c4).cd c5).cd c6⟩
def mr(ts:List Tk)(i:Nat):List (aH)->List Int->Int
 | s::ss,n::ns=>if sg ts i s=true then n else mr ts i ss ns
 | _,_=>0
theorem Pa(ts:List Tk)(i k:Nat)(hk:k<6):mr ts i ((nA[k]?).getD []) ((eu[k]?).getD [])=jf ts (k:Int) i:=by
 match k,hk with
 | 0,_=>simp[jf,iQ,eL,mr,nA,eu,dD,tL]
 | 1,_=>simp[jf,iQ,eL,mr,nA,eu,dD,tL]
 | 2,_=>simp[jf,iQ,eL,mr,nA,eu,dD,tL]
 | 3,_=>simp[jf,iQ,eL,mr,nA,eu,dD,tL]
 | 4,_=>simp[jf,iQ,eL,mr,nA,eu,dD,tL]
 | 5,_=>simp[jf,iQ,eL,mr,nA,eu,dD,tL]
theorem HI{ts:List Tk}{i:Nat}{ss:List (aH)}{ns:List Int}{n:Nat}{s:aH}{m:Int}(h1:ss[n]? =some s)(h2:ns[n]? =some m):mr ts i (ss.drop n) (ns.drop n)=if sg ts i s=true then m else mr ts i (ss.drop (n+1)) (ns.drop (n+1)):=by
 rw[gF (bc.1 h1).1,(bc.1 h1).2,gF (bc.1 h2).1,(bc.1 h2).2,mr]
theorem Pb(k:Nat):((nA[k]?).getD []).length=((eu[k]?).getD []).length:=by
 rcases kC k 6 with h | h
 ·match k,h with
  | 0,_=>rfl
  | 1,_=>rfl
  | 2,_=>rfl
  | 3,_=>rfl
  | 4,_=>rfl
  | 5,_=>rfl
 ·rw[cK (by exact h),cK (by exact h)];rfl
section
variable {F:aJ} {ts:List Tk} {w w':av} {b:Nat} {l:Sl} {i:Nat} {fc fa d:Int}
theorem Pc(h:Rr F ts w b l i fc fa d){k:Nat}(hk:k<6):az aq 312 #[ae (some ⟨b,0,none⟩),O U (k:Int)] w fun e w'=>e=ak (O U (if fc=0 then jf ts (k:Int) i else 0))/\ay [] w w':=by
 refine ret (ag6 _ _ _ _ ?_);refine(O9 w).mono ?_;rintro _ w0 ⟨l0,rfl,hR,ch⟩;have n0:=hR.len;have n6:nA.length=6:=rfl;obtain⟨p0,x0,cs0,g1,g2,g3,g4,g5,s1,rfl,hS⟩:=hR.get (ba k) (by omega);rw[aX]at g2;refine⟨l0,rfl,p0,g1,s1,g5,(HH w0).mono ?_⟩;rintro _ w1 ⟨l2,rfl,hN,cn⟩;have m0:=hN.len;have m6:eu.length=6:=rfl;obtain⟨p1,x1,cs1,e1,e2,e3,e4,e5,s3,rfl,hM⟩:=hN.get (ba k) (by omega);rw[aX]at e2;have hfo:=Pa ts i k hk;have hrl:=Pb k;rw[g2,e2,gN,gN]at hfo hrl;have t1:=hS.len;have t2:=hM.len;have t3:=hS.cap;have t4:=hS.big;refine⟨l2,rfl,p1,e1,s3,e5,fun nv j w'=>∃n:Nat,n<=x0.length/\j=(n:Int)/\nv=x0.length-n/\(fc=0->mr ts i x0 x1=mr ts i (x0.drop n) (x1.drop n))/\ay [] w1 w',x0.length,⟨0,bd _,rfl,rfl,fun _=>rfl,Only.refl _ _⟩,?_⟩;rintro nv _ w2 ⟨n,hn,rfl,rfl,hf,cG⟩;have js:=(ch.cd cn).cd cG;refine⟨fun bQ=>?_,fun lR=>?_⟩
 ·have bQ:(n:Int)<(s1.n:Int):=aQ bQ;obtain⟨p2,sg0,cs2,q1,q2,q3,q4,q5,q6⟩:=(SliceF.only cZ (by decide) hS (cn.cd cG) (by simp)).get (ba n) bQ;unfold jB at q6;subst q6;rw[aX]at q2;refine⟨p2,q1,_,q5,(vP (h.only js) sg0).mono ?_⟩;rintro _ w3 ⟨rfl,dh⟩;obtain⟨p3,m,cs3,r1,r2,r3,r4,r5,r6⟩:=(SliceF.only lH (by decide) hM (cG.cd dh) (by simp)).get (i:=(n:Int)) (ba n) (by omega);unfold wM at r6;subst r6;rw[aX]at r2;have lj:=HI (ts:=ts) (i:=i) q2 r2;refine⟨_,rfl,fun hb=>⟨p3,r1,m,r5,?_,js.cd dh⟩,fun hb=>⟨x0.length-(n+1),by omega,n+1,by omega,by rw[fH (by omega) (by omega)];rfl,rfl,fun h0=>?_,cG.cd dh⟩⟩
  ·simp only[aP,dz]at hb;rw[if_pos hb.1,<-hfo,hf hb.1,lj,if_pos hb.2]
  ·rw[hf h0,lj,if_neg];intro hs;rw[h0,hs]at hb;exact absurd hb (by decide)
 ·have lR:¬(n:Int)<(s1.n:Int):=aU lR;refine⟨?_,js⟩;by_cases h0:fc=0
  ·rw[if_pos h0,<-hfo,hf h0,dy (by omega)];rfl
  ·rw[if_neg h0]
end
def oE(F:aJ)(ts:List Tk)(w w':av)(b:Nat)(l:Sl)(d:Nat)(r:Pr)(v:aw):Prop:=ay [b] w w'/\match r with
 | .ok (x,j)=>∃cs,v=ah cs.toArray/\RX w' w.heap.size w'.heap.size x cs/\Rr F ts w' b l j 0 0 (d:Int)
 | .error e=>e.1≠0/\exT v/\∃j,Rr F ts w' b l j e.1 e.2 (d:Int)
section
variable {F:aJ} {ts:List Tk} {w w':av} {b:Nat} {l:Sl} {i:Nat} {fc fa:Int}
theorem oE.oy{d:Nat}{r:Pr}{v:aw}(h:oE F ts w w' b l d r v):exT v:=by
 obtain⟨_,h⟩:=h;cases r with
 | error e=>exact h.2.1
 | ok q=>
  obtain⟨cs,rfl,hx,_⟩:=h;obtain⟨sl,rfl,_⟩:=hx.cells;exact⟨_,_,_,_,_,_,rfl⟩
theorem oE.Ar{w0 w1 w2 w3:av}{d:Nat}{r:Pr}{v:aw}(h:oE F ts w1 w2 b l d r v)(ch:ay [b] w0 w1){bs:List Nat}(cG:ay bs w2 w3)(hb:∀x,x∈bs->b<x/\w0.heap.size<=x/\x<w1.heap.size):oE F ts w0 w3 b l d r v:=by
 obtain⟨hO,h⟩:=h;have z0:=ch.size;have z1:=hO.size;have z2:=cG.size;refine⟨(ch.trans hO fun x hx=>.inl hx).trans cG fun x hx=>.inr (hb x hx).2.1,?_⟩;cases r with
 | error e=>
  obtain⟨h1,h2,j,h3⟩:=h;exact⟨h1,h2,j,h3.own cG fun x hx=>(hb x hx).1⟩
 | ok q=>
  obtain⟨cs,h1,h2,h3⟩:=h;exact⟨cs,h1,(h2.only cG fun x hx=>.inl (hb x hx).2.2).wide z0 z2,h3.own cG fun x hx=>(hb x hx).1⟩
theorem WE:exT (ah #[O U 0,O U 0,ab (ao #[]),O U 0,Sl.nil.v,O U 0]):=⟨0,0,[],0,Sl.nil,0,rfl⟩
theorem ab8{d:Nat}(h:Rr F ts w b l i 0 0 (d:Int))(hn:i+1<ts.length):az aq 323 #[ae (some ⟨b,0,none⟩)] w fun e w'=>∃v,e=ak v/\oE F ts w w' b l d (zC ts i) v:=by
 refine ag5 ⟨b,0,none⟩ (fun v w'=>oE F ts w w' b l d (zC ts i) v) w ?_;intro k0 w0 gD dQ ch;have hb:=h.lb;have P3:=h.big;have z0:=ch.size;have h0:=h.only ch;obtain⟨ad,g1,g2⟩:=h0.now;refine⟨fun _=>True,trivial,l,Blk.ec h0.blk 0 rfl,trivial,_,Blk.ec h0.blk 1 rfl,ad,g1,trivial,_,g2.ec 3 _ rfl,fun k1 w1 kg ju cn=>?_⟩;have z1:=cn.size;have h1:=h0.only cn;have fG:=ch.cd cn;have sm:∀{u u':av},w1.heap.size<=u.heap.size->ay [b] u u'->bS [k0,k1] u u':=fun hu hO=>hO.same (by intro x hx;simp only[aY,bf,cb]at hx⊢;omega);refine⟨(i:Int),Blk.ec h1.blk 1 rfl,b,1,_,_,rfl,h1.blk,by simp,by omega,by omega,fun w2 cG lm=>?_⟩;rw[fH (by omega) (by omega)]at lm;have h2:Rr F ts w2 b l (i+1) 0 0 (d:Int):=h1.kz cG lm hn;have z2:=cG.size;have js:ay [b] w w2:=(fG.weaken fun _ h=>(by cases h)).trans cG fun x hx=>.inl hx;refine(yC h2 [40]).mono ?_;rintro _ w3 ⟨rfl,dh,BW⟩;have z3:=dh.size;have mw:=js.trans dh fun x hx=>.inl hx;refine⟨rfl,sm (by omega) dh,?_⟩;rw[show((0:Int)==0)=true from rfl,bT,if_pos rfl,if_pos rfl]at BW;have xX:∀{u u':av},ay [b] w u->ay [k0] u u'->ay [b] w u':=fun h1 h2=>h1.new h2 gD;by_cases hs:sg ts (i+1) [40]=true
 ·rw[if_pos hs]at BW;refine⟨0,Blk.ec BW.blk 3 rfl,fun hc=>(by simp at hc),fun _=>?_⟩;obtain⟨ad3,u1,u2⟩:=BW.now;refine⟨l,Blk.ec BW.blk 0 rfl,_,Blk.ec BW.blk 1 rfl,ad3,u1,_,u2.ec 0 _ rfl,fun hc w5 eh=>(Am (BW.only eh)).mono ?_,fun hc w8 fj=>?_⟩
  ·have hc:(tk ts (i+2)).k≠1:=by simpa using hc
   rintro _ w6 ⟨rfl,dR,YE⟩;rw[if_pos rfl,if_pos rfl]at YE;have z5:=eh.size;refine⟨rfl,sm (by omega) dR,fun w7 fN=>⟨xX ((mw.cd eh).trans dR fun x hx=>.inl hx) fN,?_⟩⟩;rw[zC,if_pos hs,if_neg hc];exact⟨fk,⟨_,_,[],_,_,_,rfl⟩,i+2,YE.own fN (by simp;omega)⟩
  ·have hc:(tk ts (i+2)).k=1:=by simpa using hc
   have z8:=fj.size;have h8:=BW.only fj;obtain⟨ad8,v1,v2⟩:=h8.now;refine⟨l,Blk.ec h8.blk 0 rfl,_,Blk.ec h8.blk 1 rfl,ad8,v1,_,v2.ec 1 _ rfl,fun w9 fT=>?_⟩;have z9:=fT.size;have h9:=h8.own fT (by simp;omega);have P4:ay [b] w w9:=(mw.cd fj).new fT (by omega);have hn3:=h.en.next BW.lt (by show(tk ts (i+2)).k≠5;rw[hc];decide);refine⟨_,Blk.ec h9.blk 1 rfl,b,1,_,_,rfl,h9.blk,by simp,by omega,by omega,fun dw dM nr=>?_⟩;rw[fH (by omega) (by omega)]at nr;have uS:Rr F ts dw b l (i+1+1+1) 0 0 (d:Int):=h9.kz dM nr hn3;have H0:=dM.size;refine(yC uS [41]).mono ?_;rintro _ dJ ⟨rfl,dY,QI⟩;have Gd:=dY.size;refine⟨rfl,sm (by omega) dY,fun eM fb=>⟨xX ((P4.trans dM fun x hx=>.inl hx).trans dY fun x hx=>.inl hx) fb,?_⟩⟩;rw[show((0:Int)==0)=true from rfl,bT,if_pos rfl,if_pos rfl]at QI;rw[zC,if_pos hs,if_pos hc];by_cases L0:sg ts (i+3) [41]=true
   ·rw[if_pos L0];rw[if_pos (show sg ts (i+1+1+1) [41]=true from L0)]at QI;exact⟨_,rfl,.leaf ..,QI.own fb (by simp;omega)⟩
   ·rw[if_neg L0];rw[if_neg (show ¬sg ts (i+1+1+1) [41]=true from L0)]at QI;exact⟨fk,⟨_,_,_,_,_,_,rfl⟩,i+1+1+1,QI.own fb (by simp;omega)⟩
 ·rw[if_neg hs]at BW;refine⟨_,Blk.ec BW.blk 3 rfl,fun hc w4 dI=>⟨xX mw dI,?_⟩,fun hc=>absurd (by simpa using hc) (fk (ts:=ts) (i:=i+1))⟩;rw[zC,if_neg hs];exact⟨fk,⟨_,_,[],_,_,_,rfl⟩,i+1,BW.own dI (by simp;omega)⟩
theorem WG{f d:Nat}(hd:d<=20)(h:Rr F ts w b l i 0 0 (d:Int))
  (hE:d≠20->∀w i,Rr F ts w b l i 0 0 ((d+1:Nat):Int)->az aq 300 #[ae (some ⟨b,0,none⟩),O U 0] w fun e w'=>∃v,e=ak v/\oE F ts w w' b l (d+1) (cQ ts f 0 (d+1) i) v)
  (Xr:d≠20->∀w i,Rr F ts w b l i 0 0 ((d+1:Nat):Int)->az aq 311 #[ae (some ⟨b,0,none⟩)] w fun e w'=>∃v,e=ak v/\oE F ts w w' b l (d+1) (cQ ts f 6 (d+1) i) v):
  az aq 311 #[ae (some ⟨b,0,none⟩)] w fun e w'=>∃v,e=ak v/\oE F ts w w' b l d (cQ ts (f+1) 6 d i) v:=by
 have eR:cQ ts (f+1) 6 d i=nL ts (cQ ts f 0 (d+1)) (cQ ts f 6 (d+1)) d i:=by rw[cQ,if_pos rfl]
 rw[eR];generalize hgE:cQ ts f 0 (d+1)=E0 at*
 generalize hgO:cQ ts f 6 (d+1)=One at*
 generalize hR:nL ts E0 One d i=R;rw[nL]at hR;refine agZ ⟨b,0,none⟩ (fun v w'=>oE F ts w w' b l d R v) w ?_;intro k0 w0 gD dQ ch;have hb:=h.lb;have P3:=h.big;have z0:=ch.size;have h0:=h.only ch;obtain⟨ad,g1,g2⟩:=h0.now;refine⟨fun _=>True,trivial,l,Blk.ec h0.blk 0 rfl,trivial,_,Blk.ec h0.blk 1 rfl,ad,g1,trivial,_,_,_,_,g2,fun k1 w1 kg ju cn=>?_⟩;have z1:=cn.size;have h1:=h0.only cn;have sm:∀{u u':av},w1.heap.size<=u.heap.size->ay [b] u u'->bS [k0,k1] u u':=fun hu hO=>hO.same (by intro x hx;simp only[aY,bf,cb]at hx⊢;omega);have Rh:∀{u u':av},w1.heap.size<=u.heap.size->ay [] u u'->bS [k0,k1] u u':=fun hu hO=>hO.same (by intro x hx;simp only[aY,bf,cb]at hx;exact⟨by omega,by simp⟩);refine(vP h1 [45]).mono ?_;rintro _ w2 ⟨rfl,cG⟩;have z2:=cG.size;have h2:=h1.only cG;refine⟨_,rfl,Rh (by omega) cG,(vP h2 [33]).mono ?_⟩;rintro _ w3 ⟨rfl,dh⟩;have z3:=dh.size;have h3:=h2.only dh;refine⟨_,rfl,Rh (by omega) dh,(vP h3 [40]).mono ?_⟩;rintro _ w4 ⟨rfl,dI⟩;have z4:=dI.size;have h4:=h3.only dI;have pr:ay [] w w4:=(((ch.cd cn).cd cG).cd dh).cd dI;have B3:ay [b] w w4:=pr.weaken fun _ h=>(by cases h)
 have xX:∀{u u':av},ay [b] w u->ay [k0] u u'->ay [b] w u':=fun h1 h2=>h1.new h2 gD;rw[show((0:Int)==0)=true from rfl,bT,bT,bT];refine⟨_,rfl,Rh (by omega) dI,0,Blk.ec h4.blk 3 rfl,fun hc=>(by simp at hc),fun _=>⟨fun hs=>?_,fun hs=>⟨fun hp=>?_,fun hp=>⟨fun hi=>?_,fun hi=>⟨fun hv=>?_,fun hv=>?_⟩⟩⟩⟩⟩
 ·rw[if_pos hs]at hR;have gC:(tk ts i).k≠5:=by
   rcases cq _ _▸hs with e | e<;>exact tK e
  have hn:=h.en.next h.lt gC;refine(Ka hd h4 hn).mono ?_;rintro _ w6 ⟨rfl,dR,YE⟩;have z6:=dR.size;have A3:=B3.trans dR fun x hx=>.inl hx;refine⟨_,rfl,sm (by omega) dR,fun hc w7 fN=>⟨xX A3 fN,?_⟩,fun hc=>?_⟩
  ·have hc:d=20:=by simpa using hc
   rw[if_pos hc]at YE;rw[<-hR,iC,if_pos hc];exact⟨(by decide:(21:Int)≠0),WE,i,YE.own fN (by simp;omega)⟩
  ·have hc:d≠20:=by simpa using hc
   rw[if_neg hc]at YE;rw[iC,if_neg hc]at hR;refine(Xr hc w6 (i+1) YE).mono ?_;rintro _ w8 ⟨v,rfl,hD⟩;obtain⟨vk,vn,vs,vo,vl,va,rfl⟩:=hD.oy;have z8:=hD.1.size;refine⟨_,_,_,_,_,_,rfl,sm (by omega) hD.1,fun k2 w9 oY oG fT=>?_⟩;have z9:=fT.size;have hOD:=A3.trans hD.1 fun x hx=>.inl hx;have key:∀{j:Nat} {c a:Int},Rr F ts w8 b l j c a ((d+1:Nat):Int)->∃i9:Int,aB w9 (Addr.add ⟨b,0,none⟩ 2) [O U i9]/\∃k3 k4:Nat,∃z0:aI,∃k5:Nat,(Addr.add ⟨b,0,none⟩ 2)=⟨k3,k4,none⟩/\aF w9 k3 k5 z0/\(k4+1)<=z0.length/\k0≠k3/\k1≠k3/\k2≠k3/\
     ∀dw:av,ay [k3] w9 dw->aF dw k3 k5 (ca z0 k4 [O U (ar U (i9-1))])->ay [b] w8 dw/\Rr F ts dw b l j c a (d:Int):=fun{j c a} h8=>by
    have h9:=h8.only fT;refine⟨((d+1:Nat):Int),Blk.ec h9.blk 2 rfl,b,2,_,_,rfl,h9.blk,by simp,by omega,by omega,by omega,fun dw dM nr=>?_⟩;have ed:((d+1:Nat):Int)-1=d:=by omega
    rw[ed,fH (by omega) (by omega)]at nr;exact⟨(fT.weaken (bs':=[b]) fun _ h=>(by cases h)).trans dM fun x hx=>.inl hx,h9.kz dM nr h9.lt⟩
   have fin:∀{j:Nat} {c a:Int} {dw:av},ay [b] w8 dw->Rr F ts dw b l j c a (d:Int)->w9.heap.size<=dw.heap.size->(∀op sl eM,ay [] dw eM->aF eM dw.heap.size 51 (j6 vk vn vs vo vl va)->op=(if(tk ts i).t=[33]then(15:Int)else 14)->sl=(⟨some ⟨dw.heap.size,0,none⟩,1,1⟩:Sl)->∀eU,ay [k0] eM eU->oE F ts w eU b l d R (ah #[O U 4,O U 0,ab (ao #[]),O U op,sl.v,O U (tk ts i).a]))->
     ∃J1:Int->av->Prop,(∀i10:Int,∀dJ:av,J1 i10 dJ->∃l2:Sl,∃eM:av,((au 49 1 #[.mk 0 (ah #[O U vk,O U vn,ab (T vs),O U vo,vl.v,O U va])]).run aq dJ)=(.ok l2.v eM)/\
      bS [k0,k1,k2] dJ eM/\∀eU:av,ay [k0] eM eU->oE F ts w eU b l d R (ah #[O U 4,O U 0,ab (ao #[]),O U i10,l2.v,O U (tk ts i).a]))/\
     (sg ts i [33]=true->J1 15 dw)/\(sg ts i [33]=false->J1 14 dw):=fun{j c a dw} dM uS H0 QJ=>by
    refine⟨fun op dJ=>op=(if(tk ts i).t=[33]then(15:Int)else 14)/\dJ=dw,?_,fun e=>⟨?_,rfl⟩,fun e=>⟨?_,rfl⟩⟩
    ·rintro op dJ ⟨oB,rfl⟩;obtain⟨eM,GB,DM,fb⟩:=zG dJ [j6 vk vn vs vo vl va] (by simp) (by simp) (by simp) (parts:=#[(0,ah (j6 vk vn vs vo vl va).toArray)]) rfl;rw[cJ,Md,bL]at DM;exact⟨_,eM,GB,fb.same (by simp;omega),fun eU dL=>QJ op _ eM fb DM oB rfl eU dL⟩
    ·have:(tk ts i).t=[33]:=by
      simp only[sg,aP,bA]at e;exact e.2
     rw[if_pos this]
    ·have:(tk ts i).t≠[33]:=fun ht=>by
      rcases cq _ _▸hs with e' | e'
      ·simp only[sg,aP,bA]at e';rw[e'.2]at ht;exact absurd ht (by decide)
      ·rw[e]at e';cases e'
     rw[if_neg this]
   cases hN:One (i+1)with
   | error e=>
    rw[hN]at hD hR;obtain⟨fj,a1,a2,j,a3⟩:=hD;obtain⟨i9,q1,k3,k4,zz,k5,q2,q3,q4,q5,q6,q7,q8⟩:=key a3;refine⟨i9,q1,k3,k4,zz,k5,q2,q3,q4,q5,q6,q7,fun dw dM nr=>?_⟩;obtain⟨r1,r2⟩:=q8 dw dM nr;refine fin r1 r2 dM.size fun op sl eM fb DM oB sI eU dL=>⟨xX ((hOD.trans r1 fun x hx=>.inl hx).cd fb) dL,?_⟩
    rw[<-hR];exact⟨a1,⟨_,_,[],_,_,_,rfl⟩,j,(r2.only fb).own dL (by simp;omega)⟩
   | ok q=>
    obtain⟨x,j⟩:=q;rw[hN]at hD hR;obtain⟨fj,cs,a1,a2,a3⟩:=hD;have jY:(j6 vk vn vs vo vl va)=cs:=bK Array.toList (Value.agg.inj a1);obtain⟨i9,q1,k3,k4,zz,k5,q2,q3,q4,q5,q6,q7,q8⟩:=key a3;refine⟨i9,q1,k3,k4,zz,k5,q2,q3,q4,q5,q6,q7,fun dw dM nr=>?_⟩;obtain⟨r1,r2⟩:=q8 dw dM nr;have H0:=dM.size;refine fin r1 r2 H0 fun op sl eM fb DM oB sI eU dL=>⟨xX ((hOD.trans r1 fun x hx=>.inl hx).cd fb) dL,?_⟩
    have z12:=fb.size;have Mz:=dL.size;rw[<-hR,oB,sI];refine⟨_,rfl,?_,(r2.only fb).own dL (by simp;omega)⟩;have Qb:RX eU w6.heap.size w8.heap.size x cs:=((a2.only r1 fun k hk=>.inl (by simp only[aO]at hk;omega)).only fb (by simp)).only dL fun k hk=>.inl (by simp only[aO]at hk;omega);have sL:aF eU dw.heap.size 51 cs:=by
     rw[<-jY];exact dL.blk DM fun hm=>by simp only[aO]at hm;omega
    exact .one w.heap.size w8.heap.size dw.heap.size _ _ _ _ _ _ x cs (Qb.wide (by omega) (aW _)) (by omega) (by omega) (by have:=sL.lt;omega) id sL
 ·rw[if_neg (by rw[hs];decide),if_pos hp]at hR;have hn:=h.en.next h.lt (tK hp);refine(Ka hd h4 hn).mono ?_;rintro _ fM ⟨rfl,eV,TL⟩;have Xu:=eV.size;have Vh:=B3.trans eV fun x hx=>.inl hx;refine⟨_,rfl,sm (by omega) eV,fun hc iy kB=>⟨xX Vh kB,?_⟩,fun hc=>?_⟩
  ·have hc:d=20:=by simpa using hc
   rw[if_pos hc]at TL;rw[<-hR,iC,if_pos hc];exact⟨(by decide:(21:Int)≠0),WE,i,TL.own kB (by simp;omega)⟩
  ·have hc:d≠20:=by simpa using hc
   rw[if_neg hc]at TL;rw[iC,if_neg hc]at hR;refine(hE hc fM (i+1) TL).mono ?_;rintro _ jK ⟨v,rfl,hD⟩;obtain⟨vk,vn,vs,vo,vl,va,rfl⟩:=hD.oy;have z16:=hD.1.size;have aey:=Vh.trans hD.1 fun x hx=>.inl hx;refine⟨_,_,_,_,_,_,rfl,sm (by omega) hD.1,fun k6 iZ U3 aeo jt=>?_⟩;have z17:=jt.size;have after:∀{j:Nat} {c a:Int} {jM:av},ay [b] iZ jM->Rr F ts jM b l j c a ((d+1:Nat):Int)->(∀jL,ay [b,k0] jM jL->ay [b] w jL->Rr F ts jL b l j c a (d:Int)->oE F ts w jL b l d R (ah (j6 vk vn vs vo vl va).toArray))->
     ∃i15:Int,aB jM (Addr.add ⟨b,0,none⟩ 2) [O U i15]/\∃k7 k8:Nat,∃z1:aI,∃k9:Nat,(Addr.add ⟨b,0,none⟩ 2)=⟨k7,k8,none⟩/\aF jM k7 k9 z1/\(k8+1)<=z1.length/\k0≠k7/\k1≠k7/\k6≠k7/\
     ∀kf:av,ay [k7] jM kf->aF kf k7 k9 (ca z1 k8 [O U (ar U (i15-1))])->∀jL:av,ay [k0] kf jL->oE F ts w jL b l d R (ah #[O U vk,O U vn,ab (T vs),O U vo,vl.v,O U va]):=fun{j c a jM} kb TA QJ=>by
    refine⟨((d+1:Nat):Int),Blk.ec TA.blk 2 rfl,b,2,_,_,rfl,TA.blk,by simp,by omega,by omega,by omega,fun kf lO Qw jL lJ=>?_⟩;have ed:((d+1:Nat):Int)-1=d:=by omega
    rw[ed,fH (by omega) (by omega)]at Qw;have h19:Rr F ts kf b l j c a (d:Int):=TA.kz lO Qw TA.lt;exact QJ jL ((lO.weaken (bs':=[b,k0]) fun x hx=>.inl (by simp only[aO]at hx;simp[hx])).trans lJ fun x hx=>.inl (by simp only[aO]at hx;simp[hx])) (xX (((aey.cd jt).trans kb fun x hx=>.inl hx).trans lO fun x hx=>.inl hx) lJ) (h19.own lJ (by simp;omega))
   obtain⟨kc,hD⟩:=hD;cases hN:E0 (i+1)with
   | error e=>
    rw[hN]at hD hR;obtain⟨a1,a2,j,a3⟩:=hD;refine(yC (a3.only jt) [41]).mono ?_;rintro _ jM ⟨rfl,kb,Gm⟩;rw[if_neg (by simp[a1]),if_neg a1,if_neg a1]at Gm;refine⟨rfl,kb.same (by simp;omega),after kb Gm fun jL lJ hOw yF=>⟨hOw,?_⟩⟩;rw[<-hR];exact⟨a1,⟨_,_,_,_,_,_,rfl⟩,j,yF⟩
   | ok q=>
    obtain⟨x,j⟩:=q;rw[hN]at hD hR;obtain⟨cs,a1,a2,a3⟩:=hD;refine(yC (a3.only jt) [41]).mono ?_;rintro _ jM ⟨rfl,kb,Gm⟩;rw[show((0:Int)==0)=true from rfl,bT,if_pos rfl,if_pos rfl]at Gm;refine⟨rfl,kb.same (by simp;omega),?_⟩;have z18:=kb.size;by_cases TM:sg ts j [41]=true
    ·rw[if_pos TM]at Gm;refine after kb Gm fun jL lJ hOw yF=>⟨hOw,?_⟩
     rw[<-hR];simp only[qJ,TM,if_true];have z20:=lJ.size;exact⟨cs,a1,(((a2.only jt (by simp)).only kb fun k hk=>.inl (by simp only[aO]at hk;omega)).only lJ fun k hk=>.inl (by simp only[aY,bf,cb]at hk;omega)).wide (by omega) (by omega),yF⟩
    ·rw[if_neg TM]at Gm;refine after kb Gm fun jL lJ hOw yF=>⟨hOw,?_⟩
     rw[<-hR];simp only[qJ,TM,jb];exact⟨fk,⟨_,_,_,_,_,_,rfl⟩,j,yF⟩
 ·have hi:(tk ts i).k=3:=by simpa using hi
  rw[if_neg (by rw[hs];decide),if_neg (by rw[hp];decide),if_pos hi]at hR;have hn:=h.en.next h.lt (by rw[hi];decide);refine⟨(i:Int),Blk.ec h4.blk 1 rfl,b,1,_,_,rfl,h4.blk,by simp,by omega,by omega,fun mX ja QL qS ry=>⟨xX (B3.trans ja fun x hx=>.inl hx) ry,?_⟩⟩;rw[fH (by omega) (by omega)]at QL;have X5:Rr F ts mX b l (i+1) 0 0 (d:Int):=h4.kz ja QL hn;rw[<-hR];exact⟨_,rfl,.leaf ..,X5.own ry (by simp;omega)⟩
 ·have hi:¬(tk ts i).k=3:=by simpa using hi
  have hv:(tk ts i).k=1:=by simpa using hv
  rw[if_neg (by rw[hs];decide),if_neg (by rw[hp];decide),if_neg hi,if_pos hv]at hR;have hn:=h.en.next h.lt (by rw[hv];decide);refine⟨(i:Int),Blk.ec h4.blk 1 rfl,b,1,_,_,rfl,h4.blk,by simp,by omega,by omega,fun mX ja QL qS ry=>⟨xX (B3.trans ja fun x hx=>.inl hx) ry,?_⟩⟩;rw[fH (by omega) (by omega)]at QL;have X5:Rr F ts mX b l (i+1) 0 0 (d:Int):=h4.kz ja QL hn;rw[<-hR];exact⟨_,rfl,.leaf ..,X5.own ry (by simp;omega)⟩
 ·have hi:¬(tk ts i).k=3:=by simpa using hi
  have hv:¬(tk ts i).k=1:=by simpa using hv
  rw[show(ao #[105,110])=T [105,110]from rfl,iO];rw[if_neg (by rw[hs];decide),if_neg (by rw[hp];decide),if_neg hi,if_neg hv]at hR;refine⟨fun hw=>?_,fun hw=>(Am h4).mono ?_⟩
  ·have hw:(tk ts i).k=2/\(tk ts i).t=[105,110]:=by simpa using hw
   rw[if_pos hw]at hR;have hn:=h.en.next h.lt (by rw[hw.1];decide);refine(ab8 h4 hn).mono ?_;rintro _ po ⟨v,rfl,hD⟩;obtain⟨vk,vn,vs,vo,vl,va,rfl⟩:=hD.oy;refine⟨_,_,_,_,_,_,rfl,sm (by omega) hD.1,fun qT jF=>?_⟩;rw[<-hR];exact hD.Ar B3 jF (by simp;omega)
  ·rw[if_neg (fun hh=>by rw[hh.1,hh.2]at hw;simp at hw)]at hR;rintro _ tW ⟨rfl,qm,aeA⟩;rw[if_pos rfl,if_pos rfl]at aeA;refine⟨rfl,sm (by omega) qm,fun wY tY=>⟨xX (B3.trans qm fun x hx=>.inl hx) tY,?_⟩⟩;rw[<-hR];exact⟨fk,WE,i,aeA.own tY (by simp;omega)⟩
def At6(F:aJ)(ts:List Tk)(w:av)(b:Nat)(l:Sl)(d:Nat)(N:aJ)(E:Nat->Pr)(k:Int)(R:Pr)(nv:Nat)(op:Int)(cs:aI)(w':av):Prop:=ay [b] w w'/\
 ((∃(c a:Int) (j:Nat),op=0/\c≠0/\R=.error (c,a)/\Rr F ts w' b l j c a (d:Int))∨
  (∃(x:Ex) (j:Nat),op=jf ts k j/\RXN w' N w.heap.size w'.heap.size x cs/\Rr F ts w' b l j 0 0 (d:Int)/\R=ir ts E k nv x j/\ts.length-j<=nv))
theorem LG{f k d:Nat}(U3:k<6)(h:Rr F ts w b l i 0 0 (d:Int))
  (hE:∀w i,Rr F ts w b l i 0 0 (d:Int)->az aq 300 #[ae (some ⟨b,0,none⟩),O U ((k+1:Nat):Int)] w fun e w'=>∃v,e=ak v/\oE F ts w w' b l d (cQ ts f (k+1) d i) v):
  az aq 300 #[ae (some ⟨b,0,none⟩),O U (k:Int)] w fun e w'=>∃v,e=ak v/\oE F ts w w' b l d (cQ ts (f+1) k d i) v:=by
 have eR:cQ ts (f+1) k d i=zA (cQ ts f (k+1) d i) fun x j=>ir ts (cQ ts f (k+1) d) (k:Int) (ts.length-j) x j:=by rw[cQ,if_neg (by omega)]
 rw[eR];have P7:∀i x j,cQ ts f (k+1) d i=.ok (x,j)->i<j:=fun i x j h=>jO f _ _ i h;generalize hgE:cQ ts f (k+1) d=E at*
 generalize hR:(zA (E i) fun x j=>ir ts E (k:Int) (ts.length-j) x j)=R;refine abr ⟨b,0,none⟩ _ (fun v w'=>oE F ts w w' b l d R v) w ?_;have ek:ar U ((k:Int)+1)=((k+1:Nat):Int):=by rw[fH (by omega) (by omega)];rfl
 refine⟨fun hc=>absurd (by simpa using hc) (by omega:¬(k:Int)=6),fun _ k1 w3 kg ju dh=>?_⟩;have hb:=h.lb;rw[ek];refine(hE w3 i (h.only dh)).mono ?_;rintro _ w4 ⟨v,rfl,hD⟩;obtain⟨vk,vn,vs,vo,vl,va,rfl⟩:=hD.oy;have z3:=dh.size;have z4:=hD.1.size;refine⟨_,_,_,_,_,_,rfl,hD.1.same (by simp;omega),fun k2 w5 oY oG eh=>?_⟩;have z5:=eh.size;have AA:ay [b] w w5:=((dh.weaken (bs':=[b]) fun _ h=>(by cases h)).trans hD.1 fun x hx=>.inl hx).cd eh;have sm:∀{u u':av},w5.heap.size<=u.heap.size->ay [b] u u'->bS [k1,k2] u u':=fun hu hO=>hO.same (by intro x hx;simp only[aY,bf,cb]at hx⊢;omega);have P3:=h.big;have lj:∃(j:Nat) (c a:Int),Rr F ts w4 b l j c a (d:Int)/\∀w6,ay [] w4 w6->∃nv,At6 F ts w b l d (fun q=>q=k1∨q=k2) E (k:Int) R nv (if c=0 then jf ts (k:Int) j else 0) (j6 vk vn vs vo vl va) w6:=by
  obtain⟨dI,DF⟩:=hD;have pr:ay [b] w w4:=(dh.weaken (bs':=[b]) fun _ h=>(by cases h)).trans dI fun x hx=>.inl hx;cases BU:E i with
  | error e=>
   rw[BU]at DF hR;obtain⟨c,a⟩:=e;obtain⟨a1,a2,j,a3⟩:=DF;exact⟨j,c,a,a3,fun w6 dR=>⟨0,pr.cd dR,.inl ⟨c,a,j,if_neg a1,a1,hR.symm,a3.only dR⟩⟩⟩
  | ok q=>
   obtain⟨x,j⟩:=q;rw[BU]at DF hR;obtain⟨cs,a1,a2,a3⟩:=DF;have jY:(j6 vk vn vs vo vl va)=cs:=bK Array.toList (Value.agg.inj a1);rw[jY];exact⟨j,0,0,a3,fun w6 dR=>⟨ts.length-j,pr.cd dR,.inr ⟨x,j,if_pos rfl,((a2.only dR (by simp)).BS fun q h1 h2 _=>(by omega)).wide z3 dR.size,a3.only dR,hR.symm,aW _⟩⟩⟩
 obtain⟨j0,c0,a0,hR4,lj⟩:=lj;refine(Pc (hR4.only eh) U3).mono ?_;rintro _ w6 ⟨rfl,dR⟩;have z6:=dR.size;obtain⟨nv0,hA0⟩:=lj w6 (eh.cd dR);refine⟨_,rfl,dR.same (by simp;omega),fun nv op i10 i11 s2 i12 l2 i13 w'=>w5.heap.size<=w'.heap.size/\At6 F ts w b l d (fun q=>q=k1∨q=k2) E (k:Int) R nv op [O U i10,O U i11,ab s2,O U i12,l2.v,O U i13] w',nv0,⟨z6,hA0⟩,?_⟩;rintro nv op i10 i11 s2 i12 l2 i13 w7 ⟨z7,fN,hA⟩;refine⟨fun oB=>?_,fun oB fM eV=>?_⟩
 ·have oB:op≠0:=by simpa using oB
  rcases hA with⟨_,_,_,e,_⟩ | ⟨x,j,rfl,hX,AY,Az,hnv⟩
  ·exact absurd e oB
  have hn:=AY.en.next AY.lt (nX _ _ oB);obtain⟨g,rfl⟩:∃g,nv=g+1:=⟨nv-1,by omega⟩
  rw[ir,if_neg oB]at Az;refine⟨(j:Int),Blk.ec AY.blk 1 rfl,b,1,_,_,rfl,AY.blk,by simp,by omega,by omega,fun w8 fj uR=>?_⟩;rw[fH (by omega) (by omega)]at uR;have h8:Rr F ts w8 b l (j+1) 0 0 (d:Int):=AY.kz fj uR hn;have z8:=fj.size;refine(hE w8 (j+1) h8).mono ?_;rintro _ w9 ⟨v,rfl,P8⟩;obtain⟨yk,yn,ys,yo,yl,ya,rfl⟩:=P8.oy;have z9:=P8.1.size;refine⟨_,_,_,_,_,_,rfl,sm (by omega) P8.1,fun k8 dw hk8 Tv dM=>?_⟩;have H0:=dM.size;obtain⟨dJ,pE,A2,dY⟩:=zG dw [[O U i10,O U i11,ab s2,O U i12,l2.v,O U i13],j6 yk yn ys yo yl ya] (by simp) (by simp) (by simp) (parts:=#[(0,ah #[O U i10,O U i11,ab s2,O U i12,l2.v,O U i13]),(1,ah (j6 yk yn ys yo yl ya).toArray)]) rfl;have Gd:=dY.size;refine⟨⟨some ⟨dw.heap.size,0,none⟩,2,2⟩,dJ,pE,dY.same (by simp;omega),fun eM fb=>?_⟩;have z12:=fb.size;have Gf:ay [b] w eM:=((((fN.trans fj fun x hx=>.inl hx).trans P8.1 fun x hx=>.inl hx).cd dM).cd dY).new fb (by omega);have sO:ay [k2] w9 eM:=((dM.cd dY).weaken (bs':=[k2]) fun _ h=>(by cases h)).trans fb fun x hx=>.inl hx;have H9:∃(j':Nat) (c a:Int),Rr F ts w9 b l j' c a (d:Int)/\∀eU,ay [] eM eU->∃nv,nv<g+1/\At6 F ts w b l d (fun q=>q=k1∨q=k2) E (k:Int) R nv (if c=0 then jf ts (k:Int) j' else 0) (j6 5 0 [] (jf ts (k:Int) j) ⟨some ⟨dw.heap.size,0,none⟩,2,2⟩ i13) eU:=by
   obtain⟨fT,DF⟩:=P8;cases BU:E (j+1)with
   | error e=>
    rw[BU]at DF Az;obtain⟨c,a⟩:=e;obtain⟨a1,a2,j',a3⟩:=DF;exact⟨j',c,a,a3,fun eU dL=>⟨0,by omega,Gf.cd dL,.inl ⟨c,a,j',if_neg a1,a1,Az,(a3.own sO (by simp;omega)).only dL⟩⟩⟩
   | ok q=>
    obtain⟨y,j'⟩:=q;rw[BU]at DF Az;obtain⟨cs,a1,a2,a3⟩:=DF;have jY:(j6 yk yn ys yo yl ya)=cs:=bK Array.toList (Value.agg.inj a1);have Zm:=P7 _ _ _ BU;obtain⟨xl,HT,_⟩:=hX.cells;have hxa:i13=x.a:=by
     simp only[j6,rB,Value.int.injEq]at HT;exact HT.2.2.2.2.2.1.2
    refine⟨j',0,0,a3,fun eU dL=>⟨g,by omega,Gf.cd dL,.inr ⟨.mk 5 0 [] (jf ts (k:Int) j) [x,y] x.a,j',if_pos rfl,?_,(a3.own sO (by simp;omega)).only dL,Az,?_⟩⟩⟩
    ·have Mz:=dL.size;have P9:ay [b,k2] w7 eU:=(((((fj.weaken (bs':=[b,k2]) fun x hx=>.inl (by simp only[aO]at hx;simp[hx])).trans fT fun x hx=>.inl (by simp only[aO]at hx;simp[hx])).trans sO fun x hx=>.inl (by simp only[aO]at hx;simp[hx])).cd dL))
     have Qa:ay [k2] w9 eU:=sO.cd dL;have sL:aF eU dw.heap.size 51 ([O U i10,O U i11,ab s2,O U i12,l2.v,O U i13]++cs):=by
      have:=dL.blk (fb.blk A2 (by simp;omega)) (by simp);rw[<-jY];simpa using this
     have Qb:RXN eU (fun q=>q=k1∨q=k2) w.heap.size w7.heap.size x [O U i10,O U i11,ab s2,O U i12,l2.v,O U i13]:=by
      exact hX.only P9 fun q hq=>by
       simp only[aY,bf,cb]at hq;rcases hq with rfl | rfl
       ·exact .inl hb
       ·exact .inr (.inr (.inr rfl))
     have Xv:RXN eU (fun q=>q=k1∨q=k2) w8.heap.size w9.heap.size y cs:=(a2.only Qa fun q hq=>.inl (by simp only[aO]at hq;omega)).BS fun q h1 h2 _=>(by omega)
     rw[hxa];exact .two w.heap.size w7.heap.size w8.heap.size w9.heap.size dw.heap.size _ _ _ _ _ _ x y _ cs Qb z8 Xv (by omega) (by omega) (by omega) (by omega) (by have:=sL.lt;omega) (by omega) sL
    ·omega
  obtain⟨j',c',a',hR9,H9⟩:=H9;refine(Pc (hR9.own sO (by simp;omega)) U3).mono ?_;rintro _ eU ⟨rfl,dL⟩;obtain⟨nv',Xw,Zn⟩:=H9 eU dL;exact⟨_,rfl,dL.same (by simp;omega),nv',Xw,by have:=dL.size;omega,Zn⟩
 ·have oB:op=0:=by simpa using oB
  refine⟨fN.new eV (by omega),?_⟩;rcases hA with⟨c,a,j,_,hc,Az,AY⟩ | ⟨x,j,Q6,hX,AY,Az,hnv⟩
  ·rw[Az];exact⟨hc,⟨i10,i11,s2.data.toList,i12,l2,i13,by unfold j6;rw[<-wl]⟩,j,AY.own eV (by simp;omega)⟩
  ·rw[Az,Bl (by rw[<-Q6,oB])];exact⟨_,rfl,((hX.only eV fun q hq=>.inr (.inr (.inl (by simpa using hq)))).BS fun _ _ _ _ h=>h).wide (aW _) eV.size,AY.own eV (by simp;omega)⟩
theorem BK : ∀ f : Nat, (∀ (k d i : Nat) (w : av), k <= 6 -> d <= 20 -> fx k d <= f -> Rr F ts w b l i 0 0 (d : Int) ->
      az aq 300 #[ae (some ⟨b, 0, none⟩), O U (k : Int)] w fun e w' => ∃ v, e = ak v /\ oE F ts w w' b l d (cQ ts f k d i) v) /\
    (∀ (d i : Nat) (w : av), d <= 20 -> fx 6 d <= f -> Rr F ts w b l i 0 0 (d : Int) ->
      az aq 311 #[ae (some ⟨b, 0, none⟩)] w fun e w' => ∃ v, e = ak v /\ oE F ts w w' b l d (cQ ts f 6 d i) v)
  | 0 => ⟨fun k d i w hk hd hn => by unfold fx at hn; omega, fun d i w hd hn => by unfold fx at hn; omega⟩
  | f + 1 => by
    obtain ⟨A0, DY⟩ := BK f
    have one : ∀ (d i : Nat) (w : av), d <= 20 -> fx 6 d <= f + 1 -> Rr F ts w b l i 0 0 (d : Int) ->
      az aq 311 #[ae (some ⟨b, 0, none⟩)] w fun e w' => ∃ v, e = ak v /\ oE F ts w w' b l d (cQ ts (f + 1) 6 d i) v := fun d i w hd hn h => by
      unfold fx at hn
      exact WG hd h (fun yF w i h => A0 0 (d + 1) i w (by omega) (by omega) (by unfold fx; omega) h) (fun yF w i h => DY (d + 1) i w (by omega) (by unfold fx; omega) h)
    refine ⟨fun k d i w hk hd hn h => ?_, one⟩
    by_cases h6 : k = 6
    · subst h6
      refine abr ⟨b, 0, none⟩ _ (fun v w' => oE F ts w w' b l d (cQ ts (f + 1) 6 d i) v) w ?_
      refine ⟨fun _ k0 w0 gD dQ ch => ?_, fun hc => absurd hc (by decide)⟩
      refine (one d i w0 hd hn (h.only ch)).mono ?_
      rintro _ w1 ⟨v, rfl, hD⟩
      obtain ⟨vk, vn, vs, vo, vl, va, rfl⟩ := hD.oy
      have hb := h.lb
      exact ⟨_, _, _, _, _, _, rfl, hD.1.same (by simp; omega), fun w2 cG => hD.Ar (ch.weaken fun _ h => (by cases h)) cG (by simp; omega)⟩
    · unfold fx at hn
      exact LG (by omega) h fun w i h => A0 (k + 1) d i w (by omega) hd (by unfold fx; omega) h
end
theorem Pe{w:av}{F:aJ}{l:Sl}{ts:List Tk}(h:aA Bj 4 w F l ts)(a:Int)(ha:wa a):az aq 277 #[l.v,O U a] w fun e w'=>
  ∃cs,e=ak (ai #[ah cs.toArray,O U (bU ts a).2.1,ah #[O U (bU ts a).2.2.1,O U (bU ts a).2.2.2]])/\RX w' w.heap.size w'.heap.size (bU ts a).1 cs/\((bU ts a).2.2.1=0->0<=(bU ts a).2.1/\(bU ts a).2.1<ts.length)/\ay [] w w':=by
 refine(agY l a (fun v w'=>∃cs,v=(ai #[ah cs.toArray,O U (bU ts a).2.1,ah #[O U (bU ts a).2.2.1,O U (bU ts a).2.2.2]])/\RX w' w.heap.size w'.heap.size (bU ts a).1 cs/\((bU ts a).2.2.1=0->0<=(bU ts a).2.1/\(bU ts a).2.1<ts.length)/\ay [] w w') w ?_).mono (by
  rintro e w' ⟨v,rfl,cs,rfl,h⟩;exact⟨cs,rfl,h⟩)
 have ey:=h.len;have nS:=h.cap;have pq:=h.big;have bad:¬(0<=a/\a<ts.length/\jP ts+1=ts.length)->∀w0,ay [] w w0->∃cs,(Value.tuple #[ah #[O U 0,O U 0,ab (ao #[]),O U 0,Sl.nil.v,O U 0],O U 0,ah #[O U 1,O U (-1)]])=(ai #[ah cs.toArray,O U (bU ts a).2.1,ah #[O U (bU ts a).2.2.1,O U (bU ts a).2.2.2]])/\RX w0 w.heap.size w0.heap.size (bU ts a).1 cs/\((bU ts a).2.2.1=0->0<=(bU ts a).2.1/\(bU ts a).2.1<ts.length)/\ay [] w w0:=fun hc w0 hO=>by
  rw[bU,if_neg hc];exact⟨_,rfl,Si _ _ _,fun h=>(by cases h),hO⟩
 refine⟨fun hc k0 k1 w0 _ _ _ _ ch=>bad (fun hh=>?_) w0 ch,fun hc k2 k3 w1 oY oG Ky Ay cn=>?_⟩
 ·simp only[cq,bA]at hc;omega
 have hc:0<=a/\a<ts.length:=by
  simp only[eK,fU]at hc;omega
 have z1:=cn.size;have own:∀{u u':av},ay [] w u->ay [k3,k2] u u'->ay [] w u':=fun h1 h2=>h1.trans h2 fun x hx=>.inr (by simp only[aY,bf,cb]at hx;omega);refine⟨fun nv i _ _ _ _ _ _ _ _ w'=>∃n:Nat,n<=ts.length/\i=(n:Int)/\nv=ts.length-n/\(∀j,j<n->((tk ts j).k=5↔j+1=ts.length))/\ay [] w w'/\w1.heap.size<=w'.heap.size,ts.length,⟨0,bd _,rfl,rfl,fun j hj=>absurd hj (QU j),cn,aW _⟩,?_⟩;rintro nv _ _ _ _ _ _ _ _ _ w2 ⟨n,hn,rfl,rfl,hE,cG,z2⟩;have h2:=SliceF.only gI (by decide) h cG (by simp);refine⟨fun bQ=>?_,fun lR k7 w4 hk7 aeg dI qs=>?_⟩
 ·have bQ:(n:Int)<(l.n:Int):=aQ bQ;obtain⟨ad,x,cs,g1,g2,g3,g4,g5,g6⟩:=h2.get (ba n) bQ;rw[aX,zy (by omega)]at g2;injection g2 with g2;subst g2;unfold Bj at g6;subst g6;have e:((tk ts n).k==5)=decide ((tk ts n).k=5):=by rw[bI];simp
  have e2:((n:Int)==ar U ((l.n:Int)-1))=decide (n+1=ts.length):=by
   rw[fH (by omega) (by omega),bI];simp only[dz,bA];omega
  refine⟨ad,g1,_,g5.ec 0 _ rfl,?_⟩;dsimp only;rw[e,e2];refine⟨fun hm w3 dh=>bad (fun hh=>?_) w3 (own cG dh),fun hm=>⟨ts.length-(n+1),by omega,n+1,by omega,by rw[fH (by omega) (by omega)];rfl,rfl,fun j hj=>?_,cG,z2⟩⟩
  ·have:=E3 hh.2.2 n (by omega);rw[Mc.2 this,Mg]at hm;cases hm
  ·rcases kC j n with hjn | hjn
   ·exact hE j hjn
   ·have:j=n:=by omega
    subst this;have hm:decide ((tk ts j).k=5)=decide (j+1=ts.length):=by simpa using hm
    exact Mc.1 hm
 ·have lR:¬(n:Int)<(l.n:Int):=aU lR;have:n=ts.length:=by omega
  subst this;have TB:pb ts:=hE;have hcc:0<=a/\a<ts.length/\jP ts+1=ts.length:=⟨hc.1,hc.2,NK TB (by omega)⟩
  rw[bU,if_pos hcc];obtain⟨i,rfl⟩:∃i:Nat,a=(i:Int):=⟨a.toNat,by omega⟩
  have z4:=dI.size;have pr:=cG.cd dI;have hR:Rr (fun k=>F k/\k<w.heap.size) ts w4 k7 l i 0 0 ((0:Nat):Int):=⟨qs,SliceF.only gI (by decide) (h.inHeap gI (by decide)) pr (by simp),fun k hk=>by have:=hk.2;have:=cG.size;omega,TB,by omega⟩
  refine((BK (fx 0 0)).1 0 0 i w4 (by decide) (by decide) (aW _) hR).mono ?_;rintro _ w5 ⟨v,rfl,hD⟩;obtain⟨vk,vn,vs,vo,vl,va,rfl⟩:=hD.oy;have z5:=hD.1.size;obtain⟨eh,hD⟩:=hD;rw[aX];have W4:pc ts i=cQ ts (fx 0 0) 0 0 i:=rfl;rw[W4];have z02:=cG.size;have AA:ay [] w w5:=pr.trans eh fun x hx=>.inr (by simp only[aO]at hx;omega);refine⟨_,_,_,_,_,_,rfl,eh.same (by simp;omega),?_⟩;cases hEx:cQ ts (fx 0 0) 0 0 i with
  | error e=>
   rw[hEx]at hD;obtain⟨c,p⟩:=e;obtain⟨a1,a2,j,a3⟩:=hD;refine⟨_,_,_,_,_,a3.blk,fun _ k8 w6 _ _ dR MA n1 n2 n3 n4 n5 n6=>⟨fun k=>k=k7,rfl,fun e=>n2 e,fun e=>n4 e,fun w7 fN _=>⟨_,rfl,Si _ _ _,fun h=>absurd h a1,own (AA.cd dR) fN⟩⟩,fun hcz=>absurd (by simpa using hcz) a1⟩
  | ok q=>
   rw[hEx]at hD;obtain⟨x,j⟩:=q;obtain⟨cs,a1,a2,a3⟩:=hD;have jY:(j6 vk vn vs vo vl va)=cs:=bK Array.toList (Value.agg.inj a1);refine⟨_,_,_,_,_,a3.blk,fun hcz=>(by simp at hcz),fun _ k9 w8 hk9 aem fj uR n1 n2 n3 n4 n5 n6=>⟨fun k=>k=k7,rfl,fun e=>n2 e,fun e=>n4 e,fun w9 fT _=>?_⟩⟩;have z8:=fj.size;have z9:=fT.size;refine⟨j6 vk vn vs vo vl va,rfl,?_,fun _=>⟨ba j,by have:=a3.lt;dsimp only;omega⟩,own (AA.cd fj) fT⟩;rw[jY];exact((a2.only fj (by simp)).only fT fun q hq=>.inl (by simp only[aY,bf,cb]at hq;omega)).wide (by omega) (by omega)
theorem wO(w:av)(c:UInt8):az aq 160 #[.int .u8 (c.toNat:Int)] w fun e w'=>e=ak (aj (eG c))/\ay [] w w':=by
 refine ret (agB _ _ _ ?_);refine⟨?_,Only.refl _ _⟩;congr 1;rw[bI];simp only[eG,aP,cq,bA,dz];omega
theorem FQ(w:av)(c:UInt8):az aq 220 #[.int .u8 (c.toNat:Int)] w fun e w'=>e=ak (aj (cN c))/\ay [] w w':=by
 refine ret (agF _ _ _ ?_);refine⟨?_,Only.refl _ _⟩;congr 1;rw[bI];simp only[cN,aP,bA];omega
theorem Pf(w:av):az aq 219 #[] w fun e w'=>∃s:Sl,e=ak s.v/\Own jB 1 9 w.heap.size w' (fun _=>True) s iA/\ay [] w w':=by
 refine(agD (fun v w'=>∃s:Sl,v=s.v/\Own jB 1 9 w.heap.size w' (fun _=>True) s iA/\ay [] w w') w ?_).mono (by
  rintro e w' ⟨v,rfl,s,rfl,h⟩;exact⟨s,rfl,h⟩)
 obtain⟨s,w',h1,h2,h3⟩:=jd w iA (n:=16) rfl rfl (by decide) (by decide);exact⟨s,w',h1,s,rfl,h2,h3⟩
theorem Kb(w:av)(m:aH):az aq 161 #[ab (T m)] w fun e w'=>e=ak (aj (iA.contains m))/\ay [] w w':=by
 refine ret (agC _ _ _ ?_);refine(Pf w).mono ?_;rintro _ w0 ⟨s,rfl,hs,ch⟩;have h:=qY hs;generalize iA=l at*
 have ey:=h.len;have pq:=h.big;have nS:=h.cap;refine⟨s,rfl,fun nv i w'=>∃n:Nat,n<=l.length/\i=(n:Int)/\nv=l.length-n/\(∀x,x∈l.take n->x≠m)/\w'=w0,l.length,⟨0,bd _,rfl,rfl,by simp,rfl⟩,?_⟩;rintro nv _ _ ⟨n,hn,rfl,rfl,hp,rfl⟩;refine⟨fun hc=>?_,fun hc=>?_⟩
 ·have bQ:(n:Int)<s.n:=aQ hc;obtain⟨ad,x,cs,g1,g2,g3,g4,g5,g6⟩:=h.get (ba n) bQ;rw[aX]at g2;unfold jB at g6;subst g6;refine⟨ad,g1,_,g5,?_⟩;dsimp only;rw[iO];refine⟨fun he=>⟨?_,ch⟩,fun he=>⟨l.length-(n+1),by omega,n+1,by omega,by rw[fH (by omega) (by omega)];rfl,rfl,?_,rfl⟩⟩
  ·have he:x=m:=aQ he;congr 1;symm;rw[ei,<-he];exact br g2
  ·intro y hy;rw[bB,g2]at hy;simp only[fi,cH,aO]at hy;rcases hy with hy | rfl
   ·exact hp y hy
   ·exact aU he
 ·have lR:¬((n:Int)<s.n):=aU hc;rw[bH (by omega)]at hp;refine⟨?_,ch⟩;congr 1;symm;rw[gr];intro hh;exact hp m (ei.1 hh) rfl
theorem HJ(w:av)(l:aH)(i:Nat)(hi:i<=l.length)(hl:l.length<4611686018427387903):
  az aq 162 #[ab (T l),O U (i:Int)] w fun e w'=>e=ak (O U (((l.drop i).takeWhile dV).length:Int))/\ay [] w w':=by
 refine ret (agE _ _ _ _ ?_);rw[bW];have wi:(l.drop i).length=l.length-i:=bX;refine⟨fun k w'=>k=(((l.drop i).takeWhile dV).length:Int)/\ay [] w w',fun k w' h=>⟨by rw[h.1],h.2⟩,fun nv k w'=>∃n:Nat,i+n<=l.length/\k=(n:Int)/\nv=l.length-(i+n)/\(∀x,x∈(l.drop i).take n->dV x=true)/\ay [] w w',l.length-i,⟨0,hi,rfl,rfl,by simp,Only.refl _ _⟩,?_⟩;rintro nv _ w1 ⟨n,hn,rfl,rfl,hp,cn⟩;rw[fH (x:=(i:Int)+n) (by omega) (by omega)];have ein:(i:Int)+n=((i+n:Nat):Int):=by omega
 rw[ein];refine⟨fun hc=>?_,fun hc=>⟨?_,cn⟩⟩
 ·have bQ:i+n<l.length:=by have:=aQ hc;omega
  have hx:l[i+n]? =some l[i+n]:=bG bQ;generalize l[i+n]=x at hx;have DH:(l.drop i)[n]? =some x:=by rw[fS,hx]
  have hg:(T l)[Int.toNat ((i+n:Nat):Int)]? =some x:=by rw[lq,aX,hx]
  refine⟨x,⟨ba _,hg⟩,(wO w1 x).mono ?_⟩;rintro _ w2 ⟨rfl,cG⟩;refine⟨_,rfl,x,⟨ba _,hg⟩,(FQ w2 x).mono ?_⟩;rintro _ w3 ⟨rfl,dh⟩;have hO:=cn.cd (cG.cd dh);have e:((!eG x)&&(!cN x))=!dV x:=by unfold dV;rw[Bool.not_or]
  refine⟨_,rfl,?_⟩;dsimp only;rw[e];refine⟨fun hw=>⟨?_,hO⟩,fun hw=>⟨l.length-(i+(n+1)),by omega,n+1,by omega,by rw[fH (by omega) (by omega)];rfl,rfl,fun y hy=>?_,hO⟩⟩
  ·rw[kU (by omega) hp fun y hy=>by
    rw[DH]at hy;injection hy with hy;subst hy;simpa using hw]
   rw[cP];omega
  ·rw[bB,DH]at hy;simp only[fi,cH,aO]at hy;rcases hy with hy | rfl
   ·exact hp y hy
   ·simpa using hw
 ·have lR:l.length<=i+n:=by have:=aU hc;omega
  rw[kU (by omega) hp fun y hy=>by
   have:=(bc.1 hy).1;omega]
  rw[cP];omega
theorem Ph(c:UInt8):(((((c.toNat:Int)==9)||((c.toNat:Int)==10))||((c.toNat:Int)==13))||((c.toNat:Int)==32))=mZ c:=by
 have h9:((c.toNat:Int)==9)=(c==9):=I3 (d:=9);have uS:((c.toNat:Int)==10)=(c==10):=I3 (d:=10);have xb:((c.toNat:Int)==13)=(c==13):=I3 (d:=13);have h32:((c.toNat:Int)==32)=(c==32):=I3 (d:=32);rw[h9,uS,xb,h32,bI];simp[mZ,or_assoc]
theorem BL(w:av)(l:aH)(i:Nat)(hi:i<=l.length)(hl:l.length<4611686018427387903):
  az aq 184 #[ab (T l),O U (i:Int)] w fun e w'=>e=ak (O U ((i+jq false (l.drop i):Nat):Int))/\ay [] w w':=by
 refine ret (agU _ _ _ _ ?_);rw[bW];refine⟨fun k w'=>k=((i+jq false (l.drop i):Nat):Int)/\w'=w,fun k w' h=>⟨by rw[h.1],by rw[h.2];exact Only.refl _ _⟩,fun nv k w'=>∃j:Nat,j<=l.length/\k=(j:Int)/\nv=l.length-j/\i+jq false (l.drop i)=j+jq false (l.drop j)/\w'=w,l.length-i,⟨i,hi,rfl,rfl,rfl,rfl⟩,?_⟩;rintro nv _ u ⟨j,hj,rfl,rfl,Tp,hu⟩;subst hu;refine⟨fun hc=>?_,fun hc=>⟨?_,rfl⟩⟩
 ·have bQ:j<l.length:=by have:=aQ hc;omega
  have hx:l[j]? =some l[j]:=bG bQ;generalize l[j]=x at hx;have hd:=mf hx;have e47:((x.toNat:Int)==47)=(x==47):=I3 (d:=47);rw[fH (x:=(j:Int)+1) (by omega) (by omega)];obtain⟨y,hy⟩:∃y:UInt8,j+1<l.length->l[j+1]? =some y:=by
   by_cases h:j+1<l.length
   ·exact⟨l[j+1],fun _=>bG h⟩
   ·exact⟨0,fun h'=>absurd h' h⟩
  have e2:((y.toNat:Int)==47)=(y==47):=I3 (d:=47);refine⟨x,⟨ba j,by rw[lq,aX,hx]⟩,y,fun h=>⟨by omega,?_⟩,?_⟩
  ·rw[aP]at h;have:=aQ h.2;rw[show(j:Int)+1=((j+1:Nat):Int) by omega,lq,aX];exact hy (by omega)
  rw[e47,e2,Ph];refine⟨fun hs=>?_,fun hs=>⟨fun hb=>⟨l.length-(j+1),by omega,j+1,by omega,rfl,rfl,?_,rfl⟩,fun hb=>⟨?_,rfl⟩⟩⟩
  ·simp only[aP,bA,dz]at hs;obtain⟨⟨rfl,h1⟩,rfl⟩:=hs;have h1:j+1<l.length:=by omega
   have Zl:=mf (hy h1);have ht:(l.drop j).take 2=[47,47]:=by rw[hd,Zl];rfl
   have hk:=Bi ht;have wi:(l.drop j).length=l.length-j:=bX;refine⟨fun nv k w'=>∃n:Nat,j+n<=l.length/\k=((j+n:Nat):Int)/\nv=l.length-(j+n)/\(∀x,x∈(l.drop j).take n->(x !=10)=true)/\w'=u,l.length-j,⟨0,hj,rfl,rfl,by simp,rfl⟩,?_⟩;rintro nv _ _ ⟨n,hn,rfl,rfl,hp,rfl⟩;obtain⟨z,hz⟩:∃z:UInt8,j+n<l.length->l[j+n]? =some z:=by
    by_cases h:j+n<l.length
    ·exact⟨l[j+n],fun _=>bG h⟩
    ·exact⟨0,fun h'=>absurd h' h⟩
   have Yi:((z.toNat:Int) !=10)=(z !=10):=by
    have:((z.toNat:Int)==10)=(z==10):=I3 (d:=10);unfold bne;rw[this]
   refine⟨z,fun h=>⟨ba _,by rw[lq,aX];exact hz (by have:=aQ h;omega)⟩,?_⟩;rw[Yi];refine⟨fun h=>?_,fun h=>?_⟩
   ·rw[aP]at h;have h1:=aQ h.1;have hzz:(l.drop j)[n]? =some z:=by rw[fS];exact hz (by omega)
    refine⟨l.length-(j+(n+1)),by omega,n+1,by omega,by rw[fH (by omega) (by omega)];omega,rfl,fun q hq=>?_,rfl⟩;rw[bB,hzz]at hq;simp only[fi,cH,aO]at hq;rcases hq with hq | rfl
    ·exact hp q hq
    ·exact h.2
   ·have hw:(l.drop j).takeWhile (· !=10)=(l.drop j).take n:=kU (by omega) hp fun q hq=>by
     have h1:=(bc.1 hq).1;rw[fS,hz (by omega)]at hq;injection hq with hq;subst hq;rw[bF (by omega),bT]at h;exact h
    have Zf:((l.drop j).takeWhile (· !=10)).length=n:=by rw[hw,cP];omega
    have Ts:0<n:=by
     rw[<-Zf,hd,da,if_pos (by decide),aR];omega
    rw[Zf,jc]at hk;exact⟨l.length-(j+n),by omega,j+n,hn,rfl,rfl,by rw[Tp,hk];omega,rfl⟩
  ·rw[Tp,hd,jq,if_pos hb];omega
  ·have hz:jq false (l.drop j)=0:=by
    rw[hd,jq,if_neg (by rw[hb];decide),if_neg];intro hh;simp only[aP,dz]at hh;obtain⟨rfl,hh⟩:=hh;have h1:j+1<l.length:=by
     cases hr:l.drop (j+1)with
     | nil=>rw[hr]at hh;simp at hh
     | cons a b=>
      have:=bK List.length hr;rw[bX,aR]at this;omega
    rw[mf (hy h1)]at hh;simp only[gx,aV]at hh;subst hh;rw[bF (by omega)]at hs;simp at hs
   rw[Tp,hz];rfl
 ·have lR:l.length<=j:=by have:=aU hc;omega
  rw[Tp,dy lR];rfl
def vQ:List (aH):=[[45,62],[60,61],[62,61],[61,61],[33,61],[38,38],[124,124]]
theorem Ao{c d:UInt8}{r:aH}:pS (c::d::r)=vQ.contains [c,d]:=by
 rw[bI];simp[pS,vQ];constructor
 ·rintro((⟨rfl,h⟩ | ⟨rfl,h⟩) | ⟨rfl,rfl⟩)
  ·rcases h with rfl | rfl | rfl | rfl<;>simp
  ·rcases h with rfl | rfl<;>simp
  ·simp
 ·rintro(⟨rfl,rfl⟩ | ⟨rfl,rfl⟩ | ⟨rfl,rfl⟩ | ⟨rfl,rfl⟩ | ⟨rfl,rfl⟩ | ⟨rfl,rfl⟩ | ⟨rfl,rfl⟩)<;>simp
theorem LH{m:aH}(h:pS m=true):iq m=2:=by unfold iq;rw[if_pos h]
theorem LI{c:UInt8}{r:aH}(h:pS (c::r)=false):iq (c::r)=if nc.contains c then 1 else 0:=by
 unfold iq;rw[if_neg (by rw[h];decide)]
theorem S2(w:av)(l:aH)(i:Nat)(hi:i<l.length)(hl:l.length<4611686018427387903):
  az aq 235 #[ab (T l),O U (i:Int)] w fun e w'=>e=ak (O U (iq (l.drop i):Int))/\ay [] w w':=by
 refine ret (agX _ _ _ _ ?_);rw[bW];obtain⟨s,w0,k1,k2,ch⟩:=jd w vQ (n:=7) (parts:=#[(0,ab (ao #[45,62])),(1,ab (ao #[60,61])),(2,ab (ao #[62,61])),(3,ab (ao #[61,61])),(4,ab (ao #[33,61])),(5,ab (ao #[38,38])),(6,ab (ao #[124,124]))]) rfl rfl (by decide) (by decide);have hs:=qY k2;have hx:l[i]? =some l[i]:=bG hi;generalize l[i]=c at hx;have hd:=mf hx;have wi:(l.drop i).length=l.length-i:=bX;have ey:=hs.len;rw[fH (x:=(i:Int)+2) (by omega) (by omega)];refine⟨s,w0,k1,fun nv k w'=>∃n:Nat,n<=vQ.length/\k=(n:Int)/\nv=vQ.length-n/\(2<=(l.drop i).length->∀x,x∈vQ.take n->x≠(l.drop i).take 2)/\ay [] w0 w',vQ.length,⟨0,bd _,rfl,rfl,by simp,Only.refl _ _⟩,?_⟩;rintro nv _ w1 ⟨n,hn,rfl,rfl,hp,cn⟩;refine⟨fun hc=>?_,fun hc=>?_⟩
 ·have bQ:(n:Int)<s.n:=aQ hc;obtain⟨ad,x,cs,g1,g2,g3,g4,g5,g6⟩:=(SliceF.only cZ (by decide) hs cn (by simp)).get (ba n) bQ;rw[aX]at g2;unfold jB at g6;subst g6;have hn7:vQ.length=7:=rfl;refine⟨i,i+2,fun h=>⟨rfl,by omega,by omega,by have:=aQ h;omega⟩,ad,fun _=>g1,_,fun _=>g5,?_⟩;have ex:(T l).extract i (i+2)=T ((l.drop i).take 2):=by rw[rI,show i+2-i=2 by omega]
  rw[ex,iO];refine⟨fun h w2 cG=>⟨?_,ch.cd (cn.cd cG)⟩,fun h w3 dh=>⟨vQ.length-(n+1),by omega,n+1,by omega,by rw[fH (by omega) (by omega)];rfl,rfl,fun h2 y hy=>?_,cn.cd dh⟩⟩
  ·rw[aP]at h;have h1:=aQ h.1;have h2:=aQ h.2;have L0:pS (l.drop i)=true:=by
    cases hr:l.drop (i+1)with
    | nil=>
     have:=bK List.length hr;rw[bX,aZ]at this;omega
    | cons d r=>
     rw[hd,hr]at h2⊢;rw[Ao,ei];have:(c::d::r).take 2=[c,d]:=rfl;rw[<-this,h2];exact br g2
   rw[LH L0];rfl
  ·rw[bB,g2]at hy;simp only[fi,cH,aO]at hy;rcases hy with hy | rfl
   ·exact hp h2 y hy
   ·rw[bF (by omega),bT]at h;exact fun e=>aU h e.symm
 ·have lR:¬((n:Int)<s.n):=aU hc;rw[bH (by omega)]at hp;have L0:pS (l.drop i)=false:=by
   cases hr:l.drop (i+1)with
   | nil=>rw[hd,hr];rfl
   | cons d r=>
    rw[hd,hr,Ao,gr];intro h;rw[ei]at h;have h2:2<=(l.drop i).length:=by rw[hd,hr];simp
    exact hp h2 _ h (by rw[hd,hr];rfl)
  have Th:iq (l.drop i)=if nc.contains c then 1 else 0:=by
   rw[hd]at L0⊢;exact LI L0
  rw[Th];refine⟨fun nv k w'=>∃n:Nat,n<=17/\k=(n:Int)/\nv=17-n/\(∀x,x∈nc.take n->x≠c)/\ay [] w w',17,⟨0,bd _,rfl,rfl,by simp,ch.cd cn⟩,?_⟩;rintro nv _ w4 ⟨n,hn,rfl,rfl,hp,dI⟩;refine⟨fun hc=>?_,fun hc=>⟨?_,dI⟩⟩
  ·have bQ:n<17:=by have:=aQ hc;omega
   obtain⟨y,hy⟩:∃y,nc[n]? =some y:=⟨_,bG bQ⟩
   refine⟨c,⟨ba i,by rw[lq,aX,hx]⟩,y,⟨ba n,by
    have e:(ao #[123,125,40,41,91,93,59,44,61,43,45,42,47,37,60,62,33])=T nc:=rfl;rw[e,lq,aX,hy]⟩,?_⟩
   rw[I3];refine⟨fun h w5 eh=>⟨?_,dI.cd eh⟩,fun h w6 dR=>⟨17-(n+1),by omega,n+1,by omega,by rw[fH (by omega) (by omega)];rfl,rfl,fun q hq=>?_,dI.cd dR⟩⟩
   ·have h:c=y:=by simpa using h
    rw[if_pos]
    ·rfl
    ·rw[ei,h];exact br hy
   ·rw[bB,hy]at hq;simp only[fi,cH,aO]at hq;rcases hq with hq | rfl
    ·exact hp q hq
    ·rintro rfl;simp at h
  ·have lR:n=17:=by have:=aU hc;omega
   subst lR;rw[if_neg]
   ·rfl
   ·intro h;rw[ei]at h;exact hp c (by rw[bH (by decide)];exact h) rfl
theorem LJ{ds:aH}{x:UInt8}:jU 0 (ds++[x])=jU 0 ds*10+(x.toNat-48):=by
 unfold jU;rw[uV];rfl
theorem LK{ds:aH}{n:Nat}:jU 0 (ds.take n)<=jU 0 ds:=by
 have:jU 0 ds=jU (jU 0 (ds.take n)) (ds.drop n):=by
  unfold jU;rw[<-uV,fg]
 rw[this];exact CJ _ _
theorem Pj(w:av)(l:aH)(hl:l.length<4611686018427387903):
  az aq 234 #[ab (T l)] w fun e w'=>e=ak (ai #[O U (eY l).1,O U (eY l).2.1,O U (eY l).2.2])/\ay [] w w':=by
 refine ret (agW _ _ _ ?_);rw[bW];refine⟨fun h0=>⟨?_,Only.refl _ _⟩,fun h0=>?_⟩
 ·have h0:l=[]:=bp (by have:(l.length:Int)=0:=(by simpa using h0);omega);rw[eY,if_pos h0];rfl
 have h0:¬l=[]:=by
  rintro rfl;simp at h0
 refine⟨fun nv j w'=>∃n:Nat,n<=l.length/\j=(n:Int)/\nv=l.length-n/\(∀x,x∈l.take n->cN x=true)/\w'=w,l.length,⟨0,bd _,rfl,rfl,by simp,rfl⟩,?_⟩;rintro nv _ u ⟨n,hn,rfl,rfl,hp,hu⟩;subst hu;obtain⟨z,hz⟩:∃z:UInt8,n<l.length->l[n]? =some z:=by
  by_cases h:n<l.length
  ·exact⟨l[n],fun _=>bG h⟩
  ·exact⟨0,fun h'=>absurd h' h⟩
 have hg:n<l.length->0<=(n:Int)/\(T l)[Int.toNat (n:Int)]? =some z:=fun h=>⟨ba n,by rw[lq,aX];exact hz h⟩
 refine⟨z,fun h=>hg (by have:=aQ h;omega),z,fun h=>hg (by
  rw[aP]at h;have:=aQ h.1;omega),?_⟩
 have ed:((((decide ((n:Int)<(l.length:Int)))&&(decide ((z.toNat:Int)>=48)))&&(decide ((z.toNat:Int)<=57))))=(decide (n<l.length)&&cN z):=by
  rw[bI];simp only[cN,aP,bA];omega
 rw[ed];refine⟨fun h=>?_,fun h=>?_⟩
 ·rw[aP]at h;have h1:n<l.length:=aQ h.1;refine⟨l.length-(n+1),by omega,n+1,by omega,by rw[fH (by omega) (by omega)];rfl,rfl,fun y hy=>?_,rfl⟩;rw[bB,hz h1]at hy;simp only[fi,cH,aO]at hy;rcases hy with hy | rfl
  ·exact hp y hy
  ·exact h.2
 have LX:l.takeWhile cN=l.take n:=kU hn hp fun y hy=>by
  have h1:=(bc.1 hy).1;rw[hz h1]at hy;injection hy with hy;subst hy;rw[bF h1,bT]at h;exact h
 have wi:(l.takeWhile cN).length=n:=by rw[LX,cP];omega
 obtain⟨x,r,rfl⟩:∃x r,l=x::r:=by
  cases l with
  | nil=>exact absurd rfl h0
  | cons x r=>exact⟨x,r,rfl⟩
 refine⟨x,fun _ _=>⟨iM _,by rw[lq];rfl⟩,?_⟩;have e48:((x.toNat:Int)==48)=(x==48):=I3 (d:=48);have eb:(((n:Int)==0)||((decide ((n:Int)>1))&&((x.toNat:Int)==48)))=decide ((x::r).takeWhile cN=[]∨(1<((x::r).takeWhile cN).length/\(x::r).head? =some 48)):=by
  rw[e48,wi,bI];simp only[aP,cq,bA,dz,gx,aV];have:(x::r).takeWhile cN=[]↔n=0:=by
   constructor
   ·intro e;rw[e]at wi;exact wi.symm
   ·intro e;rw[e]at wi;exact bp wi
  rw[this];by_cases hx:x=48
  ·simp only[hx,and_true];omega
  ·simp only[hx,and_false,cb];omega
 rw[eb];refine⟨fun hb=>⟨?_,Only.refl _ _⟩,fun hb=>?_⟩
 ·rw[eY,if_neg h0,if_pos (aQ hb)];rfl
 have hb:=aU hb;refine⟨fun nv v j w'=>∃q:Nat,q<=n/\j=(q:Int)/\nv=n-q/\v=(jU 0 ((x::r).take q):Int)/\jU 0 ((x::r).take q)<9223372036854775808/\ay [] u w',n,⟨0,bd _,rfl,rfl,rfl,by rw[dr];decide,Only.refl _ _⟩,?_⟩;rintro nv _ _ w1 ⟨q,hq,rfl,rfl,rfl,hv,cn⟩;refine⟨fun hc=>?_,fun hc=>⟨?_,cn⟩⟩
 ·have bQ:q<n:=by have:=aQ hc;omega
  have hy:(x::r)[q]? =some ((x::r)[q]'(by omega)):=bG (by omega);generalize (x::r)[q]'(by omega)=y at hy;have hyd:cN y=true:=hp y (by
   rw[List.mem_iff_getElem?];exact⟨q,by rw[nT,if_pos bQ,hy]⟩)
  simp only[cN,aP,bA]at hyd;have e1:ar .u8 ((y.toNat:Int)-48)=(y.toNat:Int)-48:=by
   have h:∀n:Fin 256,48<=n.val->ar .u8 ((n.val:Int)-48)=(n.val:Int)-48:=by decide+kernel
   exact h ⟨y.toNat,y.toNat_lt⟩ hyd.1
  have et:(9223372036854775807-((y.toNat:Int)-48)).tdiv 10=(9223372036854775807-((y.toNat:Int)-48))/10:=Int.tdiv_eq_ediv_of_nonneg (by omega);have es:(x::r).take (q+1)=(x::r).take q++[y]:=by rw[bB,hy];rfl
  have ev:jU 0 ((x::r).take (q+1))=jU 0 ((x::r).take q)*10+(y.toNat-48):=by rw[es,LJ]
  refine⟨y,⟨ba q,by rw[lq,aX,hy]⟩,?_⟩;rw[e1,fH (x:=(y.toNat:Int)-48) (by omega) (by omega),fH (x:=9223372036854775807-((y.toNat:Int)-48)) (by omega) (by omega),et,fH (x:=(9223372036854775807-((y.toNat:Int)-48))/10) (by omega) (by omega)];refine⟨fun YG=>⟨?_,cn⟩,fun YG=>⟨n-(q+1),by omega,q+1,by omega,by rw[fH (by omega) (by omega)];rfl,rfl,?_,?_,cn⟩⟩
  ·have YG:=aQ YG;have h1:jU 0 ((x::r).take (q+1))<=jU 0 ((x::r).take n):=by
    have:=LK (ds:=(x::r).take n) (n:=q+1);rw[List.take_take,Nat.min_eq_left (by omega)]at this;exact this
   rw[eY,if_neg h0,if_neg hb,if_neg (by rw[LX];omega)];rfl
  ·have YG:=aU YG;rw[ev,fH (x:=10*(jU 0 ((x::r).take q):Int)) (by omega) (by omega),fH (by omega) (by omega)];omega
  ·have YG:=aU YG;rw[ev];omega
 ·have hqn:q=n:=by have:=aU hc;omega
  subst hqn;rw[eY,if_neg h0,if_neg hb,if_pos (by rw[LX];exact hv),wi,LX]
def WH(i:Nat)(r:Except Int Tq)(v:aw):Prop:=match r with
 | .error e=>v=ai #[ah #[O U 0,ab (T []),O U 0,O U 0],O U 0,O U e]
 | .ok q=>v=ai #[ah #[O U q.1,ab (T q.2.1),O U q.2.2.1,O U (i:Int)],O U (q.2.2.2:Int),O U 0]
theorem Pm(w:av)(l:aH)(i:Nat)(hi:i<l.length)(hl:l.length<=16384):
  az aq 185 #[ab (T l),O U (i:Int)] w fun e w'=>∃v,e=ak v/\WH i (kY (l.drop i)) v/\ay [] w w':=by
 refine agV (T l) i (fun v w'=>WH i (kY (l.drop i)) v/\ay [] w w') w ?_;have hx:l[i]? =some l[i]:=bG hi;generalize l[i]=x at hx;have wi:(l.drop i).length=l.length-i:=bX;have ht:kY (l.drop i)=if eG x then ly (l.drop i)else if cN x then qI (l.drop i)else mQ (l.drop i):=by
  rw[mf hx];rfl
 rw[ht];have hg:0<=(i:Int)/\(T l)[Int.toNat (i:Int)]? =some x:=⟨ba i,by rw[lq,aX,hx]⟩
 refine⟨x,hg,fun k1 w0 kg ju ch=>(wO w0 x).mono ?_⟩;rintro _ w1 ⟨rfl,cn⟩;have new:∀{u u':av},ay [] w u->ay [k1] u u'->ay [] w u':=fun h k=>h.trans k fun y hy=>.inr (by simp only[aO]at hy;omega);have sm:∀{u u':av},ay [] w0 u->ay [] u u'->bS [k1] u u':=fun h0 h=>h.same (by have:=h0.size;simp;omega);refine⟨_,rfl,sm (Only.refl _ _) cn,x,hg,(FQ w1 x).mono ?_⟩;rintro _ w2 ⟨rfl,cG⟩;have YH:=cn.cd cG;refine⟨_,rfl,sm cn cG,fun hb=>?_,fun hb=>⟨fun hd=>⟨i,⟨rfl,by rw[bW];omega⟩,?_⟩,fun hd=>?_⟩⟩
 ·rw[if_pos hb];refine(HJ w2 l i (by omega) (by omega)).mono ?_;rintro _ w3 ⟨rfl,dh⟩;have Zf:((l.drop i).takeWhile dV).length<=l.length-i:=by
   have:=pT (p:=dV) (l:=l.drop i);rwa[wi]at this
  have ex:(T l).extract i (i+((l.drop i).takeWhile dV).length)=T ((l.drop i).takeWhile dV):=by
   rw[rI,dE,<-me]
  refine⟨_,rfl,sm YH dh,i,i+((l.drop i).takeWhile dV).length,⟨rfl,by rw[fH (by omega) (by omega)];omega,by omega,by rw[bW];omega⟩,fun k5 w4 pv Ij dI=>?_⟩;have h04:=YH.cd (dh.cd dI);rw[ex];refine(Kb w4 _).mono ?_;rintro _ w5 ⟨rfl,eh⟩;have h05:=h04.cd eh;have z4:=h04.size;unfold ly;generalize hm:(l.drop i).takeWhile dV=m at*
  refine⟨_,rfl,eh.same (by simp;omega),fun k s n a w'=>k=(if iA.contains m then 2 else 1:Int)/\s=T m/\n=0/\a=(i:Int)/\ay [] w w',?_,fun hc w9 fT=>⟨by rw[if_pos hc],rfl,rfl,rfl,(ch.cd h05).trans fT fun y hy=>.inr (by simp only[aO]at hy;have:=ch.size;have:=dh.size;have:=YH.size;omega)⟩,fun hc=>⟨by rw[hc];rfl,rfl,rfl,rfl,ch.cd h05⟩⟩;rintro _ _ _ _ w6 ⟨rfl,rfl,rfl,rfl,dR⟩;refine⟨fun hc w7 fN=>⟨?_,new dR fN⟩,fun hc w8 fj=>⟨?_,new dR fj⟩⟩
  ·rw[if_pos (by have:=aQ hc;omega)];rfl
  ·rw[if_neg (by have:=aU hc;omega)];rfl
 ·rw[if_neg (by rw[hb];decide),if_pos hd];have ex:(T l).extract i (T l).size=T (l.drop i):=by rw[rI,bW,bH (by omega)]
  rw[ex];refine(Pj w2 (l.drop i) (by omega)).mono ?_;rintro _ dw ⟨rfl,dM⟩;have uS:=YH.cd dM;unfold qI;refine⟨_,_,_,rfl,sm YH dM,fun he dJ dY=>⟨?_,new (ch.cd uS) dY⟩,fun he=>(HJ dw l i (by omega) (by omega)).mono ?_⟩
  ·rw[if_pos (by simpa using he)];rfl
  rintro _ eM ⟨rfl,fb⟩;have KE:=uS.cd fb;rw[if_neg (by simpa using he)];refine⟨_,rfl,sm uS fb,fun hc eU dL=>⟨?_,new (ch.cd KE) dL⟩,fun hc fM eV=>⟨?_,new (ch.cd KE) eV⟩⟩
  ·rw[if_pos (by have:=aQ hc;omega)];rfl
  ·rw[if_neg (by have:=aU hc;omega)];rfl
 ·rw[if_neg (by rw[hb];decide),if_neg (by rw[hd];decide)];refine(S2 w2 l i hi (by omega)).mono ?_;rintro _ iy ⟨rfl,kB⟩;have DI:=YH.cd kB;have hn:=vm (m:=l.drop i);have ex:(T l).extract i (i+iq (l.drop i))=T ((l.drop i).take (iq (l.drop i))):=by rw[rI,dE]
  unfold mQ;refine⟨_,rfl,sm YH kB,fun hz jK kc=>⟨?_,new (ch.cd DI) kc⟩,fun hz=>⟨i,i+iq (l.drop i),⟨rfl,by rw[fH (by omega) (by omega)];omega,by omega,by rw[bW];omega⟩,fun iZ jt=>⟨?_,new (ch.cd DI) jt⟩⟩⟩
  ·rw[if_pos (by have:(iq (l.drop i):Int)=0:=(by simpa using hz);omega)];rfl
  ·rw[if_neg (by rintro e;rw[e]at hz;simp at hz),ex];rfl
theorem LM(w:av)(l:aH):
  az aq 119 #[ab (T l)] w fun e w'=>∃rs:Sl,e=ak (ai #[rs.v,ah #[O U (cA l).2.1,O U (cA l).2.2]])/\kX w.heap.size w' rs (cA l).1/\ay [] w w':=by
 refine(agT (T l) (fun v w'=>∃rs:Sl,v=(ai #[rs.v,ah #[O U (cA l).2.1,O U (cA l).2.2]])/\kX w.heap.size w' rs (cA l).1/\ay [] w w') w ?_).mono (by
  rintro e w' ⟨v,rfl,rs,rfl,h⟩;exact⟨rs,rfl,h⟩)
 rw[bW];refine⟨fun hc k0 w0 _ _ hO=>⟨Sl.nil,?_,?_,hO⟩,fun hc k1 w1 kg ju cn=>?_⟩
 ·rw[cA,if_pos (by have:=aQ hc;omega)]
 ·rw[cA,if_pos (by have:=aQ hc;omega)];exact Own.nil _ _ _ _ _ _
 have DX:l.length<=16384:=by have:=aU hc;omega
 have Xo:cA l=match jC l 0 with
  | .error x=>([],x.1,(x.2:Nat))
  | .ok r=>(r,0,0):=by
   rw[cA,if_neg (by omega)]<;>rfl
 refine(BL w1 l 0 (bd _) (by omega)).mono ?_;rintro _ w2 ⟨rfl,cG⟩;have z1:=cn.size;refine⟨_,rfl,cG.same (by simp;omega),fun nv s i e1 e2 w'=>e1=0/\e2=0/\∃(j:Nat) (acc:List Tk),i=(j:Int)/\j<=l.length/\acc.length<=j/\jq false (l.drop j)=0/\jC l 0=je acc (jC l j)/\nv=l.length-j/\kX w1.heap.size w' s acc/\ay [] w1 w',l.length-(0+jq false (l.drop 0)),?_,?_⟩
 ·refine⟨rfl,rfl,_,[],rfl,EV (bd _),bd _,?_,?_,rfl,Own.nil _ _ _ _ _ _,cG⟩
  ·rw[<-jc];exact oK false (l.drop 0)
  ·rw[<-mg (bd _)];cases jC l 0<;>rfl
 rintro nv s _ _ _ w3 ⟨rfl,rfl,j,acc,rfl,hj,hal,Zg,nZ,rfl,ho3,dh⟩;have z3:=dh.size;have lj:=jx hj;rw[Zg,fp]at lj;have app:∀{u:av} {r:Sl} (t:Tk),ay [] w1 u->kX w1.heap.size u r acc->
   ∃y w4,(au 124 1 #[(0,t.v)]).run aq u=.ok (Sl.v y) w4/\ay [] u w4/\∃s' w5,(Builtin.append_ #[124,124] 124 #[Sl.v r,Sl.v y]).run aq w4=.ok (Sl.v s') w5/\kX w1.heap.size w5 s' (acc++[t])/\aD (fun k=>w1.heap.size<=k/\r.a=some ⟨k,0,none⟩) w4 w5/\ay [] w1 w5:=by
  intro u r t hu hr;obtain⟨y,w4,c1,c2,s',w5,c3,c4,c5⟩:=NH t hr hu.size (bh (dU 40 (show acc.length+1<=16385 by omega)) (by decide));exact⟨y,w4,c1,c2,s',w5,c3,c4,c5,((hu.cd c2).p0 (F:=fun k=>w1.heap.size<=k) |>.trans c5 fun k hk=>.inl hk.1).only fun k hk=>hk⟩
 refine⟨fun hc=>?_,fun hc=>?_⟩
 ·have bQ:j<l.length:=by have:=aQ hc;omega
  rw[if_neg (by omega)]at lj;refine(Pm w3 l j bQ DX).mono ?_;rintro _ w4 ⟨v,rfl,hv,dI⟩;have h14:=dh.cd dI;have sm1:bS [k1] w3 w4:=dI.same (by simp;omega);have z4:=dI.size;unfold WH at hv;cases hq:kY (l.drop j)with
  | error e=>
   rw[hq]at hv lj;dsimp only at hv;subst hv;refine⟨0,T [],0,0,0,e,rfl,sm1,fun _ k4 w5 tZ Gh eh=>⟨Sl.nil,?_,?_,?_⟩,fun he=>absurd (CK hq) (by simpa using he)⟩
   ·rw[Xo,nZ,lj];rfl
   ·rw[Xo,nZ,lj];exact Own.nil _ _ _ _ _ _
   ·exact(cn.cd h14).trans eh fun y hy=>.inr (by simp only[aO]at hy;omega)
  | ok q=>
   rw[hq]at hv lj;dsimp only at hv;subst hv;have hq1:=sZ hq;have W5:=zx hq;rw[bX]at W5;refine⟨q.1,T q.2.1,q.2.2.1,(j:Int),(q.2.2.2:Int),0,rfl,sm1,fun he=>(by simp at he),fun _ k5 w6 pv Ij dR=>?_⟩;have h16:=h14.cd dR;have z6:=dR.size;obtain⟨y,w7,c1,c2,s',w8,c3,c4,c5,c6⟩:=app (u:=w6) ⟨q.1,q.2.1,q.2.2.1,(j:Nat)⟩ h16 (ho3.only (dI.cd dR));have z7:=c2.size;have z8:=c5.size;have hk:∀k,s.a=some ⟨k,0,none⟩->w1.heap.size<=k/\k<w3.heap.size:=fun k hk=>ho3.blk hk;refine⟨y,w7,c1,c2.same (by simp;omega),s',w8,c3,c5.same (by
    intro x hx;simp only[aY,bf,cb]at hx;refine⟨by omega,fun e=>?_⟩;have:=hk x e.2;omega),?_⟩
   rw[fH (x:=(j:Int)+(q.2.2.2:Int)) (by omega) (by omega),show(j:Int)+(q.2.2.2:Int)=((j+q.2.2.2:Nat):Int) by omega];refine(BL w8 l (j+q.2.2.2) (by omega) (by omega)).mono ?_;rintro _ w9 ⟨rfl,fT⟩;have MF:=EV (l:=l) (i:=j+q.2.2.2) (by omega);refine⟨_,rfl,fT.same (by simp;omega),l.length-(j+q.2.2.2+jq false (l.drop (j+q.2.2.2))),by omega,rfl,rfl,_,_,rfl,MF,?_,?_,?_,rfl,c4.only fT,c6.cd fT⟩
   ·rw[aN,bg];omega
   ·rw[<-jc];exact oK false _
   ·rw[nZ,lj,<-mg (by omega),<-I4];dsimp only;cases jC l (j+q.2.2.2)<;>rfl
 ·have qV:l.length<=j:=by have:=aU hc;omega
  rw[if_pos qV]at lj;have xF:j=l.length:=by omega
  obtain⟨y,dw,c1,c2,s',dJ,c3,c4,c5,c6⟩:=app (u:=w3) ⟨5,[],0,(j:Nat)⟩ dh ho3;have H0:=c2.size;have hk:∀k,s.a=some ⟨k,0,none⟩->w1.heap.size<=k/\k<w3.heap.size:=fun k hk=>ho3.blk hk;have htt:cA l=(acc++[⟨5,[],0,(j:Nat)⟩],0,0):=by
   rw[Xo,nZ,lj];rfl
  have e:(l.length:Int)=(j:Int):=by omega
  rw[e];refine⟨y,dw,c1,c2.same (by simp;omega),s',dJ,c3,c5.same (by
   intro x hx;simp only[aO]at hx;refine⟨by omega,fun e=>?_⟩;have:=hk x e.2;omega),fun eM fb=>⟨s',by rw[htt],?_,?_⟩⟩
  ·rw[htt];have:kX w1.heap.size eM s' _:=c4.keep fun k hk bQ=>fb.block k bQ (by simp only[aO];have:=hk.1;omega);exact Own.low this z1
  ·exact(cn.cd c6).trans fb fun y hy=>.inr (by simp only[aO]at hy;omega)
theorem oV(w:av)(l:aH)(hl:l.length<4611686018427387903):
  az aq 94 #[ab (T l)] w fun e w'=>e=ak (aj (cY l))/\ay [] w w':=by
 refine ret (agA _ _ _ ?_);have e0:(ao #[])=T []:=rfl;rw[bW,e0,iO];refine⟨fun hc=>⟨?_,Only.refl _ _⟩,fun hc=>?_⟩
 ·unfold cY;rw[bn]
  ·rfl
  ·rintro⟨h1,h2⟩;rw[bn h1,bn (by omega)]at hc;cases hc
 simp only[eK,fU]at hc;obtain⟨h1,h2⟩:=hc;have h2:l.length<=24:=by omega
 obtain⟨c,r,rfl⟩:∃c r,l=c::r:=by
  cases l with
  | nil=>exact absurd rfl h1
  | cons c r=>exact⟨c,r,rfl⟩
 have hn:cY (c::r)=(eG c&&decide ((c::r).takeWhile dV=c::r)&&!iA.contains (c::r)):=by
  unfold cY;rw[bF ⟨h1,h2⟩,bT]
 refine⟨c,⟨iM _,by rw[lq];rfl⟩,(wO w c).mono ?_⟩;rintro _ w0 ⟨rfl,ch⟩;refine⟨_,rfl,(Kb w0 _).mono ?_⟩;rintro _ w1 ⟨rfl,cn⟩;refine⟨_,rfl,fun b w'=>b=cY (c::r)/\ay [] w w',fun b w' h=>⟨by rw[h.1],h.2⟩,fun hb=>?_,fun hb=>⟨?_,ch.cd cn⟩⟩
 ·refine(HJ w1 (c::r) 0 (bd _) hl).mono ?_;rintro _ w3 ⟨rfl,dh⟩;rw[fK];refine⟨_,rfl,?_,ch.cd (cn.cd dh)⟩;rw[hn];simp only[aP,cx]at hb;rw[hb.1,hb.2,bT,A7,cR,bI];simp only[dz,bA];constructor
  ·intro h;have h:((c::r).takeWhile dV).length=(c::r).length:=by omega
   have h2:=me (p:=dV) (l:=c::r);rw[h,bH (aW _)]at h2;exact h2
  ·intro h;rw[h]
 ·rw[hn];cases h1:eG c<;>cases h2:iA.contains (c::r)<;>rw[h1,h2]at hb<;>simp at hb⊢
theorem S3(w:av)(l:aH):az aq 233 #[ab (T l)] w fun e w'=>
  ∃cs,e=ak (ai #[ah cs.toArray,ah #[O U (fz l).2.1,O U (fz l).2.2]])/\RX w' w.heap.size w'.heap.size (fz l).1 cs/\ay [] w w':=by
 refine(agS (T l) (fun v w'=>∃cs,v=(ai #[ah cs.toArray,ah #[O U (fz l).2.1,O U (fz l).2.2]])/\RX w' w.heap.size w'.heap.size (fz l).1 cs/\ay [] w w') w ?_).mono (by
  rintro e w' ⟨v,rfl,cs,rfl,h⟩;exact⟨cs,rfl,h⟩)
 intro k0 k1 w0 gD dQ kg ju ch;have z0:=ch.size;have own:∀{u u':av},ay [] w u->ay [k1,k0] u u'->ay [] w u':=fun h1 h2=>h1.trans h2 fun x hx=>.inr (by simp only[aY,bf,cb]at hx;omega);refine(LM w0 l).mono ?_;rintro _ w1 ⟨l0,rfl,hT,cn⟩;have z1:=cn.size;have fG:=ch.cd cn;generalize nZ:cA l=tm at*
 obtain⟨ts,c,p⟩:=tm;dsimp only at hT⊢;have KA:fz l=if c≠0 then(uN,c,p)else if(bU ts 0).2.2.1≠0 then(uN,(bU ts 0).2.2.1,(bU ts 0).2.2.2)else if(tk ts (bU ts 0).2.1.toNat).k≠5 then(uN,4,(tk ts (bU ts 0).2.1.toNat).a)else((bU ts 0).1,0,(bU ts 0).2.2.2):=by
  unfold fz;rw[nZ]
 refine⟨l0,_,_,rfl,cn.same (by simp;omega),fun hc k2 w2 oY oG cG n1 n2 n3=>⟨fun k=>k=k2,rfl,fun e=>n2 e,fun e=>n3 e,fun w3 dh=>?_⟩,fun hc k3 w4 Ky Ay dI=>?_⟩
 ·have hc:c≠0:=by simpa using hc
  rw[KA,if_pos hc];exact⟨_,rfl,Si _ _ _,own (fG.cd cG) dh⟩
 ·have hc:c=0:=by simpa using hc
  rw[if_neg (by simp[hc])]at KA;have z4:=dI.size;refine(Pe (hT.only dI).sl 0 ⟨by decide,by decide⟩).mono ?_;rintro _ w5 ⟨cs,rfl,hX,hj,eh⟩;have z5:=eh.size;have hp0:(bU ts 0).2.2.1=0->(bU ts 0).2.2.2=0:=by
   unfold bU;split
   ·cases hp:pc ts (0:Int).toNat with
    | error e=>
     obtain⟨c,p⟩:=e;intro h;exact absurd h (mh _ _ _ _ hp)
    | ok q=>intro _;rfl
   ·intro h;exact absurd h (show ¬(1:Int)=0 by decide)
  generalize Tu:bU ts 0=pa at*
  obtain⟨x,j,c',p'⟩:=pa;dsimp only at hX hj KA hp0⊢;obtain⟨xl,rfl,_⟩:=hX.cells;have AA:ay [] w w5:=(fG.cd dI).cd eh;have hF5:∀{u:av},ay [k3] w5 u->aA Bj 4 u (fun k=>w0.heap.size<=k/\l0.a=some ⟨k,0,none⟩) l0 ts:=fun hO=>SliceF.only gI (by decide) (hT.only (dI.cd eh)).sl hO fun k hk bQ hm=>by
   have:=hT.blk hk.2;simp only[aO]at hm;dsimp only at this;omega
  refine⟨_,_,_,_,_,_,_,_,_,rfl,eh.same (by simp;omega),fun vV k4 w6 tZ Gh dR n1 n2 n3 n4 n5 n6=>⟨fun k=>k=k3,rfl,fun e=>n2 e,fun e=>n4 e,fun w7 fN=>?_⟩,fun vV=>?_⟩
  ·have vV:c'≠0:=by simpa using vV
   rw[KA,if_pos vV];exact⟨_,rfl,Si _ _ _,own (AA.new dR (by omega)) fN⟩
  ·have vV:c'=0:=by simpa using vV
   rw[if_neg (by simp[vV])]at KA;obtain⟨MB,Gx⟩:=hj vV;obtain⟨n,rfl⟩:∃n:Nat,j=(n:Int):=⟨j.toNat,by omega⟩
   have hl:=(hF5 (Only.refl _ _)).len;obtain⟨ad,t,cs,g1,g2,g3,g4,g5,g6⟩:=(hF5 (Only.refl _ _)).get MB (by omega);rw[aX]at KA;refine⟨ad,g1,fun k5 w8 pv Ij fj=>?_⟩;obtain⟨F3,t',wU,e1,e2,e3,e4,e5,e6⟩:=(hF5 fj).get MB (by omega);have akE:=dl.Aq e1 g1;subst akE;rw[aX,zy (by omega)]at e2;injection e2 with e2;subst e2;unfold Bj at e6;subst e6;have z8:=fj.size;refine⟨_,e5.ec 0 _ rfl,fun hk w9 fT n1 n2 n3 n4 n5 n6=>⟨fun k=>k=F3.block,F3,g1,?_,_,(e5.keep (fT.block _ e5.lt (by simp))).ec 3 _ rfl,?_,?_,fun dw dM=>?_⟩,fun hk dJ dY=>?_⟩
   ·exact lV F3 3
   ·intro e;have:=e3.1;rw[<-e]at this;omega
   ·intro e;have:=e3.1;rw[<-e]at this;omega
   ·have hk:(tk ts n).k≠5:=by simpa using hk
    rw[KA,if_pos hk];exact⟨_,rfl,Si _ _ _,own ((AA.new fj (by omega)).cd fT) dM⟩
   ·have hk:(tk ts n).k=5:=by simpa using hk
    rw[KA,if_neg (by simp[hk]),hp0 vV];have Gd:=dY.size;exact⟨_,rfl,((hX.only fj fun q hq=>.inl (by simp only[aO]at hq;omega)).only dY fun q hq=>.inl (by simp only[aY,bf,cb]at hq;omega)).wide (by omega) (by omega),own (AA.new fj (by omega)) dY⟩
theorem WI{k:Nat}{op:Int}(hk:k<6)(h:op∈(eu[k]?).getD []):eL op=(k:Int):=by
 match k,hk with
 | 0,_=>simp[eu]at h;subst h;rfl
 | 1,_=>simp[eu]at h;subst h;rfl
 | 2,_=>simp[eu]at h;rcases h with rfl | rfl<;>rfl
 | 3,_=>simp[eu]at h;rcases h with rfl | rfl | rfl | rfl<;>rfl
 | 4,_=>simp[eu]at h;rcases h with rfl | rfl<;>rfl
 | 5,_=>simp[eu]at h;rcases h with rfl | rfl | rfl<;>rfl
theorem S4{op:Int}(h:∀k,k<6->op∉(eu[k]?).getD []):eL op=6:=by
 have h0:=h 0 (by decide);have h1:=h 1 (by decide);have h2:=h 2 (by decide);have h3:=h 3 (by decide);have h4:=h 4 (by decide);have h5:=h 5 (by decide);simp[eu]at h0 h1 h2 h3 h4 h5;unfold eL;rw[if_neg (by omega),if_neg (by omega),if_neg (by omega),if_neg (by omega),if_neg (by omega),if_neg (by omega)]
theorem vR{w:av}{F:aJ}{x:Ex}{cs:aI}{d:Nat}(h:nM d w F x cs):az aq 272 #[ah cs.toArray] w fun e w'=>e=ak (O U (bN x))/\ay [] w w':=by
 obtain⟨sl,rfl⟩:=jV h;refine ret (agL _ _ _ _ _ _ _ _ ?_);intro k0 w0 gD dQ ch;refine(HH w0).mono ?_;rintro _ w1 ⟨l0,rfl,hN,cn⟩;have m0:=hN.len;have m6:eu.length=6:=rfl;refine⟨l0,rfl,cn.same (by simp;omega),fun nv i w'=>∃n:Nat,n<=6/\i=(n:Int)/\nv=6-n/\(∀k,k<n->x.op∉(eu[k]?).getD [])/\ay [] w1 w',6,⟨0,by decide,rfl,rfl,fun k hk=>absurd hk (QU k),Only.refl _ _⟩,?_⟩;rintro nv _ w2 ⟨n,hn,rfl,rfl,Y1,cG⟩;have js:ay [] w w2:=(ch.cd cn).cd cG;refine⟨fun hc=>?_,fun hc=>⟨?_,js⟩⟩
 ·simp only[aP,bA,dz]at hc;obtain⟨xW,pv⟩:=hc;have bQ:n<6:=by omega
  obtain⟨p0,x0,cs0,g1,g2,g3,g4,g5,s1,rfl,hS⟩:=hN.get (ba n) (by omega);rw[aX]at g2;have TH:(eu[n]?).getD []=x0:=by rw[g2];rfl
  have t1:=hS.len;have t2:=hS.cap;have t3:=hS.big;refine⟨fun nv i w'=>∃j:Nat,j<=x0.length/\i=(j:Int)/\nv=x0.length-j/\(∀q y,q<j->x0[q]? =some y->y≠x.op)/\ay [] w1 w',x0.length,⟨0,bd _,rfl,rfl,fun q y hq=>absurd hq (QU q),cG⟩,?_⟩;rintro nv _ w3 ⟨j,hj,rfl,rfl,gC,dh⟩;refine⟨p0,g1,s1,g5.keep (dh.block _ g5.lt (by simp)),fun TN=>?_,fun lR=>?_⟩
  ·have TN:(j:Int)<(s1.n:Int):=aQ TN;obtain⟨p3,m,cs3,r1,r2,r3,r4,r5,r6⟩:=(SliceF.only lH (by decide) hS dh (by simp)).get (ba j) TN;unfold wM at r6;subst r6;rw[aX]at r2;refine⟨p0,g1,s1,g5.keep (dh.block _ g5.lt (by simp)),p3,r1,m,r5,fun he w4 dI=>⟨?_,((ch.cd cn).cd dh).cd dI⟩,fun he w5 eh=>⟨x0.length-(j+1),by omega,j+1,by omega,by rw[fH (by omega) (by omega)];rfl,rfl,fun q y hq hy=>?_,dh.cd eh⟩⟩
   ·have he:m=x.op:=by simpa using he
    subst he;have:=WI bQ (by rw[TH];exact br r2);rw[bN,if_pos pv,this]
   ·rcases kC q j with hqj | hqj
    ·exact gC q y hqj hy
    ·have:q=j:=by omega
     subst this;rw[r2]at hy;injection hy with hy;subst hy;simpa using he
  ·have lR:¬(j:Int)<(s1.n:Int):=aU lR;refine⟨6-(n+1),by omega,n+1,by omega,by rw[fH (by omega) (by omega)];rfl,rfl,fun k hk=>?_,dh⟩;rcases kC k n with Rt | Rt
   ·exact Y1 k Rt
   ·have:k=n:=by omega
    subst this;rw[TH];intro hm;obtain⟨q,hq⟩:=jG hm;exact gC q _ (by have:=(bc.1 hq).1;omega) hq rfl
 ·rw[bN];by_cases pv:x.k=5
  ·rw[if_pos pv];have:n=6:=by
    rw[pv]at hc;simp at hc;omega
   subst this;rw[S4 Y1]
  ·rw[if_neg pv]
theorem FR:∀(d:Nat) {w:av} {F:aJ} {x:Ex} {cs:aI},(∀e,ug e x)->nM d w F x cs->az aq 231 #[ah cs.toArray] w fun e w'=>e=ak (aj (cw d x))/\ay [] w w'
 | 0,_,_,_,_,_,h=>h.elim
 | d+1,w,F,x,cs,hl,⟨sl,h1,h2⟩=>by
  subst h1;refine ret (agK _ _ _ _ _ _ _ _ ?_);intro k0 w0 gD dQ ch;have hn:=h2.len;have nS:=h2.cap;have pq:=h2.big;have hl0:x.s.length<4611686018427387903:=(hl 1).1;have hls:∀y,y∈x.dj->∀e,ug e y:=fun y hy e=>(hl (e+1)).2 y hy;have tT:∀{b:Bool},gn x=b->cw (d+1) x=(b&&iT (cw d) x.dj):=fun e=>by rw[cw,e]
  refine⟨fun nv i w'=>∃n:Nat,n<=x.dj.length/\i=(n:Int)/\nv=x.dj.length-n/\iT (cw d) x.dj=iT (cw d) (x.dj.drop n)/\ay [] w w'/\w0.heap.size<=w'.heap.size,x.dj.length,⟨0,bd _,rfl,rfl,rfl,ch,aW _⟩,?_⟩;rintro nv _ w1 ⟨n,Yz,rfl,rfl,fy,cn,z1⟩;refine⟨fun bQ=>?_,fun lR=>?_⟩
  ·have bQ:(n:Int)<(sl.n:Int):=aQ bQ;obtain⟨p,y,ds,g1,g2,g3,g4,g5,g6⟩:=(SliceF.only (dW d) (by decide) h2 cn (by simp)).get (ba n) bQ;rw[aX]at g2;obtain⟨sy,rfl⟩:=jV g6;refine⟨p,g1,_,_,_,_,_,_,g5,(FR d (hls y (br g2)) g6).mono ?_⟩;rintro _ w2 ⟨rfl,cG⟩;have z2:=cG.size;have lj:=Bt (f:=cw d) g2;refine⟨_,rfl,cG.same (by simp;omega),fun hb=>⟨?_,cn.cd cG⟩,fun hb=>⟨x.dj.length-(n+1),by omega,n+1,by omega,by rw[fH (by omega) (by omega)];rfl,rfl,?_,cn.cd cG,by omega⟩⟩
   ·have hb:cw d y=false:=by simpa using hb
    rw[cw,fy,lj,hb,du,gu]
   ·have hb:cw d y=true:=by simpa using hb
    rw[fy,lj,hb,bT]
  ·have lR:¬(n:Int)<(sl.n:Int):=aU lR;have:n=x.dj.length:=by omega
   subst this;rw[dy (aW _)]at fy;have ri:cw (d+1) x=gn x:=by
    rw[cw,fy];simp[iT]
   refine(oV w1 x.s hl0).mono ?_;rintro _ w3 ⟨rfl,dh⟩;have mw:=cn.cd dh;have z3:=dh.size;have e0:((T x.s).toList==(ao #[]).toList)=decide (x.s=[]):=iO x.s [];rw[e0,hn];refine⟨_,rfl,dh.same (by simp;omega),fun hk=>⟨?_,mw⟩,fun hk=>⟨fun b w'=>b=decide (x.k=2∨x.k=3)/\w'=w3,?_,fun oY=>⟨?_,rfl⟩,fun oY=>⟨?_,rfl⟩⟩⟩
   ·have hk:x.k=1:=by simpa using hk
    rw[ri,gn,if_pos hk,Lc];congr 4;rw[bI];simp only[bA,dz];split<;>omega
   ·have kg:x.k≠1:=by simpa using hk
    rintro _ _ ⟨rfl,rfl⟩;refine⟨fun hb=>⟨?_,mw⟩,fun hb=>⟨fun tZ=>⟨?_,mw⟩,fun tZ=>⟨fun pv=>?_,fun pv=>⟨?_,mw⟩⟩⟩⟩
    ·have hb:=aQ hb;rw[ri,gn,if_neg kg,if_pos hb,Lc];have:decide (x.s=x.s)=true:=bF rfl;rw[this,cR];cases(x.n==0)<;>cases cY x.s<;>simp
    ·have hb:=aU hb;have tZ:x.k=4:=by simpa using tZ
     rw[ri,gn,if_neg kg,if_neg hb,if_pos tZ,Lc];congr 3;rw[bI];simp only[cq,dz];split<;>omega
    ·have hb:=aU hb;have tZ:x.k≠4:=by simpa using tZ
     have pv:x.k=5:=by simpa using pv
     have hh5:gn x=(!(eL x.op==6)&&Lc 0 [] x.op 2 x):=by rw[gn,if_neg kg,if_neg hb,if_neg tZ,if_pos pv]
     have eop:(x.op==x.op)=true:=Mg _;refine⟨fun b w'=>b=gn x/\ay [] w w',?_,fun hc=>(vR (d:=d+1) (F:=F) (x:=x) ⟨sl,rfl,SliceF.only (dW d) (by decide) h2 mw (by simp)⟩).mono ?_,fun hc=>⟨?_,mw⟩⟩
     ·rintro _ _ ⟨rfl,h⟩;exact⟨ri.symm▸rfl,h⟩
     ·rintro _ w6 ⟨rfl,dR⟩;refine⟨_,rfl,dR.same (by simp;omega),?_,mw.cd dR⟩;rw[hh5,Lc,hc,eop,cR,bT,bN,if_pos pv];congr 1;rw[bI];simp only[bA,cx,DQ];have:eL x.op<=6:=by
       unfold eL;split
       ·omega
       split
       ·omega
       split
       ·omega
       split
       ·omega
       split
       ·omega
       split
       ·omega
       ·omega
      omega
     ·rw[hh5,Lc,hc,du,du,gu]
    ·have hb:=aU hb;have tZ:x.k≠4:=by simpa using tZ
     have pv:x.k≠5:=by simpa using pv
     rw[ri,gn,if_neg kg,if_neg hb,if_neg tZ,if_neg pv]
   ·have oY:x.k=2:=by simpa using oY
    rw[oY];rfl
   ·have oY:x.k≠2:=by simpa using oY
    rw[bI];simp[oY]
def wP(d:Nat)(x:Ex):Bool:=decide (mS d x≠[])
theorem ab9(l m:aH):T l++T m=T (l++m):=by
 apply ByteArray.ext;simp[T]
theorem S5(w:av){n:Int}(h0:0<=n)(h1:n<=9223372036854775807):az aq 97 #[O U n] w fun e w'=>e=ak (.int .u64 n)/\w'=w:=by
 refine ret (abq _ _ _ ?_);refine⟨fun hc=>absurd (aQ hc) (by omega),fun _=>⟨?_,rfl⟩⟩;have:ar .u64 n=n:=by
  have e:ar .u64 n=n % 18446744073709551616:=rfl;rw[e];omega
 rw[this]
theorem qO(u:Nat)(h:u<=18446744073709551615):(Lib.decDigits u).length<=40:=by
 have key:∀(k u:Nat),u<10 ^ (k+1)->(Lib.decDigits u).length<=k+1:=by
  intro k
  induction k with
  | zero=>intro u hu;rw[nR (by simpa using hu)];simp
  | succ k ih=>
   intro u hu;by_cases uS:u<10
   ·rw[nR uS];simp
   ·rw[qi uS,aN,bg];have:=ih (u/10) (by rw[Nat.div_lt_iff_lt_mul (by decide)];rw[Nat.pow_succ]at hu;exact hu);omega
 have:=key 19 u (by have:(10:Nat) ^ (19+1)=100000000000000000000:=(by decide);omega);omega
theorem BM:∀(u:Nat) (w:av),u<=18446744073709551615->az aq 96 #[.int .u64 (u:Int)] w fun e w'=>e=ak (ab (T (if u=0 then[]else Lib.decDigits u)))/\ay [] w w':=by
 intro u
 induction u using Nat.strongRecOn with
 | _ u ih=>
  intro w hu;refine ret (agO _ _ _ ?_);refine⟨fun hc=>?_,fun hc=>⟨fun s w'=>s=T (Lib.decDigits u)/\ay [] w w',fun s w' h=>?_,fun w1 cn=>⟨fun k=>w1.heap.size<=k,?_,?_⟩⟩⟩
  ·have hc:u=0:=by
    have:(u:Int)=0:=by simpa using hc
    omega
   rw[if_pos hc];exact⟨rfl,Only.refl _ _⟩
  ·have hc:u≠0:=fun e=>by subst e;simp at hc
   rw[if_neg hc,h.1];exact⟨rfl,h.2⟩
  all_goals
   have hc:u≠0:=fun e=>by subst e;simp at hc
   have wu:∀m:Nat,m<=18446744073709551615->ar .u64 (m:Int)=(m:Int):=fun m hm=>by
    have e:ar .u64 (m:Int)=(m:Int) % 18446744073709551616:=rfl;rw[e];omega
   have e1:ar .u64 ((u:Int).tdiv 10)=((u/10:Nat):Int):=by
    have:(u:Int).tdiv 10=((u/10:Nat):Int):=by
     rw[Int.tdiv_eq_ediv_of_nonneg (ba u)];rfl
    rw[this,wu _ (by omega)]
   have hm:(UInt8.ofNat (48+u % 10)).toNat=48+u % 10:=vK (Nat.mod_lt _ (by decide));have e2:ar .u8 (ar .u64 (48+((u:Int).tmod 10)))=((UInt8.ofNat (48+u % 10)).toNat:Int):=by
    have h1:(48+((u:Int).tmod 10))=((48+u % 10:Nat):Int):=by
     rw[Int.tmod_eq_emod_of_nonneg (ba u)];omega
    rw[h1,wu _ (by omega),hm];have e:ar .u8 ((48+u % 10:Nat):Int)=((48+u % 10:Nat):Int) % 256:=rfl;rw[e];omega
   have e3:T (if u/10=0 then[]else Lib.decDigits (u/10))++T [UInt8.ofNat (48+u % 10)]=T (Lib.decDigits u):=by
    rw[ab9];by_cases uS:u<10
    ·rw[if_pos (by omega),nR uS,ci];congr 3;omega
    ·rw[if_neg (by omega),<-qi uS]
   have ey:(if u/10=0 then[]else Lib.decDigits (u/10)).length<=100:=by
    split
    ·simp
    ·have:=qO (u/10) (by omega);omega
   rw[e1,e2]
  ·refine(ih (u/10) (by omega) w1 (by omega)).mono ?_;rintro _ w2 ⟨rfl,cG⟩;obtain⟨y,w3,k1,k2,k3,_⟩:=qH w2 [UInt8.ofNat (48+u % 10)] (n:=1) (parts:=#[(0,.int .u8 ((UInt8.ofNat (48+u % 10)).toNat:Int))]) rfl rfl (by decide) (by decide);refine⟨_,rfl,bO.only cG,y,w3,k1,bO.only k3,[UInt8.ofNat (48+u % 10)],(SliceF.bytes (vj k2)).rd,?_,e3,(cn.cd cG).cd k3⟩;have:(ao [UInt8.ofNat (48+u % 10)].toArray).size=1:=rfl;rw[bW];omega
  ·obtain⟨y,w4,k1,k2,k3,ka⟩:=qH w1 [UInt8.ofNat (48+u % 10)] (n:=1) (parts:=#[(0,.int .u8 ((UInt8.ofNat (48+u % 10)).toNat:Int))]) rfl rfl (by decide) (by decide);refine⟨y,w4,k1,bO.only k3,[UInt8.ofNat (48+u % 10)],fun p hp=>?_,(SliceF.bytes (vj k2)).rd,(ih (u/10) (by omega) w4 (by omega)).mono ?_⟩
   ·rw[ka]at hp;injection hp with hp;subst hp;exact aW _
   ·rintro _ w5 ⟨rfl,eh⟩;refine⟨_,rfl,bO.only eh,?_,e3,(cn.cd k3).cd eh⟩;have:(ao [UInt8.ofNat (48+u % 10)].toArray).size=1:=rfl;rw[bW];omega
theorem Pn(w:av){n:Int}(h0:0<=n)(h1:n<=9223372036854775807):az aq 47 #[O U n] w fun e w'=>e=ak (ab (T (Lib.itoa n)))/\ay [] w w':=by
 refine ret (abp _ _ _ ?_);refine⟨fun hc=>?_,fun hc=>⟨fun aeB=>absurd (aQ aeB) (by omega),fun _=>(S5 w h0 h1).mono ?_⟩⟩
 ·have hc:n=0:=by simpa using hc
  subst hc;rw[ou (iM _),Int.toNat_zero,nR (by decide)];exact⟨rfl,Only.refl _ _⟩
 ·have hc:n≠0:=by simpa using hc
  rintro _ w2 ⟨rfl,rfl⟩;obtain⟨u,rfl⟩:∃u:Nat,n=(u:Int):=⟨n.toNat,by omega⟩
  refine⟨_,rfl,(BM u _ (by omega)).mono ?_⟩;rintro _ w3 ⟨rfl,dh⟩;refine⟨_,rfl,?_,dh⟩;rw[if_neg (by omega),ou h0,aX]
def nj(l m:aH):aH:=if l.length<=16384 then l++m else l
def rm(wr:Bool)(l:aH):aH:=if wr then nj l [40]else l
def sE(wr:Bool)(l:aH):aH:=if wr then nj l [41]else l
def uj:Nat->Ex->aH->aH
 | 0,_,l=>l
 | d+1,x,l=>if 16384<l.length then l else
  if x.k=1 then nj l (Lib.itoa x.n)
  else if x.k=2 then nj l x.s
  else if x.k=3 then nj l ([105,110,40]++x.s++[41])
  else if x.k=4 then(match x.dj with
   | [y]=>sE (y.k==5) (uj d y (rm (y.k==5) (nj l (dD x.op.toNat))))
   | _=>l)
  else(match x.dj with
   | [y,z]=>sE (decide (bN z<=bN x)) (uj d z (rm (decide (bN z<=bN x)) (nj (sE (decide (bN y<bN x)) (uj d y (rm (decide (bN y<bN x)) l))) ([32]++dD x.op.toNat++[32]))))
   | _=>l)
def lI(l t r:aH):Prop:=(l.length+t.length<=16384->r=l++t)/\(16384<l.length+t.length->16384<r.length)
theorem lI.put(l m:aH):lI l m (nj l m):=by
 unfold nj;refine⟨fun h=>by rw[if_pos (by omega)],fun h=>?_⟩;by_cases hl:l.length<=16384
 ·rw[if_pos hl,aN];omega
 ·rw[if_neg hl];omega
theorem lI.trans{l t r t' r':aH}(h:lI l t r)(k:lI r t' r'):lI l (t++t') r':=by
 refine⟨fun hh=>?_,fun hh=>?_⟩
 ·rw[aN]at hh;have e:=h.1 (by omega);rw[e]at k;rw[k.1 (by rw[aN];omega),be]
 ·rw[aN]at hh;by_cases h1:l.length+t.length<=16384
  ·have e:=h.1 h1;refine k.2 ?_;rw[e,aN];omega
  ·have:=h.2 (by omega);exact k.2 (by omega)
theorem lI.refl(l:aH):lI l [] l:=⟨fun _=>by simp,fun h=>by simpa using h⟩
theorem lI.long{l t:aH}(h:16384<l.length):lI l t l:=⟨fun hh=>by omega,fun _=>h⟩
theorem lI.opn(wr:Bool)(l:aH):lI l (if wr then[40]else[]) (rm wr l):=by
 cases wr with
 | true=>exact lI.put _ _
 | false=>exact lI.refl _
theorem lI.clo(wr:Bool)(l:aH):lI l (if wr then[41]else[]) (sE wr l):=by
 cases wr with
 | true=>exact lI.put _ _
 | false=>exact lI.refl _
theorem S6(d:Nat)(x:Ex)(wr:Bool):kx (d+1) x wr=(if wr then[40]else[])++(kx (d+1) x false++(if wr then[41]else[])):=by
 unfold kx;cases wr with
 | true=>simp[clo,opn]
 | false=>simp[clo,opn]
theorem Po{d:Nat}{x:Ex}(h:cw d x=true)(wr:Bool):kx d x wr=(if wr then[40]else[])++(kx d x false++(if wr then[41]else[])):=by
 cases d with
 | zero=>cases h
 | succ d=>exact S6 d x wr
theorem aca{d:Nat}{y:Ex}(h:cw d y=true):decide (bN y<6)=(y.k==5):=by
 cases d with
 | zero=>cases h
 | succ d=>
  rw[cw,aP]at h;rw[bI];simp only[bA,dz];constructor
  ·intro hh;refine bC fun hn=>?_;rw[bN,if_neg hn]at hh;omega
  ·intro hh;obtain⟨_,y',z',_,o1,o2⟩:=oo h.1 (by omega) (by omega) (by omega) (by omega);rw[bN,if_pos hh];have:=(yA o1 o2).2;omega
theorem HK:∀(d:Nat) {x:Ex} (l:aH),cw d x=true->lI l (kx d x false) (uj d x l)
 | 0,x,l,h=>by cases h
 | d+1,x,l,h=>by
  rw[cw,aP]at h;obtain⟨hh,ha⟩:=h;have e:kx (d+1) x false=(
  if x.k=1 then Lib.itoa x.n
  else if x.k=2 then x.s
  else if x.k=3 then[105,110,40]++x.s++[41]
  else if x.k=4 then(match x.dj with
   | [y]=>dD x.op.toNat++kx d y (decide (bN y<6))
   | _=>[])
  else(match x.dj with
   | [y,z]=>kx d y (decide (bN y<bN x))++([32]++dD x.op.toNat++[32])++kx d z (decide (bN z<=bN x))
   | _=>[])):=rfl
  rw[uj];by_cases hl:16384<l.length
  ·rw[if_pos hl];exact lI.long hl
  rw[if_neg hl,e];have part:∀{y:Ex} (wr:Bool) (l:aH),cw d y=true->lI l (kx d y wr) (sE wr (uj d y (rm wr l))):=fun{y} wr l hy=>by
   rw[Po hy wr];exact(lI.opn wr l).trans ((HK d _ hy).trans (lI.clo wr _))
  by_cases k1:x.k=1
  ·rw[if_pos k1,if_pos k1];exact lI.put _ _
  by_cases k2:x.k=2
  ·rw[if_neg k1,if_neg k1,if_pos k2,if_pos k2];exact lI.put _ _
  by_cases k3:x.k=3
  ·rw[if_neg k1,if_neg k1,if_neg k2,if_neg k2,if_pos k3,if_pos k3];exact lI.put _ _
  by_cases k4:x.k=4
  ·obtain⟨y,hy,_⟩:=sf hh k4;rw[if_neg k1,if_neg k1,if_neg k2,if_neg k2,if_neg k3,if_neg k3,if_pos k4,if_pos k4,hy];rw[hy]at ha;simp only[iT,cR]at ha;dsimp only;rw[aca ha];exact(lI.put _ _).trans (part _ _ ha)
  ·obtain⟨_,y,z,hy,_⟩:=oo hh k1 k2 k3 k4;rw[if_neg k1,if_neg k1,if_neg k2,if_neg k2,if_neg k3,if_neg k3,if_neg k4,if_neg k4,hy];rw[hy]at ha;simp only[iT,cR,aP]at ha;exact((part _ _ ha.1).trans (lI.put _ _)).trans (part _ _ ha.2)
theorem WJ{d:Nat}{x:Ex}(h:cw d x=true):∀(wr:Bool) (l:aH),l.length+(kx d x wr).length<=16384->nY d x wr l=l++kx d x wr:=by
 induction d generalizing x with
 | zero=>cases h
 | succ d ih=>
  intro wr l ey;rw[cw,aP]at h;obtain⟨hh,ha⟩:=h;have hc:¬16384<l.length:=by omega
  rw[nY,if_neg hc];rw[kx]at ey⊢;rw[<-OI];have lR:=Hw wr (opn wr []++(
  if x.k=1 then Lib.itoa x.n
  else if x.k=2 then x.s
  else if x.k=3 then[105,110,40]++x.s++[41]
  else if x.k=4 then(match x.dj with
   | [y]=>dD x.op.toNat++kx d y (decide (bN y<6))
   | _=>[])
  else(match x.dj with
   | [y,z]=>kx d y (decide (bN y<bN x))++([32]++dD x.op.toNat++[32])++kx d z (decide (bN z<=bN x))
   | _=>[])))
  have uO:=bh (Nat.add_le_add_left lR l.length) ey;clear lR ey;congr 1;by_cases k1:x.k=1
  ·rw[if_pos k1,if_pos k1,mq wr l,be]
  by_cases k2:x.k=2
  ·rw[if_neg k1,if_neg k1,if_pos k2,if_pos k2,mq wr l,be]
  by_cases k3:x.k=3
  ·rw[if_neg k1,if_neg k1,if_neg k2,if_neg k2,if_pos k3,if_pos k3,mq wr l,be]
  by_cases k4:x.k=4
  ·obtain⟨y,hy,_⟩:=sf hh k4;rw[if_neg k1,if_neg k2,if_neg k3,if_pos k4,hy]at uO;rw[if_neg k1,if_neg k1,if_neg k2,if_neg k2,if_neg k3,if_neg k3,if_pos k4,if_pos k4,hy];rw[hy]at ha;dsimp only at uO⊢;simp only[iT,cR]at ha;simp only[aN]at uO;rw[ih ha _ _ (by rw[mq wr l];simp only[aN];omega),mq wr l];simp only[be]
  ·obtain⟨_,y,z,hy,_⟩:=oo hh k1 k2 k3 k4;rw[if_neg k1,if_neg k2,if_neg k3,if_neg k4,hy]at uO;rw[if_neg k1,if_neg k1,if_neg k2,if_neg k2,if_neg k3,if_neg k3,if_neg k4,if_neg k4,hy];rw[hy]at ha;dsimp only at uO⊢;simp only[iT,cR,aP]at ha;simp only[aN]at uO;have e1:nY d y (decide (bN y<bN x)) (opn wr l)=opn wr l++kx d y (decide (bN y<bN x)):=ih ha.1 _ _ (by rw[mq wr l];simp only[aN];omega);rw[e1,ih ha.2 _ _ (by rw[mq wr l];simp only[aN];omega),mq wr l];simp only[be]
theorem LN{d:Nat}{x:Ex}(hs:cw d x=true)(hn:jQ d x):mS d x=(if 16384<(uj d x []).length∨(fz (uj d x [])).2.1≠0 then[]else uj d x [])/\((fz (uj d x [])).2.1=0->(uj d x []).length<=16384->uj d x []=nY d x false []):=by
 have hr:=HK d (x:=x) [] hs;unfold lI at hr;rw[aZ,bD,ci]at hr;have long:∀l:aH,16384<l.length->(fz l).2.1≠0:=fun l h=>by
  have:cA l=([],2, -1):=by rw[cA,if_pos h]
  unfold fz;rw[this,if_pos (by decide)];exact(by decide:(2:Int)≠0)
 by_cases ht:(kx d x false).length<=16384
 ·have e1:=hr.1 ht;have e2:nY d x false []=kx d x false:=by
   have:=WJ hs false [] (by rw[aZ];omega);rwa[ci]at this
  rw[e1,mS,if_pos hs,e2];refine⟨?_,fun _ _=>rfl⟩;by_cases hc:(fz (kx d x false)).2.1≠0
  ·rw[if_pos hc,if_pos (.inr hc)]
  ·rw[if_neg hc,if_neg (by rintro(h | h);omega;exact hc h)]
 ·have h1:=hr.2 (by omega);have h2:16384<(nY d x false []).length:=by
   refine bC fun hn=>?_;have:=BE d false [] hs (by omega);rw[ci]at this;rw[this]at hn;omega
  refine⟨?_,fun _ h=>by omega⟩;rw[if_pos (.inl h1),mS,if_pos hs,if_pos (long _ h2)]
theorem qQ(l m:aH){K:Nat}(hm:m.length<=40)(hl:l.length<=K)(hK:16424<=K):(nj l m).length<=K:=by
 unfold nj;split
 ·rw[aN];omega
 ·exact hl
theorem wQ(wr:Bool)(l:aH){K:Nat}(hl:l.length<=K)(hK:16424<=K):(rm wr l).length<=K:=by
 cases wr with
 | true=>exact qQ _ _ (by decide) hl hK
 | false=>exact hl
theorem Dj(wr:Bool)(l:aH){K:Nat}(hl:l.length<=K)(hK:16424<=K):(sE wr l).length<=K:=by
 cases wr with
 | true=>exact qQ _ _ (by decide) hl hK
 | false=>exact hl
theorem FT:∀(d:Nat) {x:Ex} (l:aH) {K:Nat},cw d x=true->jQ d x->l.length<=K->16424<=K->(uj d x l).length<=K
 | 0,x,l,K,h,_,_,_=>by cases h
 | d+1,x,l,K,h,⟨hn,hs⟩,hl,hK=>by
  rw[cw,aP]at h;obtain⟨hh,ha⟩:=h;rw[uj];split
  ·exact hl
  split
  ·exact qQ _ _ (by have:=Lib.itoa_length_le x.n hn.1 hn.2;omega) hl hK
  ·split
   ·rename_i hk;exact qQ _ _ (by have:=gA (jg hh (.inl hk));omega) hl hK
   ·split
    ·rename_i hk;refine qQ _ _ ?_ hl hK;have:=gA (jg hh (.inr hk));rw[aN,aN];simp only[aR,aZ];omega
    ·split
     ·rename_i hk;obtain⟨y,hy,_⟩:=sf hh hk;rw[hy]at ha hs⊢;simp only[iT,cR]at ha;have:=ku x.op.toNat;exact Dj _ _ (FT d _ ha (hs y (by simp)) (wQ _ _ (qQ _ _ (by omega) hl hK) hK) hK) hK
     ·rename_i k1 k2 k3 k4;obtain⟨hk,y,z,hy,_⟩:=oo hh k1 k2 k3 k4;rw[hy]at ha hs⊢;simp only[iT,cR,aP]at ha;have:=ku x.op.toNat;exact Dj _ _ (FT d _ ha.2 (hs z (by simp)) (wQ _ _ (qQ _ _ (by rw[aN,aN];simp only[aR,aZ];omega) (Dj _ _ (FT d _ ha.1 (hs y (by simp)) (wQ _ _ hl hK) hK) hK) hK) hK) hK) hK
structure Pq (w:av) (b:Nat) (sl:Sl) (l:aH):Prop where
 blk:aF w b 263 [sl.v]
 buf:Bf w (b+1) sl l
section
variable {w w0 w1 w2 w':av} {b k0:Nat} {sl gL L3:Sl} {l:aH}
theorem Pq.only(h:Pq w b sl l)(hO:ay [] w w'):Pq w' b sl l:=⟨hO.blk h.blk (by simp),h.buf.keep fun g _ hl=>hO.block g hl (by simp)⟩
theorem Pq.lb(h:Pq w b sl l):b<w.heap.size:=h.blk.lt
theorem ii.sm(M:ii b sl w0 gL w1)(h1:k0≠b)(h2:sl.a≠some ⟨k0,0,none⟩)(h3:k0<w0.heap.size)(S:ii b gL w1 L3 w2):bS [k0] w1 w2:=S.same h1 (fun e=>by
 rcases M.2 k0 e with e | e
 ·exact h2 e
 ·omega) (by have:=M.1.size;omega)
theorem Pq.PJ(h:Pq w0 b sl l){k:Nat}(hk:k<b):¬(k=b∨sl.a=some ⟨k,0,none⟩):=by
 rintro(e | e)
 ·omega
 ·have:=(h.buf.lt e).1;omega
theorem ii.kp(M:ii b sl w0 gL w1)(h:Pq w0 b sl l)(h1:k0≠b)(h2:sl.a≠some ⟨k0,0,none⟩)(h3:k0<w0.heap.size)(S:ii b gL w1 L3 w2):bO (fun k=>k<b∨k=k0) w1 w2:=fun k hk bQ=>S.1.block k bQ fun hh=>by
 have hb:=h.lb;rcases hk with hk | rfl
 ·rcases hh with e | e
  ·omega
  ·rcases M.2 k e with e | e
   ·exact h.PJ hk (.inr e)
   ·omega
 ·rcases hh with e | e
  ·exact h1 e
  ·rcases M.2 k e with e | e
   ·exact h2 e
   ·omega
theorem xz(h:Pq w b sl l)(m:aH)(hm:l.length+m.length<=140737488355328):az aq 273 #[ae (some ⟨b,0,none⟩),ab (T m)] w fun e w'=>∃gL,e=ak (ai #[])/\Pq w' b gL (nj l m)/\ii b sl w gL w':=by
 refine(agP ⟨b,0,none⟩ (T m) (fun v w'=>∃gL,v=ai #[]/\Pq w' b gL (nj l m)/\ii b sl w gL w') w ?_).mono (by
  rintro e w' ⟨v,rfl,s,rfl,h⟩;exact⟨s,rfl,h⟩)
 have hn:=h.buf.len;have hb:=h.lb;refine⟨sl,Blk.ec h.blk 0 rfl,fun hc=>?_,fun hc=>⟨sl,rfl,?_,ii.refl _ _ _⟩⟩
 ·have hc:l.length<=16384:=by have:=aQ hc;omega
  obtain⟨s',w1,k1,k2,k3,k4⟩:=yu h.buf m (by omega) hm;have pD:=k3.blk h.blk fun e=>by have:=(h.buf.lt e).1;omega
  have BZ:∀g,s'.a=some ⟨g,0,none⟩->b<g:=fun g hg=>by
   rcases k4 with e | e
   ·rw[e]at hg;exact(h.buf.lt hg).1
   ·rw[e]at hg;injection hg with hg;injection hg with hg;omega
  refine⟨sl,Blk.ec h.blk 0 rfl,s',w1,k1,b,0,_,_,rfl,pD,by simp,fun w2 cG lm=>⟨s',rfl,⟨lm,?_⟩,?_,?_⟩⟩
  ·rw[nj,if_pos hc];exact k2.keep fun g hg hl=>cG.block g hl (by have:=BZ g hg;simp;omega)
  ·exact(k3.mono fun k _ hk=>.inr hk).trans (cG.p (F:=fun k=>k=b) fun x hx=>.inl (by simpa using hx)) fun k hk=>.inl (.inl hk)
  ·intro k hk;rcases k4 with e | e
   ·rw[e]at hk;exact .inl hk
   ·rw[e]at hk;injection hk with hk;injection hk with hk;exact .inr (by omega)
 ·have hc:¬l.length<=16384:=by have:=aU hc;omega
  rw[nj,if_neg hc];exact h
end
abbrev RgC(d:Nat):Prop:=∀{F:aJ} {w:av} {b:Nat} {sl:Sl} {l:aH} {x:Ex} {cs:aI},cw d x=true->jQ d x->nM d w F x cs->(∀k,F k->k<b)->Pq w b sl l->l.length<=16424->
 az aq 232 #[ae (some ⟨b,0,none⟩),ah cs.toArray] w fun e w'=>∃gL,e=ak (ai #[])/\Pq w' b gL (uj d x l)/\ii b sl w gL w'
theorem Dk{d:Nat}(hR:RgC d){F:aJ}{w:av}{b:Nat}{sl:Sl}{l:aH}{x:Ex}{cs:aI}(wr:Bool)(hs:cw d x=true)(hn:jQ d x)(hx:nM d w F x cs)(hF:∀k,F k->k<b)(hP:Pq w b sl l)(hl:l.length<=16424):
  az aq 274 #[ae (some ⟨b,0,none⟩),ah cs.toArray,aj wr] w fun e w'=>∃gL,e=ak (ai #[])/\Pq w' b gL (sE wr (uj d x (rm wr l)))/\ii b sl w gL w':=by
 obtain⟨xs,rfl⟩:=jV hx;refine(agQ ⟨b,0,none⟩ x.k x.n (T x.s) x.op xs x.a wr (fun v w'=>∃gL,v=ai #[]/\Pq w' b gL (sE wr (uj d x (rm wr l)))/\ii b sl w gL w') w ?_).mono (by
  rintro e w' ⟨v,rfl,s,rfl,h⟩;exact⟨s,rfl,h⟩)
 intro k0 w0 gD dQ ch;have hb:=hP.lb;have GD:=hP.only ch;have o1:k0≠b:=by omega
 have o2:sl.a≠some ⟨k0,0,none⟩:=fun e=>by have:=(hP.buf.lt e).2;omega
 have hrl:=fun l' h=>FT d (x:=x) l' (K:=16424) hs hn h (aW _);refine⟨fun w1=>∃ZF,Pq w1 b ZF (rm wr l)/\ii b sl w0 ZF w1,?_,fun hw=>(xz GD [40] (by rw[bg];omega)).mono ?_,fun hw=>⟨sl,by rw[hw];exact GD,ii.refl _ _ _⟩⟩
 ·rintro w1 ⟨ZF,h1,m1⟩;refine(hR hs hn ((dW d).keep (fP hx ch) fun k hk bQ=>m1.1.block k bQ (GD.PJ (hF k hk))) hF h1 (wQ _ _ hl (aW _))).mono ?_;rintro _ w2 ⟨Qc,rfl,h2,m2⟩;refine⟨rfl,m1.sm o1 o2 dQ m2,fun hw=>(xz h2 [41] (by have:=hrl _ (wQ wr l hl (aW _));rw[bg];omega)).mono ?_,fun hw=>⟨Qc,rfl,?_,(m1.trans m2).after ch⟩⟩
  ·rintro _ w3 ⟨sl3,rfl,h3,m3⟩;refine⟨rfl,(m1.trans m2).sm o1 o2 dQ m3,sl3,rfl,?_,((m1.trans m2).trans m3).after ch⟩;unfold sE;rw[if_pos hw];exact h3
  ·unfold sE;rw[if_neg (by rw[hw];decide)];exact h2
 ·rintro _ w4 ⟨X3,rfl,h4,m4⟩;refine⟨rfl,(ii.refl b sl w0).sm o1 o2 dQ m4,X3,?_,m4⟩;unfold rm;rw[if_pos hw];exact h4
theorem Ps{k j:Nat}{op:Int}(hk:k<6)(h:((eu[k]?).getD [])[j]? =some op):((nA[k]?).getD [])[j]? =some (dD op.toNat):=by
 have hj:j<4:=by
  have h1:=(bc.1 h).1;have h2:∀k,k<6->((eu[k]?).getD []).length<=4:=by decide
  have:=h2 k hk;omega
 have fy:∀k,k<6->∀j,j<4->∀o,((eu[k]?).getD [])[j]? =some o->((nA[k]?).getD [])[j]? =some (dD o.toNat):=by
  intro k hk j hj o ho
  match k,hk,j,hj with
  | 0,_,0,_=>simp[eu]at ho;subst ho;rfl
  | 0,_,j+1,_=>simp[eu]at ho
  | 1,_,0,_=>simp[eu]at ho;subst ho;rfl
  | 1,_,j+1,_=>simp[eu]at ho
  | 2,_,0,_=>simp[eu]at ho;subst ho;rfl
  | 2,_,1,_=>simp[eu]at ho;subst ho;rfl
  | 2,_,j+2,_=>simp[eu]at ho
  | 3,_,0,_=>simp[eu]at ho;subst ho;rfl
  | 3,_,1,_=>simp[eu]at ho;subst ho;rfl
  | 3,_,2,_=>simp[eu]at ho;subst ho;rfl
  | 3,_,3,_=>simp[eu]at ho;subst ho;rfl
  | 4,_,0,_=>simp[eu]at ho;subst ho;rfl
  | 4,_,1,_=>simp[eu]at ho;subst ho;rfl
  | 4,_,j+2,_=>simp[eu]at ho
  | 5,_,0,_=>simp[eu]at ho;subst ho;rfl
  | 5,_,1,_=>simp[eu]at ho;subst ho;rfl
  | 5,_,2,_=>simp[eu]at ho;subst ho;rfl
  | 5,_,j+3,_=>simp[eu]at ho
 exact fy k hk j hj op h
theorem HL{k:Nat}(hk:k<6):((eu[k]?).getD []).Nodup:=by
 have:∀k,k<6->((eu[k]?).getD []).Nodup:=by decide
 exact this k hk
theorem Pu{op:Int}(h1:1<=op)(h2:op<=13):op∈(eu[(eL op).toNat]?).getD []:=by
 have:∀n:Nat,n<14->1<=n->((n:Int))∈(eu[(eL (n:Int)).toNat]?).getD []:=by decide
 have:=this op.toNat (by omega) (by omega);rwa[gw (by omega)]at this
theorem yD:∀d,RgC d
 | 0,_,_,_,_,_,_,_,_,_,h,_,_,_=>h.elim
 | d+1,F,w,b,sl,l,x,cs,ri,⟨Rj,Rk⟩,⟨xs,h1,h2⟩,hF,hP,ey=>by
  subst h1;refine(agN ⟨b,0,none⟩ x.k x.n (T x.s) x.op xs x.a (fun v w'=>∃gL,v=ai #[]/\Pq w' b gL (uj (d+1) x l)/\ii b sl w gL w') w ?_).mono (by
   rintro e w' ⟨v,rfl,s,rfl,h⟩;exact⟨s,rfl,h⟩)
  rw[cw,aP]at ri;obtain⟨hh,ha⟩:=ri;intro k0 w0 gD dQ ch;have hb:=hP.lb;have GD:=hP.only ch;have yF:=SliceF.only (dW d) (by decide) h2 ch (by simp);have o1:k0≠b:=by omega
  have o2:sl.a≠some ⟨k0,0,none⟩:=fun e=>by have:=(hP.buf.lt e).2;omega
  have hbn:=hP.buf.len;have rf:=ii.refl b sl w0;have sub:∀{w1:av} {ZF:Sl} {i:Nat} {y:Ex},ii b sl w0 ZF w1->x.dj[i]? =some y->∃ad sy,dl xs (i:Int) 6 ad/\ad.block<b/\aB w1 ad (j6 y.k y.n y.s y.op sy y.a)/\nM d w1 F y (j6 y.k y.n y.s y.op sy y.a):=fun{w1 ZF i y} m1 hy=>by
   have hS:=SliceF.rc (dW d) (by decide) yF m1.1 fun k hk _=>GD.PJ (hF k hk);have hn:=hS.len;have bQ:=(bc.1 hy).1;obtain⟨ad,y',cs,g1,g2,g3,g4,g5,g6⟩:=hS.get (ba i) (by omega);rw[aX,hy]at g2;injection g2 with g2;subst g2;obtain⟨sy,rfl⟩:=jV g6;exact⟨ad,sy,g1,hF _ g3,g5,g6⟩
  refine⟨sl,Blk.ec GD.blk 0 rfl,fun hc=>⟨sl,rfl,?_,ii.only ch⟩,fun hc=>?_⟩
  ·rw[uj,if_pos (by have:=aQ hc;omega)];exact GD
  have hc:¬16384<l.length:=by have:=aU hc;omega
  have hrg:uj (d+1) x l=(if x.k=1 then nj l (Lib.itoa x.n)
  else if x.k=2 then nj l x.s
  else if x.k=3 then nj l ([105,110,40]++x.s++[41])
  else if x.k=4 then(match x.dj with
   | [y]=>sE (y.k==5) (uj d y (rm (y.k==5) (nj l (dD x.op.toNat))))
   | _=>l)
  else(match x.dj with
   | [y,z]=>sE (decide (bN z<=bN x)) (uj d z (rm (decide (bN z<=bN x)) (nj (sE (decide (bN y<bN x)) (uj d y (rm (decide (bN y<bN x)) l))) ([32]++dD x.op.toNat++[32]))))
   | _=>l)):=by rw[uj,if_neg hc]
  refine⟨fun hk=>?_,fun k1=>⟨fun hk=>?_,fun k2=>⟨fun hk=>⟨?_,?_,?_⟩,fun k3=>⟨fun hk=>?_,fun k4=>⟨fun _=>?_,fun k5=>?_⟩⟩⟩⟩⟩
  ·have hk:x.k=1:=by simpa using hk
   have h0:0<=x.n:=by
    rw[gn,if_pos hk]at hh;have:=(uh hh).1;split at this<;>omega
   refine(Pn w0 h0 Rj.2).mono ?_;rintro _ w1 ⟨rfl,cn⟩;have hl:=Lib.itoa_length_le x.n Rj.1 Rj.2;refine⟨_,rfl,cn.same (by simp;omega),(xz (GD.only cn) (Lib.itoa x.n) (by omega)).mono ?_⟩;rintro _ w2 ⟨Qc,rfl,P1,tF⟩;exact⟨rfl,(ii.only cn).sm o1 o2 dQ tF,Qc,rfl,by rw[hrg,if_pos hk];exact P1,(tF.after cn).after ch⟩
  ·have hk:x.k=2:=by simpa using hk
   have k1:x.k≠1:=by omega
   have hl:=gA (jg hh (.inl hk));refine(xz GD x.s (by omega)).mono ?_;rintro _ w2 ⟨Qc,rfl,P1,tF⟩;exact⟨rfl,rf.sm o1 o2 dQ tF,Qc,rfl,by rw[hrg,if_neg k1,if_pos hk];exact P1,tF.after ch⟩
  ·have hk:x.k=3:=by simpa using hk
   have hl:=gA (jg hh (.inr hk));rw[bW];omega
  ·have hk:x.k=3:=by simpa using hk
   have hl:=gA (jg hh (.inr hk));rw[YR];have:(ao #[105,110,40]).size=3:=rfl;omega
  ·have hk:x.k=3:=by simpa using hk
   have hl:=gA (jg hh (.inr hk));have uO:([105,110,40]++x.s++[41]:aH).length=x.s.length+4:=by
    rw[aN,aN];simp only[aR,aZ];omega
   rw[inb];refine(xz GD _ (by omega)).mono ?_;rintro _ w2 ⟨Qc,rfl,P1,tF⟩;exact⟨rfl,rf.sm o1 o2 dQ tF,Qc,rfl,by rw[hrg,if_neg (by omega),if_neg (by omega),if_pos hk];exact P1,tF.after ch⟩
  ·have hk:x.k=4:=by simpa using hk
   obtain⟨y,hy,oB⟩:=sf hh hk;have XF:cw d y=true:=by rw[hy]at ha;simpa[iT]using ha
   have A5:jQ d y:=Rk y (by rw[hy];simp);have Qi:=ku x.op.toNat;have hrk:uj (d+1) x l=sE (y.k==5) (uj d y (rm (y.k==5) (nj l (dD x.op.toNat)))):=by rw[hrg,if_neg (by omega),if_neg (by omega),if_neg (by omega),if_pos hk,hy]
   refine⟨fun w5=>∃DZ,Pq w5 b DZ (nj l (dD x.op.toNat))/\ii b sl w0 DZ w5,?_,fun ho=>?_,fun ho=>?_⟩
   ·rintro w5 ⟨DZ,h5,m5⟩;obtain⟨p1,sy,e1,e2,_,_⟩:=sub (i:=0) m5 (by rw[hy];rfl);refine⟨p1,e1,fun w6 dR=>?_⟩;have m6:=m5.trans (ii.only dR);obtain⟨p1',sy',e1',e2',e3',e4'⟩:=sub (i:=0) m6 (y:=y) (by rw[hy];rfl);have:=dl.Aq e1' e1;subst this;refine⟨_,_,_,_,_,_,e3',p1',e1,y.k,e3'.ec 0 _ rfl,(Dk (yD d) (y.k==5) XF A5 e4' hF (h5.only dR) (qQ _ _ (by omega) ey (aW _))).mono ?_⟩;rintro _ w7 ⟨sl7,rfl,h7,m7⟩;exact⟨rfl,m6.sm o1 o2 dQ m7,sl7,rfl,by rw[hrk];exact h7,(m6.trans m7).after ch⟩
   ·have ho:x.op=14:=by simpa using ho
    refine(xz GD [45] (by rw[bg];omega)).mono ?_;rintro _ w8 ⟨sl8,rfl,h8,m8⟩;exact⟨rfl,rf.sm o1 o2 dQ m8,sl8,by rw[ho];exact h8,m8⟩
   ·have ho:x.op=15:=by
     have:x.op≠14:=by simpa using ho
     omega
    refine(xz GD [33] (by rw[bg];omega)).mono ?_;rintro _ w8 ⟨sl8,rfl,h8,m8⟩;exact⟨rfl,rf.sm o1 o2 dQ m8,sl8,by rw[ho];exact h8,m8⟩
  ·have k1:x.k≠1:=by simpa using k1
   have k2:x.k≠2:=by simpa using k2
   have k3:x.k≠3:=by simpa using k3
   have k4:x.k≠4:=by simpa using k4
   obtain⟨hk,y,z,hy,P0,Gz⟩:=oo hh k1 k2 k3 k4;have xa:cw d y=true/\cw d z=true:=by rw[hy]at ha;simpa[iT]using ha
   have A5:jQ d y:=Rk y (by rw[hy];simp);have Rl:jQ d z:=Rk z (by rw[hy];simp);have Qi:=ku x.op.toNat;have hlx:bN x=eL x.op:=by rw[bN,if_pos hk]
   obtain⟨r0,r5⟩:=yA P0 Gz;have hrk:uj (d+1) x l=sE (decide (bN z<=bN x)) (uj d z (rm (decide (bN z<=bN x)) (nj (sE (decide (bN y<bN x)) (uj d y (rm (decide (bN y<bN x)) l))) ([32]++dD x.op.toNat++[32])))):=by rw[hrg,if_neg k1,if_neg k2,if_neg k3,if_neg k4,hy]
   refine(vR (show nM (d+1) _ F x (j6 x.k x.n x.s x.op xs x.a)from⟨xs,rfl,yF⟩)).mono ?_;rintro _ dw ⟨rfl,dM⟩;have z0:=ch.size;have H0:=dM.size;refine⟨_,rfl,dM.same (by simp;omega),(HH dw).mono ?_⟩;rintro _ dJ ⟨l2,rfl,hN,dY⟩;have Gd:=dY.size;have m0:=hN.len;have m6:eu.length=6:=rfl;obtain⟨kr,Yr⟩:∃kr:Nat,bN x=(kr:Int):=⟨(bN x).toNat,by omega⟩
   have aeE:kr<6:=by omega
   obtain⟨p2,x1,cs1,e1,e2,e3,e4,e5,l3,rfl,hM⟩:=(SliceF.inHeap (tE lH) hN (by decide)).get (i:=bN x) (by omega) (by omega);have TI:(eu[kr]?).getD []=x1:=by
    rw[Yr,aX]at e2;rw[e2];rfl
   refine⟨l2,rfl,dY.same (by simp;omega),p2,e1,l3,e5,fun eM fb=>?_⟩;have m12:ii b sl w0 sl eM:=ii.only ((dM.cd dY).cd fb);have Qx:=GD.only ((dM.cd dY).cd fb);have akG:=SliceF.only lH (by decide) hM fb (by simp);have z12:=fb.size;obtain⟨p3,sy,f1,f2,f3,f4⟩:=sub (i:=0) m12 (y:=y) (by rw[hy];rfl);refine⟨fun k=>k<b∨k=k0,.inr rfl,p3,f1,.inl f2,_,_,_,_,_,_,f3,p3,f1,_,_,_,_,_,_,f3,(vR f4).mono ?_⟩;rintro _ eU ⟨rfl,dL⟩;have Mz:=dL.size;have m13:=m12.trans (ii.only dL);have hly:(rm (decide (bN y<bN x)) l).length<=16424:=wQ _ _ ey (aW _);refine⟨_,rfl,dL.same (by simp;omega),bO.only dL,(Dk (yD d) (decide (bN y<bN x)) xa.1 A5 (fP f4 dL) hF (Qx.only dL) ey).mono ?_⟩;rintro _ fM ⟨L4,rfl,h14,m14⟩;have YI:=m13.trans m14;have Xu:=m14.1.size;generalize hA:sE (decide (bN y<bN x)) (uj d y (rm (decide (bN y<bN x)) l))=A at*
   have hAl:A.length<=16424:=by rw[<-hA];exact Dj _ _ (FT d _ xa.1 A5 hly (aW _)) (aW _)
   have akH:∀{iy:av} {Gn:Sl},ii b L4 fM Gn iy->aA wM 1 iy (fun k=>dw.heap.size<=k/\k<dJ.heap.size) l3 x1:=fun{iy Gn} m15=>by
    have pq:ii b sl eM Gn iy:=((ii.only dL).trans m14).trans m15;refine SliceF.rc lH (by decide) akG pq.1 fun k hk _ hh=>?_;rcases hh with e | e
    ·omega
    ·have:=(GD.buf.lt e).2;omega
   have t1:=hM.len;have t2:=hM.cap;have t3:=hM.big;refine⟨rfl,m13.sm o1 o2 dQ m14,m13.kp GD o1 o2 dQ m14,fun nv i iy=>∃(j:Nat) (Gn:Sl),j<=x1.length/\i=(j:Int)/\nv=x1.length-j/\Pq iy b Gn (if x.op∈x1.take j then nj A ([32]++dD x.op.toNat++[32])else A)/\ii b L4 fM Gn iy,x1.length,⟨0,L4,bd _,rfl,rfl,by rw[dr,if_neg (by simp)];exact h14,ii.refl _ _ _⟩,?_⟩;rintro nv _ iy ⟨j,Gn,hj,rfl,rfl,DI,m15⟩;have hnd:x1.Nodup:=TI▸HL aeE;refine⟨fun bQ=>?_,fun lR mX ja=>?_⟩
   ·have bQ:(j:Int)<(l3.n:Int):=aQ bQ;obtain⟨p5,q,cs5,g1,g2,g3,g4,g5,g6⟩:=(akH m15).get (ba j) bQ;unfold wM at g6;subst g6;rw[aX]at g2;refine⟨fun jK=>∃TP:Sl,Pq jK b TP (if x.op∈x1.take (j+1)then nj A ([32]++dD x.op.toNat++[32])else A)/\ii b L4 fM TP jK,?_,p5,g1,q,g5,fun he iZ jt=>(O9 iZ).mono ?_,fun he jL lJ=>⟨Gn,?_,m15.trans (ii.only lJ)⟩⟩
    ·rintro jK ⟨TP,h16,m16⟩;exact⟨x1.length-(j+1),by omega,j+1,TP,by omega,by rw[fH (by omega) (by omega)];rfl,rfl,h16,m16⟩
    ·have he:q=x.op:=by simpa using he
     subst he;rintro _ jM ⟨l6,rfl,hRw,kb⟩;have n0:=hRw.len;have n6:nA.length=6:=rfl;obtain⟨p6,x6,cs6,u1,u2,u3,u4,u5,l7,rfl,hS⟩:=hRw.get (i:=bN x) (by omega) (by omega);have hx6:(nA[kr]?).getD []=x6:=by
      rw[Yr,aX]at u2;rw[u2];rfl
     have hrn:=Ps (k:=kr) (j:=j) aeE (by rw[TI];exact g2);rw[hx6]at hrn;have v0:=hS.len;obtain⟨p7,s7,cs7,v1,v2,v3,v4,v5,v6⟩:=hS.get (i:=(j:Int)) (ba j) (by have:=(bc.1 hrn).1;omega);unfold jB at v6;subst v6;rw[aX,hrn]at v2;injection v2 with v2;subst v2;have xP:(ao #[32]).size=1:=rfl;have m18:=m15.trans (ii.only (jt.cd kb));have uO:([32]++dD x.op.toNat++[32]:aH).length=(dD x.op.toNat).length+2:=by
      rw[aN,aN];simp only[aR,aZ];omega
     have akJ:x.op∉x1.take j:=fun hm=>by
      obtain⟨jj,Zm⟩:=jG hm;rw[nT]at Zm;split at Zm
      ·rename_i TN;have:=(List.getElem?_inj (by omega) hnd).1 (Zm.trans g2.symm);omega
      ·cases Zm
     rw[if_neg akJ]at DI;refine⟨l6,rfl,kb.same (by
      have:=YI.1.size;have:=m15.1.size;have:=jt.size;simp;omega),p6,u1,l7,u5,p7,v1,_,v5,by rw[bW];omega,by rw[YR];omega,?_⟩
     rw[blb];refine(xz (DI.only (jt.cd kb)) _ (by omega)).mono ?_;rintro _ kf ⟨akK,rfl,h19,m19⟩;refine⟨rfl,(YI.trans m18).sm o1 o2 dQ m19,akK,?_,m18.trans m19⟩;rw[if_pos (by rw[bB,g2];simp)];exact h19
    ·have he:q≠x.op:=by simpa using he
     have:(x.op∈x1.take (j+1))↔(x.op∈x1.take j):=by
      rw[bB,g2,cH];simp;intro e;exact absurd e.symm he
     simp only[this];exact DI.only lJ
   ·have lR:¬(j:Int)<(l3.n:Int):=aU lR;have:j=x1.length:=by omega
    subst this;have MF:x.op∈x1.take x1.length:=by
     rw[bH (aW _)];have:=Pu P0 Gz;rw[<-hlx,Yr,aX,TI]at this;exact this
    rw[if_pos MF]at DI;have m21:=(YI.trans m15).trans (ii.only ja);obtain⟨p8,sz,f1,f2,f3,f4⟩:=sub (i:=1) m21 (y:=z) (by rw[hy];rfl);refine⟨fun k=>k<b∨k=k0,.inr rfl,p8,f1,.inl f2,_,_,_,_,_,_,f3,p8,f1,_,_,_,_,_,_,f3,(vR f4).mono ?_⟩;rintro _ qS ⟨rfl,ry⟩;have m22:=m21.trans (ii.only ry);have z21:=m21.1.size;have uO:([32]++dD x.op.toNat++[32]:aH).length<=40:=by
     rw[aN,aN];simp only[aR,aZ];omega
    refine⟨_,rfl,ry.same (by simp;omega),bO.only ry,(Dk (yD d) (decide (bN z<=bN x)) xa.2 Rl (fP f4 ry) hF ((DI.only ja).only ry) (qQ _ _ uO hAl (aW _))).mono ?_⟩;rintro _ rh ⟨akL,rfl,h23,m23⟩;exact⟨rfl,m22.sm o1 o2 dQ m23,m22.kp GD o1 o2 dQ m23,akL,rfl,by rw[hrk];exact h23,(m22.trans m23).after ch⟩
  ·have k1:x.k≠1:=by simpa using k1
   have k2:x.k≠2:=by simpa using k2
   have k3:x.k≠3:=by simpa using k3
   have k4:x.k≠4:=by simpa using k4
   have k5:x.k≠5:=by simpa using k5
   exact absurd (oo hh k1 k2 k3 k4).1 k5
theorem Bf.bytes{w:av}{B:Nat}{s:Sl}{l:aH}(h:Bf w B s l):qW w s l:=by
 rcases h with⟨rfl,rfl⟩ | ⟨g,tail,h1,h2,h3,h4,h5,h6,h7,h8⟩
 ·exact⟨rfl,fun h=>absurd rfl h⟩
 ·exact⟨h5,fun _=>⟨⟨g,0,none⟩,h1,h3.cells 0 (l.map fW) fun j v hj=>by rw[bD,bJ (bc.1 hj).1];exact hj⟩⟩
theorem S7{d:Nat}{w:av}{F:aJ}{x:Ex}{cs:aI}(hx:nM d w F x cs)(hl:∀e,ug e x)(hn:jQ d x):
  az aq 183 #[ah cs.toArray] w fun e w'=>e=ak (ai #[ab (T (mS d x)),aj (wP d x)])/\ay [] w w':=by
 obtain⟨xs,rfl⟩:=jV hx;refine ret (agJ _ _ _ _ _ _ _ _ ?_);intro k0 w0 gD dQ ch;have hxi:=(dW d).inHeap hx;refine(FR d hl (fP hx ch)).mono ?_;rintro _ w1 ⟨rfl,cn⟩;have z0:=ch.size;have z1:=cn.size;have fG:=ch.cd cn;refine⟨_,rfl,cn.same (by simp;omega),fun hs=>?_,fun hs k1 w2 kg ju cG lm=>?_⟩
 ·have hs:cw d x=false:=by simpa using hs
  rw[wP,mS,if_neg (by rw[hs];decide)];exact⟨rfl,fG⟩
 have hs:cw d x=true:=by simpa using hs
 have z2:=cG.size;have js:=fG.cd cG;have hPq:Pq w2 k1 Sl.nil []:=⟨lm,.inl ⟨rfl,rfl⟩⟩
 refine(yD d hs hn (fP hxi js) (fun k hk=>by have:=hk.2;omega) hPq (by decide)).mono ?_;rintro _ w3 ⟨sl3,rfl,hp3,LU⟩;have z3:=LU.1.size;have dh:ay [] w w3:=(js.wT LU.1).only fun k hk=>by
  rcases hk with rfl | e
  ·omega
  ·cases e
 obtain⟨Rs,KC⟩:=LN hs hn;have gC:uj d x []≠[]:=by
  intro e;obtain⟨c,t,h1,_⟩:=tu d false hs hn;have hlw:=HK d (x:=x) [] hs;by_cases ey:(kx d x false).length<=16384
  ·have:=hlw.1 (by rw[aZ];omega);rw[e,h1]at this;simp at this
  ·have:=hlw.2 (by rw[aZ];omega);rw[e]at this;simp at this
 generalize hG:uj d x []=G at*
 refine⟨rfl,LU.same (by omega) (fun e=>by cases e) (by omega),sl3,hp3.blk,G,hp3.buf.bytes,(S3 w3 G).mono ?_⟩;rintro _ w4 ⟨ys,rfl,hY,dI⟩;have z4:=dI.size;obtain⟨d2,Zl⟩:=hY.ex;obtain⟨yl,rfl,_⟩:=hY.cells;have qs:=dI.blk hp3.blk (by simp);refine⟨_,_,_,_,_,_,_,_,rfl,dI.same (by simp;omega),sl3,qs,fun k2 k3 w5 oY oG Ky Ay eh tX=>?_⟩;have z5:=eh.size;have AA:=(dh.cd dI).cd eh;refine(Hi false d (fP hx AA) (fP Zl eh)).mono ?_;rintro _ w6 ⟨rfl,dR⟩;have A3:=AA.cd dR;have hsz:((ao G.toArray).size:Int)=(G.length:Int):=by
  have:(ao G.toArray).size=G.length:=bW G;rw[this]
 refine⟨_,rfl,dR.same (by simp;omega),sl3,dR.blk tX (by simp),?_⟩;rw[hsz];by_cases hc:16384<G.length∨(fz G).2.1≠0
 ·have hcond:(decide ((G.length:Int)>16384)||((fz G).2.1 !=0))=true:=by
   rcases hc with h | h
   ·rw[bF (by omega),Ip]
   ·have:((fz G).2.1 !=0)=true:=by simpa using h
    rw[this,mA]
  rw[hcond,Ip];rw[if_pos hc]at Rs;refine⟨fun _=>?_,fun h=>(by cases h)⟩;rw[wP,Rs];exact⟨rfl,A3⟩
 ·have h1:G.length<=16384:=by omega
  have h2:(fz G).2.1=0:=by
   refine bC fun h=>hc (.inr h)
  have hpe:=KC h2 h1;have akN:Sim x (fz G).1:=by
   have:=FD hs hn (by rw[<-hpe];exact h2);rw[<-hpe]at this;exact this.2
  rw[if_neg hc]at Rs;rw[akN.same d,h2,bn (by omega)];refine⟨fun h=>(by cases h),fun _=>?_⟩;rw[wP,Rs,bF gC];exact⟨rfl,A3⟩
section
variable {w:av} {F:aJ} {x:Ex} {cs:aI}
theorem FU(hx:rE false w F x cs)(hn:Lg x)(hs:zT x<=1759218604441):
  az aq 183 #[ah cs.toArray] w fun e w'=>e=ak (ai #[ab (T (ta x)),aj (pf x)])/\ay [] w w':=by
 obtain⟨d,h⟩:=hx;have h:=uB h;refine(S7 h (fun e=>Hm e x (by omega)) (hn d)).mono ?_;rintro _ w' ⟨rfl,hO⟩;rw[wP,Jn (Hk h)];exact⟨rfl,hO⟩
theorem BN(hx:rE false w F x cs)(hn:Lg x)(hs:zT x<=1759218604441):
  az aq 221 #[ah cs.toArray] w fun e w'=>e=ak (aj (pf x))/\ay [] w w':=by
 obtain⟨sl,rfl⟩:=eH hx;refine ret (agI _ _ _ _ _ _ _ _ ?_);intro k0 w0 gD dQ ch;refine(FU ((gz false).keep hx fun k _ bQ=>ch.block k bQ (by simp)) hn hs).mono ?_;rintro _ w1 ⟨rfl,cn⟩;exact⟨_,_,rfl,cn.same (by simp;omega),rfl,ch.cd cn⟩
theorem Dl(hx:rE false w F x cs)(hn:Lg x)(hs:zT x<=1759218604441):
  az aq 118 #[ah cs.toArray] w fun e w'=>e=ak (ab (T (ta x)))/\ay [] w w':=by
 obtain⟨sl,rfl⟩:=eH hx;refine ret (ahd _ _ _ _ _ _ _ _ ?_);intro k0 w0 gD dQ ch;refine(FU ((gz false).keep hx fun k _ bQ=>ch.block k bQ (by simp)) hn hs).mono ?_;rintro _ w1 ⟨rfl,cn⟩;exact⟨_,_,rfl,cn.same (by simp;omega),rfl,ch.cd cn⟩
theorem Kc(hx:rE false w F x cs):
  az aq 222 #[ah cs.toArray] w fun e w'=>e=ak (aj (mT x))/\ay [] w w':=by
 obtain⟨d,hx⟩:=hx;have hx:=uB hx;cases d with
 | zero=>exact hx.elim
 | succ d=>
 obtain⟨sl,rfl,hs⟩:=hx;refine ret (ag7 _ _ _ _ _ _ _ _ ?_);intro k0 w0 gD dQ ch;have hl:=hs.len;have e:((T x.s).toList==((ao #[]).toList))=decide (x.s=[]):=iO x.s [];rw[e,hl];exact⟨rfl,ch⟩
end
theorem _root_.Go.Kt.Cells.part{w:av}{p:Addr}{cs ds:aI}(h:aB w p cs)(n:Nat)(hd:∀j v,ds[j]? =some v->cs[n+j]? =some v):aB w (p.add n) ds:=fun j v hv=>by
 rw[n8];exact h _ v (hd j v hv)
theorem qj{cs:aI}{n i:Nat}{v u:aw}(hi:[u][i]? =some v)(h:cs[n]? =some u):cs[n+i]? =some v:=by
 cases i with
 | zero=>
  rw[bP,aV]at hi;subst hi;exact h
 | succ i=>simp at hi
theorem Pv{k:Int}{n:aH}{xc:aI}{a:Int}{i:Nat}{v:aw}(hi:xc[i]? =some v):(Uh k n xc a)[2+i]? =some v:=by
 rw[jH];show(xc++[Value.int U a])[i]? =some v;rw[bJ (bc.1 hi).1];exact hi
abbrev qR(w:av)(b:Nat)(n m a:Int):Prop:=aF w b 158 [O U n,O U m,O U a]
theorem only1{b:Nat}{w w':av}(h:ay [] w w'):ay [b] w w':=h.weaken (bs':=[b]) fun _ h=>(by cases h)
theorem jk{b:Nat}{w w' rn:av}(h:ay [b] w w')(k:ay [b] w' rn):ay [b] w rn:=h.trans k fun x hx=>.inl hx
section
variable {w:av} {F:aJ} {b:Nat} {n m a:Int}
theorem wR{l:Sl}{sP:List Ac}(hc:qR w b n m a)(hl:jE false (pC false) 9 116 w F l sP)(hF:∀k,F k->k≠b)(hn:∀y,y∈sP->Bx y)(hs:iG sP<=8388608)(h0:0<=a)(h1:a<=1152921504606846976):
  az aq 163 #[ae (some ⟨b,0,none⟩),l.v] w fun e w'=>e=ak (aj (sP.all fY))/\(∃a':Int,qR w' b n m a'/\(a<=a'/\a'<=a+sP.length)/\(sP.all fY=true->a'=a+sP.length))/\ay [b] w w':=by
 refine ret (agH _ _ _ _ ?_);have QC:=hl.1.len;have DX:=gV sP;have kp:∀{u:av},ay [b] w u->aA (pC false) 9 u F l sP:=fun hO=>SliceF.only (cF false) (by decide) hl.1 hO fun k hk _ hm=>hF k hk (by simpa using hm);refine⟨fun kv i u=>∃(j:Nat),i=(j:Int)/\kv+j=sP.length/\j<=sP.length/\(sP.take j).all fY=true/\qR u b n m (a+j)/\ay [b] w u,sP.length,⟨0,rfl,by omega,bd _,rfl,by simpa using hc,Only.refl _ _⟩,?_⟩;rintro kv _ u ⟨j,rfl,Gl,hj,fy,hB,hO⟩;refine⟨fun mJ=>?_,fun mJ=>?_⟩;rotate_left
 ·have mJ:=aU mJ;have qV:j=sP.length:=by omega
  subst qV;rw[fV]at fy;rw[fy];exact⟨rfl,⟨_,hB,by omega,fun _=>rfl⟩,hO⟩
 have mJ:=aQ mJ;have xF:j<sP.length:=by omega
 obtain⟨y,hy⟩:∃y,sP[j]? =some y:=⟨_,bG xF⟩
 have uL:=br hy;have ME:=qd uL;unfold C0 at ME;have at_:∀{v:av},ay [b] w v->∃ad xs,dl l (j:Int) 9 ad/\aB v (ad.add 0) [O U y.k]/\aB v (ad.add 1) [ab (T y.n)]/\aB v (ad.add 2) (j6 y.x.k y.x.n y.x.s y.x.op xs y.x.a)/\rE false v F y.x (j6 y.x.k y.x.n y.x.s y.x.op xs y.x.a):=fun{v} hv=>by
  obtain⟨ad,y',cs,q1,q2,q3,q4,q5,q6⟩:=(kp hv).get (ba j) (by omega);rw[aX,hy]at q2;injection q2 with q2;subst q2;obtain⟨xc,rfl,PR⟩:=q6;obtain⟨xs,rfl⟩:=eH PR;exact⟨ad,xs,q1,q5.part 0 fun i v hi=>qj hi rfl,q5.part 1 fun i v hi=>qj hi rfl,q5.part 2 fun i v hi=>Pv hi,PR⟩
 refine⟨a+j,Blk.ec hB 2 rfl,b,2,_,_,rfl,hB,by simp,fun w1 cn pD=>?_⟩;rw[fH (by omega) (by omega)]at pD;have pD:qR w1 b n m (a+j+1):=pD;have o1:=jk hO cn;obtain⟨ad,xs,g1,g2,g3,g4,g5⟩:=at_ o1;refine⟨ad,g1,_,g3,(oV w1 y.n (by omega)).mono ?_⟩;rintro _ w2 ⟨rfl,cG⟩;have o2:=jk o1 (only1 cG);have lm:=cG.blk pD (by simp);obtain⟨ad2,xs2,p1,p2,p3,p4,p5⟩:=at_ o2;refine⟨_,rfl,ad2,p1,_,_,_,_,_,_,p4,(BN p5 (hn y uL) (by omega)).mono ?_⟩;rintro _ w3 ⟨rfl,dh⟩;have o3:=jk o2 (only1 dh);have ru:=dh.blk lm (by simp);obtain⟨ad3,xs3,q1,q2,q3,q4,q5⟩:=at_ o3;have tU:∀b2,b2=(if y.k=2 then mT y.x else pf y.x)->((((decide (y.k<1))||(decide (y.k>3)))||(!cY y.n))||(!b2))=!fY y:=fun b2 e=>by
  rw[e];unfold fY;by_cases h1:y.k<1
  ·rw[bF h1,bn (p:=1<=y.k/\y.k<=3) (fun h=>by omega)];rfl
  ·by_cases h2:y.k>3
   ·rw[bF h2,bn (p:=1<=y.k/\y.k<=3) (fun h=>by omega),mA];rfl
   ·rw[bn h1,bn h2,bF (p:=1<=y.k/\y.k<=3) (by omega),vZ,vZ,bT,xY]
 refine⟨_,rfl,fun b2 w4=>ay [] w3 w4/\b2=(if y.k=2 then mT y.x else pf y.x),?_,ad3,q1,_,q2,fun hk=>⟨ad3,q1,_,_,_,_,_,_,q4,(Kc q5).mono ?_⟩,fun hk=>⟨Only.refl _ _,by rw[if_neg (by simpa using hk)]⟩⟩
 ·rintro b2 w4 ⟨h4,e2⟩;have o4:=jk o3 (only1 h4);have qs:=h4.blk ru (by simp);obtain⟨ad4,xs4,t1,t2,t3,t4,t5⟩:=at_ o4;refine⟨ad4,t1,y.k,t2,ad4,fun _=>t1,y.k,fun _=>t2,fun hh=>?_,fun hh=>?_⟩
  ·rw[tU b2 e2,cx]at hh;have:sP.all fY=false:=by
    rw[uX];exact⟨y,uL,by rw[hh];simp⟩
   rw[this];exact⟨rfl,⟨_,qs,by omega,fun h=>(by cases h)⟩,o4⟩
  ·rw[tU b2 e2,gP]at hh;refine⟨kv-1,by omega,j+1,by rw[fH (by omega) (by omega)];rfl,by omega,by omega,?_,by rw[show a+((j+1:Nat):Int)=a+j+1 by omega];exact qs,o4⟩;rw[bB,hy,jz,fy];simp[hh]
 ·rintro _ w5 ⟨rfl,eh⟩;exact⟨_,rfl,eh,by rw[if_pos (by simpa using hk)]⟩
end
section
variable {w:av} {F:aJ} {b:Nat} {n m a:Int}
theorem Dm(x:Mv):((((((decide (x.k>=1)&&decide (x.k<=3))&&(if x.k=1 then cY x.ev else decide (x.ev=[])))&&(if x.gd then pf x.g else mT x.g))&&x.acts.all fY)&&((x.wt==0)||((x.k==3)&&(decide (x.wt>0)))))&&x.tg.all cY)=j8 x:=by
 unfold j8;rw[bI];simp only[aP,cq,bA,dz];constructor
 ·rintro⟨⟨⟨⟨⟨⟨h1,h2⟩,h3⟩,h4⟩,h5⟩,h6⟩,h7⟩;exact⟨⟨⟨⟨⟨⟨h1,h2⟩,h3⟩,h4⟩,h5⟩,h7⟩,h6⟩
 ·rintro⟨⟨⟨⟨⟨⟨h1,h2⟩,h3⟩,h4⟩,h5⟩,h7⟩,h6⟩;exact⟨⟨⟨⟨⟨⟨h1,h2⟩,h3⟩,h4⟩,h5⟩,h6⟩,h7⟩
theorem LO{x:Mv}{cs:aI}(hc:qR w b n m a)(hx:yq false w F x cs)(hF:∀k,F k->k≠b)(hn:MC x)(hs:Fp x<=8388608)(h0:0<=a)(h1:a<=1152921504606846976)(h2:0<=m)(h3:m<=1152921504606846976):
  az aq 164 #[ae (some ⟨b,0,none⟩),ah cs.toArray] w fun e w'=>e=ak (aj (j8 x))/\(∃m' a':Int,qR w' b n m' a'/\(j8 x=true->m'=m+1/\a'=a+x.acts.length))/\ay [b] w w':=by
 obtain⟨gc,qU,tg,rfl,hg,Gj,AB⟩:=hx;obtain⟨gs,rfl⟩:=eH hg;unfold Fp at hs;have HU:=hc.lt;refine ret (ag8 _ _ _ _ _ _ _ _ _ _ _ _ _ _ _ _ ?_);intro k0 w0 gD dQ ch;have z0:=ch.size;have Ax:=ch.blk hc (by simp);have kG:∀{u:av},ay [b] w u->rE false u F x.g (j6 x.g.k x.g.n x.g.s x.g.op gs x.g.a):=fun hO=>(gz false).keep hg fun k hk bQ=>hO.block k bQ (by simpa using hF k hk);have kA:∀{u:av},ay [b] w u->jE false (pC false) 9 116 u F qU x.acts:=fun hO=>Gj.keep (cF false) (by decide) fun k hk bQ=>hO.block k bQ (by simpa using hF k hk);have kT:∀{u:av},ay [b] w u->aA jB 1 u F tg x.tg:=fun hO=>SliceF.only cZ (by decide) AB.1 hO fun k hk _ hm=>hF k hk (by simpa using hm);have sm:∀{u u':av},w0.heap.size<=u.heap.size->ay [b] u u'->bS [k0] u u':=fun hz hO=>hO.same (by simp;omega);refine⟨m,Blk.ec Ax 1 rfl,b,1,_,_,rfl,Ax,by simp,by omega,fun w1 cn pD=>?_⟩;have o1:ay [b] w w1:=jk (only1 ch) cn;have z1:=cn.size;rw[fH (by omega) (by omega)]at pD;have pD:qR w1 b n (m+1) a:=pD;have e0:((T x.ev).toList==((ao #[]).toList))=decide (x.ev=[]):=iO x.ev [];refine⟨fun b0 u=>b0=(if x.k=1 then cY x.ev else decide (x.ev=[]))/\ay [b] w u/\w0.heap.size<=u.heap.size/\qR u b n (m+1) a,fun b0 w2 ⟨eb,o2,z2,lm⟩=>?_,fun hk=>(oV w1 x.ev (by omega)).mono ?_,fun hk=>⟨by rw[if_neg (by simpa using hk),e0],o1,by omega,pD⟩⟩
 ·refine(Kc (kG o2)).mono ?_;rintro _ w3 ⟨rfl,dh⟩;have o3:=jk o2 (only1 dh);have z3:=dh.size;have ru:=dh.blk lm (by simp);refine⟨_,rfl,sm z2 (only1 dh),fun b2 u=>b2=(if x.gd then pf x.g else mT x.g)/\ay [b] w u/\w0.heap.size<=u.heap.size/\qR u b n (m+1) a,fun b2 w4 ⟨eb2,o4,z4,qs⟩=>?_,fun hg=>(BN (kG o3) hn.1 (by omega)).mono ?_,fun hg=>⟨by rw[hg];rfl,o3,by omega,ru⟩⟩
  ·refine(wR qs (kA o4) hF hn.2 (by omega) h0 h1).mono ?_;rintro _ w5 ⟨rfl,⟨a5,tX,_,ha5⟩,eh⟩;have o5:=jk o4 eh;have z5:=eh.size;have Kr:=(kT o5).len;have htb:=(kT o5).big;have htc:=(kT o5).cap;refine⟨_,rfl,sm z4 eh,fun kv i u=>∃j:Nat,i=(j:Int)/\kv+j=x.tg.length/\j<=x.tg.length/\(x.tg.take j).all cY=true/\ay [] w5 u,x.tg.length,⟨0,rfl,by omega,bd _,rfl,Only.refl _ _⟩,?_⟩;rintro kv _ w6 ⟨j,rfl,Gl,hj,fy,dR⟩;have z6:=dR.size;have o6:=jk o5 (only1 dR);refine⟨fun mJ=>?_,fun mJ=>?_⟩
   ·have mJ:=aQ mJ;obtain⟨ad,s,cs,g1,g2,g3,g4,g5,g6⟩:=(kT o6).get (ba j) (by omega);rw[aX]at g2;have g6:cs=[ab (T s)]:=g6;subst g6;have tT:=br g2;have sI:s.length<=DS x.tg:=by
     have:=C4 tT;omega
    refine⟨ad,g1,_,g5,(oV w6 s (by omega)).mono ?_⟩;rintro _ w7 ⟨rfl,fN⟩;refine⟨_,rfl,sm (by omega) (only1 fN),fun hh=>?_,fun hh=>⟨kv-1,by omega,j+1,by rw[fH (by omega) (by omega)];rfl,by omega,by omega,?_,dR.cd fN⟩⟩
    ·have hh:cY s=false:=by simpa using hh
     have:j8 x=false:=by
      rw[<-Dm,show x.tg.all cY=false by rw[uX];exact⟨s,tT,by rw[hh];simp⟩,gu]
     rw[this];exact⟨rfl,⟨_,_,(dR.cd fN).blk tX (by simp),fun h=>(by cases h)⟩,jk o6 (only1 fN)⟩
    ·have hh:cY s=true:=by simpa using hh
     rw[bB,g2,jz,fy];simp[hh]
   ·have mJ:=aU mJ;have qV:j=x.tg.length:=by omega
    subst qV;rw[fV]at fy;have em:((((((decide (x.k>=1))&&(decide (x.k<=3)))&&b0)&&b2)&&x.acts.all fY)&&((x.wt==0)||((x.k==3)&&(decide (x.wt>0)))))=j8 x:=by
     rw[<-Dm,fy,eb,eb2,cR]
    rw[em];refine⟨rfl,⟨_,_,dR.blk tX (by simp),fun hm=>⟨rfl,ha5 ?_⟩⟩,o6⟩;rw[<-Dm]at hm;simp only[aP]at hm;exact hm.1.1.2
  ·rintro _ w8 ⟨rfl,fj⟩;have z8:=fj.size;exact⟨_,rfl,sm (by omega) (only1 fj),by rw[hg];rfl,jk o3 (only1 fj),by omega,fj.blk ru (by simp)⟩
 ·rintro _ w9 ⟨rfl,fT⟩;have z9:=fT.size;exact⟨_,rfl,sm (by omega) (only1 fT),by rw[if_pos (by simpa using hk)],jk o1 (only1 fT),by omega,fT.blk pD (by simp)⟩
end
def jl(l:List Mv):Nat:=(l.map fun m=>m.acts.length).sum
theorem FV(l:List Mv)(m:Mv):jl (l++[m])=jl l+m.acts.length:=by
 unfold jl;rw[dF,QT];simp
theorem wS:∀l:List Mv,jl l<=wC l
 | []=>bd _
 | m::l=>by
  have h1:=gV m.acts;have h2:=wS l;have h3:jl (m::l)=m.acts.length+jl l:=rfl;rw[wC,h3];unfold Fp;omega
theorem FW(l:List Mv)(j:Nat):jl (l.take j)<=jl l:=by
 induction l generalizing j with
 | nil=>simp[jl]
 | cons m l ih=>
  cases j with
  | zero=>exact bd _
  | succ j=>
   have:=ih j;show m.acts.length+jl (l.take j)<=m.acts.length+jl l;omega
theorem Pw(b:Nb):wg b<=BD b:=by
 have h1:=gV b.en;have h2:=gV b.lv;have h3:=wS b.mv;have h4:wg b=b.en.length+b.lv.length+jl b.mv:=rfl;unfold BD;omega
mutual
theorem WK:∀x:Nd,th x<=nP x
 | .mk b l=>by
  have h1:=Pw b;have h2:=Dp l;rw[th,nP];omega
theorem Dp:∀l:List Nd,j9 l<=iV l
 | []=>bd _
 | x::l=>by
  have h1:=WK x;have h2:=Dp l;rw[j9,iV];omega
end
theorem FX:∀(l:List Nd) (j:Nat) {y:Nd},l[j]? =some y->eZ (l.take j)+ke y<=eZ l
 | [],j,y,h=>by simp at h
 | x::l,0,y,h=>by
  simp only[bP,aV]at h;subst h;rw[dr,eZ,eZ];omega
 | x::l,j+1,y,h=>by
  have:=FX l j (y:=y) (by simpa using h);rw[fC,eZ,eZ];omega
theorem BO:∀(l:List Nd) (j:Nat) {y:Nd},l[j]? =some y->iV (l.take j)+nP y<=iV l
 | [],j,y,h=>by simp at h
 | x::l,0,y,h=>by
  simp only[bP,aV]at h;subst h;rw[dr,iV,iV];omega
 | x::l,j+1,y,h=>by
  have:=BO l j (y:=y) (by simpa using h);rw[fC,iV,iV];omega
theorem xA{d:Nat}{y:Nd}:∀{l:List Nd},y∈l->kw d y=false->iv d l=false
 | x::l,h,hy=>by
  rw[iv];rcases aY.1 h with rfl | h
  ·rw[hy,du]
  ·rw[xA h hy,gu]
def pi(d:Nat)(n:Int)(x:Nd):Bool:=kw d x&&decide (n+ke x<=64)
def NcO(b:Nat)(w':av)(n m a:Int)(r:Bool)(x:Nd):Prop:=∃n' m' a':Int,qR w' b n' m' a'/\(r=true->n'=n+ke x/\m'=m+tf x/\a'=a+th x)
theorem BP{F:aJ}{b:Nat}(hF:∀k,F k->k≠b):∀(D:Nat) {w:av} {n m a:Int} {d:Nat} {x:Nd} {cs:aI},qR w b n m a->li false D w F x cs->xu x->nP x<=8388608->0<=n->n<=64->d<=100->0<=m->m+nP x<=1152921504606846976->0<=a->a+nP x<=1152921504606846976->
  az aq 95 #[ae (some ⟨b,0,none⟩),ah cs.toArray,O U (d:Int)] w fun e w'=>e=ak (aj (pi d n x))/\NcO b w' n m a (pi d n x) x/\ay [b] w w'
 | 0,_,_,_,_,_,_,_,_,h,_,_,_,_,_,_,_,_,_=>h.elim
 | D+1,w,n,m,a,d,.mk bb ks,cs,hc,⟨en,lv,mv,kids,jY,tV,gD⟩,hn,hs,hn0,aq2,QG,X7,xQ,ha0,ha1=>by
  dsimp only[Nd.kids,Nd.b]at jY tV gD;subst jY;have hk:=gD.1;rw[xu]at hn;obtain⟨hbn,Rt⟩:=hn;obtain⟨xP,wW,Xn⟩:=hbn;obtain⟨he,hl,rq⟩:=tV;rw[nP]at hs xQ ha1;have hsb:=hs;have Ax:wg bb=bb.en.length+bb.lv.length+jl bb.mv:=rfl;have pD:=Pw bb;unfold BD at hs;have HU:=hc.lt;refine ret (agG _ _ _ _ _ _ _ _ _ _ _ _ _ ?_);have eN:ke (.mk bb ks)=eZ ks+1:=by rw[ke]
  have eO:kw d (.mk bb ks)=(decide (d<12)&&tN bb ks.length&&iv (d+1) ks):=by rw[kw]
  intro k0 w0 gD dQ ch;have z0:=ch.size;have aeF:=ch.blk hc (by simp);have sm:∀{u u':av},w0.heap.size<=u.heap.size->ay [b] u u'->bS [k0] u u':=fun hz hO=>hO.same (by simp;omega);have bad:pi d n (.mk bb ks)=false->∀{u:av} {n' m' a':Int},ay [b] w u->qR u b n' m' a'->Value.bool false=aj (pi d n (.mk bb ks))/\NcO b u n m a (pi d n (.mk bb ks)) (.mk bb ks)/\ay [b] w u:=fun hr {_ _ _ _} hO hB=>⟨by rw[hr],⟨_,_,_,hB,fun h=>by rw[hr]at h;cases h⟩,hO⟩
  have kA:∀{u:av} {s:Sl} {l:List Ac},jE false (pC false) 9 116 w F s l->ay [b] w u->jE false (pC false) 9 116 u F s l:=fun h hO=>h.keep (cF false) (by decide) fun k hk bQ=>hO.block k bQ (by simpa using hF k hk);have eT:∀l:aH,((T l).toList==((ao #[]).toList))=decide (l=[]):=fun l=>iO l [];rw[eT,eT];refine⟨n,Blk.ec aeF 0 rfl,b,0,_,_,rfl,aeF,by simp,by omega,fun w1 cn TQ=>?_⟩;have o1:ay [b] w w1:=jk (only1 ch) cn;have z1:=cn.size;rw[fH (by omega) (by omega)]at TQ;have TQ:qR w1 b (n+1) m a:=TQ;refine(oV w1 bb.nm (by omega)).mono ?_;rintro _ w2 ⟨rfl,cG⟩;have o2:=jk o1 (only1 cG);have z2:=cG.size;have lm:qR w2 b (n+1) m a:=cG.blk TQ (by simp);refine⟨_,rfl,sm (by omega) (only1 cG),n+1,fun _=>Blk.ec lm 0 rfl,fun hcond=>bad ?_ o2 lm,fun hcond=>?_⟩
  ·unfold pi;rw[eO,eN];simp only[cq,cx,bA]at hcond;rcases hcond with(h | h) | h
   ·unfold tN;rw[h];simp
   ·rw[bn (p:=d<12) (by omega)];rfl
   ·rw[bn (p:=n+((eZ ks+1:Nat):Int)<=64) (by omega),gu]
  simp only[eK,gP]at hcond;have h64:n+1<=64:=by have:=aU hcond.2;omega
  have hdp:d<12:=by have:=aU hcond.1.2;omega
  have ZA:cY bb.nm=true:=hcond.1.1;have L2:=hk.len;have ZE:=he.1.len;have DX:=hl.1.len;have Qf:=rq.1.len;have eO2:kw d (.mk bb ks)=(tN bb ks.length&&iv (d+1) ks):=by rw[eO,bF hdp,bT]
  refine⟨fun hh=>(oV w2 bb.dft (by omega)).mono ?_,fun hh=>?_⟩
  ·rintro _ w3 ⟨rfl,dh⟩;have hhi:kZ bb.k=true:=by
    unfold kZ;rw[cq,dz,dz]at hh;exact bF hh
   have er:(((((cY bb.dft&&decide (bb.ini=[]))&&((en.n:Int)==0))&&((lv.n:Int)==0))&&((mv.n:Int)==0))&&((kids.n:Int)==0))=pi d n (.mk bb ks):=by
    unfold pi;rw[eO2,eN];unfold tN;rw[ZA,hhi,if_pos rfl,bT,ZE,DX,Qf,L2,bI];simp only[aP,bA,dz];constructor
    ·rintro⟨⟨⟨⟨⟨h1,h2⟩,h3⟩,h4⟩,h5⟩,h6⟩;have hks:ks=[]:=bp (by omega);subst hks;refine⟨⟨⟨h1,h2,bp (by omega),bp (by omega),by omega,rfl⟩,by rw[iv]⟩,by rw[eZ];omega⟩
    ·rintro⟨⟨⟨h1,h2,h3,h4,h5,h6⟩,_⟩,_⟩;exact⟨⟨⟨⟨⟨h1,h2⟩,by rw[h3];rfl⟩,by rw[h4];rfl⟩,by omega⟩,by omega⟩
   refine⟨_,rfl,sm (by omega) (only1 dh),by rw[er],⟨_,_,_,dh.blk lm (by simp),fun hr=>?_⟩,jk o2 (only1 dh)⟩;rw[<-er]at hr;simp only[aP,dz]at hr;obtain⟨⟨⟨⟨_,h3⟩,h4⟩,h5⟩,h6⟩:=hr;have hks:ks=[]:=bp (by omega);subst hks;have akP:bb.mv=[]:=bp (by omega);rw[eN,tf,th,eZ,lC,j9,Ax,akP];refine⟨by omega,by simp,?_⟩;have:jl []=0:=rfl;rw[this];omega
  have hhi:kZ bb.k=false:=by
   unfold kZ;rw[eK,DQ,DQ]at hh;exact bn fun e=>e.elim hh.1 hh.2
  have eB:tN bb ks.length=(decide ((bb.k=1∨bb.k=2)/\bb.dft=[])&&(decide (bb.ini=[])||cY bb.ini)&&bb.en.all fY&&bb.lv.all fY&&bb.mv.all j8):=by
   unfold tN;rw[ZA,hhi,bT];rfl
  refine⟨fun b2 u=>b2=(decide (bb.ini=[])||cY bb.ini)/\ay [b] w u/\w0.heap.size<=u.heap.size/\qR u b (n+1) m a,fun b2 w4 ⟨eb2,o4,z4,qs⟩=>?_,fun hi=>(oV w2 bb.ini (by omega)).mono ?_,fun hi=>⟨?_,o2,by omega,lm⟩⟩;rotate_left
  ·rintro _ dJ ⟨rfl,dY⟩;have Gd:=dY.size;refine⟨_,rfl,sm (by omega) (only1 dY),?_,jk o2 (only1 dY),by omega,dY.blk lm (by simp)⟩;have:decide (bb.ini=[])=false:=by simpa using hi
   rw[this,vZ]
  ·have:decide (bb.ini=[])=true:=by simpa using hi
   rw[this,Ip]
  have aq5:=gV bb.en;have aq6:=gV bb.lv;refine(wR qs (kA he o4) hF xP (by omega) ha0 (by omega)).mono ?_;rintro _ w5 ⟨rfl,⟨a5,tX,hr5,ha5⟩,eh⟩;have o5:=jk o4 eh;have z5:=eh.size;refine⟨_,rfl,sm z4 eh,(wR tX (kA hl o5) hF wW (by omega) (by omega) (by omega)).mono ?_⟩;rintro _ w6 ⟨rfl,⟨a6,MA,hr6,ha6⟩,dR⟩;have o6:=jk o5 dR;have z6:=dR.size;have eC:((((((bb.k !=1)&&(bb.k !=2))||(!(decide (bb.dft=[]))))||(!b2))||(!bb.en.all fY))||(!bb.lv.all fY))=!(decide ((bb.k=1∨bb.k=2)/\bb.dft=[])&&(decide (bb.ini=[])||cY bb.ini)&&bb.en.all fY&&bb.lv.all fY):=by
   rw[eb2,xY,xY,xY];congr 3;rw[bI];simp only[cq,aP,bne_iff_ne,cx,fU,ne_eq];by_cases h1:bb.k=1<;>by_cases h2:bb.k=2<;>by_cases h3:bb.dft=[]<;>simp[h1,h2,h3]
  have kM:∀{u:av},ay [b] w u->aA (yq false) 13 u F mv bb.mv:=fun hO=>SliceF.only (gU false) (by decide) rq.1 hO fun k hk _ hm=>hF k hk (by simpa using hm);have kK:∀{u:av},ay [b] w u->aA (li false D) 9 u F kids ks:=fun hO=>SliceF.only (cj false D) (by decide) hk hO fun k hk _ hm=>hF k hk (by simpa using hm);have X8:=mV bb.mv;refine⟨_,rfl,sm (by omega) dR,fun xW=>bad ?_ o6 MA,fun xW=>?_⟩
  ·rw[eC,cx]at xW;unfold pi;rw[eO2,eB,xW];rfl
  rw[eC,gP]at xW;have eB2:tN bb ks.length=bb.mv.all j8:=by rw[eB,xW,bT]
  simp only[aP]at xW;have ha5:=ha5 xW.1.2;have ha6:=ha6 xW.2;have tT:=wS bb.mv;have X4:=oq ks;have ru:bb.mv.length<=BD bb:=by unfold BD;omega
  refine⟨fun kv i u=>∃j:Nat,i=(j:Int)/\kv+j=bb.mv.length/\j<=bb.mv.length/\(bb.mv.take j).all j8=true/\ay [b] w u/\w0.heap.size<=u.heap.size/\qR u b (n+1) (m+j) (a6+jl (bb.mv.take j)),bb.mv.length,⟨0,rfl,by omega,bd _,rfl,o6,by omega,by simpa[jl]using MA⟩,?_⟩;rintro kv _ w7 ⟨j,rfl,Gl,hj,fy,o7,z7,Qt⟩;have lj:=FW bb.mv j;refine⟨fun mJ=>?_,fun mJ=>?_⟩
  ·have mJ:=aQ mJ;obtain⟨ad,y,cs,g1,g2,g3,g4,g5,g6⟩:=(kM o7).get (ba j) (by omega);rw[aX]at g2;have uL:=br g2;have ME:=sA uL;have DG:=g6;obtain⟨gc,qU,tg,rfl,hg,Gj,AB⟩:=g6;obtain⟨gs,rfl⟩:=eH hg;have nZ:bb.mv.take (j+1)=bb.mv.take j++[y]:=by rw[bB,g2];rfl
   refine⟨ad,g1,_,_,_,_,_,_,_,_,_,_,_,_,_,g5,(LO Qt DG hF (Xn y uL) (by omega) (by omega) (by omega) (by omega) (by omega)).mono ?_⟩;rintro _ w8 ⟨rfl,⟨m8,a8,uR,h8⟩,fj⟩;have o8:=jk o7 fj;have z8:=fj.size;refine⟨_,rfl,sm z7 fj,fun hh=>bad ?_ o8 uR,fun hh=>?_⟩
   ·have hh:j8 y=false:=by simpa using hh
    unfold pi;rw[eO2,eB2,show bb.mv.all j8=false by rw[uX];exact⟨y,uL,by rw[hh];simp⟩];rfl
   ·have hh:j8 y=true:=by simpa using hh
    obtain⟨rfl,rfl⟩:=h8 hh;refine⟨kv-1,by omega,j+1,by rw[fH (by omega) (by omega)];rfl,by omega,by omega,by rw[nZ,jz,fy];simp[hh],o8,by omega,?_⟩;rw[nZ,FV,show m+((j+1:Nat):Int)=m+j+1 by omega,show a6+((jl (bb.mv.take j)+y.acts.length:Nat):Int)=a6+jl (bb.mv.take j)+y.acts.length by omega];exact uR
  have mJ:=aU mJ;have qV:j=bb.mv.length:=by omega
  subst qV;rw[fV]at fy Qt;have eO3:kw d (.mk bb ks)=iv (d+1) ks:=by rw[eO2,eB2,fy,bT]
  have eA:a6+(jl bb.mv:Int)=a+(wg bb:Int):=by omega
  rw[eA]at Qt;refine⟨fun kv i u=>∃j:Nat,i=(j:Int)/\kv+j=ks.length/\j<=ks.length/\iv (d+1) (ks.take j)=true/\n+1+eZ (ks.take j)<=64/\ay [b] w u/\w0.heap.size<=u.heap.size/\qR u b (n+1+eZ (ks.take j)) (m+bb.mv.length+lC (ks.take j)) (a+wg bb+j9 (ks.take j)),ks.length,⟨0,rfl,by omega,bd _,by rw[dr,iv],by rw[dr,eZ];omega,o7,z7,by rw[dr,eZ,lC,j9];simpa using Qt⟩,?_⟩;rintro kv2 _ w9 ⟨i,rfl,akR,hi,QM,h9,o9,z9,QA⟩;refine⟨fun QN=>?_,fun QN=>?_⟩
  ·have QN:=aQ QN;obtain⟨ad,y,cs,g1,g2,g3,g4,g5,g6⟩:=(kK o9).get (ba i) (by omega);rw[aX]at g2;have uL:=br g2;have ME:=qe uL;have DG:=g6;obtain⟨D',rfl⟩:∃D',D=D'+1:=by
    cases D with
    | zero=>exact g6.elim
    | succ D'=>exact⟨D',rfl⟩
   obtain⟨uo,uq,pu,iX,rfl,_⟩:=g6;have nZ:ks.take (i+1)=ks.take i++[y]:=by rw[bB,g2];rfl
   have q1:=FX ks i g2;have q2:=BO ks i g2;have q3:=tq (ks.take i);have q4:=Dp (ks.take i);refine⟨ad,g1,_,_,_,_,uo,uq,pu,iX,_,g5,?_⟩;rw[fH (x:=(d:Int)+1) (by omega) (by omega),show(d:Int)+1=((d+1:Nat):Int) by omega];refine(BP hF (D'+1) (d:=d+1) QA DG (vG Rt uL) (by omega) (by omega) h9 (by omega) (by omega) (by omega) (by omega) (by omega)).mono ?_;rintro _ dw ⟨rfl,⟨n10,m10,a10,nr,hr⟩,dM⟩;have Zy:=jk o9 dM;have H0:=dM.size;refine⟨_,rfl,sm z9 dM,fun B4=>bad ?_ Zy nr,fun B4=>?_⟩
   ·have B4:pi (d+1) (n+1+eZ (ks.take i)) y=false:=by simpa using B4
    unfold pi at B4⊢;rw[pI]at B4;rcases B4 with h | h
    ·rw[eO3,xA uL h,du]
    ·have h:=aU h;rw[eN,bn (p:=n+((eZ ks+1:Nat):Int)<=64) (by omega),gu]
   ·have B4:pi (d+1) (n+1+eZ (ks.take i)) y=true:=by simpa using B4
    obtain⟨rfl,rfl,rfl⟩:=hr B4;unfold pi at B4;rw[aP]at B4;have aq7:=aQ B4.2;refine⟨kv2-1,by omega,i+1,by rw[fH (by omega) (by omega)];rfl,by omega,by omega,by rw[nZ,uF,QM,B4.1];rfl,by rw[nZ,qf];omega,Zy,by omega,?_⟩;rw[nZ,qf,tt,wD,show n+1+((eZ (ks.take i)+ke y:Nat):Int)=n+1+eZ (ks.take i)+ke y by omega,show m+bb.mv.length+((lC (ks.take i)+tf y:Nat):Int)=m+bb.mv.length+lC (ks.take i)+tf y by omega,show a+wg bb+((j9 (ks.take i)+th y:Nat):Int)=a+wg bb+j9 (ks.take i)+th y by omega];exact nr
  ·have QN:=aU QN;have hie:i=ks.length:=by omega
   subst hie;rw[fV]at h9 QM QA;have er:pi d n (.mk bb ks)=true:=by
    unfold pi;rw[eO3,QM,eN,bT];exact bF (by omega)
   rw[er];refine⟨rfl,⟨_,_,_,QA,fun _=>?_⟩,o9⟩;rw[eN,tf,th];omega
theorem acb{w:av}{F:aJ}{D:Nat}{c:Ch}{vs:Sl}{cs:aI}(hx:ChR false (D+1) w F c vs cs)(hn:MD c)(hs:nQ c.vars+nP c.root<=8388608):
  az aq 45 #[ah (vs.v::cs).toArray] w fun e w'=>e=ak (aj (pZ c))/\ay [] w w':=by
 obtain⟨en,lv,mv,kids,jY,_⟩:=hx.root;subst jY;refine ret (agz _ _ _ _ _ _ _ _ _ _ _ _ ?_);intro k0 w0 gD dQ ch;have z0:=ch.size;have hvl:=hx.vars.1.len;have wV:c.vars.length<=nQ c.vars:=by
  have:∀l:List Vr,l.length<=nQ l:=fun l=>by induction l with
   | nil=>exact bd _
   | cons a l ih=>rw[nQ,aR];omega
  exact this _
 have kV:∀{u:av},ay [] w u->aA yr 3 u F vs c.vars:=fun hO=>SliceF.only eF (by decide) hx.vars.1 hO (by simp);have sm:∀{u u':av},w0.heap.size<=u.heap.size->ay [] u u'->bS [k0] u u':=fun hz hO=>hO.same (by simp;omega);refine⟨fun kv i u=>∃j:Nat,i=(j:Int)/\kv+j=c.vars.length/\j<=c.vars.length/\(c.vars.take j).all tR=true/\ay [] w u/\w0.heap.size<=u.heap.size,c.vars.length,⟨0,rfl,by omega,bd _,rfl,ch,aW _⟩,?_⟩;rintro kv _ w1 ⟨j,rfl,Gl,hj,fy,o1,z1⟩;refine⟨fun mJ=>?_,fun mJ k4 w3 tZ Gh dh ru=>?_⟩
 ·have mJ:=aQ mJ;obtain⟨ad,y,cs,g1,g2,g3,g4,g5,g6⟩:=(kV o1).get (ba j) (by omega);rw[aX]at g2;have uL:=br g2;have ME:=vJ uL;have g6:cs=[ab (T y.n),O U y.v,O U y.a]:=g6;subst g6;refine⟨ad,g1,_,g5.part 0 fun i v hi=>qj hi rfl,(oV w1 y.n (by omega)).mono ?_⟩;rintro _ w2 ⟨rfl,cG⟩;have o2:=o1.cd cG;have z2:=cG.size;obtain⟨F3,y',wU,p1,p2,p3,p4,p5,p6⟩:=(kV o2).get (ba j) (by omega);rw[aX,g2]at p2;injection p2 with p2;subst p2;have p6:wU=[ab (T y.n),O U y.v,O U y.a]:=p6;subst p6;have ev:((!cY y.n)||(y.v==(-9223372036854775808)))=!tR y:=by
   unfold tR;rw[xY];congr 1;rw[bI];simp
  refine⟨_,rfl,sm z1 cG,F3,fun _=>p1,_,fun _=>p5.part 1 fun i v hi=>qj hi rfl,fun hh=>⟨?_,o2⟩,fun hh=>⟨kv-1,by omega,j+1,by rw[fH (by omega) (by omega)];rfl,by omega,by omega,?_,o2,by omega⟩⟩
  ·rw[ev,cx]at hh;have:c.vars.all tR=false:=by
    rw[uX];exact⟨y,uL,by rw[hh];simp⟩
   have e:pZ c=false:=by
    unfold pZ;rw[show(c.vars.all fun v=>cY v.n&&decide (v.v≠ -9223372036854775808))=c.vars.all tR from rfl,this];rfl
   rw[e]
  ·rw[ev,gP]at hh;rw[bB,g2,jz,fy];simp[hh]
 ·have mJ:=aU mJ;have qV:j=c.vars.length:=by omega
  subst qV;rw[fV]at fy;have o3:=o1.cd dh;have z3:=dh.size;have hr3:li false (D+1) w3 (fun k=>F k/\k<w.heap.size) c.root _:=(cj false _).keep ((cj false _).inHeap hx.root) fun k _ bQ=>o3.block k bQ (by simp);refine(BP (F:=fun k=>F k/\k<w.heap.size) (b:=k4) (fun k hk=>by have:=hk.2;omega) (D+1) (n:=0) (m:=0) (a:=0) (d:=0) ru hr3 hn.2 (by omega) (by omega) (by omega) (by omega) (by omega) (by omega) (by omega) (by omega)).mono ?_;rintro _ w4 ⟨rfl,⟨n',m',a',qs,hr⟩,dI⟩;have akT:ay [] w w4:=(o3.wT (dI.p (F:=fun k=>w.heap.size<=k) fun x hx=>by simp only[aO]at hx;exact .inl (by omega))).only fun k hk=>hk;refine⟨_,rfl,dI.same (by simp;omega),n',m',a',qs,?_,akT⟩;congr 1;unfold pZ;rw[show(c.vars.all fun v=>cY v.n&&decide (v.v≠ -9223372036854775808))=c.vars.all tR from rfl,fy,bT,hvl];cases B4:pi 0 0 c.root with
  | false=>
   have:(kw 0 c.root&&decide (ke c.root<=64))=false:=by
    unfold pi at B4;rw[<-B4];congr 1;rw[bI,bA,bA];omega
   rw[pI]at this;simp only[du];symm;rcases this with h | h
   ·rw[h,du]
   ·have h:=aU h;rw[bn (p:=c.root.b.k=1/\c.vars.length<=16/\ke c.root<=64/\tf c.root<=200/\th c.root<=400) (fun e=>h e.2.2.1),gu]
  | true=>
   obtain⟨e1,e2,e3⟩:=hr B4;unfold pi at B4;rw[aP,bA]at B4;rw[B4.1,bT,bT,e2,e3,bI];simp only[aP,bA,dz];omega
theorem acd{n:Int}(h0:0<=n)(h1:n<=18446744073709551615):ar .u64 n=n:=by
 have e:ar .u64 n=n % 18446744073709551616:=rfl;rw[e];omega
theorem Ke(w:av){n:Int}(h:wa n):az aq 47 #[O U n] w fun e w'=>e=ak (ab (T (Lib.itoa n)))/\ay [] w w':=by
 obtain⟨h0,h1⟩:=h;by_cases hn:0<=n
 ·exact Pn w hn h1
 refine ret (abp _ _ _ ?_);refine⟨fun hc=>absurd hc (by simp;omega),fun hc=>⟨fun aeB=>?_,fun hp=>absurd (aU hp) (by omega)⟩⟩;have hsz:az aq 97 #[O U n] w fun e w'=>e=ak (.int .u64 (-n))/\w'=w:=by
  refine ret (abq _ _ _ ?_);refine⟨fun _=>⟨?_,rfl⟩,fun hp=>absurd (aU hp) (by omega)⟩;rw[fH (x:=n+1) (by omega) (by omega),fH (by omega) (by omega),acd (n:=0-(n+1)) (by omega) (by omega),acd (by omega) (by omega)];congr 1;omega
 refine hsz.mono ?_;rintro _ u ⟨rfl,hu⟩;obtain rfl:w=u:=hu.symm;obtain⟨k,hk⟩:∃k:Nat, -n=(k:Int):=⟨(-n).toNat,by omega⟩
 rw[hk];refine⟨_,rfl,(BM k w (by omega)).mono ?_⟩;rintro _ w1 ⟨rfl,cn⟩;have gD:¬k=0:=by omega
 have hl:=qO k (by omega);rw[if_neg gD];refine⟨_,rfl,by rw[bW];omega,?_,cn⟩;rw[show(ao #[45])=T [45]from rfl,dZ];unfold Lib.itoa;rw[if_pos (by omega),show n.natAbs=k by omega];rfl
theorem Kf{n:Int}(h:wa n):(Lib.itoa n).length<=41:=by
 obtain⟨h0,h1⟩:=h;unfold Lib.itoa;split
 ·rw[aR];have:=qO n.natAbs (by omega);omega
 ·have:=qO n.toNat (by omega);omega
section
variable {w:av} {F:aJ}
theorem HM(x:Ex):(ta x).length<=16384:=C1 x
theorem ace{y:Ac}(h:y.k=1):[115,101,116,32]++y.n++[32,61,32]++ta y.x++[59]=xr y:=by
 unfold xr;rw[if_neg (by omega),if_pos h];simp[oC]
theorem acf{y:Ac}(h:y.k=2):[114,97,105,115,101,32]++y.n++[59]=xr y:=by
 unfold xr;rw[if_pos h];simp[iR]
theorem acg{y:Ac}(h1:y.k≠1)(h2:y.k≠2):[101,109,105,116,32]++y.n++[32,61,32]++ta y.x++[59]=xr y:=by
 unfold xr;rw[if_neg h2,if_neg h1];simp[j7]
theorem HN(y:Ac):(xr y).length<=C0 y+16500:=by
 have:=HM y.x;unfold C0;by_cases h1:y.k=1
 ·rw[<-ace h1];simp only[aN,aR,aZ];omega
 ·by_cases h2:y.k=2
  ·rw[<-acf h2];simp only[aN,aR,aZ];omega
  ·rw[<-acg h1 h2];simp only[aN,aR,aZ];omega
theorem BQ(a:Ac):∀l:List Ac,vB (l++[a])=vB l++(32::xr a)
 | []=>by simp[vB]
 | b::l=>by rw[cr,vB,vB,BQ a l];simp
theorem WL{y:Ac}{cs:aI}(hx:pC false w F y cs)(hn:Bx y)(hs:C0 y<=8388608):
  az aq 165 #[ah cs.toArray] w fun e w'=>e=ak (ab (T (xr y)))/\ay [] w w':=by
 have hal:=HN y;obtain⟨xc,rfl,PR⟩:=hx;obtain⟨xs,rfl⟩:=eH PR;unfold C0 at hs hal;have HT:=HM y.x;refine ret (ahc _ _ _ _ _ _ _ _ _ _ _ ?_);have b1:(ao #[115,101,116,32])=T [115,101,116,32]:=rfl;have b2:(ao #[32,61,32])=T [32,61,32]:=rfl;have b3:(ao #[59])=T [59]:=rfl;have b4:(ao #[114,97,105,115,101,32])=T [114,97,105,115,101,32]:=rfl;have b5:(ao #[101,109,105,116,32])=T [101,109,105,116,32]:=rfl;simp only[b1,b2,b3,b4,b5,dZ,bW];have kE:∀{u:av},ay [] w u->rE false u F y.x (j6 y.x.k y.x.n y.x.s y.x.op xs y.x.a):=fun hO=>(gz false).keep PR fun k _ bQ=>hO.block k bQ (by simp);have ln:∀{l m:aH},(l++m).length=l.length+m.length:=aN;refine⟨fun h1 k0 w0 gD dQ ch=>⟨fun k=>k=k0,rfl,by omega,by rw[ln];simp only[aR,aZ];omega,(Dl (kE ch) hn (by omega)).mono ?_⟩,fun h1=>⟨fun h2=>⟨by omega,by rw[ln];simp only[aR,aZ];omega,fun k1 w2 _ _ hO=>⟨by rw[acf (by simpa using h2)],hO⟩⟩,fun h2 k2 w3 oY oG dh=>⟨fun k=>k=k2,rfl,by omega,by rw[ln];simp only[aR,aZ];omega,(Dl (kE dh) hn (by omega)).mono ?_⟩⟩⟩
 ·rintro _ w1 ⟨rfl,cn⟩;refine⟨_,rfl,cn.same (by simp;omega),bO.only cn,?_,?_,by rw[dZ,dZ,ace (by simpa using h1)],ch.cd cn⟩
  ·rw[bW];simp only[aN,aR,aZ];omega
  ·rw[dZ,bW];simp only[aN,aR,aZ];omega
 ·rintro _ w1 ⟨rfl,cn⟩;refine⟨_,rfl,cn.same (by simp;omega),bO.only cn,?_,?_,by rw[dZ,dZ,acg (by simpa using h1) (by simpa using h2)],dh.cd cn⟩
  ·rw[bW];simp only[aN,aR,aZ];omega
  ·rw[dZ,bW];simp only[aN,aR,aZ];omega
theorem Dr:∀l:List Ac,iG l<=1048576->(vB l).length<=l.length*1065080
 | [],_=>bd _
 | a::l,h=>by
  have h1:=HN a;have h2:C0 a<=iG (a::l):=qd (by simp);have h3:iG l<=iG (a::l):=by rw[iG];omega
  have h4:=Dr l (by omega);rw[vB,aR,aN,aR,eJ];omega
theorem Ap{l:Sl}{sP:List Ac}(hl:jE false (pC false) 9 116 w F l sP)(hn:∀y,y∈sP->Bx y)(hs:iG sP<=1048576):
  az aq 98 #[l.v] w fun e w'=>e=ak (ab (T (uc sP)))/\ay [] w w':=by
 refine ret (ahb _ _ _ ?_);have QC:=hl.1.len;have DX:=gV sP;have kp:∀{u:av},ay [] w u->aA (pC false) 9 u F l sP:=fun hO=>SliceF.only (cF false) (by decide) hl.1 hO (by simp);refine⟨fun kv s i u=>∃(j:Nat) (t:aH),s=T t/\t=123::vB (sP.take j)/\i=(j:Int)/\kv+j=sP.length/\j<=sP.length/\t.length<=1+j*1065080/\ay [] w u,sP.length,⟨0,[123],rfl,rfl,rfl,by omega,bd _,by simp,Only.refl _ _⟩,?_⟩;rintro kv _ _ w0 ⟨j,t,rfl,et,rfl,Gl,hj,ht,hO⟩;refine⟨fun mJ=>?_,fun mJ=>?_⟩
 ·have mJ:=aQ mJ;obtain⟨ad,y,cs,g1,g2,g3,g4,g5,g6⟩:=(kp hO).get (ba j) (by omega);rw[aX]at g2;have uL:=br g2;have ME:=qd uL;have DG:=g6;obtain⟨xc,rfl,PR⟩:=g6;obtain⟨xs,rfl⟩:=eH PR;refine⟨by rw[bW];omega,ad,g1,_,_,_,_,_,_,_,_,_,g5,(WL DG (hn y uL) (by omega)).mono ?_⟩;rintro _ w1 ⟨rfl,cn⟩;have hm:=HN y;have Qf:(t++[32]++xr y).length<=1+(j+1)*1065080:=by
   rw[aN,aN,bg,eJ];omega
  refine⟨_,rfl,?_,kv-1,by omega,j+1,t++[32]++xr y,?_,by rw[bB,g2,et];show _=123::vB (sP.take j++[y]);rw[BQ];simp,by rw[fH (by omega) (by omega)];rfl,by omega,by omega,Qf,hO.cd cn⟩
  ·rw[show(ao #[32])=T [32]from rfl,dZ,bW,bW,aN,bg];omega
  ·rw[show(ao #[32])=T [32]from rfl,dZ,dZ]
 ·have mJ:=aU mJ;have qV:j=sP.length:=by omega
  subst qV;refine⟨by rw[bW];omega,?_,hO⟩;rw[show(ao #[32,125])=T [32,125]from rfl,dZ,et,fV];rfl
def Q2:List (aH)->aH
 | []=>[]
 | s::l=>32::45::62::32::(s++Bw l)
theorem FY(s:aH):∀l:List (aH),Bw (l++[s])=Bw l++[44,32]++s
 | []=>by simp[Bw]
 | b::l=>by rw[cr,Bw,Bw,FY s l];simp
theorem Px(s:aH):∀l:List (aH),Q2 (l++[s])=Q2 l++(if l=[]then[32,45,62,32]else[44,32])++s
 | []=>by simp[Q2,Bw]
 | b::l=>by rw[cr,Q2,Q2,FY s l,if_neg (by simp)];simp
theorem WM(m:Mv):QY m++Lh m++(if m.acts=[]then[]else 32::uc m.acts)++Q2 m.tg++[59]=zV m:=by
 unfold zV;cases m.tg<;>simp[Q2]
theorem S8{x:Mv}{cs:aI}(hx:yq false w F x cs)(hn:MC x)(hs:Fp x<=1048576):
  az aq 63 #[ah cs.toArray] w fun e w'=>e=ak (ab (T (zV x)))/\(zV x).length<=3000000000000/\ay [] w w':=by
 obtain⟨gc,qU,tg,rfl,hg,Gj,AB⟩:=hx;obtain⟨gs,rfl⟩:=eH hg;unfold Fp at hs;have hwt:wa x.wt:=hn.w;refine((ahg x.k (T x.ev) x.wt x.gd x.g.k x.g.n (T x.g.s) x.g.op gs x.g.a qU tg x.a (fun v w'=>v=ab (T (zV x))/\(zV x).length<=3000000000000/\ay [] w w') w ?_)).mono (by rintro _ w' ⟨v,rfl,rfl,h,h'⟩;exact⟨rfl,h,h'⟩);intro k0 w0 gD dQ ch;have z0:=ch.size;have sm:∀{u u':av},w0.heap.size<=u.heap.size->ay [] u u'->bS [k0] u u':=fun hz hO=>hO.same (by simp;omega);have kT:∀{u:av},ay [] w u->aA jB 1 u F tg x.tg:=fun hO=>SliceF.only cZ (by decide) AB.1 hO (by simp);have HT:=HM x.g;have hal:=gV x.acts;have Kr:=C3 x.tg;have pj:=Gj.1.len;have htn:=AB.1.len;let St (K:Nat) (v:aH):aK->av->Prop:=fun s u=>∃t:aH,s=T t/\t.length<=K/\ay [] w u/\w0.heap.size<=u.heap.size/\t=v
 refine⟨St 1048600 (if x.k=1 then xL++32::x.ev else fX),fun s0 w1 ⟨t0,e0,h0,o0,y0,v0⟩=>⟨St 1048700 (QY x),fun s1 w2 ⟨t1,e1,h1,o1,y1,v1⟩=>⟨St 1066000 (QY x++Lh x),fun s2 w3 ⟨t2,e2,h2,o2,y2,v2⟩=>⟨St 1117000000000 (QY x++Lh x++(if x.acts=[]then[]else 32::uc x.acts)),fun s3 w4 ⟨t3,e3,h3,o3,y3,v3⟩=>?_,fun hc=>?_,fun hc=>⟨t2,e2,by omega,o2,y2,?_⟩⟩,fun hc=>?_,fun hc=>⟨t1,e1,by omega,o1,y1,?_⟩⟩,fun hc=>?_,fun hc=>⟨t0,e0,by omega,o0,y0,?_⟩⟩,fun hc=>?_,fun hc=>⟨[97,108,119,97,121,115],rfl,by decide,ch,aW _,by rw[if_neg (by simpa using hc)];rfl⟩⟩
 ·subst e3;refine⟨fun kv s i u=>∃(j:Nat) (t:aH),s=T t/\t=t3++Q2 (x.tg.take j)/\i=(j:Int)/\kv+j=x.tg.length/\j<=x.tg.length/\t.length<=1117000000000+j*1048590/\ay [] w u,x.tg.length,⟨0,t3,rfl,by rw[dr,Q2,bL],rfl,by omega,bd _,by omega,o3⟩,?_⟩;rintro kv _ _ w5 ⟨j,t,rfl,et,rfl,Gl,hj,ht,hO⟩;refine⟨fun mJ=>⟨fun s u=>∃t':aH,s=T t'/\t'.length<=t.length+4/\u=w5/\t'=t++(if j=0 then[32,45,62,32]else[44,32]),?_,fun h0=>⟨by rw[bW];omega,t++[32,45,62,32],by rw[show(ao #[32,45,62,32])=T [32,45,62,32]from rfl,dZ],by simp,rfl,by rw[if_pos (by simpa using h0)]⟩,fun h0=>⟨by rw[bW];omega,t++[44,32],by rw[show(ao #[44,32])=T [44,32]from rfl,dZ],by simp,rfl,by rw[if_neg (by simpa using h0)]⟩⟩,fun mJ=>?_⟩
  ·have mJ:=aQ mJ;rintro _ w6 ⟨t',rfl,ht',hw,et'⟩;obtain rfl:w5=w6:=hw.symm;obtain⟨ad,s,cs,g1,g2,g3,g4,g5,g6⟩:=(kT hO).get (ba j) (by omega);rw[aX]at g2;have sI:=C4 (br g2);have g6:cs=[ab (T s)]:=g6;subst g6;refine⟨ad,g1,_,g5,by rw[bW,bW];omega,kv-1,by omega,j+1,t'++s,by rw[dZ],?_,by rw[fH (by omega) (by omega)];rfl,by omega,by omega,?_,hO⟩
   ·rw[bB,g2,et',et];show _=t3++Q2 (x.tg.take j++[s]);rw[Px];have e:(x.tg.take j=[])↔j=0:=by
     constructor
     ·intro h;have:=bK List.length h;rw[cP,aZ]at this;omega
     ·intro h;rw[h,dr]
    simp only[e,be]
   rw[aN,eJ];omega
  ·have mJ:=aU mJ;have qV:j=x.tg.length:=by omega
   subst qV;rw[fV]at et;have em:t++[59]=zV x:=by rw[et,v3,WM]
   refine⟨by rw[bW];omega,by rw[show(ao #[59])=T [59]from rfl,dZ,em],?_,hO⟩;rw[<-em,aN,bg];have:x.tg.length*1048590<=1048576*1048590:=dU _ (by omega);omega
 ·subst e2;have hbb:x.acts.length*1065080<=1048576*1065080:=dU _ (by omega);refine⟨by rw[bW];omega,(Ap (Gj.keep (cF false) (by decide) fun k _ bQ=>o2.block k bQ (by simp)) hn.a (by omega)).mono ?_⟩;rintro _ w7 ⟨rfl,fN⟩;have ht:(uc x.acts).length<=3+x.acts.length*1065080:=by
   have:=Dr x.acts (by omega);unfold uc;rw[aR,aN];simp only[aR,aZ];omega
  have z7:=fN.size;refine⟨_,rfl,sm y2 fN,?_,t2++[32]++uc x.acts,by rw[show(ao #[32])=T [32]from rfl,dZ,dZ],?_,o2.cd fN,by omega,?_⟩
  ·rw[show(ao #[32])=T [32]from rfl,dZ,bW,bW,aN,bg];omega
  ·rw[aN,aN,bg];omega
  ·have hc:=aQ hc;rw[v2,if_neg (fun e=>by rw[e]at pj;simp at pj;omega)];simp
 ·have hc:=aU hc;rw[v2,if_pos (bp (by omega)),bL]
 ·subst e1;refine⟨by rw[bW];omega,(Dl ((gz false).keep hg fun k _ bQ=>o1.block k bQ (by simp)) hn.1 (by omega)).mono ?_⟩;rintro _ w8 ⟨rfl,fj⟩;have z8:=fj.size;refine⟨_,rfl,sm y1 fj,?_,?_,t1++[32,91]++ta x.g++[93],by rw[show(ao #[32,91])=T [32,91]from rfl,show(ao #[93])=T [93]from rfl,dZ,dZ,dZ],?_,o1.cd fj,by omega,by rw[v1];unfold Lh;rw[hc,if_pos rfl];simp⟩
  ·rw[show(ao #[32,91])=T [32,91]from rfl,dZ,bW,bW,aN];simp only[aR,aZ];omega
  ·rw[show(ao #[32,91])=T [32,91]from rfl,dZ,dZ,bW,aN,aN];simp only[aR,aZ];omega
  ·simp only[aN,aR,aZ];omega
 ·rw[v1];unfold Lh;rw[hc,if_neg (by simp),bL]
 ·refine(Ke w1 hwt).mono ?_;rintro _ w9 ⟨rfl,fT⟩;have z9:=fT.size;have:=Kf hwt;refine⟨_,rfl,sm y0 fT,by rw[bW];omega,[97,102,116,101,114,32]++Lib.itoa x.wt,by rw[show(ao #[97,102,116,101,114,32])=T [97,102,116,101,114,32]from rfl,dZ],?_,o0.cd fT,by omega,?_⟩
  ·rw[aN];simp only[aR,aZ];omega
  ·have hc:x.k=3:=by simpa using hc
   unfold QY;rw[if_neg (by omega),if_pos hc];simp[gJ]
 ·have hc:¬x.k=3:=by simpa using hc
  rw[v0];unfold QY;rw[if_neg hc]
 ·refine⟨by rw[bW];omega,[111,110,32]++x.ev,by rw[show(ao #[111,110,32])=T [111,110,32]from rfl,dZ],?_,ch,aW _,?_⟩
  ·rw[aN];simp only[aR,aZ];omega
  ·rw[if_pos (by simpa using hc)];simp[xL]
end
structure Prg (w:av) (b:Nat) (sl:Sl) (l:aH):Prop where
 blk:aF w b 86 [sl.v]
 buf:Bf w (b+1) sl l
section
variable {w w0 w1 w2 w':av} {b k0:Nat} {sl gL L3:Sl} {l:aH}
theorem Prg.only(h:Prg w b sl l)(hO:ay [] w w'):Prg w' b sl l:=⟨hO.blk h.blk (by simp),h.buf.keep fun g _ hl=>hO.block g hl (by simp)⟩
theorem Prg.lb(h:Prg w b sl l):b<w.heap.size:=h.blk.lt
theorem Prg.PJ(h:Prg w b sl l){k:Nat}(hk:k<b):¬(k=b∨sl.a=some ⟨k,0,none⟩):=by
 rintro(e | e)
 ·omega
 ·have:=(h.buf.lt e).1;omega
theorem Prg.put{s':Sl}{m:aH}{e:TypeId}(h:Prg w b sl l)(k2:Bf w1 (b+1) s' m)(k3:aD (fun k=>sl.a=some ⟨k,0,none⟩) w w1)(k4:∀k,s'.a=some ⟨k,0,none⟩->sl.a=some ⟨k,0,none⟩∨w.heap.size<=k):
  aF w1 b 86 [sl.v]/\∀w2,ay [b] w1 w2->aF w2 b 86 [s'.v]->Prg w2 b s' m/\ii b sl w s' w2:=by
 have hb:=h.lb;refine⟨k3.blk h.blk fun e=>by have:=(h.buf.lt e).1;omega,fun w2 cG lm=>⟨⟨lm,k2.keep fun g hg hl=>cG.block g hl (by have:=(k2.lt hg).1;simp;omega)⟩,(k3.mono fun k _ hk=>.inr hk).trans (cG.p (F:=fun k=>k=b) fun x hx=>.inl (by simpa using hx)) fun k hk=>.inl (.inl hk),k4⟩⟩
theorem ach{B:Nat}(h:Bf w B sl l)(cs:aH){n:Nat}{parts:Array (Nat×aw)}(hp:parts=(((cs.map fW).zipIdx 0).map fun x=>(x.2,x.1)).toArray)(hn:cs.length=n)(h0:0<n)(tT:n*1<=16777216)(hB:B<=w.heap.size)(hm:l.length+cs.length<=140737488355328):
  ∃y w1,(au 68 n parts).run aq w=.ok (Sl.v y) w1/\ay [] w w1/\∃s' w2,(Builtin.append_ #[68,68] 68 #[Sl.v sl,Sl.v y]).run aq w1=.ok (Sl.v s') w2/\Bf w2 B s' (l++cs)/\
   aD (fun k=>sl.a=some ⟨k,0,none⟩) w w2/\∀k,s'.a=some ⟨k,0,none⟩->sl.a=some ⟨k,0,none⟩∨w.heap.size<=k:=by
 obtain⟨y,w1,k1,k2,k3,_⟩:=qH w cs hp hn h0 tT;have z1:=k3.size;have h1:Bf w1 B sl l:=h.keep fun g hg hl=>k3.block g hl (by simp);obtain⟨s',w2,m1,m2,gs,m3,m4,m5⟩:=qx (P:=aq) (t:=68) (ty:=68) (e:=5) (i:=Tryz.t5) (bytes:=1) (size:=1) (r:=ki) zP CV rfl rfl rfl rfl pJ (h1.own fun _=>True) ((vj k2).mono pJ fun k hk=>⟨trivial,fun e=>by have:=(h.lt e).2;have:=hk.1;omega⟩) (by omega) (by omega) (by decide);refine⟨y,w1,k1,k3,s',w2,m1,Bf.of m2 (by rw[aN];omega),k3.wT (m3.p fun x hx=>.inl (m4 x hx).1),fun k hk=>?_⟩;rcases m5 with e | e
 ·rw[e]at hk;exact .inl hk
 ·rw[e]at hk;injection hk with hk;injection hk with hk;exact .inr (by omega)
theorem BR:∀d,si (d+1)=si d++[32,32]
 | 0=>rfl
 | d+1=>by
  show 32::32::si (d+1)=(32::32::si d)++[32,32]
  rw[BR d];rfl
theorem Ds:∀d,(si d).length=2*d
 | 0=>rfl
 | d+1=>by rw[si,aR,aR,Ds d];omega
theorem Kg{l m:aH}{d:Nat}(hl:l.length<=4000000000000)(hd:d<=4194304)(hm:m.length<=3000000000010):(iE l (d,m)).length<=4000000000000:=by
 unfold iE;split
 ·exact hl
 ·unfold V3;rw[aN,aN,aN,Ds];simp only[aR,aZ];omega
theorem Kh(h:Prg w b sl l){d:Nat}(QG:d<=4194304)(m:aH)(hm:m.length<=3000000000010):
  az aq 46 #[ae (some ⟨b,0,none⟩),O U (d:Int),ab (T m)] w fun e w'=>e=ak (ai #[])/\∃(gL:Sl),Prg w' b gL (iE l (d,m))/\ii b sl w gL w':=by
 refine ret (ag9 _ _ _ _ _ ?_);have hn:=h.buf.len;have hb:=h.lb;refine⟨sl,Blk.ec h.blk 0 rfl,fun hc=>⟨rfl,sl,?_,ii.refl _ _ _⟩,fun hc=>?_⟩
 ·have hc:=aQ hc;unfold iE;rw[if_pos (by omega)];exact h
 have hc:l.length<=16384:=by have:=aU hc;omega
 have ep:iE l (d,m)=l++si d++m++[10]:=by
  unfold iE V3;rw[if_neg (by omega)];simp
 rw[ep];refine⟨fun kv i u=>∃(j:Nat) (q:Sl),i=(j:Int)/\kv+j=d/\Prg u b q (l++si j)/\ii b sl w q u,d,⟨0,sl,rfl,by omega,by rw[si,bL];exact h,ii.refl _ _ _⟩,?_⟩;rintro kv _ w0 ⟨j,q,rfl,Gl,hP,hM⟩;have DA:=hP.lb;have ht:(l++si j).length<=16384+2*j:=by rw[aN,Ds];omega
 refine⟨fun mJ=>?_,fun mJ=>?_⟩
 ·have mJ:=aQ mJ;obtain⟨y,w1,a1,a2,s',w2,a3,a4,a5,a6⟩:=ach hP.buf [32,32] (n:=2) (parts:=#[.mk 0 (.int .u8 32),.mk 1 (.int .u8 32)]) rfl rfl (by decide) (by decide) (by omega) (by rw[aR,bg];omega);obtain⟨c1,c2⟩:=hP.put (e:=0) a4 a5 a6;refine⟨q,Blk.ec hP.blk 0 rfl,y,w1,a1,s',w2,a3,b,0,_,_,rfl,c1,aW 1,fun w3 dh ru=>?_⟩;obtain⟨c3,c4⟩:=c2 w3 dh ru;exact⟨kv-1,by omega,j+1,s',by rw[fH (by omega) (by omega)];rfl,by omega,by rw[BR,<-be];exact c3,hM.trans c4⟩
 ·have mJ:=aU mJ;have qV:j=d:=by omega
  subst qV;obtain⟨s',w1,k1,k2,k3,k4⟩:=yu hP.buf m (by omega) (by omega);obtain⟨c1,c2⟩:=hP.put (e:=0) k2 k3 fun k hk=>by
   rcases k4 with e | e
   ·rw[e]at hk;exact .inl hk
   ·rw[e]at hk;injection hk with hk;injection hk with hk;exact .inr (by omega)
  refine⟨q,Blk.ec hP.blk 0 rfl,s',w1,k1,b,0,_,_,rfl,c1,aW 1,fun w2 cG lm=>?_⟩;obtain⟨Vi,hM2⟩:=c2 w2 cG lm;have wW:=Vi.lb;obtain⟨y,w3,a1,a2,s5,w4,a3,a4,a5,a6⟩:=ach Vi.buf [10] (n:=1) (parts:=#[.mk 0 (.int .u8 10)]) rfl rfl (by decide) (by decide) (by omega) (by rw[aN,bg];omega);obtain⟨d1,d2⟩:=Vi.put (e:=0) a4 a5 a6;refine⟨s',Blk.ec Vi.blk 0 rfl,y,w3,a1,s5,w4,a3,b,0,_,_,rfl,d1,aW 1,fun w5 eh tX=>?_⟩;obtain⟨d3,d4⟩:=d2 w5 eh tX;exact⟨rfl,s5,d3,(hM.trans hM2).trans d4⟩
end
mutual
def Q3:Nd->Prop
 | .mk b ks=>(1<=b.k/\b.k<=4)/\HO ks
def HO:List Nd->Prop
 | []=>True
 | x::l=>Q3 x/\HO l
end
theorem FZ{x:Nd}:∀{l:List Nd},HO l->x∈l->Q3 x
 | y::l,h,hx=>by
  rw[HO]at h;rcases aY.1 hx with rfl | hx
  ·exact h.1
  ·exact FZ h.2 hx
mutual
theorem Py:∀(d:Nat) (x:Nd),kw d x=true->Q3 x
 | d,.mk b l,h=>by
  rw[kw,aP,aP]at h;rw[Q3];refine⟨?_,Ki (d+1) l h.2⟩;have h1:=h.1.2;unfold tN at h1;rw[aP]at h1;have h2:=h1.2;by_cases hh:kZ b.k=true
  ·unfold kZ at hh;have:=aQ hh;omega
  ·rw[if_neg hh]at h2;simp only[aP,bA]at h2;omega
theorem Ki:∀(d:Nat) (l:List Nd),iv d l=true->HO l
 | _,[],_=>by rw[HO];trivial
 | d,x::l,h=>by
  rw[iv,aP]at h;rw[HO];exact⟨Py d x h.1,Ki d l h.2⟩
end
def nq(w:av)(b:Nat)(sl:Sl)(w0:av)(s0:Sl)(l:aH):Prop:=(Prg w b sl l/\l.length<=4000000000000)/\ii b s0 w0 sl w
theorem nq.line{w w0:av}{b:Nat}{sl s0:Sl}{l:aH}(h:nq w b sl w0 s0 l){d:Nat}(QG:d<=4194304)(m:aH)(hm:m.length<=3000000000010){k0:Nat}(h1:k0≠b)(h2:s0.a≠some ⟨k0,0,none⟩)(h3:k0<w0.heap.size):
  az aq 46 #[ae (some ⟨b,0,none⟩),O U (d:Int),ab (T m)] w fun e w'=>e=ak (ai #[])/\bS [k0] w w'/\∃gL,nq w' b gL w0 s0 (iE l (d,m)):=by
 obtain⟨⟨hP,hl⟩,hM⟩:=h;refine(Kh hP QG m hm).mono ?_;rintro _ w' ⟨rfl,gL,hP',hM'⟩;exact⟨rfl,hM.sm h1 h2 h3 hM',gL,⟨hP',Kg hl QG hm⟩,hM.trans hM'⟩
theorem nq.only{w w' w0:av}{b:Nat}{sl s0:Sl}{l:aH}(h:nq w b sl w0 s0 l)(hO:ay [] w w'):nq w' b sl w0 s0 l:=by
 obtain⟨⟨hP,hl⟩,hM⟩:=h;exact⟨⟨hP.only hO,hl⟩,hM.trans (ii.only hO)⟩
def NdC(D:Nat):Prop:=∀{F:aJ} {w:av} {b:Nat} {sl:Sl} {l:aH} {x:Nd} {cs:aI} {d:Nat},li false D w F x cs->(∀k,F k->k<b)->Prg w b sl l->l.length<=4000000000000->xu x->Q3 x->nP x<=1048576->d+ke x<=4000000->
 az aq 99 #[ae (some ⟨b,0,none⟩),ah cs.toArray,O U (d:Int)] w fun e w'=>e=ak (ai #[])/\∃(gL:Sl),Prg w' b gL (dq l (AE d x))/\(dq l (AE d x)).length<=4000000000000/\ii b sl w gL w'
theorem Kj{D:Nat}(hD:NdC D){F:aJ}{w:av}{b:Nat}{sl:Sl}{l:aH}{x:Nd}{cs:aI}{d:Nat}(hx:li false (D+1) w F x cs)(hF:∀k,F k->k<b)(hP:Prg w b sl l)(hl:l.length<=4000000000000)(hn:xu x)(Im:Q3 x)(hs:nP x<=1048576)(QG:d+ke x<=4000001):
  az aq 48 #[ae (some ⟨b,0,none⟩),ah cs.toArray,O U (d:Int)] w fun e w'=>e=ak (ai #[])/\∃(gL:Sl),Prg w' b gL (dq l (AV d x.b++mU d x.kids))/\(dq l (AV d x.b++mU d x.kids)).length<=4000000000000/\ii b sl w gL w':=by
 obtain⟨bb,ks⟩:=x;obtain⟨en,lv,mv,kids,jY,tV,gD⟩:=hx;dsimp only[Nd.kids,Nd.b]at jY tV gD;subst jY;have hk:=gD.1;rw[xu]at hn;rw[Q3]at Im;obtain⟨⟨xP,wW,Xn⟩,Rt⟩:=hn;obtain⟨he,xd,rq⟩:=tV;rw[nP]at hs;rw[ke]at QG;unfold BD at hs;have HU:=hP.lb;refine ret (aha _ _ _ _ _ _ _ _ _ _ _ _ _ ?_);intro k0 w0 dQ vY ch;have z0:=ch.size;have DN:k0≠b:=by omega
 have uM:sl.a≠some ⟨k0,0,none⟩:=fun e=>by have:=(hP.buf.lt e).2;omega
 have h0:nq w0 b sl w0 sl l:=⟨⟨hP.only ch,hl⟩,ii.refl _ _ _⟩
 have nF:∀k,F k->¬(k=b∨sl.a=some ⟨k,0,none⟩):=fun k um=>hP.PJ (hF k um);have fr:∀{u:av} {q:Sl} {L:aH},nq u b q w0 sl L->∀k,F k->k<w.heap.size->u.heap[k]? =w.heap[k]? :=fun{u q L} h k um bQ=>(h.2.1.block k (by omega) (nF k um)).trans (ch.block k bQ (by simp));have sz:∀{u:av} {q:Sl} {L:aH},nq u b q w0 sl L->w0.heap.size<=u.heap.size:=fun h=>h.2.1.size;have sm:∀{u u':av} {q:Sl} {L:aH},nq u b q w0 sl L->ay [] u u'->bS [k0] u u':=fun h hO=>hO.same (by have:=sz h;simp;omega);have kA:∀{u:av} {q s:Sl} {la:List Ac} {L:aH},jE false (pC false) 9 116 w F s la->nq u b q w0 sl L->jE false (pC false) 9 116 u F s la:=fun h hp=>h.keep (cF false) (by decide) (fr hp);have kM:∀{u:av} {q:Sl} {L:aH},nq u b q w0 sl L->aA (yq false) 13 u F mv bb.mv:=fun hp=>(rq.keep (gU false) (by decide) (fr hp)).1;have kK:∀{u:av} {q:Sl} {L:aH},nq u b q w0 sl L->aA (li false D) 9 u F kids ks:=fun hp=>(gD.keep (cj false D) (by decide) (fr hp)).1;have hal:=gV bb.en;have ara:=gV bb.lv;have Qf:=rq.1.len;have L2:=hk.len;have X8:=mV bb.mv;have X4:=oq ks;have m1:bb.en.length*1065080<=1048576*1065080:=dU _ (by omega);have m2:bb.lv.length*1065080<=1048576*1065080:=dU _ (by omega);let St:aH->av->Prop:=fun L u=>∃q,nq u b q w0 sl L
 have eT:((T bb.ini).toList==((ao #[]).toList))=decide (bb.ini=[]):=iO bb.ini [];rw[eT];have Vj:∀{la:List Ac},iG la<=1048576->(uc la).length<=3+la.length*1065080:=fun{la} h=>by
  have:=Dr la h;unfold uc;rw[aR,aN];simp only[aR,aZ];omega
 have ZE:=he.1.len;have DX:=xd.1.len;refine⟨St (dq l (tP d bb)),fun w1 ⟨q1,h1⟩=>⟨St (dq l (tP d bb++Jo d bb)),fun w2 ⟨q2,h2⟩=>⟨St (dq l (tP d bb++Jo d bb++Li d bb)),fun w3 ⟨q3,h3⟩=>?_,fun hc=>?_,fun hc=>⟨q2,by
  have hc:=aU hc;rw[show Li d bb=[] by unfold Li;rw[if_pos (bp (by omega))],bL];exact h2⟩⟩,fun hc=>?_,fun hc=>⟨q1,by
  have hc:=aU hc;rw[show Jo d bb=[] by unfold Jo;rw[if_pos (bp (by omega))],bL];exact h1⟩⟩,fun hc=>?_,fun hc=>⟨sl,by
  have hc:bb.ini=[]:=by simpa using hc
  rw[show tP d bb=[] by unfold tP;rw[if_pos hc]];exact h0⟩⟩
 ·refine⟨fun kv i u=>∃j:Nat,i=(j:Int)/\kv+j=bb.mv.length/\j<=bb.mv.length/\St (dq l (tP d bb++Jo d bb++Li d bb++(bb.mv.take j).map fun m=>(d,zV m))) u,bb.mv.length,⟨0,rfl,by omega,bd _,q3,by rw[dr,gW,bL];exact h3⟩,?_⟩;rintro kv _ w4 ⟨j,rfl,Gl,hj,q4,h4⟩;obtain⟨⟨Va,hl4⟩,hM4⟩:=id h4;have arb:=Va.buf.len;refine⟨q4,fun _=>Blk.ec Va.blk 0 rfl,fun mJ=>?_,fun mJ=>?_⟩
  ·rw[aP]at mJ;have mJ:=aQ mJ.1;obtain⟨ad,y,cs,g1,g2,g3,g4,g5,g6⟩:=(kM h4).get (ba j) (by omega);rw[aX]at g2;have uL:=br g2;have ME:=sA uL;have DG:=g6;obtain⟨gc,qU,tg,rfl,hg,Gj,AB⟩:=g6;obtain⟨gs,rfl⟩:=eH hg;refine⟨ad,g1,_,_,_,_,_,_,_,_,_,_,_,_,_,g5,(S8 DG (Xn y uL) (by omega)).mono ?_⟩;rintro _ w5 ⟨rfl,ht,eh⟩;refine⟨_,rfl,sm h4 eh,((h4.only eh).line (d:=d) (by omega) (zV y) (by omega) DN uM vY).mono ?_⟩;rintro _ w6 ⟨rfl,hs6,q6,h6⟩;exact⟨rfl,hs6,kv-1,by omega,j+1,by rw[fH (by omega) (by omega)];rfl,by omega,by omega,q6,by
    rw[bB,g2,dF,<-be,fm];exact h6⟩
  ·have akV:dq l (tP d bb++Jo d bb++Li d bb++(bb.mv.take j).map fun m=>(d,zV m))=dq l (AV d bb):=by
    have en:AV d bb=tP d bb++Jo d bb++Li d bb++mvL d bb:=by unfold AV;simp
    rw[en];unfold mvL;by_cases xF:j=bb.mv.length
    ·rw[xF,fV]
    ·have QO:16384<(dq l (tP d bb++Jo d bb++Li d bb++(bb.mv.take j).map fun m=>(d,zV m))).length:=by
      rw[pI]at mJ;rcases mJ with h | h
      ·have:=aU h;omega
      ·have:=aU h;omega
     conv=>rhs;rw[<-fg j bb.mv,dF,<-be,fm]
     rw[Fi _ _ QO]
   refine⟨fun kv i u=>∃j:Nat,i=(j:Int)/\kv+j=ks.length/\j<=ks.length/\St (dq l (AV d bb++mU d (ks.take j))) u,ks.length,⟨0,rfl,by omega,bd _,q4,by rw[dr,mU,bL,<-akV];exact h4⟩,?_⟩;rintro kv2 _ w7 ⟨i,rfl,akR,hi,q7,h7⟩;obtain⟨⟨L7,Gk⟩,TG⟩:=id h7;refine⟨fun QN=>?_,fun QN=>?_⟩;rotate_left
   ·have QN:=aU QN;have hie:i=ks.length:=by omega
    rw[hie,fV]at L7 Gk;exact⟨rfl,q7,L7,Gk,(ii.only ch).trans TG⟩
   have QN:=aQ QN;obtain⟨ad,y,cs,g1,g2,g3,g4,g5,g6⟩:=(kK h7).get (ba i) (by omega);rw[aX]at g2;have uL:=br g2;have ME:=qe uL;have Tg:=Fu uL;have DG:=g6;obtain⟨D',rfl⟩:∃D',D=D'+1:=by
    cases D with
    | zero=>exact g6.elim
    | succ D'=>exact⟨D',rfl⟩
   obtain⟨uo,uq,pu,iX,rfl,_⟩:=g6;refine⟨ad,g1,_,_,_,_,uo,uq,pu,iX,_,g5,(hD DG hF L7 Gk (vG Rt uL) (FZ Im.2 uL) (by omega) (by omega)).mono ?_⟩;rintro _ w8 ⟨rfl,q8,hP8,Vd,hM8⟩;have e8:dq (dq l (AV d bb++mU d (ks.take i))) (AE d y)=dq l (AV d bb++mU d (ks.take (i+1))):=by
    rw[bB,g2];show _=dq l (AV d bb++mU d (ks.take i++[y]));rw[wE];simp only[fm]
   rw[e8]at hP8 Vd;exact⟨rfl,TG.sm DN uM vY hM8,kv2-1,by omega,i+1,by rw[fH (by omega) (by omega)];rfl,by omega,by omega,q8,⟨hP8,Vd⟩,TG.trans hM8⟩
 ·refine(Ap (kA xd h2) wW (by omega)).mono ?_;rintro _ w9 ⟨rfl,fT⟩;have ht:=Vj (la:=bb.lv) (by omega);refine⟨_,rfl,sm h2 fT,by rw[bW];omega,?_⟩;rw[show(ao #[108,101,97,118,101,32])=T [108,101,97,118,101,32]from rfl,dZ];refine((h2.only fT).line (d:=d) (by omega) _ (by rw[aN];simp only[aR,aZ];omega) DN uM vY).mono ?_;rintro _ dw ⟨rfl,Qu,U0,uS⟩;refine⟨rfl,Qu,U0,?_⟩;have hc:=aQ hc;rw[show Li d bb=[(d,gj++32::uc bb.lv)] by unfold Li;rw[if_neg (fun e=>by rw[e]at DX;simp at DX;omega)],fm];exact uS
 ·refine(Ap (kA he h1) xP (by omega)).mono ?_;rintro _ w9 ⟨rfl,fT⟩;have ht:=Vj (la:=bb.en) (by omega);refine⟨_,rfl,sm h1 fT,by rw[bW];omega,?_⟩;rw[show(ao #[101,110,116,101,114,32])=T [101,110,116,101,114,32]from rfl,dZ];refine((h1.only fT).line (d:=d) (by omega) _ (by rw[aN];simp only[aR,aZ];omega) DN uM vY).mono ?_;rintro _ dw ⟨rfl,Qu,U0,uS⟩;refine⟨rfl,Qu,U0,?_⟩;have hc:=aQ hc;rw[show Jo d bb=[(d,gf++32::uc bb.en)] by unfold Jo;rw[if_neg (fun e=>by rw[e]at ZE;simp at ZE;omega)],fm];exact uS
 ·refine⟨by rw[bW];omega,by rw[show(ao #[105,110,105,116,105,97,108,32])=T [105,110,105,116,105,97,108,32]from rfl,dZ,bW,aN];simp only[aR,aZ];omega,?_⟩;rw[show(ao #[105,110,105,116,105,97,108,32])=T [105,110,105,116,105,97,108,32]from rfl,show(ao #[59])=T [59]from rfl,dZ,dZ];refine(h0.line (d:=d) (by omega) _ (by simp only[aN,aR,aZ];omega) DN uM vY).mono ?_;rintro _ eU ⟨rfl,akW,Ze,xb⟩;refine⟨rfl,akW,Ze,?_⟩;have hc:¬bb.ini=[]:=by simpa using hc
  rw[show tP d bb=[(d,dX++32::(bb.ini++[59]))] by unfold tP;rw[if_neg hc]];have e:([105,110,105,116,105,97,108,32]++bb.ini++[59]:aH)=dX++32::(bb.ini++[59]):=by simp[dX]
  rw[e]at xb;exact xb
theorem S9{D:Nat}(hD:NdC D){F:aJ}{w:av}{b:Nat}{sl:Sl}{l:aH}{x:Nd}{cs:aI}{d:Nat}(hx:li false (D+1) w F x cs)(hF:∀k,F k->k<b)(hP:Prg w b sl l)(hl:l.length<=4000000000000)(hn:xu x)(Im:Q3 x)(hs:nP x<=1048576)(QG:d+ke x<=4000000):
 az aq 99 #[ae (some ⟨b,0,none⟩),ah cs.toArray,O U (d:Int)] w fun e w'=>e=ak (ai #[])/\∃(gL:Sl),Prg w' b gL (dq l (AE d x))/\(dq l (AE d x)).length<=4000000000000/\ii b sl w gL w':=by
 obtain⟨bb,ks⟩:=x;have DH:=hx;obtain⟨en,lv,mv,kids,jY,tV,gD⟩:=hx;dsimp only[Nd.kids,Nd.b]at jY tV gD;subst jY;have BZ:=hs;rw[nP]at BZ;unfold BD at BZ;have HU:=hP.lb;have hnp:=C9 (.mk bb ks);refine ret (ahh _ _ _ _ _ _ _ _ _ _ _ _ _ ?_);intro k0 w0 dQ vY ch;have z0:=ch.size;have DN:k0≠b:=by omega
 have uM:sl.a≠some ⟨k0,0,none⟩:=fun e=>by have:=(hP.buf.lt e).2;omega
 have h0:nq w0 b sl w0 sl l:=⟨⟨hP.only ch,hl⟩,ii.refl _ _ _⟩
 have Zv:1<=bb.k/\bb.k<=4:=by rw[Q3]at Im;exact Im.1
 have nF:∀k,F k->¬(k=b∨sl.a=some ⟨k,0,none⟩):=fun k um=>hP.PJ (hF k um);have fin:∀{u:av} {q:Sl} {L:aH},nq u b q w0 sl L->L=dq l (AE d (.mk bb ks))->∃(gL:Sl),Prg u b gL (dq l (AE d (.mk bb ks)))/\(dq l (AE d (.mk bb ks))).length<=4000000000000/\ii b sl w gL u:=fun{u q L} h e=>by
  subst e;obtain⟨⟨h1,h2⟩,h3⟩:=h;exact⟨q,h1,h2,(ii.only ch).trans h3⟩
 have ap:∀(a c:aH),T a++T c=T (a++c):=dZ;have e1:(ao #[104,105,115,116,111,114,121,32])=T [104,105,115,116,111,114,121,32]:=rfl;have e2:(ao #[32,45,62,32])=T [32,45,62,32]:=rfl;have e3:(ao #[59])=T [59]:=rfl;have e4:(ao #[100,101,101,112,32])=T [100,101,101,112,32]:=rfl;have e5:(ao #[115,116,97,116,101,32])=T [115,116,97,116,101,32]:=rfl;have e6:(ao #[32,123])=T [32,123]:=rfl;have e7:(ao #[112,97,114,97,108,108,101,108,32])=T [112,97,114,97,108,108,101,108,32]:=rfl;have e8:(ao #[125])=T [125]:=rfl;simp only[e1,e2,e3,e4,e5,e6,e7,e8,ap,bW];have go:∀(m:aH),m.length<=3000000000010->az aq 46 #[ae (some ⟨b,0,none⟩),O U (d:Int),ab (T m)] w0 fun e w'=>e=ak (ai #[])/\bS [k0] w0 w'/\∃gL,nq w' b gL w0 sl (iE l (d,m)):=fun m hm=>h0.line (d:=d) (by omega) m hm DN uM vY;refine⟨fun u=>¬kZ bb.k=true/\∃q,nq u b q w0 sl (iE l (d,kW bb.k++32::(bb.nm++[32,123]))),fun w1 ⟨hh,q1,h1⟩=>?_,fun k3=>?_,fun k3=>⟨fun k4=>?_,fun k4=>⟨fun k1=>?_,fun k1=>?_⟩⟩⟩
 ·obtain⟨⟨hP1,hl1⟩,hM1⟩:=h1;have hr1:li false (D+1) w1 F (.mk bb ks) (nf bb.k bb.nm bb.ini bb.dft en lv mv kids bb.a):=(cj false _).keep DH fun k um bQ=>(hM1.1.block k (by omega) (nF k um)).trans (ch.block k bQ (by simp));rw[fH (x:=(d:Int)+1) (by omega) (by omega),show(d:Int)+1=((d+1:Nat):Int) by omega];refine(Kj hD (d:=d+1) hr1 hF hP1 hl1 hn Im hs (by omega)).mono ?_;rintro _ w2 ⟨rfl,q2,Vi,uO,hM2⟩;have h2:nq w2 b q2 w0 sl _:=⟨⟨Vi,uO⟩,hM1.trans hM2⟩
  refine⟨rfl,hM1.sm DN uM vY hM2,(h2.line (d:=d) (by omega) [125] (by decide) DN uM vY).mono ?_⟩;rintro _ w3 ⟨rfl,hs3,q3,h3⟩;refine⟨rfl,hs3,by first | rfl | trivial,fin h3 ?_⟩;rw[AE,if_neg hh];simp only[qM,fm,Nd.b,Nd.kids];rfl
 ·have k3:bb.k=3:=by simpa using k3
  simp only[aN,aR,aZ];refine⟨by omega,by omega,by omega,by omega,(go _ (by simp only[aN,aR,aZ];omega)).mono ?_⟩;rintro _ w4 ⟨rfl,D0,q4,h4⟩;refine⟨rfl,D0,by first | rfl | trivial,fin h4 ?_⟩;rw[AE,if_pos (by unfold kZ;exact bF (.inl k3)),k3];show _=iE l _;congr 2;simp[kW,rW]
 ·have k4:bb.k=4:=by simpa using k4
  simp only[aN,aR,aZ];refine⟨by omega,by omega,by omega,by omega,(go _ (by simp only[aN,aR,aZ];omega)).mono ?_⟩;rintro _ w4 ⟨rfl,D0,q4,h4⟩;refine⟨rfl,D0,by first | rfl | trivial,fin h4 ?_⟩;rw[AE,if_pos (by unfold kZ;exact bF (.inr k4)),k4];show _=iE l _;congr 2;simp[kW,E5]
 ·have k1:bb.k=1:=by simpa using k1
  simp only[aN,aR,aZ];refine⟨by omega,by omega,(go _ (by simp only[aN,aR,aZ];omega)).mono ?_⟩;rintro _ w4 ⟨rfl,D0,q4,h4⟩;refine⟨rfl,D0,by unfold kZ;rw[k1];decide,q4,?_⟩;have e:([115,116,97,116,101,32]++bb.nm++[32,123]:aH)=kW bb.k++32::(bb.nm++[32,123]):=by rw[k1];simp[kW,zH]
  rw[e]at h4;exact h4
 ·have k3:¬bb.k=3:=by simpa using k3
  have k4:¬bb.k=4:=by simpa using k4
  have k1:¬bb.k=1:=by simpa using k1
  have k2:bb.k=2:=by omega
  simp only[aN,aR,aZ];refine⟨by omega,by omega,(go _ (by simp only[aN,aR,aZ];omega)).mono ?_⟩;rintro _ w4 ⟨rfl,D0,q4,h4⟩;refine⟨rfl,D0,by unfold kZ;rw[k2];decide,q4,?_⟩;have e:([112,97,114,97,108,108,101,108,32]++bb.nm++[32,123]:aH)=kW bb.k++32::(bb.nm++[32,123]):=by rw[k2];simp[kW,pV]
  rw[e]at h4;exact h4
theorem Kk:∀D,NdC D
 | 0=>fun hx _ _ _ _ _ _ _=>hx.elim
 | D+1=>fun hx hF hP hl hn Im hs QG=>S9 (Kk D) hx hF hP hl hn Im hs QG
end Go.Proofs.YtmhoiicofhlgbaaGreatDoor.Con
