import Derived.Test.YtbkjcdocjfknfaaGreatDoorQp11
set_option linter.unusedSectionVars false
namespace Go.Kt
open Go renaming World->ay,Value->az
open Go Go.RowKit Go.ChangeShapes Go.WideShapes
set_option linter.unusedSimpArgs false
set_option linter.unusedVariables false
def rPair{α β:Type}(r:Rp α)(q:Rp β):Rp (α×β):=fun w F x cs=>∃c d,cs=c++d/\r w F x.1 c/\q w F x.2 d
def rUnit:Rp Unit:=fun _ _ _ cs=>cs=[]
def Wh:Rp Bool:=fun _ _ b cs=>cs=[.bool b]
section
variable {H:Type} {enc:TypeId×az->H} {P:Program}
theorem tP(hl:laidOutB P=true){W W'}{sp}(hb:Below W.heap.size W W'):∀{ts:List TypeId} {vs:List az} {ds:List _} {ps:List MemPlace},
  (∀t,t∈ts->P.readableRec t=true/\t<P.types.size)->DataW.TrodAll enc P W 0 (fun _=>true) true ts vs ds ps->(∀x,x∈ps->x.block<W.heap.size)->(∀x,x∈ps->sp x.block=true)->DataW.TrodAll enc P W' 0 sp true ts vs ds ps
 | [],vs,ds,ps,_,h,_,_=>by
  obtain⟨rfl,rfl,rfl⟩:=trodAll_nil h;exact trodAll_mk0
 | t::ts,vs,ds,ps,hr,h,bX,xz=>by
  obtain⟨v,vs',d,ds',p,q,rfl,rfl,rfl,h1,h2⟩:=trodAll_cons h;obtain⟨r1,r2⟩:=hr t (by simp);exact trodAll_cons_mk (WideElems.Trod_stays hl r1 r2 h1 (fun x hx=>hb.same (bX x (by simp[hx]))) fun x hx=>xz x (by simp[hx]))
   (tP hl hb (fun u hu=>hr u (by simp[hu])) h2 (fun x hx=>bX x (by simp[hx])) fun x hx=>xz x (by simp[hx]))
theorem law_post{f}{s:ChangeSpec}{fresh handsOn again}{W W'}{args}{ds gs}{before}{tb}
  (hW:DataW.Whole enc P f.params.toList s.vars false W args.toList ds gs before) (hv:s.vars=[])
  (aah:(s.fn H (ds++gs)).results=[.lit (.bool true)]) (hargs:(s.fn H (ds++gs)).args=ds) (xw:(s.fn H (ds++gs)).vars=[])
  (ht:f.resultTypes=#[tb]) (hu:P.underlying tb=some .bool) (hl:laidOutB P=true) (aaK:(f.params.toList.all fun t=>P.readableRec t&&decide (t<P.types.size))=true) (hO:Only [] W W'):
  s.post enc P f false fresh handsOn again W args (.bool true) W':=by
 have hb:=hO.below (aY _) (by simp);have bX:=fun p hp=>hW.lt p hp;obtain⟨p,q,hA,hV,rfl,hz,hn⟩:=id hW;rw[hv]at hV;obtain⟨rfl,rfl⟩:=trodVars_none hV;rw[bR]at*
 have hA':∀sp,_->DataW.TrodAll enc P W' 0 sp true f.params.toList args.toList (s.fn H ds).args p:=fun sp xz=>by
  rw[hargs];exact tP hl hb (fun t ht=>by simpa using dS.1 aaK t ht) hA (fun x hx=>by simpa using bX x hx) xz
 have hV':∀sp,DataW.TrodVars enc P W' sp s.vars (s.fn H ds).vars []:=fun sp=>by
  rw[hv,xw];simp[DataW.TrodVars]
 have W6:∀b sp hd,DataW.TrodAll enc P W' b sp hd f.resultTypes.toList ((Value.bool true).resultList f.resultTypes.size) (s.fn H ds).results []:=fun b sp hd=>by
  rw[aah,ht];exact trodAll_cons_mk (shut_bool hu true) trodAll_mk0
 have hold:∀x∈p,(fun b=>decide _) x.block=true:=fun x hx=>by simpa using bX x hx
 refine⟨ds,[],p,[],p,[],hW,by simpa using W6 _ _ _,by simpa using hA' _ hold,by simpa using hV' _,World.keptBut_mono (fun x hx=>⟨hx,by simpa using hx⟩) (hb.frame _),fun _=>?_⟩;refine⟨ok_one ht rfl (okWide_bool_mk hu true),_,_,_++[],⟨[]++p,[],trodAll_append (hA' _ (fun _ _=>rfl)) (W6 _ _ _),hV' _,rfl,?_,?_⟩,?_⟩
 ·intro b off hp;have hp:=by simpa using hp
  rw[hb.frozen (p:=_) (bX _ hp)];exact hz b off hp
 ·intro ha;cases ha
 ·intro x hp _;simpa using hp
variable {W:ay} {base:Nat} {spare:Nat->Bool} {held:Bool} {α:Type}
def BR(enc:TypeId×az->H)(P:Program)(W:ay)(base:Nat)(spare:Nat->Bool)(held:Bool)(t:TypeId)(r:Rp α):Prop:=
 ∀fl cs x,DataW.trod enc P W base spare held fl t cs=some x->(∀n,n∈x.1.weights P t->n<=reachBytes)->∃a,r W (fun _=>True) a cs
theorem opens_int{t}(ht:P.underlying t=some (.int .i64)):BR enc P W base spare held t rInt:=fun fl cs x h _=>by
 obtain⟨n,rfl,rfl,hw⟩:=DataW.trod_int ht h;refine⟨n,rfl,?_⟩;simpa[Lit.wf,IntKind.min,IntKind.max,IntKind.signed,IntKind.bits,ry]using hw
def rSl(r:Rp α)(size bytes:Nat):Rp (List α):=fun w F xs cs=>∃s,cs=[s.v]/\SliceF r size w F s xs/\xs.length*bytes<=140737488351232
theorem sf{e}:∀{l:List _} {d:DataW H},d∈l->∀n,n∈d.weights P e->n∈DataW.weightsAll P e l
 | d0::l,d,hd,n,hn=>by
  simp[DataW.weightsAll,ch];rcases aR.1 hd with rfl | hd
  ·exact .inl hn
  ·exact .inr (sf hd n hn)
 | [],d,hd,_,_=>by simp at hd
theorem xj{β:Type}{p:Nat->β->Prop}:∀n,(∀i,i<n->∃b,p i b)->∃l:List β,l.length=n/\∀i b,l[i]? =some b->p i b
 | 0,_=>⟨[],rfl,fun i b h=>by simp at h⟩
 | n+1,h=>by
  obtain⟨l,h1,h2⟩:=xj n fun i hi=>h i (by omega);obtain⟨b,hb⟩:=h n (by omega);refine⟨l++[b],by simp[h1],fun i c hc=>?_⟩;by_cases hi:i<l.length
  ·rw[bJ hi]at hc;exact h2 i c hc
  ·have:i=n:=by
    have:=(aZ.1 hc).1;simp at this;omega
   subst this;simp[h1]at hc;rw[<-hc];exact hb
theorem BR.map{β}{t}{r}{q}(h:BR enc P W base spare held t r)(f:α->β)(hf:∀a cs,r W (fun _=>True) a cs->q W (fun _=>True) (f a) cs):BR enc P W base spare held t q:=fun fl cs x hx hw=>by
 obtain⟨a,ha⟩:=h fl cs x hx hw;exact⟨f a,hf a cs ha⟩
theorem Ic{t}(ht:P.underlying t=some .bool):BR enc P W base spare held t Wh:=fun fl cs x h _=>by
 obtain⟨b,rfl,rfl⟩:=DataW.trod_bool ht h;exact⟨b,rfl⟩
theorem weights_of{ts}{ds}(h:(DataW.weightsEach P ts ds).all (· <=reachBytes)=true)(j:Nat){t}{d:DataW H}(ht:ts[j]? =some t)(hd:ds[j]? =some d):∀n,n∈d.weights P t->n<=reachBytes:=
 fun n hn=>by simpa using dS.1 h n (DataW.weights_mem_each ht hd n hn)
end
structure IsBulk {H:Type} (B:DataW H->Nat):Prop where
 one:∀d,1<=B d
 sl:∀e s,(e.map B).sum+1<=B (.slice e s)
 str:∀b,b.length+1<=B (.lit (.string b))
 agg:∀p,(p.map B).sum+1<=B (.agg p)
 ptr:∀d,B d+1<=B (.ptr d)
 iface:∀t d,B d+1<=B (.iface t d)
section
variable {H:Type} {enc:TypeId×az->H} {P:Program} {W:ay} {base:Nat} {spare:Nat->Bool} {held:Bool} {α β:Type} {B:DataW H->Nat}
def Qk:Rp ByteArray:=fun _ _ s cs=>cs=[.string s]/\s.size<=140737488351232
def iI(B:DataW H->Nat)(enc:TypeId×az->H)(P:Program)(W:ay)(base:Nat)(spare:Nat->Bool)(held:Bool)(t:TypeId)(r:Rp α)(m:α->Nat):Prop:=
 ∀fl cs x,DataW.trod enc P W base spare held fl t cs=some x->(∀n,n∈x.1.weights P t->n<=reachBytes)->∃a,r W (fun _=>True) a cs/\m a<=B x.1
theorem opensB_of(hB:IsBulk B){t}{r:Rp α}(h:BR enc P W base spare held t r):iI B enc P W base spare held t r fun _=>1:=fun fl cs x hx hw=>by
 obtain⟨a,ha⟩:=h fl cs x hx hw;exact⟨a,ha,hB.one _⟩
theorem jv(hB:IsBulk B){t}(ht:P.underlying t=some .string):iI B enc P W base spare held t Qk fun s=>s.size+1:=fun fl cs x h hw=>by
 obtain⟨s,rfl,rfl,hs⟩:=DataW.trod_string ht h;have h1:=hw _ (by simp;exact dV);have e:s.data.toList.length=s.size:=rfl;simp[e,reachBytes]at h1;refine⟨s,⟨rfl,?_⟩,?_⟩
 ·omega
 ·have:=hB.str s.data.toList;exact this
theorem Ql{p}{g:Nat->Nat}:∀{l:List α} {o:Nat},(∀i b,l[i]? =some b->p b<=g (o+i))->(l.map p).sum<=((List.range l.length).map fun i=>g (o+i)).sum
 | [],_,_=>by simp
 | a::l,o,h=>by
  rw[bp,List.range_succ_eq_map,bF,bF,cy,cy,iw];have ih:=Ql (p:=p) (g:=g) (l:=l) (o:=o+1) fun i b hb=>by
   have:=h (i+1) b hb;rw[show o+1+i=o+(i+1) by omega];exact this
  refine kZ (h 0 a rfl) (bh ih (oC ?_));congr 1;refine ru fun i _=>?_;congr 1;omega
theorem opensB_slice(hB:IsBulk B){t e}{r:Rp α}{m}{size}(ht:P.underlying t=some (.slice e))(hs:P.cellsOf e=size){bytes}(hb:P.bytesOf e=bytes)(he:iI B enc P W base spare held e r m):
  iI B enc P W base spare held t (rSl r size bytes) fun xs=>(xs.map m).sum+1:=fun fl cs x h hw=>by
 subst hs;rcases Deep.open_slice ht h with⟨rfl,rfl⟩ | ⟨a,len,cap,mm,n,D,Pl,rfl,_,hl,hm,hmm,rfl,hel⟩
 ·exact⟨[],⟨Sl.nil,rfl,SliceF.nil _ _ _ _,by simp⟩,hB.one _⟩
 ·have hlm:len<=mm:=by rw[hmm];split<;>omega
  have hex:∀i,i<len->∃b,(∃D7,D7.length=P.cellsOf e/\Cells W _ D7/\r W _ b D7)/\m b<=B _:=fun i hi=>by
   obtain⟨D7,g1,g2⟩:=hel i (by omega);obtain⟨_,g3,g4⟩:=World.cells?_some g1;obtain⟨b,g5,g6⟩:=he n D7 _ g2 fun k hk=>hw k (by
    simp[DataW.weights,ht,aR,ch];exact .inr (.inl (sf (cJ.2 ⟨i,kX.2 hi,rfl⟩) k hk)))
   refine⟨b,⟨D7,g3,fun j v hj=>?_,g5⟩,g6⟩;rw[g4 j (by have:=(aZ.1 hj).1;omega)];exact hj
  obtain⟨l,h1,h2⟩:=xj len hex;refine⟨l,⟨⟨some a,len,cap⟩,rfl,⟨h1.symm,hl,fun h=>(by cases h),hm,fun j x hj=>?_⟩,?_⟩,?_⟩
  ·obtain⟨⟨D7,g1,g2,g3⟩,_⟩:=h2 j x hj;exact⟨a,D7,rfl,trivial,g1,g2,g3⟩
  ·have:=hw _ (by simp only[DataW.weights,ht];exact dV);rw[hb]at this;simp[bq,fE,reachBytes]at this;rw[h1];have h3:len*bytes<=(len+(mm-len))*bytes:=jg _ (by omega);omega
  ·refine bh (Np ?_) (hB.sl _ ((List.range _).map fun j=>D _));have h4:=Ql (p:=m) (g:=fun i=>B _) (l:=l) (o:=0) fun i b hb=>by
    rw[bM];exact(h2 i b hb).2
   rw[h1]at h4;simpa[Function.comp_def]using h4
def DK(B:DataW H->Nat)(enc:TypeId×az->H)(P:Program)(W:ay)(base:Nat)(spare:Nat->Bool)(held:Bool)(T off:Nat)(fs:List Field)(r:Rp α)(m:α->Nat):Prop:=
 ∀n (cs:List az) (xs:List _),cs.length=T->xs.length=fs.length->
  (∀(i:Nat) f,fs[i]? =some f->DataW.trod enc P W base spare held n f.type ((cs.drop f.offset).take (P.cellsOf f.type))=xs[i]?)->
  (∀(i:Nat) f x,fs[i]? =some f->xs[i]? =some x->∀k,k∈x.1.weights P f.type->k<=reachBytes)->∃a,r W (fun _=>True) a (cs.drop off)/\m a<=(xs.map fun x=>B x.1).sum
theorem foB_nil{T off}(h:T=off):DK B enc P W base spare held T off [] rUnit fun _=>0:=fun n cs xs hl _ _ _=>⟨(),by
 exact ov (by omega),bA _⟩
theorem foB_cons{T off s}{f}{fs}{r:Rp α}{q:Rp β}{m}{m'}(ho:f.offset=off)(hs:P.cellsOf f.type=s)(hr:iI B enc P W base spare held f.type r m)(hq:DK B enc P W base spare held T (off+s) fs q m'):
  DK B enc P W base spare held T off (f::fs) (rPair r q) fun x=>m x.1+m' x.2:=fun n cs xs hl hx hf hw=>by
 cases xs with
 | nil=>simp at hx
 | cons x xs=>
  have h0:=hf 0 f rfl;rw[ho,hs]at h0;obtain⟨a,ha,GV⟩:=hr n _ x h0 (hw 0 f x rfl rfl);obtain⟨b,hb,kc⟩:=hq n cs xs hl (by simpa using hx) (fun i g hg=>hf (i+1) g hg) (fun i g y hg hy=>hw (i+1) g y hg hy);exact⟨(a,b),⟨_,_,by rw[<-oA,dv],ha,hb⟩,kZ GV kc⟩
theorem opensB_struct(hB:IsBulk B){t}{fs}{T}{r:Rp α}{m}(ht:P.underlying t=some (.struct fs))(hT:P.cellsOf t=T)(hF:DK B enc P W base spare held T 0 fs.toList r m):iI B enc P W base spare held t r fun x=>m x+1:=fun fl cs x h hw=>by
 obtain⟨xs,n,rfl,rfl,hl,IG,hf⟩:=DataW.trod_struct ht h;obtain⟨a,ha,GV⟩:=hF n cs xs (by omega) (by simpa using IG) (fun i f hi=>hf i f (by simpa using hi)) (fun i f x hi hx k hk=>hw k (by
  simp[DataW.weights,ht];refine DataW.weights_mem_each (j:=i) ?_ (by rw[bZ,hx];rfl) k hk;simp only[Array.toList_map,bZ,hi];rfl))
 refine⟨a,by simpa using ha,bh (Np GV) ?_⟩;have:=hB.agg (xs.map (·.1));rwa[iw]at this
theorem iI.map{t}{r}{q}{m}{m'}(h:iI B enc P W base spare held t r m)(f:α->β)(hf:∀a cs,r W (fun _=>True) a cs->q W (fun _=>True) (f a) cs/\m' (f a)<=m a):iI B enc P W base spare held t q m':=fun fl cs x hx hw=>by
 obtain⟨a,ha,GV⟩:=h fl cs x hx hw;obtain⟨h1,h2⟩:=hf a cs ha;exact⟨f a,h1,bh h2 GV⟩
theorem argB_slice{t e}{r}{m}{size bytes}{b0}{v}{d}{p}(ht:P.underlying t=some (.slice e))(nE:Value.okWide P W .any b0 t v)(h:DataW.Trod enc P W base spare held t v d p)
  (Ec:iI B enc P W base spare held t (rSl r size bytes) m) (hw:∀n,n∈d.weights P t->n<=reachBytes):∃(s:Sl) (xs:List α),v=s.v/\SliceF r size W (fun _=>True) s xs/\m xs<=B d:=by
 obtain⟨a0,am4,am5,rfl⟩:=okWide_slice ht nE;obtain⟨fl,hf⟩:=h;obtain⟨xs,⟨s,h1,h2,h3⟩,h4⟩:=Ec fl _ _ hf hw;have h1:[Value.slice a0 am4 am5]=[s.v]:=h1;simp only[rr,and_true]at h1;exact⟨s,xs,h1,h2,h4⟩
theorem argB_struct{t}{fs}{r}{m}{b0}{v}{d}{p}(ht:P.underlying t=some (.struct fs))(nE:Value.okWide P W .any b0 t v)(h:DataW.Trod enc P W base spare held t v d p)
  (Ec:iI B enc P W base spare held t r m) (hw:∀n,n∈d.weights P t->n<=reachBytes):∃(a:α) (cs:List az),v=.agg cs.toArray/\r W (fun _=>True) a cs/\m a<=B d:=by
 obtain⟨cs,rfl,_⟩:=okWide_struct ht nE;obtain⟨fl,hf⟩:=h;obtain⟨a,ha,GV⟩:=Ec fl _ _ hf hw;exact⟨a,cs.toList,by simp,ha,GV⟩
theorem sum_one:∀l:List α,(l.map fun _=>1).sum=l.length
 | []=>rfl
 | _::l=>by rw[bF,cy,sum_one l,bp];omega
end
end Go.Kt
namespace Go.Proofs.YtbkjcdocjfknfaaGreatDoor.Con
open Go.Value renaming int->O,string->ah,pointer->ai,agg->aj,tuple->ak,bool->ao
open Go.IntKind renaming i64->ae,wrap->av
open Go.Ending renaming returned->aq
open _root_.ByteArray renaming mk->ar
open _root_.Go.Proofs.Tryz renaming prog->au
open Go.Instr renaming buildSlice->aw
open Go renaming World->ay,Value->az,Calls->aB
open Go.Kt renaming Only->aA,SliceF->aD,Cells->aE,OnlyP->aF,Blk->aH
open Go Go.RowKit Go.Kt Go.Kt.V Go.Proofs.YtbkjcdocjfknfaaGreatDoor.Vc Go.ChangeShapes Go.WideShapes
set_option linter.unusedSimpArgs false
set_option linter.unusedVariables false
set_option maxHeartbeats 4000000
set_option maxRecDepth 100000
set_option linter.unusedSectionVars false
theorem Ie{D E:Type}{B:D->Nat}{sz:E->Nat}{Q:Nat->E->Prop}:∀(xs:List D) (o:Nat),(∀j y,xs[j]? =some y->∃e,Q (o+j) e/\sz e<=B y)->
  ∃l:List E,l.length=xs.length/\(∀j e,l[j]? =some e->Q (o+j) e)/\(l.map sz).sum<=(xs.map B).sum
 | [],o,_=>⟨[],rfl,fun j p h=>by simp at h,aY _⟩
 | x::xs,o,h=>by
  obtain⟨e,h1,h2⟩:=h 0 x rfl;obtain⟨l,h3,h4,h5⟩:=Ie (B:=B) (sz:=sz) (Q:=Q) xs (o+1) fun j y hj=>by
   have:=h (j+1) y hj;rwa[eM,j6 1 j]
  refine⟨e::l,by rw[bp,bp,h3],fun j p hj=>?_,?_⟩
  ·cases j with
   | zero=>
    simp only[cE,ba]at hj;subst hj;exact h1
   | succ j=>
    have:=h4 j p hj;rwa[eM,j6 1 j]at this
  ·rw[bF,cy,bF,cy];exact kZ h2 h5
theorem zW{n:Nat}:∀{l:List Nat},n∈l->n<=l.sum
 | [],h=>by simp at h
 | x::l,h=>by
  rw[cy];rcases aR.1 h with rfl | h
  ·omega
  ·have:=zW h;omega
theorem Ig{E:Type}(f:E->Nat):∀(l:List E),∃m,∀p,p∈l->f p<=m
 | []=>⟨0,fun p h=>by simp at h⟩
 | x::l=>by
  obtain⟨m,h⟩:=Ig f l;refine⟨max (f x) m,fun p hp=>?_⟩;rcases aR.1 hp with rfl | hp
  ·exact Sa _ _
  ·exact bh (h p hp) (Nn _ _)
theorem KW{α β:Type}{r:Rp α}{q:Rp β}{size:Nat}{w:ay}{F:aL}{s:Sl}{xs:List α}(f:α->β)(h:aD r size w F s xs)(hf:∀x cs,x∈xs->r w F x cs->q w F (f x) cs):aD q size w F s (xs.map f):=by
 refine⟨by rw[bq];exact h.len,h.cap,h.nil0,h.big,fun j y hj=>?_⟩;rw[bZ,fZ]at hj;obtain⟨x,hx,rfl⟩:=hj;obtain⟨bs,cs,g1,g2,g3,g4,g5⟩:=h.at_ j x hx;exact⟨bs,cs,g1,g2,g3,g4,hf x cs (bD hx) g5⟩
theorem BS{α:Type}{r:Rp α}{size:Nat}{w:ay}{F:aL}{s:Sl}{xs:List α}(h:aD r size w F s xs){x:α}(hx:x∈xs):∃cs,r w F x cs:=h.mem hx
def rXU:Rp (Ex×Nat):=fun w F x cs=>rE false w F x.1 cs/\X7 x.1/\Du x.1<=x.2
def Uf:Rp (Ac×Nat):=fun w F x cs=>tN false w F x.1 cs/\V4 x.1/\PX x.1<=x.2
def YC:Rp (Mv×Nat):=fun w F x cs=>Kf false w F x.1 cs/\mvN x.1/\MD x.1<=x.2
def akv:Rp (Vr×Nat):=fun w F x cs=>Sg w F x.1 cs/\ry x.1.v/\x.1.n.length+1<=x.2
theorem KX:∀l:List Ex,Sh l=(l.map Du).sum
 | []=>rfl
 | x::l=>by rw[Sh,bF,cy,KX l]
theorem Gh:∀l:List Ac,jU l=(l.map PX).sum
 | []=>rfl
 | x::l=>by rw[jU,bF,cy,Gh l]
theorem Gi:∀l:List Mv,zP l=(l.map MD).sum
 | []=>rfl
 | x::l=>by rw[zP,bF,cy,Gi l]
theorem Gj:∀l:List Vr,rj l=(l.map fun v=>v.n.length+1).sum
 | []=>rfl
 | x::l=>by rw[rj,bF,cy,Gj l]
theorem Gk:∀l:List Nd,iP l=(l.map pc).sum
 | []=>by rw[iP];rfl
 | x::l=>by rw[iP,bF,cy,Gk l]
theorem yq{α:Type}{f:α->Nat}:∀{l:List (α×Nat)},(∀x,x∈l->f x.1<=x.2)->((l.map (·.1)).map f).sum<=(l.map fun x=>x.2).sum
 | [],_=>aY _
 | x::l,h=>by
  rw[bF,bF,cy,bF,cy];exact kZ (h x (by simp)) (yq fun y hy=>h y (by simp[hy]))
theorem YD(s:aM):s.data.toList.length=s.size:=by rw[fe];rfl
section
variable {H:Type} {enc:TypeId×az->H} {W:ay} {base:Nat} {spare:Nat->Bool} {held:Bool} {B:DataW H->Nat}
def Qm(enc:TypeId×az->H)(W:ay)(base:Nat)(spare:Nat->Bool)(held:Bool)(t:TypeId):Rp (DataW H):=fun _ _ x cs=>∃fl p,DataW.trod enc au W base spare held fl t cs=some (x,p)/\∀n,n∈x.weights au t->n<=reachBytes
theorem Gl(hB:IsBulk B)(t:TypeId):iI B enc au W base spare held t (Qm enc W base spare held t) B:=fun fl cs x h hw=>⟨x.1,⟨fl,x.2,h,hw⟩,aY _⟩
theorem MG(hB:IsBulk B):iI B enc au W base spare held 64 (rPair rInt (rPair rInt (rPair Qk (rPair rInt (rPair (rSl (Qm enc W base spare held 64) 6 72) (rPair rInt rUnit))))))
  fun x=>(1+(1+((x.2.2.1.size+1)+(1+(((x.2.2.2.2.1.map B).sum+1)+(1+0))))))+1:=by
 have h:=opensB_struct (enc:=enc) (P:=au) (W:=W) (base:=base) (spare:=spare) (held:=held) (T:=6) hB Tryz.underlying64 (by kernel_rfl)
  (foB_cons (s:=1) rfl (by kernel_rfl) (opensB_of hB (opens_int Tryz.underlying3)) (foB_cons (s:=1) rfl (by kernel_rfl) (opensB_of hB (opens_int Tryz.underlying3)) (foB_cons (s:=1) rfl (by kernel_rfl) (jv hB Tryz.underlying9) (foB_cons (s:=1) rfl (by kernel_rfl) (opensB_of hB (opens_int Tryz.underlying3)) (foB_cons (s:=1) rfl (by kernel_rfl) (opensB_slice (size:=6) (bytes:=72) hB Tryz.underlying62 (by kernel_rfl) (by kernel_rfl) (Gl hB _)) (foB_cons (s:=1) rfl (by kernel_rfl) (opensB_of hB (opens_int Tryz.underlying3)) (foB_nil rfl)))))))
 exact h
theorem Qn(hB:IsBulk B):∀(N:Nat) {x:DataW H} {cs:aK} {F:aL},B x<=N->Qm enc W base spare held 64 W F x cs->∃(e:Ex) (d:Nat),Ke false d W (fun _=>True) e cs/\X7 e/\Du e<=B x
 | 0,x,cs,F,h,_=>by have:=hB.one x;omega
 | N+1,x,cs,F,h,⟨fl,p,ht,hw⟩=>by
  obtain⟨⟨k,n,s,op,xs,a,u⟩,hr,hm⟩:=MG (enc:=enc) (W:=W) (base:=base) (spare:=spare) (held:=held) hB fl cs (x,p) ht hw;obtain⟨c1,r1,rfl,⟨rfl,i1⟩,c2,r2,rfl,⟨rfl,i2⟩,c3,r3,rfl,⟨rfl,i3⟩,c4,r4,rfl,⟨rfl,i4⟩,c5,r5,rfl,⟨sl,rfl,rA,_⟩,c6,r6,rfl,⟨rfl,i6⟩,hu⟩:=hr;have hu:r6=[]:=hu;subst hu;dsimp only at hm rA i1 i2 i3;have I2:∀y,y∈xs->B y<=(xs.map B).sum:=fun y hy=>zW (List.mem_map_of_mem hy);obtain⟨l,l1,l2,l3⟩:=Ie (B:=B) (sz:=fun e:Ex×Nat=>Du e.1) (Q:=fun j e=>∃base cs,sl.a=some base/\cs.length=6/\aE W (base.add (j*6)) cs/\Ke false e.2 W (fun _=>True) e.1 cs/\X7 e.1) xs 0 fun j y hj=>by
   rw[bM];obtain⟨bs,ds,g1,g2,g3,g4,g5⟩:=rA.at_ j y hj;obtain⟨e,d,t1,t2,t3⟩:=Qn hB N (x:=y) (by have:=I2 y (bD hj);omega) g5;exact⟨(e,d),⟨bs,ds,g1,g3,g4,t1,t2⟩,t3⟩
  obtain⟨m,hmx⟩:=Ig (fun e:Ex×Nat=>e.2) l;refine⟨.mk k n s.data.toList op (l.map (·.1)) a,m+1,⟨sl,?_,?_,fun h=>(by cases h)⟩,fun d=>?_,?_⟩
  ·have e:qU k n s.data.toList op sl a=[O ae k,O ae n,ah s,O ae op,sl.v,O ae a]:=by
    show[_,_,Value.string (T s.data.toList),_,_,_]=_;rw[<-xB s]
   exact e.symm
  ·refine⟨by rw[Ex.fW,bq,l1];exact rA.len,rA.cap,rA.nil0,rA.big,fun j e hj=>?_⟩;rw[Ex.fW,bZ,fZ]at hj;obtain⟨q,q1,rfl⟩:=hj;obtain⟨bs,ds,g1,g2,g3,g4,g5⟩:=l2 j q q1;rw[bM]at g3;exact⟨bs,ds,g1,trivial,g2,g3,HV (hmx q (bD q1)) g4⟩
  ·cases d with
   | zero=>trivial
   | succ d=>
    refine⟨i2,fun y hy=>?_⟩;obtain⟨q,q1,rfl⟩:=cJ.1 hy;obtain⟨j,hj⟩:=eT q1;obtain⟨bs,ds,g1,g2,g3,g4,g5⟩:=l2 j q hj;exact g5 d
  ·rw[HX];show Sh (l.map (·.1))+(s.data.toList.length+1)<=_;rw[KX,iw,YD];have e:(l.map (Du∘fun x=>x.1)).sum=(l.map fun e:Ex×Nat=>Du e.1).sum:=rfl;omega
theorem BT(hB:IsBulk B):iI B enc au W base spare held 64 rXU fun x=>x.2:=fun fl cs x h hw=>by
 obtain⟨e,d,h1,h2,h3⟩:=Qn hB (B x.1) (x:=x.1) (F:=fun _=>True) (aY _) ⟨fl,x.2,h,hw⟩;exact⟨(e,B x.1),⟨⟨d,h1⟩,h2,h3⟩,aY _⟩
theorem wo(hB:IsBulk B):iI B enc au W base spare held 196 Uf fun x=>x.2:=by
 have h:=opensB_struct (enc:=enc) (P:=au) (W:=W) (base:=base) (spare:=spare) (held:=held) (T:=9) hB Tryz.underlying196 (by kernel_rfl)
  (foB_cons (s:=1) rfl (by kernel_rfl) (opensB_of hB (opens_int Tryz.underlying3)) (foB_cons (s:=1) rfl (by kernel_rfl) (jv hB Tryz.underlying9) (foB_cons (s:=6) rfl (by kernel_rfl) (BT hB) (foB_cons (s:=1) rfl (by kernel_rfl) (opensB_of hB (opens_int Tryz.underlying3)) (foB_nil rfl)))))
 refine h.map (fun x=>((⟨x.1,x.2.1.data.toList,x.2.2.1.1,x.2.2.2.1⟩:Ac),x.2.2.1.2+(x.2.1.size+1))) ?_;rintro⟨k,n,⟨e,m⟩,a,u⟩ cs ⟨c1,r1,rfl,⟨rfl,i1⟩,c2,r2,rfl,⟨rfl,i2⟩,c3,r3,rfl,⟨he,hn,hz⟩,c4,r4,rfl,⟨rfl,i4⟩,hu⟩;have hu:r4=[]:=hu;subst hu;refine⟨⟨⟨c3,?_,he⟩,hn,?_⟩,by dsimp only;omega⟩
 ·show _=_::Value.string (T n.data.toList)::_;rw[<-xB n];simp
 ·show Du e+(n.data.toList.length+1)<=_;rw[YD];dsimp only at hz⊢;omega
theorem Ih{w:ay}{F:aL}{s:Sl}{xs:List (Ac×Nat)}(h:aD Uf 9 w F s xs):jE false (tN false) 9 196 w F s (xs.map (·.1))/\(∀a,a∈xs.map (·.1)->V4 a)/\jU (xs.map (·.1))<=(xs.map fun x=>x.2).sum:=by
 refine⟨⟨KW (·.1) h fun x cs _ hx=>hx.1,fun h=>(by cases h)⟩,fun a ha=>?_,?_⟩
 ·obtain⟨x,hx,rfl⟩:=cJ.1 ha;obtain⟨cs,hc⟩:=BS h hx;exact hc.2.1
 ·rw[Gh];exact yq fun x hx=>by
   obtain⟨cs,hc⟩:=BS h hx;exact hc.2.2
theorem MH(hB:IsBulk B):iI B enc au W base spare held 147 YC fun x=>x.2:=by
 have h:=opensB_struct (enc:=enc) (P:=au) (W:=W) (base:=base) (spare:=spare) (held:=held) (T:=13) hB Tryz.underlying147 (by kernel_rfl)
  (foB_cons (s:=1) rfl (by kernel_rfl) (opensB_of hB (opens_int Tryz.underlying3)) (foB_cons (s:=1) rfl (by kernel_rfl) (jv hB Tryz.underlying9) (foB_cons (s:=1) rfl (by kernel_rfl) (opensB_of hB (opens_int Tryz.underlying3)) (foB_cons (s:=1) rfl (by kernel_rfl) (opensB_of hB (Ic Tryz.underlying4)) (foB_cons (s:=6) rfl (by kernel_rfl) (BT hB)
  (foB_cons (s:=1) rfl (by kernel_rfl) (opensB_slice (size:=9) (bytes:=104) hB Tryz.underlying23 (by kernel_rfl) (by kernel_rfl) (wo hB)) (foB_cons (s:=1) rfl (by kernel_rfl) (opensB_slice (size:=1) (bytes:=16) hB Tryz.underlying31 (by kernel_rfl) (by kernel_rfl) (jv hB Tryz.underlying9)) (foB_cons (s:=1) rfl (by kernel_rfl) (opensB_of hB (opens_int Tryz.underlying3)) (foB_nil rfl)))))))))
 refine h.map (fun x=>((⟨x.1,x.2.1.data.toList,x.2.2.1,x.2.2.2.1,x.2.2.2.2.1.1,x.2.2.2.2.2.1.map (·.1),x.2.2.2.2.2.2.1.map fun s=>s.data.toList,x.2.2.2.2.2.2.2.1⟩:Mv),(((x.2.2.2.2.2.1.map fun x=>x.2).sum+x.2.2.2.2.1.2)+((x.2.2.2.2.2.2.1.map fun s=>s.size+1).sum+(x.2.1.size+1))))) ?_;rintro⟨k,ev,wt,gd,⟨g,m⟩,ac,tg,a,u⟩ cs ⟨c1,r1,rfl,⟨rfl,i1⟩,c2,r2,rfl,⟨rfl,i2⟩,c3,r3,rfl,⟨rfl,i3⟩,c4,r4,rfl,h4,c5,r5,rfl,⟨he,hn,hz⟩,c6,r6,rfl,⟨tG,rfl,RL,_⟩,c7,r7,rfl,⟨tsl,rfl,rq,_⟩,c8,r8,rfl,⟨rfl,i8⟩,hu⟩;have hu:r8=[]:=hu;have h4:c4=[ao gd]:=h4;subst hu h4;obtain⟨a1,a2,a3⟩:=Ih RL;have am7:aD kz 1 W (fun _=>True) tsl (tg.map fun s=>s.data.toList):=KW (fun s=>s.data.toList) rq fun x cs _ hx=>by
  obtain⟨rfl,_⟩:=hx;show _=[Value.string (T x.data.toList)]
  rw[<-xB x]
 refine⟨⟨⟨c5,tG,tsl,?_,he,a1,⟨am7,fun h=>(by cases h)⟩⟩,⟨hn,a2,i3⟩,?_⟩,by dsimp only;omega⟩
 ·show _=_::Value.string (T ev.data.toList)::_;rw[<-xB ev];simp
 ·show(jU (ac.map (·.1))+Du g)+(F3 (tg.map fun s=>s.data.toList)+(ev.data.toList.length+1))<=_;have e:F3 (tg.map fun s=>s.data.toList)=(tg.map fun s=>s.size+1).sum:=by
   unfold F3;rw[iw];congr 1
  rw[e,YD];dsimp only at hz a3⊢;omega
theorem YE{w:ay}{F:aL}{s:Sl}{xs:List (Mv×Nat)}(h:aD YC 13 w F s xs):jE false (Kf false) 13 147 w F s (xs.map (·.1))/\(∀a,a∈xs.map (·.1)->mvN a)/\zP (xs.map (·.1))<=(xs.map fun x=>x.2).sum:=by
 refine⟨⟨KW (·.1) h fun x cs _ hx=>hx.1,fun h=>(by cases h)⟩,fun a ha=>?_,?_⟩
 ·obtain⟨x,hx,rfl⟩:=cJ.1 ha;obtain⟨cs,hc⟩:=BS h hx;exact hc.2.1
 ·rw[Gi];exact yq fun x hx=>by
   obtain⟨cs,hc⟩:=BS h hx;exact hc.2.2
theorem MJ(hB:IsBulk B):iI B enc au W base spare held 95 akv fun x=>x.2:=by
 have h:=opensB_struct (enc:=enc) (P:=au) (W:=W) (base:=base) (spare:=spare) (held:=held) (T:=3) hB Tryz.underlying95 (by kernel_rfl)
  (foB_cons (s:=1) rfl (by kernel_rfl) (jv hB Tryz.underlying9) (foB_cons (s:=1) rfl (by kernel_rfl) (opensB_of hB (opens_int Tryz.underlying3)) (foB_cons (s:=1) rfl (by kernel_rfl) (opensB_of hB (opens_int Tryz.underlying3)) (foB_nil rfl))))
 refine h.map (fun x=>((⟨x.1.data.toList,x.2.1,x.2.2.1⟩:Vr),x.1.size+1)) ?_;rintro⟨n,v,a,u⟩ cs ⟨c1,r1,rfl,⟨rfl,i1⟩,c2,r2,rfl,⟨rfl,i2⟩,c3,r3,rfl,⟨rfl,i3⟩,hu⟩;have hu:r3=[]:=hu;subst hu;refine⟨⟨?_,i2,?_⟩,by dsimp only;omega⟩
 ·show _=[Value.string (T n.data.toList),_,_]
  rw[<-xB n];rfl
 ·show n.data.toList.length+1<=_;rw[YD];exact aY _
theorem ML(hB:IsBulk B):iI B enc au W base spare held 27 (rPair rInt (rPair Qk (rPair Qk (rPair Qk (rPair (rSl Uf 9 104) (rPair (rSl Uf 9 104) (rPair (rSl YC 13 168) (rPair (rSl (Qm enc W base spare held 27) 9 160) (rPair rInt rUnit)))))))))
  fun x=>(1+((x.2.1.size+1)+((x.2.2.1.size+1)+((x.2.2.2.1.size+1)+(((x.2.2.2.2.1.map fun x=>x.2).sum+1)+(((x.2.2.2.2.2.1.map fun x=>x.2).sum+1)+(((x.2.2.2.2.2.2.1.map fun x=>x.2).sum+1)+(((x.2.2.2.2.2.2.2.1.map B).sum+1)+(1+0)))))))))+1:=by
 have h:=opensB_struct (enc:=enc) (P:=au) (W:=W) (base:=base) (spare:=spare) (held:=held) (T:=9) hB Tryz.underlying27 (by kernel_rfl)
  (foB_cons (s:=1) rfl (by kernel_rfl) (opensB_of hB (opens_int Tryz.underlying3)) (foB_cons (s:=1) rfl (by kernel_rfl) (jv hB Tryz.underlying9) (foB_cons (s:=1) rfl (by kernel_rfl) (jv hB Tryz.underlying9) (foB_cons (s:=1) rfl (by kernel_rfl) (jv hB Tryz.underlying9)
  (foB_cons (s:=1) rfl (by kernel_rfl) (opensB_slice (size:=9) (bytes:=104) hB Tryz.underlying23 (by kernel_rfl) (by kernel_rfl) (wo hB)) (foB_cons (s:=1) rfl (by kernel_rfl) (opensB_slice (size:=9) (bytes:=104) hB Tryz.underlying23 (by kernel_rfl) (by kernel_rfl) (wo hB))
  (foB_cons (s:=1) rfl (by kernel_rfl) (opensB_slice (size:=13) (bytes:=168) hB Tryz.underlying24 (by kernel_rfl) (by kernel_rfl) (MH hB)) (foB_cons (s:=1) rfl (by kernel_rfl) (opensB_slice (size:=9) (bytes:=160) hB Tryz.underlying25 (by kernel_rfl) (by kernel_rfl) (Gl hB _)) (foB_cons (s:=1) rfl (by kernel_rfl) (opensB_of hB (opens_int Tryz.underlying3)) (foB_nil rfl))))))))))
 exact h
theorem KY:∀{l:List Nd},(∀x,x∈l->Kj x)->zH l
 | [],_=>by rw[zH];trivial
 | x::l,h=>by
  rw[zH];exact⟨h x (by simp),KY fun y hy=>h y (by simp[hy])⟩
theorem Qo(hB:IsBulk B):∀(N:Nat) {x:DataW H} {cs:aK} {F:aL},B x<=N->Qm enc W base spare held 27 W F x cs->∃(e:Nd) (d:Nat),oY false d W (fun _=>True) e cs/\Kj e/\pc e<=B x
 | 0,x,cs,F,h,_=>by have:=hB.one x;omega
 | N+1,x,cs,F,h,⟨fl,p,ht,hw⟩=>by
  obtain⟨⟨k,nm,ini,dft,en,lv,mv,xs,a,u⟩,hr,hm⟩:=ML (enc:=enc) (W:=W) (base:=base) (spare:=spare) (held:=held) hB fl cs (x,p) ht hw;obtain⟨c1,r1,rfl,⟨rfl,i1⟩,c2,r2,rfl,⟨rfl,i2⟩,c3,r3,rfl,⟨rfl,i3⟩,c4,r4,rfl,⟨rfl,i4⟩,c5,r5,rfl,⟨ens,rfl,Eg,_⟩,c6,r6,rfl,⟨Im,rfl,G4,_⟩,c7,r7,rfl,⟨mvs,rfl,rB,_⟩,c8,r8,rfl,⟨sl,rfl,rA,_⟩,c9,r9,rfl,⟨rfl,i9⟩,hu⟩:=hr;have hu:r9=[]:=hu;subst hu;dsimp only at hm rA Eg G4 rB;have I2:∀y,y∈xs->B y<=(xs.map B).sum:=fun y hy=>zW (List.mem_map_of_mem hy);obtain⟨l,l1,l2,l3⟩:=Ie (B:=B) (sz:=fun e:Nd×Nat=>pc e.1) (Q:=fun j e=>∃base cs,sl.a=some base/\cs.length=9/\aE W (base.add (j*9)) cs/\oY false e.2 W (fun _=>True) e.1 cs/\Kj e.1) xs 0 fun j y hj=>by
   rw[bM];obtain⟨bs,ds,g1,g2,g3,g4,g5⟩:=rA.at_ j y hj;obtain⟨e,d,t1,t2,t3⟩:=Qo hB N (x:=y) (by have:=I2 y (bD hj);omega) g5;exact⟨(e,d),⟨bs,ds,g1,g3,g4,t1,t2⟩,t3⟩
  obtain⟨m,hmx⟩:=Ig (fun e:Nd×Nat=>e.2) l;obtain⟨a1,a2,a3⟩:=Ih Eg;obtain⟨b1,b2,b3⟩:=Ih G4;obtain⟨d1,d2,d3⟩:=YE rB;refine⟨.mk ⟨k,nm.data.toList,ini.data.toList,dft.data.toList,en.map (·.1),lv.map (·.1),mv.map (·.1),a⟩ (l.map (·.1)),m+1,⟨ens,Im,mvs,sl,?_,⟨a1,b1,d1⟩,?_,fun h=>(by cases h)⟩,?_,?_⟩
  ·show _=[_,Value.string (T nm.data.toList),Value.string (T ini.data.toList),Value.string (T dft.data.toList),_,_,_,_,_]
   rw[<-xB nm,<-xB ini,<-xB dft];rfl
  ·refine⟨by rw[Nd.kids,bq,l1];exact rA.len,rA.cap,rA.nil0,rA.big,fun j e hj=>?_⟩;rw[Nd.kids,bZ,fZ]at hj;obtain⟨q,q1,rfl⟩:=hj;obtain⟨bs,ds,g1,g2,g3,g4,g5⟩:=l2 j q q1;rw[bM]at g3;exact⟨bs,ds,g1,trivial,g2,g3,X6 (hmx q (bD q1)) g4⟩
  ·rw[Kj];refine⟨⟨a2,b2,d2⟩,KY fun y hy=>?_⟩;obtain⟨q,q1,rfl⟩:=cJ.1 hy;obtain⟨j,hj⟩:=eT q1;obtain⟨bs,ds,g1,g2,g3,g4,g5⟩:=l2 j q hj;exact g5
  ·rw[pc,Gk,iw];unfold F6;dsimp only;rw[YD,YD,YD];have e:(l.map (pc∘fun x=>x.1)).sum=(l.map fun e:Nd×Nat=>pc e.1).sum:=rfl;omega
def akw:Rp (Nd×Nat):=fun w F x cs=>∃d,oY false d w F x.1 cs/\Kj x.1/\pc x.1<=x.2
theorem MM(hB:IsBulk B):iI B enc au W base spare held 27 akw fun x=>x.2:=fun fl cs x h hw=>by
 obtain⟨e,d,h1,h2,h3⟩:=Qo hB (B x.1) (x:=x.1) (F:=fun _=>True) (aY _) ⟨fl,x.2,h,hw⟩;exact⟨(e,B x.1),⟨d,h1,h2,h3⟩,aY _⟩
def rChU:Rp (Ch×Nat):=fun w F x cs=>∃(D:Nat) (vs:Sl) (D7:aK),cs=vs.v::D7/\ChR false D w F x.1 vs D7/\U8 x.1/\rj x.1.vars+pc x.1.root<=x.2
theorem opensB_ch(hB:IsBulk B):iI B enc au W base spare held 29 rChU fun x=>x.2:=by
 have h:=opensB_struct (enc:=enc) (P:=au) (W:=W) (base:=base) (spare:=spare) (held:=held) (T:=10) hB Tryz.underlying29 (by kernel_rfl)
  (foB_cons (s:=1) rfl (by kernel_rfl) (opensB_slice (size:=3) (bytes:=32) hB Tryz.underlying22 (by kernel_rfl) (by kernel_rfl) (MJ hB)) (foB_cons (s:=9) rfl (by kernel_rfl) (MM hB) (foB_nil rfl)))
 refine h.map (fun x=>((⟨x.1.map (·.1),x.2.1.1⟩:Ch),(x.1.map fun x=>x.2).sum+x.2.1.2)) ?_;rintro⟨vs,⟨nd,m⟩,u⟩ cs ⟨c1,r1,rfl,⟨vsl,rfl,xw,_⟩,c2,r2,rfl,⟨d,hnd,hn,hz⟩,hu⟩;have hu:r2=[]:=hu;subst hu;rw[bR];refine⟨⟨d,vsl,c2,rfl,⟨⟨KW (·.1) xw fun x cs _ hx=>hx.1,fun h=>(by cases h)⟩,hnd⟩,⟨fun v hv=>?_,hn⟩,?_⟩,by dsimp only;omega⟩
 ·obtain⟨x,hx,rfl⟩:=cJ.1 hv;obtain⟨cs,hc⟩:=BS xw hx;exact hc.2.1
 ·show rj (vs.map (·.1))+pc nd<=_;rw[Gj];have:=yq (f:=fun v:Vr=>v.n.length+1) (l:=vs) fun x hx=>by
   obtain⟨cs,hc⟩:=BS xw hx;exact hc.2.2
  dsimp only at hz⊢;omega
end
theorem BU:∀{p:List (aJ×Int)} {l:List (aJ)},xf l p=[]->(p.map fun x=>x.1).Nodup/\∀x,x∈p.map (fun x=>x.1)->x∉l
 | [],l,_=>⟨List.nodup_nil,fun x h=>by simp at h⟩
 | x::p,l,h=>by
  rw[xf]at h;obtain⟨h1,h2⟩:=dM.1 h;have h1:x.1∉l:=by simpa using sY.1 h1
  obtain⟨g1,g2⟩:=BU h2;rw[bF];refine⟨kw.2 ⟨fun hm=>g2 _ hm (by simp),g1⟩,fun y hy=>?_⟩;rcases aR.1 hy with rfl | hy
  ·exact h1
  ·exact fun hm=>g2 y hy (Bd _ hm)
theorem BW:∀{l:List (aJ)} {i:Nat} {s:aJ},l.Nodup->l[i]? =some s->rQ s l=i
 | [],i,s,_,h=>by simp at h
 | x::l,0,s,_,h=>by
  rw[cE,ba]at h;rw[rQ,if_pos h.symm]
 | x::l,i+1,s,hn,h=>by
  rw[de]at h;have hn:=kw.1 hn;rw[rQ,if_neg (fun e=>hn.1 (by rw[<-e];exact bD h)),BW hn.2 h]
theorem Gm{xs:List cM}(hn:(xs.map fun x:cM=>x.nm).Nodup){i:Nat}{x:cM}(h:xs[i]? =some x):gj xs x.nm=i:=by
 unfold gj;have:=BW hn (i:=i) (s:=x.nm) (by rw[bZ,h];rfl);rw[this,if_pos (eZ h)]
theorem KZ{xs:List cM}:∀{r:List (aJ)} {l:List Int},Nw xs l r=true->∀t,t∈r->1<=gj xs t
 | [],_,_,t,h=>by simp at h
 | s::r,l,h,t,ht=>by
  rw[Gb]at h;by_cases h1:gj xs s<1
  ·rw[if_pos h1]at h;cases h
  ·rw[if_neg h1]at h;split at h
   ·cases h
   ·rcases aR.1 ht with rfl | ht
    ·omega
    ·exact KZ h t ht
def vp(xs L:List cM)(a:Nat):Prop:=∀(i:Nat) (x:cM),L[i]? =some x->xs[a+i]? =some x
theorem vp.left{xs L M:List cM}{a:Nat}(h:vp xs (L++M) a):vp xs L a:=fun i x hi=>h i x (by rw[bJ (eZ hi)];exact hi)
theorem vp.right{xs L M:List cM}{a:Nat}(h:vp xs (L++M) a):vp xs M (a+L.length):=fun i x hi=>by
 rw[eM];exact h _ x (by rw[cd (by omega),dY];exact hi)
theorem K0{xs:List cM}{s:aJ}{pa dp:Int}:∀{l:List Nd} {a:Nat},DB s l=true->vp xs (pU a pa dp l) a->∃(i:Nat) (x:cM),xs[i]? =some x/\x.nm=s/\x.pa=pa/\a<=i
 | [],a,h,_=>by simp[DB]at h
 | .mk b ks::l,a,h,hs=>by
  rw[pU]at hs;have hl:=lX a pa dp (.mk b ks);by_cases e:b.nm=s
  ·refine⟨a,⟨b.k,b.nm,pa,dp,_⟩,hs.left 0 _ (by rw[AZ];rfl),e,rfl,aY _⟩
  ·have h':DB s l=true:=by
    unfold DB at h⊢;rw[List.any_cons]at h;simpa[Nd.b,e]using h
   have hr:=hs.right;rw[hl]at hr;obtain⟨i,x,h1,h2,h3,h4⟩:=K0 h' hr;exact⟨i,x,h1,h2,h3,by omega⟩
theorem ui{c:Ch}(h:(jl c).1=0):(gy c).2=0/\BJ c=[]:=by
 unfold jl at h;by_cases hp:(gy c).2≠0
 ·rw[if_pos hp]at h;exact absurd h hp
 ·rw[if_neg hp]at h;exact⟨uB.1 hp,PK (PO c) h⟩
theorem MN{c:Ch}(h:(gy c).2=0):FR c=true:=by
 unfold gy at h;by_cases h1:FR c=true
 ·exact h1
 ·rw[if_neg h1]at h;exact absurd h (by decide)
section
variable {w w':ay} {F G:aL} {s:Sl} {xs:List cM}
theorem Ug{k0:Nat}(x:cM)(n:aJ)(hB:aH w k0 9 [ah (T n)]):aB au 177 #[aj (Yv x).toArray,ai (some ⟨k0,0,none⟩)] w fun e w'=>e=aq (ao (decide (x.nm=n)))/\aA [] w w':=by
 refine ret (ajz _ _ _ _ _ _ _ _ ?_);intro k1 w0 hk iv hO;exact⟨_,(hO.blk hB (by simp)).cells 0 [_] fun j v hj=>(by rw[bM];exact hj),by rw[mf],hO⟩
theorem Ii{n:aJ}{j:Nat}{x:cM}(hj:xs[j]? =some x)(h:∀y,y∈xs.take j->y.nm≠n)(e:x.nm=n):gj xs n=j:=by
 unfold gj;have hl:=eZ hj;have:rQ n (xs.map fun x:cM=>x.nm)=j:=by
  have e1:xs.map (fun x:cM=>x.nm)=(xs.take j).map (fun x:cM=>x.nm)++n::(xs.drop (j+1)).map fun x:cM=>x.nm:=by
   rw[<-e,<-bF,<-da];congr 1;rw[<-(aZ.1 hj).2,List.getElem_cons_drop,dv]
  rw[e1,DC]
  ·rw[bq,dd];omega
  ·intro hm;obtain⟨y,hy,e'⟩:=cJ.1 hm;exact h y hy e'
 rw[this,if_pos hl]
theorem YG(h:aD nq 5 w F s xs)(n:aJ):aB au 129 #[s.v,ah (T n)] w fun e w'=>e=aq (O ae (gj xs n))/\aA [] w w':=by
 refine ret (ajy _ _ _ _ ?_);intro k0 w0 gU fi cK tU;have hl:=h.len;have NX:=h.cap;have Av:=h.big;refine(adz s ⟨.func (.func 177) #[] #[ai (some ⟨k0,0,none⟩)],rfl⟩ (fun v w'=>v=O ae (gj xs n)/\aA [] w0 w') w0 ?_).mono (by
  rintro _ w' ⟨v,rfl,rfl,hO⟩;exact⟨_,rfl,_,hO.blk tU (by simp),rfl,cK.cz hO⟩)
 refine⟨fun kv i u=>∃j:Nat,i=(j:Int)/\kv+j=xs.length/\j<=xs.length/\(∀y,y∈xs.take j->y.nm≠n)/\aA [] w0 u,xs.length,⟨0,rfl,by omega,bA _,by simp,Only.refl _ _⟩,?_⟩;rintro kv _ u ⟨j,rfl,tX,hj,hh,hO⟩;refine⟨fun hc=>?_,fun hc=>?_⟩
 ·have hc:=aP hc;obtain⟨x,hx⟩:=fO (xs:=xs) (i:=j) (by omega);obtain⟨ad,a1,a2,_⟩:=jL (SliceF.only db (by decide) h (cK.cz hO) (by simp)) hx;refine⟨ad,a1,_,_,_,_,_,a2,177,[],[ai (some ⟨k0,0,none⟩)],rfl,fF (by kernel_rfl),(Ug x n (hO.blk tU (by simp))).mono ?_⟩;rintro _ u1 ⟨rfl,cF⟩;refine⟨_,rfl,fun hb=>⟨?_,hO.cz cF⟩,fun hb=>⟨kv-1,by omega,j+1,by rw[gD (by omega) (by omega)];rfl,by omega,by omega,fun y hy=>?_,hO.cz cF⟩⟩
  ·rw[Ii hx hh (aP hb)]
  ·rw[bI,hx,ch]at hy;rcases hy with hy | hy
   ·exact hh y hy
   ·simp only[Option.toList,aO]at hy;subst hy;exact aW hb
 ·have hc:=aW hc;rw[bC (by omega)]at hh;refine⟨?_,hO⟩;rcases mr xs n with⟨e,_⟩ | ⟨i,x,_,hx,e⟩
  ·rw[e]
  ·exact absurd e (hh x (bD hx))
end
end Go.Proofs.YtbkjcdocjfknfaaGreatDoor.Con
set_option linter.unusedSectionVars false
namespace Go.Proofs.YtbkjcdocjfknfaaGreatDoor.Con
open Go.Value renaming int->O,string->ah,pointer->ai,agg->aj,tuple->ak,bool->ao
open Go.IntKind renaming i64->ae,wrap->av
open Go.Ending renaming returned->aq
open _root_.ByteArray renaming mk->ar
open _root_.Go.Proofs.Tryz renaming prog->au
open Go.Instr renaming buildSlice->aw
open Go renaming World->ay,Value->az,Calls->aB
open Go.Kt renaming Only->aA,SliceF->aD,Cells->aE,OnlyP->aF,Blk->aH
open Go Go.RowKit Go.Kt Go.Kt.V Go.Proofs.YtbkjcdocjfknfaaGreatDoor.Vc
set_option linter.unusedSimpArgs false
set_option linter.unusedVariables false
set_option maxHeartbeats 1600000
set_option maxRecDepth 100000
set_option linter.unusedSectionVars false
def mX(xs:List cM)(s:aJ):Int:=if s=[]then -1 else gj xs s
def Qp(xs:List cM)(l:List Int):Nat->Int
 | 0=> -1
 | n+1=>if(l.all fun k=>oo xs n k)=true then n else Qp xs l n
def YH(xs:List cM)(n:Int):Bool:=decide (0<=n)&&decide (n<xs.length)
theorem zX{xs:List cM}{n:Int}:YH xs n=true↔pj xs n:=by
 unfold YH pj;rw[aQ,bL,bL]
def mtM(xs:List cM)(l:List Int):Int:=if l=[]∨(l.any fun n=>!YH xs n)=true then -1 else Qp xs l xs.length
theorem vq(xs:List cM)(l:List Int):∀n:Nat,(Qp xs l n= -1/\∀m,m<n->(l.all fun k=>oo xs m k)=false)∨∃m:Nat,Qp xs l n=m/\m<n/\(l.all fun k=>oo xs m k)=true/\∀j,m<j->j<n->(l.all fun k=>oo xs j k)=false
 | 0=>.inl ⟨rfl,fun m h=>by omega⟩
 | n+1=>by
  unfold Qp;by_cases h:(l.all fun k=>oo xs n k)=true
  ·rw[if_pos h];exact .inr ⟨n,rfl,by omega,h,fun j h1 h2=>by omega⟩
  ·rw[if_neg h];have h:(l.all fun k=>oo xs n k)=false:=by simpa using h
   rcases vq xs l n with⟨h1,h2⟩ | ⟨m,h1,h2,h3,h4⟩
   ·exact .inl ⟨h1,fun m hm=>(Nat.lt_succ_iff_lt_or_eq.1 hm).elim (h2 m) fun e=>by rw[e];exact h⟩
   ·exact .inr ⟨m,h1,by omega,h3,fun j h5 h6=>(Nat.lt_succ_iff_lt_or_eq.1 h6).elim (h4 j h5) fun e=>by rw[e];exact h⟩
theorem vt{xs:List cM}{l:List Int}{m:Nat}:(l.all fun k=>oo xs m k)=true↔∀n:Int,n∈l->∃k:Nat,n=k/\jq xs m k:=by
 rw[dS];constructor
 ·intro h n hn;obtain⟨i,j,h1,h2,h3⟩:=nS.1 (h n hn);have:i=m:=by omega
  subst this;exact⟨j,h2,h3⟩
 ·intro h n hn;obtain⟨k,h1,h2⟩:=h n hn;exact nS.2 ⟨m,k,rfl,h1,h2⟩
theorem Fo.aen{xs:List cM}(F:Fo xs){l:List Int}{r:Int}(h:Mt xs l r):r=mtM xs l:=by
 unfold mtM;rcases h with⟨h1,h2⟩ | ⟨⟨h1,h2⟩,m,h3,h4,h5⟩
 ·rw[if_pos,h2];rcases h1 with h1 | ⟨n,hn,hb⟩
  ·exact .inl h1
  ·refine .inr (fy.2 ⟨n,hn,?_⟩);rw[dy,fh];exact fun h=>hb (zX.1 h)
 ·rw[if_neg]
  ·obtain⟨n,hn⟩:=fA l h1;obtain⟨k,_,hk⟩:=h4 n hn;have hm:m<xs.length:=by
    obtain⟨s,hs,_⟩:=hk;exact eZ hs
   rcases vq xs l xs.length with⟨_,g⟩ | ⟨q,g1,g2,g3,g4⟩
   ·have:=g m hm;rw[vt.2 h4]at this;cases this
   ·have hq:=h5 q (vt.1 g3);have:m<=q:=by
     refine qp fun hl=>?_;have:=g4 m hl hm;rw[vt.2 h4]at this;cases this
    rw[g1,h3];omega
  ·rintro(h | h)
   ·exact h1 h
   ·obtain⟨n,hn,hb⟩:=fy.1 h;rw[zX.2 (h2 n hn)]at hb;cases hb
def Ij(xs:List cM)(l:List Int):Nat->Int->Int
 | 0,d=>d
 | n+1,d=>if 0<d/\(kP xs d≠1∨d∈l)then Ij xs l n (FT xs d)else d
def DL(xs:List cM)(src:Int)(tg:List Int):Int:=if tg=[]then -1 else Ij xs (src::tg) xs.length (mtM xs (src::tg))
structure Ro where
 src:Int
 slot:Int
 k:Int
 ev:aJ
 wt:Int
 tg:List Int
 dom:Int
def YI(xs:List cM)(a i:Nat)(m:Mv):Ro:=⟨a,i,m.k,m.ev,m.wt,m.tg.map (mX xs),DL xs a (m.tg.map (mX xs))⟩
def Ik(xs:List cM)(a:Nat):Nat->List Mv->List Ro
 | _,[]=>[]
 | i,m::l=>YI xs a i m::Ik xs a (i+1) l
mutual
def Qq(xs:List cM):Nat->Nd->List Ro
 | a,.mk b l=>Ik xs a 0 b.mv++qM xs (a+1) l
def qM(xs:List cM):Nat->List Nd->List Ro
 | _,[]=>[]
 | a,x::l=>Qq xs a x++qM xs (a+iO x) l
end
mutual
def vu:Nd->List Nb
 | .mk b l=>b::zY l
def zY:List Nd->List Nb
 | []=>[]
 | x::l=>vu x++zY l
end
structure Pl where
 sp:List cM
 ini:List Int
 dft:List Int
 ro:List Ro
def dB(c:Ch):Pl:=⟨cX c,(vu c.root).map fun b=>mX (cX c) b.ini,(vu c.root).map fun b=>mX (cX c) b.dft,Qq (cX c) 0 c.root⟩
theorem K1:∀l m:List Nd,zY (l++m)=zY l++zY m
 | [],m=>by rw[cr,zY,cr]
 | x::l,m=>by rw[ck,zY,zY,K1 l m,bQ]
mutual
theorem qN:∀x,(vu x).length=iO x
 | .mk b l=>by rw[vu,iO,bp,yr]
theorem yr:∀l,(zY l).length=eV l
 | []=>by rw[zY,eV];rfl
 | x::l=>by rw[zY,eV,aU,qN,yr]
end
theorem Gn(xs:List cM):∀(l m:List Nd) (a:Nat),qM xs a (l++m)=qM xs a l++qM xs (a+eV l) m
 | [],m,a=>by rw[cr,qM,cr,eV,fx]
 | x::l,m,a=>by rw[ck,qM,qM,Gn xs l m,bQ,eV,eM]
theorem Gp(xs:List cM)(a:Nat):∀(l:List Mv) (i:Nat) (m:Mv),Ik xs a i (l++[m])=Ik xs a i l++[YI xs a (i+l.length) m]
 | [],i,m=>rfl
 | x::l,i,m=>by
  rw[ck,Ik,Ik,Gp xs a l,ck,bp];congr 4;omega
theorem yt(xs:List cM)(a:Nat):∀(l:List Mv) (i:Nat),(Ik xs a i l).length=l.length
 | [],_=>rfl
 | x::l,i=>by rw[Ik,bp,bp,yt xs a l]
section
variable {w:ay} {F G:aL} {sl sN:Sl} {xs:List cM} {ns:List Int}
def wB(xs:List cM)(a b:Int):Bool:=decide (b>=0)&&decide (b<(xs.length:Int))&&decide (a>b)&&decide (a<((xs[b.toNat]?).map (fun s:cM=>s.en)).getD 0)
theorem Il(h:aD nq 5 w F sl xs)(a b:Int):aB au 32 #[sl.v,O ae a,O ae b] w fun e w'=>e=aq (ao (wB xs a b))/\w'=w:=by
 refine ret (ajx _ _ _ _ _ ?_);unfold ady wB;rw[h.len];by_cases hc:((decide (b>=0)&&decide (b<(xs.length:Int)))&&decide (a>b))=true
 ·have qg:=hc;simp only[aQ]at qg;have h1:=aP qg.1.1;have h2:=aP qg.1.2;obtain⟨i,rfl⟩:∃i:Nat,b=i:=⟨b.toNat,by omega⟩
  obtain⟨y,hy⟩:=fO (xs:=xs) (i:=i) (by omega);obtain⟨ad,a1,_,_,_,a5⟩:=jL h hy;refine⟨ad,fun _=>a1,y.en,fun _=>a5,?_,rfl⟩;rw[aX,hy];rfl
 ·refine⟨⟨0,0,none⟩,fun h=>absurd h hc,0,fun h=>absurd h hc,?_,rfl⟩;rw[lR]at hc;rw[hc,eu,eu]
end
theorem dz.sl{B:Nat}{w:ay}{s:Sl}{xs:List Int}(h:dz B w s xs):aD rInt 1 w (fun k=>B<=k) s xs:=(h.slice bN).mono bN fun k hk=>hk.elim (fun h=>h.elim) fun h=>h.1
theorem iQ{w:ay}{F:aL}{s:Sl}{l:List Int}(h:aD rInt 1 w F s l){i:Nat}{x:Int}(hx:l[i]? =some x):∃ad,dL s (i:Int) 1 ad/\aE w ad [O ae x]:=by
 have bX:=(aZ.1 hx).1;have hl:=h.len;obtain⟨ad,y,cs,g1,g2,g3,g4,g5,g6⟩:=h.get (bE i) (by omega);rw[aX,hx]at g2;injection g2 with g2;subst g2;obtain⟨rfl,_⟩:=g6;exact⟨ad,g1,g5⟩
theorem kI{w w':ay}{F:aL}{s:Sl}{l:List Int}(h:aD rInt 1 w F s l)(hO:aA [] w w'):aD rInt 1 w' F s l:=SliceF.only bN (by decide) h hO (by simp)
def jM(s:Sl)(k:Nat):Prop:=s.a=some ⟨k,0,none⟩
theorem Qr{w:ay}{F:aL}{s:Sl}{l:List Int}(h:aD rInt 1 w F s l)(c:Int):
  aB au 99 #[Sl.v s,O ae c] w fun e w'=>∃i:Int,e=aq (O ae i)/\decide (i>=0)=decide (c∈l)/\aA [] w w':=by
 refine(adE s c (fun v w'=>∃i:Int,v=O ae i/\decide (i>=0)=decide (c∈l)/\aA [] w w') w ?_).mono (by
  rintro e w' ⟨v,rfl,i,rfl,h⟩;exact⟨i,rfl,h⟩)
 have fu:=h.len;have rl:=h.big;have mJ:=h.cap;refine⟨fun nv i w'=>∃n:Nat,n<=l.length/\i=(n:Int)/\nv=l.length-n/\(∀x,x∈l.take n->x≠c)/\w'=w,l.length,⟨0,bA _,rfl,rfl,by simp,rfl⟩,?_⟩;rintro nv _ u ⟨n,hn,rfl,rfl,hp,hu⟩;obtain rfl:w=u:=hu.symm;refine⟨fun hc=>?_,fun hc=>?_⟩
 ·have bX:(n:Int)<s.n:=aP hc;have W0:n<l.length:=by omega
  obtain⟨ad,g1,g5⟩:=iQ h (aV W0);refine⟨ad,g1,_,g5,fun he=>⟨_,rfl,?_,Only.refl _ _⟩,fun he=>⟨l.length-(n+1),by omega,n+1,by omega,by rw[gD (by omega) (by omega)];rfl,rfl,?_,rfl⟩⟩
  ·have he:c=l[n]:=by simpa using he
   rw[bK (by omega)];symm;rw[cm,he];exact eJ W0
  ·have he:c≠l[n]:=by simpa using he
   intro y hy;rw[bI,aV W0]at hy;simp only[nC,ch,aO]at hy;rcases hy with hy | rfl
   ·exact hp y hy
   ·exact fun e=>he e.symm
 ·have mz:¬((n:Int)<s.n):=aW hc;rw[bC (by omega)]at hp;refine⟨_,rfl,?_,Only.refl _ _⟩;rw[bG (by omega)];exact(bG fun hh=>hp c hh rfl).symm
theorem sA{w:ay}{F:aL}{s:Sl}{l:List Int}(h:aD rInt 1 w F s l)(c:Int):
  aB au 56 #[Sl.v s,O ae c] w fun e w'=>e=aq (ao (decide (c∈l)))/\aA [] w w':=by
 refine ret (adC _ _ _ _ ?_);refine(Qr h c).mono ?_;rintro _ w1 ⟨i,rfl,hi,hO⟩;exact⟨i,rfl,by rw[hi],hO⟩
theorem xn(u:ay){a:Int}(ha:ry a):∃y w1,(aw 32 1 #[.mk 0 (O ae a)]).run au u=.ok (Sl.v y) w1/\aA [] u w1/\dz u.heap.size w1 y [a]:=by
 obtain⟨y,w1,k1,k2,k3,_⟩:=kx (P:=au) (t:=32) (e:=3) (i:=Tryz.t3) (z:=O ae 0) (w:=u) (F:=fun _=>False) (vs:=[O ae a]) (parts:=#[.mk 0 (O ae a)]) (len:=1) (xs:=[a]) (r:=rInt) (size:=1) (by kernel_rfl) (by kernel_rfl) rfl rfl (by decide) rfl rfl (by decide) (by decide) bN ⟨⟨rfl,rfl,ha⟩,trivial⟩;exact⟨y,w1,k1,k3,k2⟩
theorem Qs{A:Nat}{u:ay}{s y:Sl}{is js:List Int}{G:aL}(h:dz A u s is)(hA:A<=u.heap.size)(hy:aD rInt 1 u G y js)(hG:∀k,G k->¬jM s k)(hm:is.length+js.length<=1000000000):
  ∃s' w2,(Builtin.append_ #[32,32] 32 #[Sl.v s,Sl.v y]).run au u=.ok (Sl.v s') w2/\dz A w2 s' (is++js)/\aF (jM s) u w2/\∀k,jM s' k->jM s k∨u.heap.size<=k:=by
 obtain⟨s',w2,g1,g2,gs,g3,g4,g5⟩:=uF (P:=au) (t:=32) (ty:=32) (e:=3) (i:=Tryz.t3) (bytes:=8) (size:=1) (r:=rInt) (F:=fun _=>True) (y:=y) (ys:=js) (by kernel_rfl) (by kernel_rfl) rfl rfl rfl rfl bN (h.mono bN fun k hk=>trivial) (hy.mono bN fun k hk=>⟨trivial,hG k hk⟩) hA (by omega) (by decide);refine⟨s',w2,g1,dz.of g2,g3.p fun g hg=>.inl (g4 g hg).1,fun k hk=>?_⟩;unfold jM at hk⊢;rcases g5 with e | e
 ·exact .inl (by rw[<-e];exact hk)
 ·rw[e]at hk;injection hk with hk;injection hk with hk;exact .inr (by omega)
theorem YJ{A:Nat}{u:ay}{s:Sl}{is:List Int}(h:dz A u s is)(hA:A<=u.heap.size){n:Int}(hn:ry n)(hm:is.length<=20000000):
  ∃y w1,(aw 32 1 #[.mk 0 (O ae n)]).run au u=.ok (Sl.v y) w1/\aA [] u w1/\∃s' w2,(Builtin.append_ #[32,32] 32 #[Sl.v s,Sl.v y]).run au w1=.ok (Sl.v s') w2/\dz A w2 s' (is++[n])/\aF (jM s) w1 w2/\∀k,jM s' k->jM s k∨u.heap.size<=k:=by
 obtain⟨y,w1,k1,k3,s',w2,g1,g2,⟨gs,g3,g4⟩,g5⟩:=jj (P:=au) (t:=32) (ty:=32) (e:=3) (i:=Tryz.t3) (bytes:=8) (size:=1) (r:=rInt) (G:=fun _=>False) (v:=O ae n) (x:=n) (by kernel_rfl) (by kernel_rfl) rfl rfl rfl rfl (by decide) (by decide) (by decide) bN h hA rfl ⟨rfl,hn⟩ (fun _ h=>h.elim) (by omega);refine⟨y,w1,k1,k3,s',w2,g1,dz.of g2,g3.p fun g hg=>.inl (g4 g hg).1,fun k hk=>?_⟩;unfold jM at hk⊢;rcases g5 with e | ⟨g,e,h⟩
 ·exact .inl (by rw[<-e];exact hk)
 ·rw[e]at hk;injection hk with hk;injection hk with hk;exact .inr (by omega)
section
variable {w w':ay} {F G:aL} {s:Sl} {xs:List cM} {b:Nat} {ty:TypeId} {x1 x2 x3:az}
theorem Qt(hB:aH w b ty [s.v,x1,x2,x3])(h:aD nq 5 w F s xs)(n:aJ):aB au 88 #[ai (some ⟨b,0,none⟩),ah (T n)] w fun e w'=>e=aq (O ae (mX xs n))/\aA [] w w':=by
 refine ret (aj2 _ _ _ _ ?_);have q0:((T n).toList==(ar #[]).toList)=decide (n=[]):=mf n [];rw[q0];refine⟨fun hc=>⟨?_,Only.refl _ _⟩,fun hc=>⟨s,Blk.dZ hB 0 rfl,(YG h n).mono ?_⟩⟩
 ·unfold mX;rw[if_pos (aP hc)]
 ·rintro _ w0 ⟨rfl,hO⟩;exact⟨_,rfl,by unfold mX;rw[if_neg (aW hc)],hO⟩
theorem YK(xs:List cM)(n:aJ):mX xs n= -1∨∃j:Nat,mX xs n=j/\j<xs.length:=by
 unfold mX;split
 ·exact .inl rfl
 ·exact zV xs n
theorem MO(hB:aH w b ty [s.v,x1,x2,x3])(h:aD nq 5 w F s xs)(hF:Fo xs)(IG:xs.length<=1000000){sT:Sl}{tg:List Int}(hT:aD rInt 1 w G sT tg)(hm:tg.length<=20000000){a:Nat}(ha:a<=1000000):
  aB au 89 #[ai (some ⟨b,0,none⟩),O ae (a:Int),sT.v] w fun e w'=>e=aq (O ae (DL xs a tg))/\aA [] w w':=by
 refine ret (aj3 _ _ _ _ _ ?_);have hl:=hT.len;refine⟨fun hc=>⟨?_,Only.refl _ _⟩,fun hc=>?_⟩
 ·have hc:(sT.n:Int)=0:=by simpa using hc
  have:tg=[]:=bO (by omega);unfold DL;rw[if_pos this]
 have hc:¬(sT.n:Int)=0:=by simpa using hc
 have gz:tg≠[]:=fun e=>hc (by rw[e]at hl;simp at hl;omega);obtain⟨y,w0,k1,k3,k2⟩:=xn w (a:=(a:Int)) ⟨by omega,by omega⟩;have z0:=k3.size;have hT0:aD rInt 1 w0 (fun k=>G k/\k<w.heap.size) sT tg:=kI (SliceF.inHeap bN hT (by decide)) k3;obtain⟨q,w1,g1,g2,g3,_⟩:=Qs k2 z0 hT0 (fun k hk e=>by have:=(k2.blk e).1;dsimp only at this;omega) (by rw[bP];omega);have o1:aA [] w w1:=(k3.pd (g3.mono (G:=fun k=>w.heap.size<=k) fun k _ e=>by have:=(k2.blk e).1;exact this)).only fun k hk=>hk;refine⟨y,w0,k1,q,w1,g1,s,Blk.dZ (o1.blk hB (by simp)) 0 rfl,(Qc (SliceF.only db (by decide) h o1 (by simp)) hF (g2.slice bN)).mono ?_⟩;rintro _ w2 ⟨⟨r,rfl,hr⟩,dh⟩;have o2:=o1.cz dh;have er:=hF.aen hr;have e1:[(a:Int)]++tg=(a:Int)::tg:=rfl;rw[e1]at er g2;have RZ:r<xs.length:=by
  have hl:=hF.ne;rw[er];unfold mtM;split
  ·omega
  ·rcases vq xs ((a:Int)::tg) xs.length with⟨g,_⟩ | ⟨m,g1,g2,_,_⟩<;>omega
 refine⟨r,rfl,fun kv d u=>Ij xs ((a:Int)::tg) kv d=DL xs a tg/\d<xs.length/\d<=kv/\aA [] w u/\aA [] w1 u,xs.length,⟨?_,RZ,by omega,o2,dh⟩,?_⟩
 ·unfold DL;rw[if_neg gz,er]
 rintro kv d w3 ⟨hd,xP,hdk,o3,p3⟩;refine⟨fun c u=>c=decide (0<d/\(kP xs d≠1∨d∈(a:Int)::tg))/\aA [] w u/\aA [] w1 u,?_,fun uu=>?_,fun uu=>?_⟩
 ·rintro _ w4 ⟨rfl,o4,p4⟩;refine⟨fun hb=>?_,fun hb=>⟨?_,o4⟩⟩
  ·have hb:=aP hb;obtain⟨i,rfl⟩:∃i:Nat,d=i:=⟨d.toNat,by omega⟩
   obtain⟨x,hx⟩:=fO (xs:=xs) (i:=i) (by omega);obtain⟨ad,a1,_,a3,_⟩:=jL (SliceF.only db (by decide) h o4 (by simp)) hx;have hp:=hF.Lu hx;obtain⟨n,rfl⟩:∃n,kv=n+1:=⟨kv-1,by omega⟩
   refine⟨s,Blk.dZ (o4.blk hB (by simp)) 0 rfl,ad,a1,x.pa,a3,n,by omega,?_,by omega,by omega,o4,p4⟩;rw[Ij,if_pos hb,kQ hx]at hd;exact hd
  ·have hb:=aW hb;congr 1;rw[<-hd];cases kv with
   | zero=>rfl
   | succ n=>rw[Ij,if_neg hb]
 ·have uu:=aP uu;obtain⟨i,rfl⟩:∃i:Nat,d=i:=⟨d.toNat,by omega⟩
  obtain⟨x,hx⟩:=fO (xs:=xs) (i:=i) (by omega);obtain⟨ad,a1,a2,_⟩:=jL (SliceF.only db (by decide) h o3 (by simp)) hx;refine⟨s,Blk.dZ (o3.blk hB (by simp)) 0 rfl,ad,a1,x.k,a2.dZ 0 _ rfl,fun hk=>⟨?_,o3,p3⟩,fun hk=>(sA (kI (g2.slice bN) p3) _).mono ?_⟩
  ·have hk:x.k≠1:=by simpa using hk
   exact(bK ⟨uu,.inl (by rw[fP hx];exact hk)⟩).symm
  ·have hk:x.k=1:=by simpa using hk
   rintro _ w5 ⟨rfl,eE⟩;refine⟨_,rfl,?_,o3.cz eE,p3.cz eE⟩;rw[fS,fP hx];exact⟨fun h=>⟨uu,.inr h⟩,fun h=>h.2.resolve_left fun h'=>h' hk⟩
 ·have uu:=aW uu;exact⟨(bG fun h=>uu h.1).symm,o3,p3⟩
end
def YL:Rp Ro:=fun w F x cs=>∃tg:Sl,cs=[O ae x.src,O ae x.slot,O ae x.k,ah (T x.ev),O ae x.wt,tg.v,O ae x.dom]/\aD rInt 1 w F tg x.tg
theorem ik:YL.Ok where
 keep:=by
  rintro w w' F x cs ⟨d,h1,h2⟩ hk;exact⟨d,h1,h2.keep bN (by decide) hk⟩
 inHeap:=by
  rintro w F x cs ⟨d,h1,h2⟩;exact⟨d,h1,h2.inHeap bN (by decide)⟩
 mono:=by
  rintro w F G x cs ⟨d,h1,h2⟩ hk;exact⟨d,h1,h2.mono bN hk⟩
 one:=by
  rintro w F x cs ⟨d,rfl,_⟩ v hv;simp only[aR,bf,bU]at hv;rcases hv with rfl | rfl | rfl | rfl | rfl | rfl | rfl<;>rfl
def Q3(a c d:Sl)(k:Nat):Prop:=jM a k∨jM c k∨jM d k
structure La (w:ay) (b:Nat) (F:aL) (s si sd sr:Sl) (xs:List cM) (ini dft:List Int) (ro:List Ro):Prop where
 blk:aH w b 101 [s.v,si.v,sd.v,sr.v]
 sp:aD nq 5 w F s xs
 hF:∀k,F k->k<w.heap.size/\k≠b/\¬Q3 si sd sr k
 i:dz (b+1) w si ini
 d:dz (b+1) w sd dft
 r:Own YL 7 73 (b+1) w (fun k=>b<k/\¬jM si k/\¬jM sd k) sr ro
 ap:∀k,jM si k->¬jM sd k/\¬jM sr k
 ap2:∀k,jM sd k->¬jM sr k
section
variable {w w':ay} {F:aL} {s si sd sr:Sl} {xs:List cM} {b:Nat} {ini dft:List Int} {ro:List Ro}
theorem La.lt(h:La w b F s si sd sr xs ini dft ro):b<w.heap.size:=h.blk.lt
theorem La.bi(h:La w b F s si sd sr xs ini dft ro):∀k,jM si k->b<k/\k<w.heap.size:=fun k e=>by have:=h.i.blk e;dsimp only at this;omega
theorem La.bd(h:La w b F s si sd sr xs ini dft ro):∀k,jM sd k->b<k/\k<w.heap.size:=fun k e=>by have:=h.d.blk e;dsimp only at this;omega
theorem La.br(h:La w b F s si sd sr xs ini dft ro):∀k,jM sr k->b<k/\k<w.heap.size:=fun k e=>by have:=h.r.blk e;dsimp only at this;omega
theorem La.o0(h:La w b F s si sd sr xs ini dft ro)(hO:aA [] w w'):La w' b F s si sd sr xs ini dft ro:=
 ⟨hO.blk h.blk (by simp),SliceF.only db (by decide) h.sp hO (by simp),fun k hk=>⟨cx (h.hF k hk).1 hO.size,(h.hF k hk).2⟩,h.i.keep bN fun k _ bX=>hO.block k bX (by simp),h.d.keep bN fun k _ bX=>hO.block k bX (by simp),h.r.keep ik fun k _ bX=>hO.block k bX (by simp),h.ap,h.ap2⟩
theorem La.akG(h:La w b F s si sd sr xs ini dft ro){n:Int}(hn:ry n)(hm:ini.length<=20000000):
  ∃y w1,(aw 32 1 #[.mk 0 (O ae n)]).run au w=.ok (Sl.v y) w1/\aA [] w w1/\∃s' w2,(Builtin.append_ #[32,32] 32 #[Sl.v si,Sl.v y]).run au w1=.ok (Sl.v s') w2/\aF (jM si) w1 w2/\(∀k,jM s' k->jM si k∨w.heap.size<=k)/\aH w2 b 101 [s.v,si.v,sd.v,sr.v]/\
   ∀w3,aA [b] w2 w3->aH w3 b 101 [s.v,s'.v,sd.v,sr.v]->La w3 b F s s' sd sr xs (ini++[n]) dft ro:=by
 have bX:=h.lt;obtain⟨y,w1,k1,k3,s',w2,g1,g2,g3,g4⟩:=YJ h.i (by omega) hn hm;have z1:=k3.size;have z2:=g3.size;refine⟨y,w1,k1,k3,s',w2,g1,g3,g4,g3.blk (k3.blk h.blk (by simp)) fun e=>by have:=h.bi b e;omega,fun w3 hO hB=>?_⟩;have hk:∀k,k<w.heap.size->k≠b->¬jM si k->w3.heap[k]? =w.heap[k]? :=fun k h1 h2 h3=>by
  rw[hO.block k (by omega) (by simpa using h2),g3.block k (by omega) h3,k3.block k h1 (by simp)]
 refine⟨hB,h.sp.keep db (by decide) fun k tW hl=>hk k hl (h.hF k tW).2.1 fun e=>(h.hF k tW).2.2 (.inl e),fun k tW=>⟨by have:=(h.hF k tW).1;have:=hO.size;omega,(h.hF k tW).2.1,fun hq=>hq.elim (fun e=>(g4 k e).elim (fun e=>(h.hF k tW).2.2 (.inl e)) fun e=>by have:=(h.hF k tW).1;omega) fun e=>(h.hF k tW).2.2 (.inr e)⟩,g2.keep bN fun k iv hl=>hO.block k hl (by have:=iv.resolve_left id;simp;omega),h.d.keep bN fun k iv hl=>?_,((h.r.inHeap ik).keep ik fun k iv hl=>?_).mono ik fun k iv=>⟨iv.1.1,fun e=>?_,iv.1.2.2⟩,fun k e=>?_,h.ap2⟩
 ·have:=iv.resolve_left id;exact hk k hl (by omega) fun e=>(h.ap k e).1 this.2
 ·rcases iv with iv | iv
  ·exact hk k hl (by have:=iv.1.1;omega) iv.1.2.1
  ·exact hk k hl (by omega) fun e=>(h.ap k e).2 iv.2
 ·rcases g4 k e with e | e
  ·exact iv.1.2.1 e
  ·have:=iv.2;omega
 ·rcases g4 k e with e | e
  ·exact h.ap k e
  ·exact⟨fun e'=>by have:=h.bd k e';omega,fun e'=>by have:=h.br k e';omega⟩
theorem La.akH(h:La w b F s si sd sr xs ini dft ro){n:Int}(hn:ry n)(hm:dft.length<=20000000):
  ∃y w1,(aw 32 1 #[.mk 0 (O ae n)]).run au w=.ok (Sl.v y) w1/\aA [] w w1/\∃s' w2,(Builtin.append_ #[32,32] 32 #[Sl.v sd,Sl.v y]).run au w1=.ok (Sl.v s') w2/\aF (jM sd) w1 w2/\(∀k,jM s' k->jM sd k∨w.heap.size<=k)/\aH w2 b 101 [s.v,si.v,sd.v,sr.v]/\
   ∀w3,aA [b] w2 w3->aH w3 b 101 [s.v,si.v,s'.v,sr.v]->La w3 b F s si s' sr xs ini (dft++[n]) ro:=by
 have bX:=h.lt;obtain⟨y,w1,k1,k3,s',w2,g1,g2,g3,g4⟩:=YJ h.d (by omega) hn hm;have z1:=k3.size;have z2:=g3.size;refine⟨y,w1,k1,k3,s',w2,g1,g3,g4,g3.blk (k3.blk h.blk (by simp)) fun e=>by have:=h.bd b e;omega,fun w3 hO hB=>?_⟩;have hk:∀k,k<w.heap.size->k≠b->¬jM sd k->w3.heap[k]? =w.heap[k]? :=fun k h1 h2 h3=>by
  rw[hO.block k (by omega) (by simpa using h2),g3.block k (by omega) h3,k3.block k h1 (by simp)]
 refine⟨hB,h.sp.keep db (by decide) fun k tW hl=>hk k hl (h.hF k tW).2.1 fun e=>(h.hF k tW).2.2 (.inr (.inl e)),fun k tW=>⟨by have:=(h.hF k tW).1;have:=hO.size;omega,(h.hF k tW).2.1,fun hq=>hq.elim (fun e=>(h.hF k tW).2.2 (.inl e)) fun hq=>hq.elim (fun e=>(g4 k e).elim (fun e=>(h.hF k tW).2.2 (.inr (.inl e))) fun e=>by have:=(h.hF k tW).1;omega) fun e=>(h.hF k tW).2.2 (.inr (.inr e))⟩,h.i.keep bN fun k iv hl=>?_,g2.keep bN fun k iv hl=>hO.block k hl (by have:=iv.resolve_left id;simp;omega),((h.r.inHeap ik).keep ik fun k iv hl=>?_).mono ik fun k iv=>⟨iv.1.1,iv.1.2.1,fun e=>?_⟩,fun k e=>⟨fun e'=>?_,(h.ap k e).2⟩,fun k e=>?_⟩
 ·have:=iv.resolve_left id;exact hk k hl (by omega) (h.ap k this.2).1
 ·rcases iv with iv | iv
  ·exact hk k hl (by have:=iv.1.1;omega) iv.1.2.2
  ·exact hk k hl (by omega) fun e=>h.ap2 k e iv.2
 ·rcases g4 k e with e | e
  ·exact iv.1.2.2 e
  ·have:=iv.2;omega
 ·rcases g4 k e' with e' | e'
  ·exact(h.ap k e).1 e'
  ·have:=h.bi k e;omega
 ·rcases g4 k e with e | e
  ·exact h.ap2 k e
  ·exact fun e'=>by have:=h.br k e';omega
theorem La.akI(h:La w b F s si sd sr xs ini dft ro){x:Ro}{tg:Sl}{G:aL}(hT:aD rInt 1 w G tg x.tg)(hG:∀k,G k->b<k/\¬jM si k/\¬jM sd k/\¬jM sr k)(hm:ro.length<=20000000):
  ∃y w1,(aw 53 1 #[.mk 0 (aj #[O ae x.src,O ae x.slot,O ae x.k,ah (T x.ev),O ae x.wt,tg.v,O ae x.dom])]).run au w=.ok (Sl.v y) w1/\aA [] w w1/\∃s' w2,(Builtin.append_ #[53,53] 53 #[Sl.v sr,Sl.v y]).run au w1=.ok (Sl.v s') w2/\aF (jM sr) w1 w2/\(∀k,jM s' k->jM sr k∨w.heap.size<=k)/\aH w2 b 101 [s.v,si.v,sd.v,sr.v]/\
   ∀w3,aA [b] w2 w3->aH w3 b 101 [s.v,si.v,sd.v,s'.v]->La w3 b F s si sd s' xs ini dft (ro++[x]):=by
 have bX:=h.lt;obtain⟨y,w1,k1,k3,s',w2,g1,g2,⟨gs,g3',g4'⟩,g5⟩:=jj (P:=au) (t:=53) (ty:=53) (e:=73) (i:=Tryz.t73) (bytes:=80) (size:=7) (r:=YL) (G:=G) (v:=aj #[O ae x.src,O ae x.slot,O ae x.k,ah (T x.ev),O ae x.wt,tg.v,O ae x.dom]) (x:=x) (by kernel_rfl) (by kernel_rfl) rfl rfl rfl rfl (by decide) (by decide) (by decide) ik h.r (by omega) rfl ⟨tg,rfl,hT⟩ (fun k hk _=>by have:=hG k hk;exact⟨⟨this.1,this.2.1,this.2.2.1⟩,this.2.2.2⟩) (by omega);have g3:aF (jM sr) w1 w2:=g3'.p fun g hg=>.inl (g4' g hg).1;have g4:∀k,jM s' k->jM sr k∨w.heap.size<=k:=fun k hk=>by
  unfold jM at hk⊢;rcases g5 with e | ⟨g,e,h⟩
  ·exact .inl (by rw[<-e];exact hk)
  ·rw[e]at hk;injection hk with hk;injection hk with hk;exact .inr (by omega)
 have z1:=k3.size;have z2:=g3.size;refine⟨y,w1,k1,k3,s',w2,g1,g3,g4,g3.blk (k3.blk h.blk (by simp)) fun e=>by have:=h.br b e;omega,fun w3 hO hB=>?_⟩;have hk:∀k,k<w.heap.size->k≠b->¬jM sr k->w3.heap[k]? =w.heap[k]? :=fun k h1 h2 h3=>by
  rw[hO.block k (by omega) (by simpa using h2),g3.block k (by omega) h3,k3.block k h1 (by simp)]
 refine⟨hB,h.sp.keep db (by decide) fun k tW hl=>hk k hl (h.hF k tW).2.1 fun e=>(h.hF k tW).2.2 (.inr (.inr e)),fun k tW=>⟨by have:=(h.hF k tW).1;have:=hO.size;omega,(h.hF k tW).2.1,fun hq=>hq.elim (fun e=>(h.hF k tW).2.2 (.inl e)) fun hq=>hq.elim (fun e=>(h.hF k tW).2.2 (.inr (.inl e))) fun e=>(g4 k e).elim (fun e=>(h.hF k tW).2.2 (.inr (.inr e))) fun e=>by have:=(h.hF k tW).1;omega⟩,h.i.keep bN fun k iv hl=>?_,h.d.keep bN fun k iv hl=>?_,(g2.keep ik fun k iv hl=>hO.block k hl ?_).mono ik fun k iv=>?_,fun k e=>⟨(h.ap k e).1,fun e'=>?_⟩,fun k e e'=>?_⟩
 ·have:=iv.resolve_left id;exact hk k hl (by omega) (h.ap k this.2).2
 ·have:=iv.resolve_left id;exact hk k hl (by omega) (h.ap2 k this.2)
 ·simp only[aO];rcases iv with(iv | iv) | iv<;>omega
 ·rcases iv with iv | iv
  ·exact iv
  ·exact⟨by omega,fun e=>by have:=h.bi k e;omega,fun e=>by have:=h.bd k e;omega⟩
 ·rcases g4 k e' with e' | e'
  ·exact(h.ap k e).2 e'
  ·have:=h.bi k e;omega
 ·rcases g4 k e' with e' | e'
  ·exact h.ap2 k e e'
  ·have:=h.bd k e;omega
end
section
def xM(b:Nat)(Q:aL)(w:ay)(Q':aL)(w':ay):Prop:=aF (fun k=>k=b∨Q k) w w'/\∀k,Q' k->Q k∨w.heap.size<=k
theorem xM.refl(b:Nat)(Q:aL)(w:ay):xM b Q w Q w:=⟨OnlyP.refl _ _,fun _ h=>.inl h⟩
theorem xM.trans{b:Nat}{Q R S:aL}{u v w:ay}(h:xM b Q u R v)(g:xM b R v S w):xM b Q u S w:=by
 refine⟨h.1.trans g.1 fun k hk=>?_,fun k hk=>?_⟩
 ·rcases hk with hk | hk
  ·exact .inl (.inl hk)
  ·exact(h.2 k hk).elim (fun h=>.inl (.inr h)) .inr
 ·rcases g.2 k hk with hk | hk
  ·exact h.2 k hk
  ·exact .inr (bh h.1.size hk)
theorem xM.cz{b:Nat}{Q R:aL}{u v w:ay}(h:xM b Q u R v)(hO:aA [] v w):xM b Q u R w:=⟨h.1.cz hO,h.2⟩
theorem xM.of0{b:Nat}{Q R:aL}{u v w:ay}(hO:aA [] u v)(h:xM b Q v R w):xM b Q u R w:=⟨hO.pd h.1,fun k hk=>(h.2 k hk).imp id fun h=>bh hO.size h⟩
theorem BX{y:Nd}:∀{l:List Nd} {j:Nat},l[j]? =some y->iP (l.take j)+pc y<=iP l
 | [],j,h=>by simp at h
 | x::l,0,h=>by
  rw[cE,ba]at h;subst h;rw[dr,iP,iP];omega
 | x::l,j+1,h=>by
  rw[de]at h;have:=BX h;rw[fD,iP,iP];omega
mutual
theorem YM(xs:List cM):∀(x:Nd) (a:Nat),(Qq xs a x).length<=pc x
 | .mk b l,a=>by
  have:=DM xs l (a+1);have:=nV b.mv;rw[Qq,aU,yt,pc];unfold F6;omega
theorem DM(xs:List cM):∀(l:List Nd) (a:Nat),(qM xs a l).length<=iP l
 | [],a=>by rw[qM];exact bA _
 | x::l,a=>by
  have:=YM xs x a;have:=DM xs l (a+iO x);rw[qM,aU,iP];omega
end
section
variable {b:Nat} {F:aL} {s:Sl} {xs:List cM}
theorem La.q3{w:ay}{si sd sr:Sl}{ini dft:List Int}{ro:List Ro}(h:La w b F s si sd sr xs ini dft ro):∀k,Q3 si sd sr k->b<k/\k<w.heap.size:=fun k hk=>hk.elim (h.bi k) fun hk=>hk.elim (h.bd k) (h.br k)
theorem Wi(hFo:Fo xs)(IG:xs.length<=64):∀(D:Nat) {w:ay} {G:aL} {x:Nd} {cs:aK} {si sd sr:Sl} {ini dft:List Int} {ro:List Ro},oY false D w G x cs->(∀k,G k->k<b)->La w b F s si sd sr xs ini dft ro->
  pc x<=8388608->ini.length+iO x<=1000000->dft.length=ini.length->ro.length+pc x<=16777216->
  aB au 43 #[ai (some ⟨b,0,none⟩),aj cs.toArray] w fun e w'=>e=aq (ak #[])/\∃si' ph sr',La w' b F s si' ph sr' xs (ini++(vu x).map fun c=>mX xs c.ini) (dft++(vu x).map fun c=>mX xs c.dft) (ro++Qq xs ini.length x)/\xM b (Q3 si sd sr) w (Q3 si' ph sr') w'
 | 0,_,_,_,_,_,_,_,_,_,_,h,_,_,_,_,_,_=>h.elim
 | D+1,w,G,.mk bb ks,cs,si,sd,sr,ini,dft,ro,⟨en,lv,mv,kids,pe,⟨_,_,rB⟩,gU⟩,hG,hL,hz,hn,xP,hro=>by
  have hk:=gU.1;have rB:=rB.1;clear gU;dsimp only[Nd.kids,Nd.b]at hk pe rB;subst pe;rw[iO]at hn;rw[pc]at hz hro;have NS:=hk.len;have Cs:=rB.len;have hnn:=rV ks;have A4:=nV bb.mv;have aum:zP bb.mv<=F6 bb:=by unfold F6;omega
  refine ret (ajL _ _ _ _ _ _ _ _ _ _ _ _ ?_);intro k0 w0 gU fi cK;have z0:=cK.size;have Ck:=hL.lt;have hq:=hL.q3;have Sz:=hL.o0 cK;have inA:∀n,ry (mX xs n):=fun n=>by
   rcases YK xs n with h | ⟨j,h,hj⟩
   ·rw[h];exact⟨by decide,by decide⟩
   ·rw[h];exact⟨by omega,by omega⟩
  have Ss:si.n=ini.length:=hL.i.len;have sw:∀{Q':aL} {u v:ay} {bs:List Nat} {P:aL},xM b (Q3 si sd sr) w0 Q' u->aF P u v->(∀k,P k->k=b∨Q' k)->(∀k,k∈bs->k<w0.heap.size/\w.heap.size<=k)->ci bs u v:=fun{Q' u v bs P} m hO hP hb=>hO.same fun x hx=>by
   have hx:=hb x hx;refine⟨by have:=m.1.size;omega,fun hh=>?_⟩;rcases hP x hh with rfl | hh
   ·omega
   ·rcases m.2 x hh with hh | hh
    ·have:=hq x hh;omega
    ·omega
  refine⟨si,Blk.dZ Sz.blk 1 rfl,fun w1 cF=>⟨fun k=>k=b,rfl,si,Blk.dZ (cF.blk Sz.blk (by simp)) 1 rfl,?_⟩⟩;have hL1:=Sz.o0 cF;have z1:=cF.size;have m1:xM b (Q3 si sd sr) w0 (Q3 si sd sr) w1:=(xM.refl _ _ _).cz cF;refine(Qt hL1.blk hL1.sp bb.ini).mono ?_;rintro _ w2 ⟨rfl,dh⟩;have hL2:=hL1.o0 dh;have m2:=m1.cz dh;obtain⟨y,w3,p1,p2,s1,w4,p3,p4,p5,p6,p7⟩:=hL2.akG (inA bb.ini) (by omega);have z2:=dh.size;have z3:=p2.size;have z4:=p4.size;refine⟨_,rfl,dh.same (by simp;omega),bS.only dh,y,w3,p1,p2.same (by simp;omega),bS.only p2,s1,w4,p3,sw (m2.cz p2) p4 (fun k hk=>.inr (.inl hk)) (by simp;omega),fun k hk bX=>?_,b,1,_,_,rfl,p6,cP rfl,by omega,fun w5 eE wL w6 ez=>?_⟩
  ·subst hk;exact p4.block _ bX fun e=>by have:=hL.bi _ e;omega
  have W4:=p7 w5 eE wL;have z5:=eE.size;have m5:xM b (Q3 si sd sr) w0 (Q3 s1 sd sr) w5:=by
   refine m2.trans ⟨(p2.pd (p4.mono (G:=fun k=>k=b∨Q3 si sd sr k) fun k _ hk=>.inr (.inl hk))).trans (eE.p (F:=fun k=>k=b) (by simp)) fun k hk=>.inl (.inl hk),fun k hk=>?_⟩;rcases hk with hk | hk
   ·exact(p5 k hk).imp .inl fun h=>by omega
   ·exact .inl (.inr hk)
  have Nj:=W4.o0 ez;have z6:=ez.size;have m6:=m5.cz ez;refine⟨fun k=>k=b,rfl,sd,Blk.dZ Nj.blk 2 rfl,(Qt Nj.blk Nj.sp bb.dft).mono ?_⟩;rintro _ w7 ⟨rfl,fI⟩;have Ei:=Nj.o0 fI;have m7:=m6.cz fI;obtain⟨y8,w8,r1,r2,s2,w9,r3,r4,r5,r6,r7⟩:=Ei.akH (inA bb.dft) (by omega);have z7:=fI.size;have z8:=r2.size;have z9:=r4.size;refine⟨_,rfl,fI.same (by simp;omega),bS.only fI,y8,w8,r1,r2.same (by simp;omega),bS.only r2,s2,w9,r3,sw (m7.cz r2) r4 (fun k hk=>.inr (.inr (.inl hk))) (by simp;omega),fun k hk bX=>?_,b,2,_,_,rfl,r6,cP rfl,by omega,fun dI eH tE=>?_⟩
  ·subst hk;exact r4.block _ bX fun e=>by have:=Ei.bd _ e;omega
  have AE:=r7 dI eH tE;have NP:=eH.size;have m10:xM b (Q3 si sd sr) w0 (Q3 s1 s2 sr) dI:=by
   refine m7.trans ⟨(r2.pd (r4.mono (G:=fun k=>k=b∨Q3 s1 sd sr k) fun k _ hk=>.inr (.inr (.inl hk)))).trans (eH.p (F:=fun k=>k=b) (by simp)) fun k hk=>.inl (.inl hk),fun k hk=>?_⟩;rcases hk with hk | hk | hk
   ·exact .inl (.inl hk)
   ·exact(r5 k hk).imp (fun h=>.inr (.inl h)) fun h=>by omega
   ·exact .inl (.inr (.inr hk))
  have hq0:∀{Q':aL} {u:ay},xM b (Q3 si sd sr) w0 Q' u->¬Q' k0:=fun m e=>by
   rcases m.2 k0 e with h | h
   ·have:=hq k0 h;omega
   ·omega
  have iv:∀{u:ay} {Q':aL},xM b (Q3 si sd sr) w0 Q' u->aD (oY false D) 9 u G kids ks:=fun m=>SliceF.mw (cN false D) (by decide) hk (cK.pd m.1) fun k hGk _=>by
   have:=hG k hGk;exact fun h=>h.elim (by omega) fun h=>by have:=hq k h;omega
  have NW:∀{u:ay} {Q':aL},xM b (Q3 si sd sr) w0 Q' u->aD (Kf false) 13 u G mv bb.mv:=fun m=>SliceF.mw (mE false) (by decide) rB (cK.pd m.1) fun k hGk _=>by
   have:=hG k hGk;exact fun h=>h.elim (by omega) fun h=>by have:=hq k h;omega
  refine⟨fun kv i u=>∃(j:Nat) (q:Sl),i=(j:Int)/\kv+j=bb.mv.length/\j<=bb.mv.length/\La u b F s s1 s2 q xs (ini++[mX xs bb.ini]) (dft++[mX xs bb.dft]) (ro++Ik xs ini.length 0 (bb.mv.take j))/\xM b (Q3 si sd sr) w0 (Q3 s1 s2 q) u,bb.mv.length,⟨0,sr,rfl,by omega,bA _,by rw[dr,Ik,bR];exact AE,m10⟩,?_⟩;rintro kv _ dJ ⟨j,q,rfl,tX,hj,xV,m11⟩;have Co:=m11.1.size;refine⟨fun hc=>?_,fun hc=>?_⟩
  ·have hc:=aP hc;obtain⟨ad,m,ds,a1,a2,a3,a4,a5,a6⟩:=(NW m11).get (bE j) (by omega);rw[aX]at a2;obtain⟨gc,tG,tg,rfl,hgx,RL,rq⟩:=a6;obtain⟨sl,rfl⟩:=iW hgx;have rq:=rq.1;have yw:=rq.len;have hmz:MD m<=zP bb.mv:=ve (bD a2);have htz:=DF m.tg;unfold MD at hmz;refine⟨ad,a1,_,_,_,_,_,_,_,_,sl,_,tG,tg,_,a5,fun k9 po fg hk9 af9 auo agh fj=>?_⟩;have z12:=fj.size;refine⟨fun Ek i a2' sl2 k2 ev wt l dm u=>∃t:Nat,i=(t:Int)/\a2'=(ini.length:Int)/\sl2=(j:Int)/\k2=m.k/\ev=T m.ev/\wt=m.wt/\dm=0/\Ek+t=m.tg.length/\t<=m.tg.length/\dz fg.heap.size u l ((m.tg.take t).map (mX xs))/\aA [] dJ u/\fg.heap.size<=u.heap.size,m.tg.length,⟨0,rfl,by rw[Ss],rfl,rfl,rfl,rfl,rfl,by omega,bA _,Own.nil _ _ _ _ _ _,fj,aY _⟩,?_⟩;rintro Ek _ _ _ _ _ _ l _ fC ⟨t,rfl,rfl,rfl,rfl,rfl,rfl,rfl,aaL,ht,hT,eS,SE⟩;have mz:∀k,jM l k->fg.heap.size<=k:=fun k e=>(hT.blk e).1;have aaM:=xV.o0 eS;have SI:((m.tg.take t).map (mX xs)).length=t:=by rw[bq,dd];omega
   refine⟨fun pu=>?_,fun pu=>?_⟩
   ·have pu:=aP pu;obtain⟨wQ,x2,cs2,b1,b2,b3,b4,b5,b6⟩:=(SliceF.only dD (by decide) rq eS (by simp)).get (bE t) (by omega);rw[aX]at b2;unfold kz at b6;subst b6;refine⟨wQ,b1,_,b5,fun fT dU=>⟨fun k=>k<fg.heap.size,agh,?_⟩⟩;have ZL:=dU.size;have agi:=aaM.o0 dU;refine(Qt agi.blk agi.sp x2).mono ?_;rintro _ iJ ⟨rfl,iu⟩;have z15:=iu.size;have anb:dz fg.heap.size iJ l _:=(hT.keep bN fun k _ bX=>dU.block k bX (by simp)).keep bN fun k _ bX=>iu.block k bX (by simp);obtain⟨y2,iX,c1,c2,l2,fR,c3,c4,c5,c6⟩:=YJ anb (by omega) (inA x2) (by rw[SI];omega);have z16:=c2.size;have z17:=c5.size;have o17:aA [] dJ fR:=((((eS.cz dU).cz iu).cz c2).pd (c5.mono (G:=fun k=>dJ.heap.size<=k) fun k _ e=>by have:=mz k e;omega)).only fun k hk=>hk;refine⟨_,rfl,iu.same (by simp;omega),bS.only iu,y2,iX,c1,c2.same (by simp;omega),bS.only c2,l2,fR,c3,c5.same fun x hx=>?_,fun k hk _=>c5.block k (by omega) fun e=>(by have:=mz k e;omega),fun jA lO=>⟨Ek-1,by omega,t+1,by rw[gD (by omega) (by omega)];rfl,rfl,rfl,rfl,rfl,rfl,rfl,by omega,by omega,?_,o17.trans lO fun x hx=>.inr (by simp only[aO]at hx;omega),by have:=lO.size;omega⟩⟩
    ·simp only[aR,bf,bU]at hx;rcases hx with rfl | rfl | rfl
     ·exact⟨by omega,fun e=>by have:=mz _ e;omega⟩
     ·exact⟨by omega,fun e=>by have:=mz _ e;omega⟩
     ·exact⟨by omega,fun e=>by have:=mz _ e;omega⟩
    ·rw[bI,b2,da];exact c4.keep bN fun k hk bX=>lO.block k bX (by have:=hk.resolve_left id;simp;omega)
   ·have pu:=aW pu;have hte:t=m.tg.length:=by omega
    subst hte;rw[bC (aY _)]at hT SI;rw[Ss];refine(MO aaM.blk aaM.sp hFo (by omega) (hT.slice bN) (by rw[SI];omega) (a:=ini.length) (by omega)).mono ?_;rintro _ jO ⟨rfl,kU⟩;have z19:=kU.size;refine⟨_,rfl,kU.same (by simp;omega),fun jm mL=>⟨fun k=>k=b,rfl,?_⟩⟩;have z20:=mL.size;have o20:aA [] dJ jm:=(eS.cz kU).trans mL fun x hx=>.inr (by simp only[aO]at hx;omega);have agj:=xV.o0 o20;have anc:dz fg.heap.size jm l _:=(hT.keep bN fun k _ bX=>kU.block k bX (by simp)).keep bN fun k hk bX=>mL.block k bX (by have:=hk.resolve_left id;simp;omega);obtain⟨y3,kV,d1,d2,q',oS,d3,d4,d5,d6,d7⟩:=agj.akI (x:=YI xs ini.length j m) (anc.slice bN) (fun k hk=>by
     have hk:=hk.resolve_left id;exact⟨by omega,fun e=>by have:=xV.bi k e;omega,fun e=>by have:=xV.bd k e;omega,fun e=>by have:=xV.br k e;omega⟩) (by rw[aU,yt,dd];omega)
    have z21:=d2.size;have z22:=d4.size;refine⟨q,Blk.dZ agj.blk 3 rfl,y3,kV,d1,d2.same (by simp;omega),bS.only d2,q',oS,d3,d4.same fun x hx=>?_,fun k hk bX=>?_,b,3,_,_,rfl,d6,cP rfl,by omega,by omega,by omega,fun nH jX ane=>⟨kv-1,by omega,j+1,q',by rw[gD (by omega) (by omega)];rfl,by omega,by omega,?_,?_⟩⟩
    ·simp only[aR,bf,bU]at hx;rcases hx with rfl | rfl | rfl
     ·exact⟨by omega,fun e=>hq0 m11 (.inr (.inr e))⟩
     ·exact⟨by omega,fun e=>by have:=xV.br _ e;omega⟩
     ·exact⟨by omega,fun e=>by have:=xV.br _ e;omega⟩
    ·subst hk;exact d4.block _ bX fun e=>by have:=xV.br _ e;omega
    ·have e:bb.mv.take (j+1)=bb.mv.take j++[m]:=by rw[bI,a2];rfl
     have hl:(bb.mv.take j).length=j:=by rw[dd];omega
     rw[e,Gp,hl,bM,<-bQ];exact d7 nH jX ane
    ·refine(m11.cz o20).trans ⟨(d2.pd (d4.mono (G:=fun k=>k=b∨Q3 s1 s2 q k) fun k _ hk=>.inr (.inr (.inr hk)))).trans (jX.p (F:=fun k=>k=b) (by simp)) fun k hk=>.inl (.inl hk),fun k hk=>?_⟩;rcases hk with hk | hk | hk
     ·exact .inl (.inl hk)
     ·exact .inl (.inr (.inl hk))
     ·exact(d5 k hk).imp (fun h=>.inr (.inr h)) fun h=>by omega
  ·have hc:=aW hc;have qo:j=bb.mv.length:=by omega
   subst qo;rw[bC (aY _)]at xV;clear tX;refine⟨fun kv i u=>∃(j:Nat) (qi qd qr:Sl),i=(j:Int)/\kv+j=ks.length/\j<=ks.length/\La u b F s qi qd qr xs (ini++(mX xs bb.ini::(zY (ks.take j)).map fun c=>mX xs c.ini)) (dft++(mX xs bb.dft::(zY (ks.take j)).map fun c=>mX xs c.dft)) (ro++(Ik xs ini.length 0 bb.mv++qM xs (ini.length+1) (ks.take j)))/\xM b (Q3 si sd sr) w0 (Q3 qi qd qr) u,ks.length,⟨0,s1,s2,q,rfl,by omega,bA _,by rw[dr,zY,qM,bR];exact xV,m11⟩,?_⟩;rintro kv _ ot ⟨j,qi,qd,qr,rfl,tX,hj,Vk,m24⟩;have z24:=m24.1.size;refine⟨fun pu=>?_,fun pu=>?_⟩
   ·have pu:=aP pu;obtain⟨ad,y,ds,a1,a2,a3,a4,a5,a6⟩:=(iv m24).get (bE j) (by omega);rw[aX]at a2;have Vg:=a6;obtain⟨D',rfl⟩:∃D',D=D'+1:=by
     cases D with
     | zero=>exact a6.elim
     | succ D'=>exact⟨D',rfl⟩
    obtain⟨xT,xU,tq,li,rfl,_⟩:=Vg;have ma:=pV a2;have hyz:pc y<=iP ks:=pX (bD a2);have hzt:=BX a2;refine⟨ad,a1,_,_,_,_,xT,xU,tq,li,_,a5,fun ED nB aus agk vH=>?_⟩;have z25:=vH.size;have agl:=Vk.o0 vH;have Hh:(ini++(mX xs bb.ini::(zY (ks.take j)).map fun c=>mX xs c.ini)).length=ini.length+1+eV (ks.take j):=by
     rw[aU,bp,bq,yr];omega
    have anf:(dft++(mX xs bb.dft::(zY (ks.take j)).map fun c=>mX xs c.dft)).length=dft.length+1+eV (ks.take j):=by
     rw[aU,bp,bq,yr];omega
    have RZ:(ro++(Ik xs ini.length 0 bb.mv++qM xs (ini.length+1) (ks.take j))).length<=ro.length+(F6 bb+iP (ks.take j)):=by
     have:=DM xs (ks.take j) (ini.length+1);rw[aU,aU,yt];omega
    refine(Wi hFo IG (D'+1) ((cN false (D'+1)).keep a6 fun k _ bX=>vH.block k bX (by simp)) hG agl (by omega) (by rw[Hh];omega) (by rw[Hh,anf];omega) (by omega)).mono ?_;rintro _ rb ⟨rfl,ti,td,tr,aaN,m26⟩;have z26:=m26.1.size;have aut:=agl.q3;have anh:=hq0 m24;refine⟨rfl,m26.1.same fun x hx=>?_,kv-1,by omega,j+1,ti,td,tr,by rw[gD (by omega) (by omega)];rfl,by omega,by omega,?_,(m24.cz vH).trans m26⟩
    ·simp only[aR,bf,bU]at hx;rcases hx with rfl | rfl
     ·exact⟨by omega,fun h=>h.elim (by omega) anh⟩
     ·exact⟨agk,fun h=>h.elim (by omega) fun h=>by have:=Vk.q3 _ h;omega⟩
    ·have e:ks.take (j+1)=ks.take j++[y]:=by rw[bI,a2];rfl
     rw[Hh]at aaN;rw[e,K1,zY,zY,bR,Gn,qM,qM,bR,da,da,<-bQ (Ik xs ini.length 0 bb.mv),<-bQ ro];rw[bQ,bQ,ck,ck]at aaN;exact aaN
   ·have pu:=aW pu;have qo:j=ks.length:=by omega
    subst qo;rw[bC (aY _)]at Vk;refine⟨rfl,qi,qd,qr,?_,xM.of0 cK m24⟩;rw[vu,Qq,bF,bF];exact Vk
end
structure PlR (w:ay) (F:aL) (s si sd sr:Sl) (p:Pl):Prop where
 sp:aD nq 5 w F s p.sp
 ini:aD rInt 1 w F si p.ini
 dft:aD rInt 1 w F sd p.dft
 ro:aD YL 7 w F sr p.ro
theorem PlR.o0{w w':ay}{F:aL}{s si sd sr:Sl}{p:Pl}(h:PlR w F s si sd sr p)(hO:aA [] w w'):PlR w' F s si sd sr p:=
 ⟨SliceF.only db (by decide) h.sp hO (by simp),SliceF.only bN (by decide) h.ini hO (by simp),SliceF.only bN (by decide) h.dft hO (by simp),SliceF.only ik (by decide) h.ro hO (by simp)⟩
theorem Qu{c:Ch}(h:(jl c).1=0):jl c=(0,0):=by
 obtain⟨h1,h2⟩:=ui h;unfold jl;rw[if_neg (fun e=>e h1),h2];rfl
theorem Qv{w:ay}{F:aL}{D:Nat}{c:Ch}{vs:Sl}{cs:aK}(hx:ChR false (D+1) w F c vs cs)(hn:U8 c)(hs:rj c.vars+pc c.root<=8388608)(hE:Er w)(hT:Tb w):
  aB au 19 #[aj (vs.v::cs).toArray] w fun e w'=>(∃s si sd sr:Sl,e=aq (ak #[aj #[s.v,si.v,sd.v,sr.v],aj #[O ae (jl c).1,O ae (jl c).2]])/\((jl c).1=0->PlR w' (fun k=>w.heap.size<=k) s si sd sr (dB c)))/\aA [] w w':=by
 obtain⟨en,lv,mv,kids,pe,_⟩:=hx.root;subst pe;refine(ajB vs c.root.b.k (T c.root.b.nm) (T c.root.b.ini) (T c.root.b.dft) en lv mv kids c.root.b.a (fun v w'=>(∃s si sd sr:Sl,v=ak #[aj #[s.v,si.v,sd.v,sr.v],aj #[O ae (jl c).1,O ae (jl c).2]]/\((jl c).1=0->PlR w' (fun k=>w.heap.size<=k) s si sd sr (dB c)))/\aA [] w w') w ?_).mono (by rintro _ w' ⟨v,rfl,⟨s,si,sd,sr,rfl,h⟩,h'⟩;exact⟨⟨s,si,sd,sr,rfl,h⟩,h'⟩);intro k0 k1 k2 w0 gU fi ke jH tF wM cK;have z0:=cK.size;have keep:∀{u:ay},aA [] w u->ChR false (D+1) u F c vs (om c.root.b.k c.root.b.nm c.root.b.ini c.root.b.dft en lv mv kids c.root.b.a):=fun hO=>⟨hx.vars.keep gq (by decide) fun k _ bX=>hO.block k bX (by simp),(cN false _).keep hx.root fun k _ bX=>hO.block k bX (by simp)⟩
 refine(Gf (keep cK) hn hs (hE.only cK) (hT.only cK)).mono ?_;rintro _ w1 ⟨rfl,cF⟩;have z1:=cF.size;have o1:=cK.cz cF;refine⟨_,_,rfl,cF.same (by simp;omega),fun hc k3 w2 yx wN dh n1 n2 n3 n4 n5 n6=>?_,fun hc k4 k5 w4 yy A7 Cp G3 dP=>?_⟩
 ·have hc:(jl c).1≠0:=by simpa using hc
  refine⟨fun k=>k=k3,rfl,fun h=>n5 h,fun h=>n6 h,fun w3 dx=>⟨⟨Sl.nil,Sl.nil,Sl.nil,Sl.nil,rfl,fun h=>absurd h hc⟩,(o1.cz dh).trans dx fun x hx=>.inr (by simp only[aR,bf,bU]at hx;omega)⟩⟩
 have hc:(jl c).1=0:=by simpa using hc
 have hp:=(ui hc).1;have hnd:=wk hp;have z4:=dP.size;have o4:=o1.cz dP;refine(Qa (keep o4) hn hs (hE.only o4) (hT.only o4)).mono ?_;rintro _ w5 ⟨⟨s,rfl,h1,_⟩,eE⟩;have hS:=h1 hp;have z5:=eE.size;have o5:=o4.cz eE;refine⟨s,_,rfl,eE.same (by simp;omega),fun w6 ez SF n1 n2 n3 n4=>?_⟩;have z6:=ez.size;have o6:aA [] w w6:=o5.trans ez fun x hx=>.inr (by simp only[aO]at hx;omega);have hr6:oY false (D+1) w6 (fun k=>k<w.heap.size) c.root (om c.root.b.k c.root.b.nm c.root.b.ini c.root.b.dft en lv mv kids c.root.b.a):=
  (cN false _).keep ((cN false _).mono ((cN false _).inHeap hx.root) fun k hk=>hk.2) fun k _ bX=>o6.block k bX (by simp)
 have xz:aD nq 5 w6 (fun k=>w4.heap.size<=k/\k<w5.heap.size) s (cX c):=SliceF.only db (by decide) ((SliceF.inHeap db (hS.slice db) (by decide)).mono db fun k hk=>⟨(hk.1.resolve_left id).1,hk.2⟩) ez fun k hk _ hm=>by simp only[aO]at hm;omega
 have noQ:∀k,¬Q3 Sl.nil Sl.nil Sl.nil k:=fun k hk=>by rcases hk with hk | hk | hk<;>cases hk
 have hLa:La w6 k5 (fun k=>w4.heap.size<=k/\k<w5.heap.size) s Sl.nil Sl.nil Sl.nil (cX c) [] [] []:=⟨SF,xz,fun k hk=>⟨by omega,by omega,noQ k⟩,Own.nil _ _ _ _ _ _,Own.nil _ _ _ _ _ _,Own.nil _ _ _ _ _ _,fun k h=>(by cases h),fun k h=>(by cases h)⟩
 have fu:(cX c).length=iO c.root:=by unfold cX;rw[lX]
 refine(Wi (Dy c) (by omega) (D+1) hr6 (fun k hk=>by omega) hLa (by omega) (by rw[cO];omega) rfl (by rw[cO];omega)).mono ?_;rintro _ w7 ⟨rfl,si,sd,sr,Ei,m7⟩;have z7:=m7.1.size;refine⟨rfl,m7.1.same fun x hx=>?_,s,si,sd,sr,Ei.blk,fun w8 gn uz=>⟨⟨s,si,sd,sr,by rw[Qu hc],fun _=>?_⟩,?_⟩⟩
 ·simp only[aR,bf,bU]at hx;refine⟨by omega,fun h=>h.elim (by omega) (noQ x)⟩
 ·have kp:∀k,k<w7.heap.size->k∉[k2,k1]->w8.heap[k]? =w7.heap[k]? :=fun k h1 h2=>gn.block k h1 h2;simp only[cr]at Ei;rw[show([]:List Int).length=0 from rfl]at Ei;refine⟨(Ei.sp.keep db (by decide) fun k hk bX=>kp k bX (by simp;omega)).mono db fun k hk=>by omega,((Ei.i.slice bN).keep bN (by decide) fun k hk bX=>kp k bX ?_).mono bN fun k hk=>?_,((Ei.d.slice bN).keep bN (by decide) fun k hk bX=>kp k bX ?_).mono bN fun k hk=>?_,((Ei.r.slice ik).keep ik (by decide) fun k hk bX=>kp k bX ?_).mono ik fun k hk=>?_⟩
  ·have:=hk.resolve_left id;simp;omega
  ·have:=hk.resolve_left id;omega
  ·have:=hk.resolve_left id;simp;omega
  ·have:=hk.resolve_left id;omega
  ·rcases hk with hk | hk
   ·have:=hk.1;simp;omega
   ·simp;omega
  ·rcases hk with hk | hk
   ·have:=hk.1;omega
   ·omega
 ·refine((o6.pd (m7.1.mono (G:=fun k=>w.heap.size<=k) fun k _ hk=>hk.elim (by omega) fun h=>absurd h (noQ k))).only fun k hk=>hk).trans gn fun x hx=>.inr (by simp only[aR,bf,bU]at hx;omega)
end
def kd(xs:List cM)(i:Int):Int:=((xs[i.toNat]?).map fun s:cM=>s.k).getD 0
theorem nX{xs:List cM}{i:Nat}{s:cM}(h:xs[i]? =some s):kd xs (i:Int)=s.k:=by
 unfold kd;rw[aX,h];rfl
def AJ(k:Int):Bool:=(k==1)||(k==2)
def cZ(xs:List cM)(n:Nat):List Int:=(eP xs n xs.length).filter fun k=>AJ (kd xs k)
structure Sd (xs:List cM):Prop where
 fo:Fo xs
 le:xs.length<=64
 kn:∀(i:Nat) (s:cM),xs[i]? =some s->1<=s.k/\s.k<=4
 rt:∃s,xs[0]? =some s/\s.k=1
 pr:∀(i:Nat) (s:cM),xs[i]? =some s->s.k=2->cZ xs i≠[]
theorem pZ{xs:List cM}{i n:Nat}{k:Int}:k∈eP xs i n↔∃(q:Nat) (t:cM),k=q/\q<n/\xs[q]? =some t/\t.pa=i:=by
 unfold eP;rw[cJ];constructor
 ·rintro⟨q,hq,rfl⟩;rw[dG,kX]at hq;have:=aP hq.2;cases hx:xs[q]? with
  | none=>rw[hx]at this;cases this
  | some t=>
   rw[hx]at this;injection this with this;exact⟨q,t,rfl,hq.1,hx,this⟩
 ·rintro⟨q,t,rfl,h1,h2,h3⟩;exact⟨q,by rw[dG,kX];exact⟨h1,bK (by rw[h2];exact bm some h3)⟩,rfl⟩
theorem kT{xs:List cM}{i:Nat}{k:Int}:k∈cZ xs i↔∃(q:Nat) (t:cM),k=q/\xs[q]? =some t/\t.pa=i/\AJ t.k=true:=by
 unfold cZ;rw[dG,pZ];constructor
 ·rintro⟨⟨q,t,rfl,_,h2,h3⟩,h4⟩;rw[nX h2]at h4;exact⟨q,t,rfl,h2,h3,h4⟩
 ·rintro⟨q,t,rfl,h2,h3,h4⟩;exact⟨⟨q,t,rfl,eZ h2,h2,h3⟩,by rw[nX h2];exact h4⟩
theorem ta(xs:List cM)(i:Nat):(cZ xs i).Pairwise (· <·):=(xd xs i xs.length).1.filter _
theorem zZ(xs:List cM)(i:Nat):(cZ xs i).length<=xs.length:=by
 unfold cZ;refine bh (cQ _ _) ?_;unfold eP;rw[bq];exact bh (cQ _ _) (by rw[fE];exact aY _)
theorem Aa:∀{l m:List Int},l.Pairwise (· <·)->m.Pairwise (· <·)->(∀x,x∈l↔x∈m)->l=m
 | [],[],_,_,_=>rfl
 | [],y::m,_,_,h=>absurd ((h y).2 (.head _)) (by simp)
 | x::l,[],_,_,h=>absurd ((h x).1 (.head _)) (by simp)
 | x::l,y::m,hl,hm,h=>by
  rw[fp]at hl hm;have hxy:x=y:=by
   have h1:=(h x).1 (.head _);have h2:=(h y).2 (.head _);rw[aR]at h1 h2;rcases h1 with h1 | h1
   ·exact h1
   rcases h2 with h2 | h2
   ·exact h2.symm
   have:=hl.1 y h2;have:=hm.1 x h1;omega
  subst hxy;rw[Aa hl.2 hm.2 fun z=>?_];have hz:=h z;rw[aR,aR]at hz;constructor
  ·intro Sw;rcases hz.1 (.inr Sw)with e | e
   ·subst e;exact absurd (hl.1 z Sw) (by omega)
   ·exact e
  ·intro Sw;rcases hz.2 (.inr Sw)with e | e
   ·subst e;exact absurd (hm.1 z Sw) (by omega)
   ·exact e
def Sp(n:Nat)(p:Nat->Bool):List Int:=((List.range n).filter p).map fun k:Nat=>(k:Int)
theorem DN(n:Nat)(p:Nat->Bool):(Sp n p).length<=n:=by
 unfold Sp;rw[bq];exact bh (cQ _ _) (by rw[fE];exact aY _)
theorem vv{n:Nat}{p:Nat->Bool}{x:Int}:x∈Sp n p↔∃k:Nat,x=k/\k<n/\p k=true:=by
 unfold Sp;rw[cJ];constructor
 ·rintro⟨k,hk,rfl⟩;rw[dG,kX]at hk;exact⟨k,rfl,hk⟩
 ·rintro⟨k,rfl,hk⟩;exact⟨k,by rw[dG,kX];exact hk,rfl⟩
theorem Gq(n:Nat)(p:Nat->Bool):(Sp n p).Pairwise (· <·):=by
 unfold Sp;rw[oE];refine List.Pairwise.imp (R:=(· <·)) (fun h=>by omega) ?_;exact List.Pairwise.filter _ List.pairwise_lt_range
def lvP(xs:List cM)(act:List Int)(n:Nat):Bool:=decide ((n:Int)∈act)&&(kd xs n==1)&&((cZ xs n).length==0)
def Im(xs:List cM)(act:List Int):List Int:=Sp xs.length (lvP xs act)
def YN(xs:List cM)(act:List Int)(n:Nat):Nat:=(cZ xs n).countP fun r=>decide (r∈act)
def xN(xs:List cM)(act:List Int)(n:Nat):Bool:=if kd xs n=2 then YN xs act n==(cZ xs n).length else YN xs act n==min 1 (cZ xs n).length
structure ank (xs:List cM) (act:List Int) (x:Int):Prop where
 ge:0<=x
 lt:x<xs.length
 st:AJ (kd xs x)=true
 up:x=0∨∀s,xs[x.toNat]? =some s->s.pa∈act
 on:xN xs act x.toNat=true
structure Lg (xs:List cM) (act:List Int):Prop where
 rt:(0:Int)∈act
 rise:act.Pairwise (· <·)
 at_:∀x,x∈act->ank xs act x
section
variable {xs:List cM}
theorem Sd.Iy(hF:Sd xs){n:Nat}{r:Int}(h:r∈cZ xs n):∃(q:Nat) (t:cM),r=q/\xs[q]? =some t/\t.pa=n/\AJ t.k=true/\n<q/\∀s,xs[n]? =some s->(q:Int)<s.en:=by
 obtain⟨q,t,h1,h2,h3,h4⟩:=kT.1 h;have h5:=hF.fo.Lu h2;refine⟨q,t,h1,h2,h3,h4,by omega,fun s hs=>?_⟩;obtain⟨p,s',g1,g2,g3,g4,g5,_⟩:=hF.fo.par h2 (by omega);have:p=n:=by omega
 subst this;rw[hs]at g3;injection g3 with g3;rw[g3];exact g5
theorem Sd.apart(hF:Sd xs){n q r:Nat}{s t:cM}(hq:xs[q]? =some s)(hr:xs[r]? =some t)(h1:s.pa=n)(h2:t.pa=n)(hqr:q<r):s.en<=r:=by
 have h5:=hF.fo.Lu hq;obtain⟨p,s',g1,g2,g3,g4,g5,g6⟩:=hF.fo.par hr (by omega);refine gw fun hh=>?_;have:=g6 q s hq hqr (by omega);omega
theorem BZ{α:Type}{f:α->List Int}{lo:α->Int}{hi:α->Int}:∀{rs:List α},rs.Pairwise (fun a b=>hi a<=lo b)->(∀r,r∈rs->(f r).Pairwise (· <·)/\∀x,x∈f r->lo r<=x/\x<hi r)->(rs.flatMap f).Pairwise (· <·)
 | [],_,_=>by simp
 | r::rs,hp,hr=>by
  rw[fp]at hp;rw[uA,Bb];refine⟨(hr r (.head _)).1,BZ hp.2 fun q hq=>hr q (.tail _ hq),fun x hx y hy=>?_⟩;obtain⟨q,hq,hy⟩:=eI.1 hy;have h1:=(hr r (.head _)).2 x hx;have h2:=(hr q (.tail _ hq)).2 y hy;have h3:=hp.1 q hq;omega
def Gs(xs:List cM)(r:Int):Int:=((xs[r.toNat]?).map fun s:cM=>s.en).getD 0
theorem nY{i:Nat}{s:cM}(h:xs[i]? =some s):Gs xs i=s.en:=by
 unfold Gs;rw[aX,h];rfl
theorem Sd.um(hF:Sd xs)(n:Nat){l:List Int}(hl:l.Pairwise (· <·))(hm:∀r,r∈l->r∈cZ xs n):l.Pairwise fun a b=>Gs xs a<=b:=by
 refine List.Pairwise.imp_of_mem (fun{a b} ha hb bX=>?_) hl;obtain⟨q,s,rfl,h2,h3,_⟩:=hF.Iy (hm a ha);obtain⟨r,t,rfl,g2,g3,_⟩:=hF.Iy (hm b hb);rw[nY h2];exact hF.apart h2 g2 h3 g3 (by omega)
theorem Gu:∀{l:List Int} {lo hi:Int},l.Pairwise (· <·)->(∀x,x∈l->lo<=x/\x<hi)->lo<=hi->(l.length:Int)<=hi-lo
 | [],lo,hi,_,_,h=>by simp;omega
 | a::l,lo,hi,hp,hm,h=>by
  rw[fp]at hp;have ha:=hm a (.head _);have:=Gu (lo:=a+1) (hi:=hi) hp.2 (fun x hx=>⟨by have:=hp.1 x hx;omega,(hm x (.tail _ hx)).2⟩) (by omega);rw[bp];omega
end
section
variable {B:Nat} {w w':ay} {s:Sl} {l d:List Int}
theorem dz.cells(h:dz B w s l){g:Nat}(ha:s.a=some ⟨g,0,none⟩):∃tail,B<=g/\aH w g 3 (l.map (Value.int ae)++tail)/\tail.length=s.c-s.n/\s.n=l.length/\s.n<=s.c/\s.c<=9223372036854775807/\∀x,x∈l->ry x:=by
 rcases h with⟨rfl,rfl⟩ | ⟨g',css,tail,h1,h2,h4,h5,h6,h7,h9,h8⟩
 ·cases ha
 ·rw[h1]at ha;injection ha with ha;injection ha with ha;subst ha;have LB:∀{l:List Int} {css:List (aK)},lm rInt 1 w (fun k=>False/\k≠g') l css->css.flatten=l.map (Value.int ae)/\∀x,x∈l->ry x:=by
   intro l css
   induction l generalizing css with
   | nil=>
    intro h;have:=h.len;cases css with
    | nil=>exact⟨rfl,fun x hx=>by cases hx⟩
    | cons c css=>cases this
   | cons a l ih=>
    intro h;cases css with
    | nil=>have:=h.len;cases this
    | cons c css=>
     have hh:=h;unfold lm at hh;obtain⟨⟨uu,pu,I3⟩,hr⟩:(c.length=1/\rInt w (fun k=>False/\k≠g') a c)/\lm rInt 1 w (fun k=>False/\k≠g') l css:=hh;obtain⟨e1,e2⟩:=ih hr;refine⟨by rw[dj,e1,pu];rfl,fun x hx=>?_⟩;rw[aR]at hx;rcases hx with rfl | hx
     ·exact I3
     ·exact e2 x hx
  obtain⟨e1,e2⟩:=LB h8;rw[e1]at h4;exact⟨tail,h2,h4,by omega,h6,h7,h9,e2⟩
theorem dz.mk{g:Nat}{tail:aK}(ha:s.a=some ⟨g,0,none⟩)(hB:B<=g)(hb:aH w g 3 (l.map (Value.int ae)++tail))(ht:tail.length=s.c-s.n)(hn:s.n=l.length)(hc:s.n<=s.c)(Rg:s.c<=9223372036854775807)(hi:∀x,x∈l->ry x):dz B w s l:=by
 refine .inr ⟨g,l.map fun x=>[Value.int ae x],tail,ha,hB,?_,by omega,hn,hc,Rg,?_⟩
 ·have:(l.map fun x=>[Value.int ae x]).flatten=l.map (Value.int ae):=by
   clear hb hn hi
   induction l with
   | nil=>rfl
   | cons a l ih=>rw[bF,dj,ih];rfl
  rw[this];exact hb
 ·clear hb hn
  induction l with
  | nil=>trivial
  | cons a l ih=>exact⟨⟨rfl,rfl,hi a (.head _)⟩,ih fun x hx=>hi x (.tail _ hx)⟩
theorem dz.Ws(h:dz B w s l):(s=Sl.nil/\l=[])∨∃g,s.a=some ⟨g,0,none⟩:=by
 rcases h with h | ⟨g,css,tail,h1,_⟩
 ·exact .inl h
 ·exact .inr ⟨g,h1⟩
theorem dz.ofRow{v:az}(h:w'.ownsRow B 3 1 v l.length (l.map (Value.int ae)))(hi:∀x,x∈l->ry x):∃s:Sl,v=s.v/\dz B w' s l:=by
 rcases h.2 with⟨rfl,hn⟩ | ⟨g,cap,cur,rfl,h1,h2,h3,h4,h5,h6⟩
 ·have:l=[]:=bO hn;subst this;exact⟨Sl.nil,rfl,Own.nil _ _ _ _ _ _⟩
 ·refine⟨⟨some ⟨g,0,none⟩,l.length,cap⟩,rfl,dz.mk (tail:=cur.toList.drop l.length) rfl h1 ?_ ?_ rfl h3 ?_ hi⟩
  ·rw[jP]at h6;rw[<-h6,dv];unfold aH;rw[h2]
  ·dsimp only;rw[cG,fe,h5];omega
  ·have:maxLen=9223372036854775807:=rfl;dsimp only;omega
end
theorem Ab{zs:List Int}{j:Nat}(h:j<zs.length):zs.toArray[j]! =zs[j]:=by
 rw[oy _ j (by simpa using h)];simp
theorem qb{zs:List Int}(h:zs.Pairwise (· <=·)):∀m,m<=zs.length->(Lib.compactUpTo zs.toArray m).Pairwise (· <·)/\∀x,x∈Lib.compactUpTo zs.toArray m↔∃j,j<m/\zs[j]? =some x
 | 0,_=>by
  refine⟨by simp[Lib.compactUpTo],fun x=>⟨fun hx=>by simp[Lib.compactUpTo]at hx,fun⟨j,hj,_⟩=>by omega⟩⟩
 | m+1,hm=>by
  obtain⟨h1,h2⟩:=qb h m (by omega);rw[Lib.compactUpTo_succ,Ab (by omega)];have Cs:m<zs.length:=by omega
  by_cases hk:Lib.keeps zs.toArray m=true
  ·rw[if_pos hk];refine⟨Bb.2 ⟨h1,by simp,fun p hp q hq=>?_⟩,fun x=>?_⟩
   ·simp only[aO]at hq;subst hq;obtain⟨j,hj,hjp⟩:=(h2 p).1 hp;rw[aV (by omega)]at hjp;injection hjp with hjp;have hk:=aP hk;rcases hk with hk | hk
    ·omega
    ·rw[Ab Cs,Ab (by omega)]at hk;have a1:=eU.1 h (m-1) m (by omega) Cs (by omega);by_cases hjm:j=m-1
     ·subst hjm;omega
     ·have a2:=eU.1 h j (m-1) (by omega) (by omega) (by omega);omega
   ·rw[ch,h2,aO];constructor
    ·rintro(⟨j,hj,hx⟩ | rfl)
     ·exact⟨j,by omega,hx⟩
     ·exact⟨m,by omega,aV Cs⟩
    ·rintro⟨j,hj,hx⟩;by_cases hjm:j=m
     ·subst hjm;rw[aV Cs]at hx;injection hx with hx;exact .inr hx.symm
     ·exact .inl ⟨j,by omega,hx⟩
  ·rw[if_neg hk,bR];refine⟨h1,fun x=>(h2 x).trans ⟨fun⟨j,hj,hx⟩=>⟨j,by omega,hx⟩,fun⟨j,hj,hx⟩=>?_⟩⟩;by_cases hjm:j=m
   ·subst hjm;have iv:¬(j=0∨zs.toArray[j]! ≠zs.toArray[j-1]!):=fun hh=>hk (bK hh);rw[Ab Cs]at iv;have h0:j≠0:=fun e=>iv (.inl e);have e:zs[j]=zs.toArray[j-1]! :=gw fun e=>iv (.inr e);rw[Ab (by omega)]at e;rw[aV Cs]at hx;injection hx with hx;exact⟨j-1,by omega,by rw[aV (by omega),<-e,hx]⟩
   ·exact⟨j,by omega,hx⟩
theorem qO{zs:List Int}(h:zs.Pairwise (· <=·)):(Lib.compact zs).Pairwise (· <·)/\∀x,x∈Lib.compact zs↔x∈zs:=by
 obtain⟨h1,h2⟩:=qb h zs.length (aY _);refine⟨h1,fun x=>(h2 x).trans ⟨fun⟨j,_,hx⟩=>bD hx,fun hx=>?_⟩⟩;obtain⟨j,hj⟩:=eT hx;exact⟨j,(aZ.1 hj).1,hj⟩
def Gv(l:List Int):List Int:=Lib.compact (l.mergeSort fun x y=>decide (x<=y))
theorem wq(l:List Int):(l.mergeSort fun x y=>decide (x<=y)).Pairwise (· <=·):=by
 have:=List.pairwise_mergeSort (le:=fun x y:Int=>decide (x<=y)) (fun a b c h1 h2=>by simp only[bL]at*;omega) (fun a b=>by simp only[cp,bL];omega) l;exact this.imp fun h=>by simpa using h
theorem MP(l:List Int):(Gv l).Pairwise (· <·):=(qO (wq l)).1
theorem Gw{l:List Int}{x:Int}:x∈Gv l↔x∈l:=by
 unfold Gv;rw[(qO (wq l)).2 x];exact(List.mergeSort_perm l _).mem_iff
theorem Qw:Gv []=[]:=jK.2 fun x hx=>by rw[Gw]at hx;cases hx
theorem Gx(zs:List Int):(Lib.compact zs).length<=zs.length:=by
 unfold Lib.compact Lib.compactUpTo;rw[bq];exact bh (cQ _ _) (by rw[fE];exact aY _)
section
variable {B:Nat} {w w':ay} {s:Sl} {l d:List Int}
theorem dz.cut(h:dz B w s l)(k:Nat)(hk:k<=l.length)(ha:s.a≠none):dz B w ⟨s.a,k,s.c⟩ (l.take k):=by
 rcases h.Ws with⟨rfl,_⟩ | ⟨g,hg⟩
 ·exact absurd rfl ha
 obtain⟨tail,h1,h2,h3,h4,h5,h6,h7⟩:=h.cells hg;refine dz.mk (tail:=(l.drop k).map (Value.int ae)++tail) hg h1 ?_ ?_ ?_ (by dsimp only;omega) h6 fun x hx=>h7 x (List.mem_of_mem_take hx)
 ·rw[<-bQ,<-da,dv];exact h2
 ·dsimp only;rw[aU,bq,cG];omega
 ·dsimp only;rw[dd];omega
theorem MQ{tail:aK}(hd:d.length=l.length):Sort.putCells (Value.int ae) 0 d.toArray ((l.map (Value.int ae)++tail).toArray)=(d.map (Value.int ae)++tail).toArray:=by
 apply Array.ext_getElem?;intro k;simp only[Sort.putCells,Array.getElem?_mapIdx,iM,eh];by_cases hk:k<d.length
 ·rw[bJ (by rw[bq];omega),bJ (by rw[bq];omega),bZ,bZ,aV (show k<l.length by omega),aV hk];simp only[dk];rw[if_pos ⟨bA _,by omega⟩,lQ,Ab hk]
 ·rw[cd (by rw[bq];omega),cd (by rw[bq];omega),bq,bq,hd];cases tail[k-l.length]? with
  | none=>rfl
  | some v=>
   simp only[dk];rw[if_neg (by omega)]
theorem dz.put(h:dz B w s l){g:Nat}(ha:s.a=some ⟨g,0,none⟩)(hd:d.length=l.length)(hi:∀x,x∈d->ry x)(n:Nat)(os:Array Obj):dz B (Sort.grow (Sort.putRow (Value.int ae) (Sort.ahead w n) g 0 d.toArray) os) s d/\aA [g] w (Sort.grow (Sort.putRow (Value.int ae) (Sort.ahead w n) g 0 d.toArray) os):=by
 obtain⟨tail,h1,h2,h3,h4,h5,h6,h7⟩:=h.cells ha;have bX:=h2.lt;refine⟨dz.mk (tail:=tail) ha h1 ?_ h3 (by omega) h5 h6 hi,rfl,rfl,rfl,by simp,fun k hk hn=>?_⟩
 ·unfold aH;rw[Sort.heap_grow_old _ _ (by simpa using bX)];show(w.heap.modify g _)[g]? =_;rw[gA,if_pos rfl];unfold aH at h2;rw[h2];show some (Sort.onCells _ _)=_;unfold Sort.onCells;dsimp only;rw[MQ hd]
 ·rw[Sort.heap_grow_old _ _ (by simpa using hk)];show(w.heap.modify g _)[k]? =_;rw[gA,if_neg fun e=>hn (by simp[e])]
theorem dz.holds(h:dz B w s l){g:Nat}(ha:s.a=some ⟨g,0,none⟩):Sort.Holds (Value.int ae) w g 0 l.toArray:=by
 obtain⟨tail,h1,h2,h3,h4,h5,h6,h7⟩:=h.cells ha;intro j hj;have hj:j<l.length:=by simpa using hj
 rw[Ab hj,bM];refine⟨?_,?_⟩
 ·rw[h2.cell,bJ (by rw[bq];omega),bZ,aV hj];rfl
 ·unfold World.frozen?;unfold aH at h2;dsimp only;rw[h2];simp
theorem Qx(h:dz B w s l)(hm:l.length<=1000000000):aB au 93 #[s.v] w fun e w'=>∃s':Sl,e=aq s'.v/\s'.a=s.a/\dz B w' s' (Gv l)/\aF (fun k=>s.a=some ⟨k,0,none⟩) w w':=by
 refine(aj5 s (fun v w'=>∃s':Sl,v=s'.v/\s'.a=s.a/\dz B w' s' (Gv l)/\aF (fun k=>s.a=some ⟨k,0,none⟩) w w') w ?_).mono (by rintro _ w' ⟨v,rfl,s',rfl,h⟩;exact⟨s',rfl,h⟩);rcases h.Ws with⟨rfl,rfl⟩ | ⟨g,hg⟩
 ·refine(Tryz.slices_Sort_int_none none 0 w).mono ?_;rintro _ u ⟨rfl,hu⟩;obtain rfl:w=u:=hu.symm;refine⟨rfl,(Tryz.slices_Compact_int_empty none 0 w).mono ?_⟩;rintro _ u ⟨rfl,hu⟩;obtain rfl:w=u:=hu.symm;exact⟨Sl.nil,rfl,Sl.nil,rfl,rfl,by rw[Qw];exact Own.nil _ _ _ _ _ _,OnlyP.refl _ _⟩
 ·obtain⟨tail,h1,h2,h3,h4,h5,h6,h7⟩:=h.cells hg;obtain⟨sa,sn,sc⟩:=s;dsimp only at hg h3 h4 h5 h6;subst hg h4;refine(Tryz.slices_Sort_int g 0 sc l w (h.holds rfl) h2.lt (by omega)).mono ?_;rintro _ w1 ⟨rfl,n,os,rfl⟩;have R0:=List.mergeSort_perm l fun x y=>decide (x<=y);have hli:∀x,x∈(l.mergeSort fun x y=>decide (x<=y))->ry x:=fun x hx=>h7 x (R0.mem_iff.1 hx);obtain⟨wP,cF⟩:=h.put (d:=l.mergeSort fun x y=>decide (x<=y)) rfl R0.length_eq hli n os;refine⟨rfl,?_⟩;have esr:Gv l=Lib.compact (l.mergeSort fun x y=>decide (x<=y)):=rfl;have Cs:=R0.length_eq;rw[esr];generalize hw1:Sort.grow _ os=w1 at*
  generalize hms:(l.mergeSort fun x y=>decide (x<=y))=ms at*
  have qf:=Gx ms;have agn:∀x,x∈Lib.compact ms->x∈ms:=fun x hx=>by
   have:=(qO (wq l)).2 x;rw[hms]at this;exact this.1 hx
  rw[<-Cs];refine(Tryz.slices_Compact_int g 0 sc ms w1 (wP.holds rfl) (by omega) (by omega)).mono ?_;rintro _ w2 ⟨rfl,q,rfl⟩;obtain⟨I5,dh⟩:=wP.put (d:=Lib.compact ms++List.replicate (ms.length-(Lib.compact ms).length) 0) rfl (by rw[aU,gC];omega) (fun x hx=>by
   rw[ch]at hx;rcases hx with hx | hx
   ·exact hli x (agn x hx)
   ·rw[(List.mem_replicate.1 hx).2];exact⟨by decide,by decide⟩) q #[]
  rw[Sort.grow_empty]at I5 dh;have Ej:=I5.cut (Lib.compact ms).length (by rw[aU];omega) (by simp);rw[List.take_left]at Ej;have t0:∀x,x∈[g]->(some (⟨g,0,none⟩:Addr)=some ⟨x,0,none⟩)∨w.heap.size<=x:=fun x hx=>by
   simp only[aO]at hx;subst hx;exact .inl rfl
  exact⟨⟨some ⟨g,0,none⟩,_,sc⟩,rfl,_,rfl,rfl,Ej,(cF.mem dh (by simp)).p t0⟩
theorem DP{F:aL}{sa:Sl}{act:List Int}(ha:aD rInt 1 w F sa act)(hm:act.length<=1000000000):aB au 48 #[sa.v] w fun e w'=>∃s:Sl,e=aq s.v/\dz w.heap.size w' s act/\aA [] w w':=by
 have hi:∀x,x∈act->ry x:=fun x hx=>by
  obtain⟨cs,h⟩:=ha.mem hx;exact h.2
 obtain⟨a,n,c⟩:=sa;have hl:=ha.len;dsimp only at hl;subst hl;cases a with
 | none=>
  have:=Xk ha rfl;subst this;refine(Tryz.slices_Clone_int_nil 0 c w).mono ?_;rintro _ u ⟨rfl,hu⟩;obtain rfl:w=u:=hu.symm;exact⟨Sl.nil,rfl,Own.nil _ _ _ _ _ _,Only.refl _ _⟩
 | some base=>
  by_cases h0:act=[]
  ·subst h0;refine(Tryz.slices_Clone_int_zero base c w).mono ?_;rintro _ w' ⟨v,rfl,h1,_,h2⟩;obtain⟨s,rfl,hs⟩:=dz.ofRow (l:=[]) h1 hi;exact⟨s,rfl,hs,Only.oa h2⟩
  ·have h0:0<act.length:=io.2 h0;obtain⟨aqA,cs,e1,_,fu,c0,_⟩:=ha.at_ 0 _ (aV h0);injection e1 with e1;subst e1;obtain⟨b,o,sp⟩:=base;have xz:sp=none:=by
    cases cs with
    | nil=>cases fu
    | cons v cs=>exact World.cell?_spot (c0 0 v rfl)
   subst xz;have G1:∀j,j<act.length->w.cell? ⟨b,o+j,none⟩=some (.int ae (act.getD j 0)):=fun j hj=>by
    obtain⟨base,cs,e1,_,_,c0,hc,_⟩:=ha.at_ j _ (aV hj);injection e1 with e1;subst e1 hc;have:=c0 0 _ rfl;rw[fV,fV]at this;rw[List.getD_eq_getElem?_getD,aV hj];simpa using this
   refine(Tryz.slices_Clone_int b o act.length c act w (aY _) (by omega) G1).mono ?_;rintro _ w' ⟨v,rfl,h1,_,h2⟩;rw[bC (aY _)]at h1;obtain⟨s,rfl,hs⟩:=dz.ofRow (l:=act) h1 hi;exact⟨s,rfl,hs,Only.oa h2⟩
end
structure ClI (w:ay) (S:aL) (Nk:FuncId) (cap:aK) (l:List Int) (p:Int->Bool):Prop where
 en:∀(args:Array az) (w:ay),(callFunc Nk args).run au w=.ok (.enter Nk args) w
 call:∀x,x∈l->∀u,aF S w u->aB au Nk ((O ae x::cap):aK).toArray u fun e u'=>e=aq (ao (p x))/\aA [] u u'
section
variable {w:ay} {s:Sl} {l:List Int} {B Nk:Nat} {cap:aK} {p:Int->Bool}
theorem Qy{S F:aL}(hs:aD rInt 1 w F s l)(hl:l.length<=2000000)(hF:∀k,F k->S k)(hc:ClI w (fun _=>False) Nk cap l p){f:OV}(hf:f.v=.func (.func Nk) #[] cap.toArray):
  aB au 91 #[s.v,f.v] w fun e w'=>(∃i:Int,e=aq (O ae i)/\((i= -1/\∀x,x∈l->p x=false)∨∃n:Nat,i=(n:Int)/\n<l.length/\(l.take n).filter (fun x=>!p x)=l.take n/\∀x,l[n]? =some x->p x=true))/\aA [] w w':=by
 refine(O4 s f (fun v w'=>(∃i:Int,v=O ae i/\((i= -1/\∀x,x∈l->p x=false)∨∃n:Nat,i=(n:Int)/\n<l.length/\(l.take n).filter (fun x=>!p x)=l.take n/\∀x,l[n]? =some x->p x=true))/\aA [] w w') w ?_).mono (by rintro _ w' ⟨v,rfl,⟨i,rfl,h⟩,h'⟩;exact⟨⟨i,rfl,h⟩,h'⟩);have hn:=hs.len;refine⟨fun kv i u=>∃j:Nat,i=(j:Int)/\kv+j=l.length/\j<=l.length/\(∀x,x∈l.take j->p x=false)/\aA [] w u,l.length,⟨0,rfl,by omega,bA _,by simp,Only.refl _ _⟩,?_⟩;rintro kv _ u ⟨j,rfl,tX,hj,hp,hO⟩;refine⟨fun hcc=>?_,fun hcc=>?_⟩
 ·have hcc:=aP hcc;have ja:j<l.length:=by omega
  obtain⟨ad,a1,a2⟩:=iQ (kI hs hO) (aV ja);refine⟨ad,a1,_,a2,Nk,[],cap,hf,hc.en,(hc.call _ (eJ ja) u hO.p0).mono ?_⟩;rintro _ u' ⟨rfl,hO'⟩;have og:l.take (j+1)=l.take j++[l[j]]:=by rw[bI,aV ja];rfl
  refine⟨_,rfl,fun ht=>⟨⟨_,rfl,.inr ⟨j,rfl,ja,?_,fun x hx=>?_⟩⟩,hO.cz hO'⟩,fun hf=>⟨kv-1,by omega,j+1,by rw[gD (by omega) (by omega)];rfl,by omega,by omega,fun x hx=>?_,hO.cz hO'⟩⟩
  ·rw[Es];intro x hx;rw[hp x hx];rfl
  ·rw[aV ja]at hx;injection hx with hx;rw[<-hx];exact ht
  ·rw[og,ch,aO]at hx;rcases hx with hx | rfl
   ·exact hp x hx
   ·exact hf
 ·have hcc:=aW hcc;rw[bC (by omega)]at hp;exact⟨⟨-1,rfl,.inl ⟨rfl,hp⟩⟩,hO⟩
theorem tf(hs:dz B w s l)(hl:l.length<=2000000)(hc:ClI w (fun k=>s.a=some ⟨k,0,none⟩) Nk cap l p){f:OV}(hf:f.v=.func (.func Nk) #[] cap.toArray):
  aB au 49 #[s.v,f.v] w fun e w'=>∃s':Sl,e=aq s'.v/\s'.a=s.a/\s'.c=s.c/\dz B w' s' (l.filter fun x=>!p x)/\aF (fun k=>s.a=some ⟨k,0,none⟩) w w':=by
 refine(adB s f (fun v w'=>∃s':Sl,v=s'.v/\s'.a=s.a/\s'.c=s.c/\dz B w' s' (l.filter fun x=>!p x)/\aF (fun k=>s.a=some ⟨k,0,none⟩) w w') w ?_).mono (by rintro _ w' ⟨v,rfl,s',rfl,h⟩;exact⟨s',rfl,h⟩);have hn:=hs.len;have mJ:=hs.cap;refine(Qy (S:=fun _=>True) hs.sl hl (fun _ _=>trivial) ⟨hc.en,fun x hx u hO=>hc.call x hx u (hO.mono fun k _ h=>h.elim)⟩ hf).mono ?_;rintro _ w1 ⟨⟨i,rfl,hi⟩,cF⟩;have ux:dz B w1 s l:=hs.keep bN fun k _ bX=>cF.block k bX (by simp);refine⟨i,rfl,fun h1=>?_,fun h1=>?_⟩
 ·have h1:i= -1:=by simpa using h1
  rcases hi with⟨_,hi⟩ | ⟨n,rfl,_⟩
  ·have:l.filter (fun x=>!p x)=l:=by
    rw[Es];intro x hx;rw[hi x hx];rfl
   rw[this];exact⟨s,rfl,rfl,rfl,ux,cF.p0⟩
  ·omega
 ·have h1:i≠ -1:=by simpa using h1
  rcases hi with⟨hi,_⟩ | ⟨n,rfl,W0,hft,hpn⟩
  ·exact absurd hi h1
  rw[gD (x:=(n:Int)+1) (by omega) (by omega)];refine⟨fun kv i j u=>∃(a b:Nat) (ys:List Int),i=(a:Int)/\j=(b:Int)/\a<b/\b<=l.length/\kv=l.length-b/\ys.length=l.length/\ys.take a=(l.take b).filter (fun x=>!p x)/\ys.drop b=l.drop b/\dz B u s ys/\aF (fun k=>s.a=some ⟨k,0,none⟩) w u,l.length-(n+1),⟨n,n+1,l,rfl,by omega,by omega,by omega,rfl,rfl,?_,rfl,ux,cF.p0⟩,?_⟩
  ·have:l.take (n+1)=l.take n++[l[n]]:=by rw[bI,aV W0];rfl
   rw[this,fm,hft];simp[hpn _ (aV W0)]
  ·rintro kv _ _ w2 ⟨a,b,ys,rfl,rfl,hab,Ck,rfl,M6,hya,hyb,mM,dh⟩;refine⟨fun pu=>?_,fun pu=>?_⟩
   ·have pu:(b:Int)<s.n:=aP pu;have kc:b<l.length:=by omega
    rw[gD (x:=(b:Int)+1) (by omega) (by omega)];have agp:ys[b]? =some l[b]:=by
     have:=bm List.head? hyb;rw[List.head?_drop,List.head?_drop,aV kc]at this;exact this
    have og:l.take (b+1)=l.take b++[l[b]]:=by rw[bI,aV kc];rfl
    have hdr:ys.drop (b+1)=l.drop (b+1):=by
     have:=bm (List.drop 1) hyb;simpa[oA]using this
    obtain⟨ad,a1,a2⟩:=iQ mM.sl agp;obtain⟨cs,hin⟩:=mM.sl.mem (bD agp);refine⟨fun i1 u=>∃(a':Nat) (ys':List Int),i1=(a':Int)/\a'<b+1/\ys'.length=l.length/\ys'.take a'=(l.take (b+1)).filter (fun x=>!p x)/\ys'.drop (b+1)=l.drop (b+1)/\dz B u s ys'/\aF (fun k=>s.a=some ⟨k,0,none⟩) w u,?_,ad,a1,_,a2,Nk,[],cap,hf,hc.en,(hc.call _ (eJ kc) w2 dh).mono ?_⟩
    ·rintro _ w3 ⟨a',ys',rfl,q1,q2,q3,q4,q5,q6⟩;exact⟨l.length-(b+1),by omega,a',b+1,ys',rfl,by omega,q1,by omega,rfl,q2,q3,q4,q5,q6⟩
    ·rintro _ w5 ⟨rfl,eE⟩;have W7:dz B w5 s ys:=mM.keep bN fun k _ bX=>eE.block k bX (by simp);have ZN:=dh.cz eE;refine⟨_,rfl,fun IJ=>?_,fun IJ=>?_⟩
     ·have IJ:p l[b]=false:=by simpa using IJ
      obtain⟨g,cells,p1,p2,p3,p4,p5⟩:=Own.store (x:=l[b]) (n:=a) (vs:=[O ae l[b]]) (G:=fun _=>False) bN W7 (by omega) rfl ⟨rfl,hin.2⟩ (fun k hk _=>hk.elim) (by decide);refine⟨_,p2,g,a*1,cells,_,rfl,p3,p4,fun w6 ez hb6=>?_⟩;rw[gD (x:=(a:Int)+1) (by omega) (by omega)];refine⟨a+1,ys.set a l[b],by omega,by omega,by rw[ii];exact M6,?_,?_,p5 w6 ez hb6,ZN.trans (ez.p (F:=fun k=>s.a=some ⟨k,0,none⟩) fun k hk=>.inl (by simp only[aO]at hk;rw[hk];exact p1)) fun k hk=>.inl hk⟩
      ·rw[bI,Eo (aY _),hya,oz (by omega),og,fm];simp[IJ]
      ·rw[Ep (by omega)];exact hdr
     ·have IJ:p l[b]=true:=by simpa using IJ
      refine⟨a,ys,rfl,by omega,M6,?_,hdr,W7,ZN⟩;rw[og,fm,hya];simp[IJ]
   ·have pu:¬(b:Int)<s.n:=aW pu;have Rj:b=l.length:=by omega
    subst Rj;rw[bC (aY _)]at hya;obtain⟨w3,g,k1,k2,k3,k4⟩:=Own.clear (P:=au) (t:=32) (ty:=0) (i:=a) bN (by decide) (by kernel_rfl) (fun w=>Tryz.zeroValue3 w) (by intro v hv;simp[Value.cells]at hv;rcases hv with rfl<;>rfl) rfl mM (by omega);refine⟨a,⟨rfl,by omega,mJ⟩,w3,k1,a,⟨rfl,by omega⟩,_,rfl,?_,?_,by rw[<-hya];exact k4,dh.trans (k3.p (F:=fun k=>s.a=some ⟨k,0,none⟩) fun k hk=>.inl (by simp only[aO]at hk;rw[hk];exact k2)) fun k hk=>.inl hk⟩
    ·simp only[Sl.cut];split
     ·rfl
     ·rw[k2];rfl
    ·exact lQ _
end
end Go.Proofs.YtbkjcdocjfknfaaGreatDoor.Con
