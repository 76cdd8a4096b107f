import Derived.Test.YtbkjcdocjfknfaaGreatDoorQc11
set_option linter.unusedSectionVars false
namespace Go.Kt
open Go renaming World->av,Value->aw
open Go Go.RowKit Go.ChangeShapes Go.WideShapes
set_option linter.unusedSimpArgs false
set_option linter.unusedVariables false
def nr{α β:Type}(r:Rp α)(q:Rp β):Rp (α×β):=fun w F x cs=>∃c d,cs=c++d/\r w F x.1 c/\q w F x.2 d
def RY:Rp Unit:=fun _ _ _ cs=>cs=[]
def rBool:Rp Bool:=fun _ _ b cs=>cs=[.bool b]
theorem jC:rBool.Ok where
 keep h _:=h
 inHeap h:=h
 mono h _:=h
 one h v hv:=by
  rw[show _=[Value.bool _]from h]at hv;simp at hv;subst hv;rfl
section
variable {H:Type} {enc:TypeId×aw->H} {P:Program}
theorem uw(hl:laidOutB P=true){W W'}{sp}(hb:Below W.heap.size W W'):∀{ts:List TypeId} {vs:List aw} {ds:List _} {ps:List MemPlace},
  (∀t,t∈ts->P.readableRec t=true/\t<P.types.size)->DataW.TrodAll enc P W 0 (fun _=>true) true ts vs ds ps->(∀x,x∈ps->x.block<W.heap.size)->(∀x,x∈ps->sp x.block=true)->DataW.TrodAll enc P W' 0 sp true ts vs ds ps
 | [],vs,ds,ps,_,h,_,_=>by
  obtain⟨rfl,rfl,rfl⟩:=trodAll_nil h;exact trodAll_mk0
 | t::ts,vs,ds,ps,hr,h,bS,Fg=>by
  obtain⟨v,vs',d,ds',p,q,rfl,rfl,rfl,h1,h2⟩:=trodAll_cons h;obtain⟨r1,r2⟩:=hr t (by simp);exact trodAll_cons_mk (WideElems.Trod_stays hl r1 r2 h1 (fun x hx=>hb.same (bS x (by simp[hx]))) fun x hx=>Fg x (by simp[hx]))
   (uw hl hb (fun u hu=>hr u (by simp[hu])) h2 (fun x hx=>bS x (by simp[hx])) fun x hx=>Fg x (by simp[hx]))
theorem law_post{f}{s:ChangeSpec}{fresh handsOn again}{W W'}{args}{ds gs}{before}{tb}
  (hW:DataW.Whole enc P f.params.toList s.vars false W args.toList ds gs before) (hv:s.vars=[])
  (acj:(s.fn H (ds++gs)).results=[.lit (.bool true)]) (hargs:(s.fn H (ds++gs)).args=ds) (yj:(s.fn H (ds++gs)).vars=[])
  (ht:f.resultTypes=#[tb]) (hu:P.underlying tb=some .bool) (hl:laidOutB P=true) (acS:(f.params.toList.all fun t=>P.readableRec t&&decide (t<P.types.size))=true) (hO:Only [] W W'):
  s.post enc P f false fresh handsOn again W args (.bool true) W':=by
 have hb:=hO.below (aX _) (by simp);have bS:=fun p hp=>hW.lt p hp;obtain⟨p,q,hA,hV,rfl,hz,hn⟩:=id hW;rw[hv]at hV;obtain⟨rfl,rfl⟩:=trodVars_none hV;rw[bQ]at*
 have W4:∀sp,_->DataW.TrodAll enc P W' 0 sp true f.params.toList args.toList (s.fn H ds).args p:=fun sp Fg=>by
  rw[hargs];exact uw hl hb (fun t ht=>by simpa using dY.1 acS t ht) hA (fun x hx=>by simpa using bS x hx) Fg
 have hV':∀sp,DataW.TrodVars enc P W' sp s.vars (s.fn H ds).vars []:=fun sp=>by
  rw[hv,yj];simp[DataW.TrodVars]
 have Ze:∀b sp hd,DataW.TrodAll enc P W' b sp hd f.resultTypes.toList ((Value.bool true).resultList f.resultTypes.size) (s.fn H ds).results []:=fun b sp hd=>by
  rw[acj,ht];exact trodAll_cons_mk (shut_bool hu true) trodAll_mk0
 have hold:∀x∈p,(fun b=>decide _) x.block=true:=fun x hx=>by simpa using bS x hx
 refine⟨ds,[],p,[],p,[],hW,by simpa using Ze _ _ _,by simpa using W4 _ hold,by simpa using hV' _,World.keptBut_mono (fun x hx=>⟨hx,by simpa using hx⟩) (hb.frame _),fun _=>?_⟩;refine⟨ok_one ht rfl (okWide_bool_mk hu true),_,_,_++[],⟨[]++p,[],trodAll_append (W4 _ (fun _ _=>rfl)) (Ze _ _ _),hV' _,rfl,?_,?_⟩,?_⟩
 ·intro b off hp;have hp:=by simpa using hp
  rw[hb.frozen (p:=_) (bS _ hp)];exact hz b off hp
 ·intro ha;cases ha
 ·intro x hp _;simpa using hp
variable {W:av} {base:Nat} {spare:Nat->Bool} {held:Bool} {α:Type}
def CI(enc:TypeId×aw->H)(P:Program)(W:av)(base:Nat)(spare:Nat->Bool)(held:Bool)(t:TypeId)(r:Rp α):Prop:=
 ∀eY cs x,DataW.trod enc P W base spare held eY t cs=some x->(∀n,n∈x.1.weights P t->n<=reachBytes)->∃a,r W (fun _=>True) a cs
theorem gw{t}(ht:P.underlying t=some (.int .i64)):CI enc P W base spare held t fz:=fun eY cs x h _=>by
 obtain⟨n,rfl,rfl,hw⟩:=DataW.trod_int ht h;refine⟨n,rfl,?_⟩;simpa[Lit.wf,IntKind.min,IntKind.max,IntKind.signed,IntKind.bits,rS]using hw
def rSl(r:Rp α)(size bytes:Nat):Rp (List α):=fun w F xs cs=>∃s,cs=[s.v]/\SliceF r size w F s xs/\xs.length*bytes<=140737488351232
theorem sU{e}:∀{l:List _} {d:DataW H},d∈l->∀n,n∈d.weights P e->n∈DataW.weightsAll P e l
 | d0::l,d,hd,n,hn=>by
  simp[DataW.weightsAll,bR];rcases aU.1 hd with rfl | hd
  ·exact .inl hn
  ·exact .inr (sU hd n hn)
 | [],d,hd,_,_=>by simp at hd
theorem xY{β:Type}{p:Nat->β->Prop}:∀n,(∀i,i<n->∃b,p i b)->∃l:List β,l.length=n/\∀i b,l[i]? =some b->p i b
 | 0,_=>⟨[],rfl,fun i b h=>by simp at h⟩
 | n+1,h=>by
  obtain⟨l,h1,h2⟩:=xY n fun i hi=>h i (by omega);obtain⟨b,hb⟩:=h n (by omega);refine⟨l++[b],by simp[h1],fun i c hc=>?_⟩;by_cases hi:i<l.length
  ·rw[bK hi]at hc;exact h2 i c hc
  ·have:i=n:=by
    have:=(aV.1 hc).1;simp at this;omega
   subst this;simp[h1]at hc;rw[<-hc];exact hb
theorem CI.map{β}{t}{r}{q}(h:CI enc P W base spare held t r)(f:α->β)(hf:∀a cs,r W (fun _=>True) a cs->q W (fun _=>True) (f a) cs):CI enc P W base spare held t q:=fun eY cs x hx hw=>by
 obtain⟨a,ha⟩:=h eY cs x hx hw;exact⟨f a,hf a cs ha⟩
theorem opens_bool{t}(ht:P.underlying t=some .bool):CI enc P W base spare held t rBool:=fun eY cs x h _=>by
 obtain⟨b,rfl,rfl⟩:=DataW.trod_bool ht h;exact⟨b,rfl⟩
theorem weights_of{ts}{ds}(h:(DataW.weightsEach P ts ds).all (· <=reachBytes)=true)(j:Nat){t}{d:DataW H}(ht:ts[j]? =some t)(hd:ds[j]? =some d):∀n,n∈d.weights P t->n<=reachBytes:=
 fun n hn=>by simpa using dY.1 h n (DataW.weights_mem_each ht hd n hn)
end
structure IsBulk {H:Type} (B:DataW H->Nat):Prop where
 one:∀d,1<=B d
 sl:∀e s,(e.map B).sum+1<=B (.slice e s)
 str:∀b,b.length+1<=B (.lit (.string b))
 agg:∀p,(p.map B).sum+1<=B (.agg p)
 ptr:∀d,B d+1<=B (.ptr d)
 iface:∀t d,B d+1<=B (.iface t d)
section
variable {H:Type} {enc:TypeId×aw->H} {P:Program} {W:av} {base:Nat} {spare:Nat->Bool} {held:Bool} {α β:Type} {B:DataW H->Nat}
def RZ:Rp ByteArray:=fun _ _ s cs=>cs=[.string s]/\s.size<=140737488351232
def iL(B:DataW H->Nat)(enc:TypeId×aw->H)(P:Program)(W:av)(base:Nat)(spare:Nat->Bool)(held:Bool)(t:TypeId)(r:Rp α)(m:α->Nat):Prop:=
 ∀eY cs x,DataW.trod enc P W base spare held eY t cs=some x->(∀n,n∈x.1.weights P t->n<=reachBytes)->∃a,r W (fun _=>True) a cs/\m a<=B x.1
theorem opensB_of(hB:IsBulk B){t}{r:Rp α}(h:CI enc P W base spare held t r):iL B enc P W base spare held t r fun _=>1:=fun eY cs x hx hw=>by
 obtain⟨a,ha⟩:=h eY cs x hx hw;exact⟨a,ha,hB.one _⟩
theorem jD(hB:IsBulk B){t}(ht:P.underlying t=some .string):iL B enc P W base spare held t RZ fun s=>s.size+1:=fun eY cs x h hw=>by
 obtain⟨s,rfl,rfl,hs⟩:=DataW.trod_string ht h;have h1:=hw _ (by simp;exact dT);have e:s.data.toList.length=s.size:=rfl;simp[e,reachBytes]at h1;refine⟨s,⟨rfl,?_⟩,?_⟩
 ·omega
 ·have:=hB.str s.data.toList;exact this
theorem R0{p}{g:Nat->Nat}:∀{l:List α} {o:Nat},(∀i b,l[i]? =some b->p b<=g (o+i))->(l.map p).sum<=((List.range l.length).map fun i=>g (o+i)).sum
 | [],_,_=>by simp
 | a::l,o,h=>by
  rw[bf,List.range_succ_eq_map,bD,bD,cp,cp,gD];have ih:=R0 (p:=p) (g:=g) (l:=l) (o:=o+1) fun i b hb=>by
   have:=h (i+1) b hb;rw[show o+1+i=o+(i+1) by omega];exact this
  refine jR (h 0 a rfl) (bp ih (KH ?_));congr 1;refine mw fun i _=>?_;congr 1;omega
theorem opensB_slice(hB:IsBulk B){t e}{r:Rp α}{m}{size}(ht:P.underlying t=some (.slice e))(hs:P.cellsOf e=size){bytes}(hb:P.bytesOf e=bytes)(he:iL B enc P W base spare held e r m):
  iL B enc P W base spare held t (rSl r size bytes) fun xs=>(xs.map m).sum+1:=fun eY cs x h hw=>by
 subst hs;rcases Deep.open_slice ht h with⟨rfl,rfl⟩ | ⟨a,len,cap,mm,n,D,Pl,rfl,_,hl,hm,hmm,rfl,hel⟩
 ·exact⟨[],⟨Sl.nil,rfl,SliceF.nil _ _ _ _,by simp⟩,hB.one _⟩
 ·have hlm:len<=mm:=by rw[hmm];split<;>omega
  have hex:∀i,i<len->∃b,(∃EY,EY.length=P.cellsOf e/\Cells W _ EY/\r W _ b EY)/\m b<=B _:=fun i hi=>by
   obtain⟨EY,g1,g2⟩:=hel i (by omega);obtain⟨_,g3,g4⟩:=World.cells?_some g1;obtain⟨b,g5,g6⟩:=he n EY _ g2 fun k hk=>hw k (by
    simp[DataW.weights,ht,aU,bR];exact .inr (.inl (sU (eE.2 ⟨i,fG.2 hi,rfl⟩) k hk)))
   refine⟨b,⟨EY,g3,fun j v hj=>?_,g5⟩,g6⟩;rw[g4 j (by have:=(aV.1 hj).1;omega)];exact hj
  obtain⟨l,h1,h2⟩:=xY len hex;refine⟨l,⟨⟨some a,len,cap⟩,rfl,⟨h1.symm,hl,fun h=>(by cases h),hm,fun j x hj=>?_⟩,?_⟩,?_⟩
  ·obtain⟨⟨EY,g1,g2,g3⟩,_⟩:=h2 j x hj;exact⟨a,EY,rfl,trivial,g1,g2,g3⟩
  ·have:=hw _ (by simp only[DataW.weights,ht];exact dT);rw[hb]at this;simp[bm,gZ,reachBytes]at this;rw[h1];have h3:len*bytes<=(len+(mm-len))*bytes:=jo _ (by omega);omega
  ·refine bp (O5 ?_) (hB.sl _ ((List.range _).map fun j=>D _));have h4:=R0 (p:=m) (g:=fun i=>B _) (l:=l) (o:=0) fun i b hb=>by
    rw[bO];exact(h2 i b hb).2
   rw[h1]at h4;simpa[Function.comp_def]using h4
def Ei(B:DataW H->Nat)(enc:TypeId×aw->H)(P:Program)(W:av)(base:Nat)(spare:Nat->Bool)(held:Bool)(T off:Nat)(fs:List Field)(r:Rp α)(m:α->Nat):Prop:=
 ∀n (cs:List aw) (xs:List _),cs.length=T->xs.length=fs.length->
  (∀(i:Nat) f,fs[i]? =some f->DataW.trod enc P W base spare held n f.type ((cs.drop f.offset).take (P.cellsOf f.type))=xs[i]?)->
  (∀(i:Nat) f x,fs[i]? =some f->xs[i]? =some x->∀k,k∈x.1.weights P f.type->k<=reachBytes)->∃a,r W (fun _=>True) a (cs.drop off)/\m a<=(xs.map fun x=>B x.1).sum
theorem tN{T off}(h:T=off):Ei B enc P W base spare held T off [] RY fun _=>0:=fun n cs xs hl _ _ _=>⟨(),by
 exact oA (by omega),bh _⟩
theorem dD{T off s}{f}{fs}{r:Rp α}{q:Rp β}{m}{m'}(ho:f.offset=off)(hs:P.cellsOf f.type=s)(hr:iL B enc P W base spare held f.type r m)(hq:Ei B enc P W base spare held T (off+s) fs q m'):
  Ei B enc P W base spare held T off (f::fs) (nr r q) fun x=>m x.1+m' x.2:=fun n cs xs hl hx hf hw=>by
 cases xs with
 | nil=>simp at hx
 | cons x xs=>
  have h0:=hf 0 f rfl;rw[ho,hs]at h0;obtain⟨a,ha,E3⟩:=hr n _ x h0 (hw 0 f x rfl rfl);obtain⟨b,hb,j9⟩:=hq n cs xs hl (by simpa using hx) (fun i g hg=>hf (i+1) g hg) (fun i g y hg hy=>hw (i+1) g y hg hy);exact⟨(a,b),⟨_,_,by rw[<-oE,cZ],ha,hb⟩,jR E3 j9⟩
theorem jf(hB:IsBulk B){t}{fs}{T}{r:Rp α}{m}(ht:P.underlying t=some (.struct fs))(hT:P.cellsOf t=T)(hF:Ei B enc P W base spare held T 0 fs.toList r m):iL B enc P W base spare held t r fun x=>m x+1:=fun eY cs x h hw=>by
 obtain⟨xs,n,rfl,rfl,hl,yH,hf⟩:=DataW.trod_struct ht h;obtain⟨a,ha,E3⟩:=hF n cs xs (by omega) (by simpa using yH) (fun i f hi=>hf i f (by simpa using hi)) (fun i f x hi hx k hk=>hw k (by
  simp[DataW.weights,ht];refine DataW.weights_mem_each (j:=i) ?_ (by rw[ch,hx];rfl) k hk;simp only[Array.toList_map,ch,hi];rfl))
 refine⟨a,by simpa using ha,bp (O5 E3) ?_⟩;have:=hB.agg (xs.map (·.1));rwa[gD]at this
theorem iL.map{t}{r}{q}{m}{m'}(h:iL B enc P W base spare held t r m)(f:α->β)(hf:∀a cs,r W (fun _=>True) a cs->q W (fun _=>True) (f a) cs/\m' (f a)<=m a):iL B enc P W base spare held t q m':=fun eY cs x hx hw=>by
 obtain⟨a,ha,E3⟩:=h eY cs x hx hw;obtain⟨h1,h2⟩:=hf a cs ha;exact⟨f a,h1,bp h2 E3⟩
theorem argB_slice{t e}{r}{m}{size bytes}{b0}{v}{d}{p}(ht:P.underlying t=some (.slice e))(oe:Value.okWide P W .any b0 t v)(h:DataW.Trod enc P W base spare held t v d p)
  (E8:iL B enc P W base spare held t (rSl r size bytes) m) (hw:∀n,n∈d.weights P t->n<=reachBytes):∃(s:Sl) (xs:List α),v=s.v/\SliceF r size W (fun _=>True) s xs/\m xs<=B d:=by
 obtain⟨a0,apk,apl,rfl⟩:=okWide_slice ht oe;obtain⟨eY,hf⟩:=h;obtain⟨xs,⟨s,h1,h2,h3⟩,h4⟩:=E8 eY _ _ hf hw;have h1:[Value.slice a0 apk apl]=[s.v]:=h1;simp only[rN,and_true]at h1;exact⟨s,xs,h1,h2,h4⟩
theorem argB_struct{t}{fs}{r}{m}{b0}{v}{d}{p}(ht:P.underlying t=some (.struct fs))(oe:Value.okWide P W .any b0 t v)(h:DataW.Trod enc P W base spare held t v d p)
  (E8:iL B enc P W base spare held t r m) (hw:∀n,n∈d.weights P t->n<=reachBytes):∃(a:α) (cs:List aw),v=.agg cs.toArray/\r W (fun _=>True) a cs/\m a<=B d:=by
 obtain⟨cs,rfl,_⟩:=okWide_struct ht oe;obtain⟨eY,hf⟩:=h;obtain⟨a,ha,E3⟩:=E8 eY _ _ hf hw;exact⟨a,cs.toList,by simp,ha,E3⟩
theorem sum_one:∀l:List α,(l.map fun _=>1).sum=l.length
 | []=>rfl
 | _::l=>by rw[bD,cp,sum_one l,bf];omega
end
end Go.Kt
namespace Go.Proofs.YtbkjcdocjfknfaaGreatDoor.Con
open Go.Value renaming int->O,string->ab,pointer->ae,agg->ah,tuple->ai,bool->aj
open Go.IntKind renaming i64->U,wrap->ar
open Go.Ending renaming returned->ak
open _root_.ByteArray renaming mk->ao
open _root_.Go.Proofs.Tryz renaming prog->aq
open Go.Instr renaming buildSlice->au
open Go renaming World->av,Value->aw,Calls->az
open Go.Kt renaming Only->ay,SliceF->aA,Cells->aB,OnlyP->aD,Blk->aF
open Go Go.RowKit Go.Kt Go.Kt.V Go.Proofs.YtbkjcdocjfknfaaGreatDoor.Vc Go.ChangeShapes Go.WideShapes
set_option linter.unusedSimpArgs false
set_option linter.unusedVariables false
set_option maxHeartbeats 4000000
set_option maxRecDepth 100000
set_option linter.unusedSectionVars false
theorem Jt{D E:Type}{B:D->Nat}{sz:E->Nat}{Q:Nat->E->Prop}:∀(xs:List D) (o:Nat),(∀j y,xs[j]? =some y->∃e,Q (o+j) e/\sz e<=B y)->
  ∃l:List E,l.length=xs.length/\(∀j e,l[j]? =some e->Q (o+j) e)/\(l.map sz).sum<=(xs.map B).sum
 | [],o,_=>⟨[],rfl,fun j p h=>by simp at h,aX _⟩
 | x::xs,o,h=>by
  obtain⟨e,h1,h2⟩:=h 0 x rfl;obtain⟨l,h3,h4,h5⟩:=Jt (B:=B) (sz:=sz) (Q:=Q) xs (o+1) fun j y hj=>by
   have:=h (j+1) y hj;rwa[dA,fK 1 j]
  refine⟨e::l,by rw[bf,bf,h3],fun j p hj=>?_,?_⟩
  ·cases j with
   | zero=>
    simp only[ci,aZ]at hj;subst hj;exact h1
   | succ j=>
    have:=h4 j p hj;rwa[dA,fK 1 j]at this
  ·rw[bD,cp,bD,cp];exact jR h2 h5
theorem AM{n:Nat}:∀{l:List Nat},n∈l->n<=l.sum
 | [],h=>by simp at h
 | x::l,h=>by
  rw[cp];rcases aU.1 h with rfl | h
  ·omega
  ·have:=AM h;omega
theorem Ju{E:Type}(f:E->Nat):∀(l:List E),∃m,∀p,p∈l->f p<=m
 | []=>⟨0,fun p h=>by simp at h⟩
 | x::l=>by
  obtain⟨m,h⟩:=Ju f l;refine⟨max (f x) m,fun p hp=>?_⟩;rcases aU.1 hp with rfl | hp
  ·exact T8 _ _
  ·exact bp (h p hp) (O4 _ _)
theorem MB{α β:Type}{r:Rp α}{q:Rp β}{size:Nat}{w:av}{F:aJ}{s:Sl}{xs:List α}(f:α->β)(h:aA r size w F s xs)(hf:∀x cs,x∈xs->r w F x cs->q w F (f x) cs):aA q size w F s (xs.map f):=by
 refine⟨by rw[bm];exact h.len,h.cap,h.nil0,h.big,fun j y hj=>?_⟩;rw[ch,fW]at hj;obtain⟨x,hx,rfl⟩:=hj;obtain⟨bs,cs,g1,g2,g3,g4,g5⟩:=h.at_ j x hx;exact⟨bs,cs,g1,g2,g3,g4,hf x cs (bF hx) g5⟩
theorem CJ{α:Type}{r:Rp α}{size:Nat}{w:av}{F:aJ}{s:Sl}{xs:List α}(h:aA r size w F s xs){x:α}(hx:x∈xs):∃cs,r w F x cs:=h.mem hx
def rXU:Rp (Ex×Nat):=fun w F x cs=>rE false w F x.1 cs/\okN x.1/\Cu x.1<=x.2
def Wg:Rp (Ac×Nat):=fun w F x cs=>rA false w F x.1 cs/\X8 x.1/\Oc x.1<=x.2
def aaK:Rp (Mv×Nat):=fun w F x cs=>Jd false w F x.1 cs/\mvN x.1/\Jo x.1<=x.2
def amI:Rp (Vr×Nat):=fun w F x cs=>Uf w F x.1 cs/\rS x.1.v/\x.1.n.length+1<=x.2
theorem MC:∀l:List Ex,N3 l=(l.map Cu).sum
 | []=>rfl
 | x::l=>by rw[N3,bD,cp,MC l]
theorem Hh:∀l:List Ac,jw l=(l.map Oc).sum
 | []=>rfl
 | x::l=>by rw[jw,bD,cp,Hh l]
theorem Hi:∀l:List Mv,xj l=(l.map Jo).sum
 | []=>rfl
 | x::l=>by rw[xj,bD,cp,Hi l]
theorem Hj:∀l:List Vr,qX l=(l.map fun v=>v.n.length+1).sum
 | []=>rfl
 | x::l=>by rw[qX,bD,cp,Hj l]
theorem Hk:∀l:List Nd,iw l=(l.map mO).sum
 | []=>by rw[iw];rfl
 | x::l=>by rw[iw,bD,cp,Hk l]
theorem yX{α:Type}{f:α->Nat}:∀{l:List (α×Nat)},(∀x,x∈l->f x.1<=x.2)->((l.map (·.1)).map f).sum<=(l.map fun x=>x.2).sum
 | [],_=>aX _
 | x::l,h=>by
  rw[bD,bD,cp,bD,cp];exact jR (h x (by simp)) (yX fun y hy=>h y (by simp[hy]))
theorem bsz(s:aK):s.data.toList.length=s.size:=by rw[jG];rfl
section
variable {H:Type} {enc:TypeId×aw->H} {W:av} {base:Nat} {spare:Nat->Bool} {held:Bool} {B:DataW H->Nat}
def R1(enc:TypeId×aw->H)(W:av)(base:Nat)(spare:Nat->Bool)(held:Bool)(t:TypeId):Rp (DataW H):=fun _ _ x cs=>∃eY p,DataW.trod enc aq W base spare held eY t cs=some (x,p)/\∀n,n∈x.weights aq t->n<=reachBytes
theorem Hl(hB:IsBulk B)(t:TypeId):iL B enc aq W base spare held t (R1 enc W base spare held t) B:=fun eY cs x h hw=>⟨x.1,⟨eY,x.2,h,hw⟩,aX _⟩
theorem Og(hB:IsBulk B):iL B enc aq W base spare held 64 (nr fz (nr fz (nr RZ (nr fz (nr (rSl (R1 enc W base spare held 64) 6 72) (nr fz RY))))))
  fun x=>(1+(1+((x.2.2.1.size+1)+(1+(((x.2.2.2.2.1.map B).sum+1)+(1+0))))))+1:=by
 have h:=jf (enc:=enc) (P:=aq) (W:=W) (base:=base) (spare:=spare) (held:=held) (T:=6) hB Tryz.underlying64 (by kernel_rfl)
  (dD (s:=1) rfl (by kernel_rfl) (opensB_of hB (gw Tryz.underlying3)) (dD (s:=1) rfl (by kernel_rfl) (opensB_of hB (gw Tryz.underlying3)) (dD (s:=1) rfl (by kernel_rfl) (jD hB Tryz.underlying9) (dD (s:=1) rfl (by kernel_rfl) (opensB_of hB (gw Tryz.underlying3)) (dD (s:=1) rfl (by kernel_rfl) (opensB_slice (size:=6) (bytes:=72) hB Tryz.underlying62 (by kernel_rfl) (by kernel_rfl) (Hl hB _)) (dD (s:=1) rfl (by kernel_rfl) (opensB_of hB (gw Tryz.underlying3)) (tN rfl)))))))
 exact h
theorem R2(hB:IsBulk B):∀(N:Nat) {x:DataW H} {cs:aI} {F:aJ},B x<=N->R1 enc W base spare held 64 W F x cs->∃(e:Ex) (d:Nat),LO false d W (fun _=>True) e cs/\okN e/\Cu e<=B x
 | 0,x,cs,F,h,_=>by have:=hB.one x;omega
 | N+1,x,cs,F,h,⟨eY,p,ht,hw⟩=>by
  obtain⟨⟨k,n,s,op,xs,a,u⟩,hr,hm⟩:=Og (enc:=enc) (W:=W) (base:=base) (spare:=spare) (held:=held) hB eY cs (x,p) ht hw;obtain⟨c1,r1,rfl,⟨rfl,i1⟩,c2,r2,rfl,⟨rfl,i2⟩,c3,r3,rfl,⟨rfl,i3⟩,c4,r4,rfl,⟨rfl,i4⟩,c5,r5,rfl,⟨sl,rfl,rO,_⟩,c6,r6,rfl,⟨rfl,i6⟩,hu⟩:=hr;have hu:r6=[]:=hu;subst hu;dsimp only at hm rO i1 i2 i3;have Kz:∀y,y∈xs->B y<=(xs.map B).sum:=fun y hy=>AM (List.mem_map_of_mem hy);obtain⟨l,l1,l2,l3⟩:=Jt (B:=B) (sz:=fun e:Ex×Nat=>Cu e.1) (Q:=fun j e=>∃base cs,sl.a=some base/\cs.length=6/\aB W (base.add (j*6)) cs/\LO false e.2 W (fun _=>True) e.1 cs/\okN e.1) xs 0 fun j y hj=>by
   rw[bO];obtain⟨bs,ds,g1,g2,g3,g4,g5⟩:=rO.at_ j y hj;obtain⟨e,d,t1,t2,t3⟩:=R2 hB N (x:=y) (by have:=Kz y (bF hj);omega) g5;exact⟨(e,d),⟨bs,ds,g1,g3,g4,t1,t2⟩,t3⟩
  obtain⟨m,hmx⟩:=Ju (fun e:Ex×Nat=>e.2) l;refine⟨.mk k n s.data.toList op (l.map (·.1)) a,m+1,⟨sl,?_,?_,fun h=>(by cases h)⟩,fun d=>?_,?_⟩
  ·have e:qQ k n s.data.toList op sl a=[O U k,O U n,ab s,O U op,sl.v,O U a]:=by
    show[_,_,Value.string (T s.data.toList),_,_,_]=_;rw[<-yu s]
   exact e.symm
  ·refine⟨by rw[Ex.fF,bm,l1];exact rO.len,rO.cap,rO.nil0,rO.big,fun j e hj=>?_⟩;rw[Ex.fF,ch,fW]at hj;obtain⟨q,q1,rfl⟩:=hj;obtain⟨bs,ds,g1,g2,g3,g4,g5⟩:=l2 j q q1;rw[bO]at g3;exact⟨bs,ds,g1,trivial,g2,g3,Jc (hmx q (bF q1)) g4⟩
  ·cases d with
   | zero=>trivial
   | succ d=>
    refine⟨i2,fun y hy=>?_⟩;obtain⟨q,q1,rfl⟩:=eE.1 hy;obtain⟨j,hj⟩:=eT q1;obtain⟨bs,ds,g1,g2,g3,g4,g5⟩:=l2 j q hj;exact g5 d
  ·rw[D8];show N3 (l.map (·.1))+(s.data.toList.length+1)<=_;rw[MC,gD,bsz];have e:(l.map (Cu∘fun x=>x.1)).sum=(l.map fun e:Ex×Nat=>Cu e.1).sum:=rfl;omega
theorem CK(hB:IsBulk B):iL B enc aq W base spare held 64 rXU fun x=>x.2:=fun eY cs x h hw=>by
 obtain⟨e,d,h1,h2,h3⟩:=R2 hB (B x.1) (x:=x.1) (F:=fun _=>True) (aX _) ⟨eY,x.2,h,hw⟩;exact⟨(e,B x.1),⟨⟨d,h1⟩,h2,h3⟩,aX _⟩
theorem xq(hB:IsBulk B):iL B enc aq W base spare held 196 Wg fun x=>x.2:=by
 have h:=jf (enc:=enc) (P:=aq) (W:=W) (base:=base) (spare:=spare) (held:=held) (T:=9) hB Tryz.underlying196 (by kernel_rfl)
  (dD (s:=1) rfl (by kernel_rfl) (opensB_of hB (gw Tryz.underlying3)) (dD (s:=1) rfl (by kernel_rfl) (jD hB Tryz.underlying9) (dD (s:=6) rfl (by kernel_rfl) (CK hB) (dD (s:=1) rfl (by kernel_rfl) (opensB_of hB (gw Tryz.underlying3)) (tN rfl)))))
 refine h.map (fun x=>((⟨x.1,x.2.1.data.toList,x.2.2.1.1,x.2.2.2.1⟩:Ac),x.2.2.1.2+(x.2.1.size+1))) ?_;rintro⟨k,n,⟨e,m⟩,a,u⟩ cs ⟨c1,r1,rfl,⟨rfl,i1⟩,c2,r2,rfl,⟨rfl,i2⟩,c3,r3,rfl,⟨he,hn,hz⟩,c4,r4,rfl,⟨rfl,i4⟩,hu⟩;have hu:r4=[]:=hu;subst hu;refine⟨⟨⟨c3,?_,he⟩,hn,?_⟩,by dsimp only;omega⟩
 ·show _=_::Value.string (T n.data.toList)::_;rw[<-yu n];simp
 ·show Cu e+(n.data.toList.length+1)<=_;rw[bsz];dsimp only at hz⊢;omega
theorem Jv{w:av}{F:aJ}{s:Sl}{xs:List (Ac×Nat)}(h:aA Wg 9 w F s xs):jM false (rA false) 9 196 w F s (xs.map (·.1))/\(∀a,a∈xs.map (·.1)->X8 a)/\jw (xs.map (·.1))<=(xs.map fun x=>x.2).sum:=by
 refine⟨⟨MB (·.1) h fun x cs _ hx=>hx.1,fun h=>(by cases h)⟩,fun a ha=>?_,?_⟩
 ·obtain⟨x,hx,rfl⟩:=eE.1 ha;obtain⟨cs,hc⟩:=CJ h hx;exact hc.2.1
 ·rw[Hh];exact yX fun x hx=>by
   obtain⟨cs,hc⟩:=CJ h hx;exact hc.2.2
theorem Oh(hB:IsBulk B):iL B enc aq W base spare held 147 aaK fun x=>x.2:=by
 have h:=jf (enc:=enc) (P:=aq) (W:=W) (base:=base) (spare:=spare) (held:=held) (T:=13) hB Tryz.underlying147 (by kernel_rfl)
  (dD (s:=1) rfl (by kernel_rfl) (opensB_of hB (gw Tryz.underlying3)) (dD (s:=1) rfl (by kernel_rfl) (jD hB Tryz.underlying9) (dD (s:=1) rfl (by kernel_rfl) (opensB_of hB (gw Tryz.underlying3)) (dD (s:=1) rfl (by kernel_rfl) (opensB_of hB (opens_bool Tryz.underlying4)) (dD (s:=6) rfl (by kernel_rfl) (CK hB)
  (dD (s:=1) rfl (by kernel_rfl) (opensB_slice (size:=9) (bytes:=104) hB Tryz.underlying23 (by kernel_rfl) (by kernel_rfl) (xq hB)) (dD (s:=1) rfl (by kernel_rfl) (opensB_slice (size:=1) (bytes:=16) hB Tryz.underlying31 (by kernel_rfl) (by kernel_rfl) (jD hB Tryz.underlying9)) (dD (s:=1) rfl (by kernel_rfl) (opensB_of hB (gw Tryz.underlying3)) (tN rfl)))))))))
 refine h.map (fun x=>((⟨x.1,x.2.1.data.toList,x.2.2.1,x.2.2.2.1,x.2.2.2.2.1.1,x.2.2.2.2.2.1.map (·.1),x.2.2.2.2.2.2.1.map fun s=>s.data.toList,x.2.2.2.2.2.2.2.1⟩:Mv),(((x.2.2.2.2.2.1.map fun x=>x.2).sum+x.2.2.2.2.1.2)+((x.2.2.2.2.2.2.1.map fun s=>s.size+1).sum+(x.2.1.size+1))))) ?_;rintro⟨k,ev,wt,gd,⟨g,m⟩,ac,tg,a,u⟩ cs ⟨c1,r1,rfl,⟨rfl,i1⟩,c2,r2,rfl,⟨rfl,i2⟩,c3,r3,rfl,⟨rfl,i3⟩,c4,r4,rfl,h4,c5,r5,rfl,⟨he,hn,hz⟩,c6,r6,rfl,⟨tv,rfl,yr,_⟩,c7,r7,rfl,⟨tsl,rfl,vd,_⟩,c8,r8,rfl,⟨rfl,i8⟩,hu⟩;have hu:r8=[]:=hu;have h4:c4=[aj gd]:=h4;subst hu h4;obtain⟨a1,a2,a3⟩:=Jv yr;have apn:aA ju 1 W (fun _=>True) tsl (tg.map fun s=>s.data.toList):=MB (fun s=>s.data.toList) vd fun x cs _ hx=>by
  obtain⟨rfl,_⟩:=hx;show _=[Value.string (T x.data.toList)]
  rw[<-yu x]
 refine⟨⟨⟨c5,tv,tsl,?_,he,a1,⟨apn,fun h=>(by cases h)⟩⟩,⟨hn,a2,i3⟩,?_⟩,by dsimp only;omega⟩
 ·show _=_::Value.string (T ev.data.toList)::_;rw[<-yu ev];simp
 ·show(jw (ac.map (·.1))+Cu g)+(G7 (tg.map fun s=>s.data.toList)+(ev.data.toList.length+1))<=_;have e:G7 (tg.map fun s=>s.data.toList)=(tg.map fun s=>s.size+1).sum:=by
   unfold G7;rw[gD];congr 1
  rw[e,bsz];dsimp only at hz a3⊢;omega
theorem aaM{w:av}{F:aJ}{s:Sl}{xs:List (Mv×Nat)}(h:aA aaK 13 w F s xs):jM false (Jd false) 13 147 w F s (xs.map (·.1))/\(∀a,a∈xs.map (·.1)->mvN a)/\xj (xs.map (·.1))<=(xs.map fun x=>x.2).sum:=by
 refine⟨⟨MB (·.1) h fun x cs _ hx=>hx.1,fun h=>(by cases h)⟩,fun a ha=>?_,?_⟩
 ·obtain⟨x,hx,rfl⟩:=eE.1 ha;obtain⟨cs,hc⟩:=CJ h hx;exact hc.2.1
 ·rw[Hi];exact yX fun x hx=>by
   obtain⟨cs,hc⟩:=CJ h hx;exact hc.2.2
theorem Oi(hB:IsBulk B):iL B enc aq W base spare held 95 amI fun x=>x.2:=by
 have h:=jf (enc:=enc) (P:=aq) (W:=W) (base:=base) (spare:=spare) (held:=held) (T:=3) hB Tryz.underlying95 (by kernel_rfl)
  (dD (s:=1) rfl (by kernel_rfl) (jD hB Tryz.underlying9) (dD (s:=1) rfl (by kernel_rfl) (opensB_of hB (gw Tryz.underlying3)) (dD (s:=1) rfl (by kernel_rfl) (opensB_of hB (gw Tryz.underlying3)) (tN rfl))))
 refine h.map (fun x=>((⟨x.1.data.toList,x.2.1,x.2.2.1⟩:Vr),x.1.size+1)) ?_;rintro⟨n,v,a,u⟩ cs ⟨c1,r1,rfl,⟨rfl,i1⟩,c2,r2,rfl,⟨rfl,i2⟩,c3,r3,rfl,⟨rfl,i3⟩,hu⟩;have hu:r3=[]:=hu;subst hu;refine⟨⟨?_,i2,?_⟩,by dsimp only;omega⟩
 ·show _=[Value.string (T n.data.toList),_,_]
  rw[<-yu n];rfl
 ·show n.data.toList.length+1<=_;rw[bsz];exact aX _
theorem Oj(hB:IsBulk B):iL B enc aq W base spare held 27 (nr fz (nr RZ (nr RZ (nr RZ (nr (rSl Wg 9 104) (nr (rSl Wg 9 104) (nr (rSl aaK 13 168) (nr (rSl (R1 enc W base spare held 27) 9 160) (nr fz RY)))))))))
  fun x=>(1+((x.2.1.size+1)+((x.2.2.1.size+1)+((x.2.2.2.1.size+1)+(((x.2.2.2.2.1.map fun x=>x.2).sum+1)+(((x.2.2.2.2.2.1.map fun x=>x.2).sum+1)+(((x.2.2.2.2.2.2.1.map fun x=>x.2).sum+1)+(((x.2.2.2.2.2.2.2.1.map B).sum+1)+(1+0)))))))))+1:=by
 have h:=jf (enc:=enc) (P:=aq) (W:=W) (base:=base) (spare:=spare) (held:=held) (T:=9) hB Tryz.underlying27 (by kernel_rfl)
  (dD (s:=1) rfl (by kernel_rfl) (opensB_of hB (gw Tryz.underlying3)) (dD (s:=1) rfl (by kernel_rfl) (jD hB Tryz.underlying9) (dD (s:=1) rfl (by kernel_rfl) (jD hB Tryz.underlying9) (dD (s:=1) rfl (by kernel_rfl) (jD hB Tryz.underlying9)
  (dD (s:=1) rfl (by kernel_rfl) (opensB_slice (size:=9) (bytes:=104) hB Tryz.underlying23 (by kernel_rfl) (by kernel_rfl) (xq hB)) (dD (s:=1) rfl (by kernel_rfl) (opensB_slice (size:=9) (bytes:=104) hB Tryz.underlying23 (by kernel_rfl) (by kernel_rfl) (xq hB))
  (dD (s:=1) rfl (by kernel_rfl) (opensB_slice (size:=13) (bytes:=168) hB Tryz.underlying24 (by kernel_rfl) (by kernel_rfl) (Oh hB)) (dD (s:=1) rfl (by kernel_rfl) (opensB_slice (size:=9) (bytes:=160) hB Tryz.underlying25 (by kernel_rfl) (by kernel_rfl) (Hl hB _)) (dD (s:=1) rfl (by kernel_rfl) (opensB_of hB (gw Tryz.underlying3)) (tN rfl))))))))))
 exact h
theorem MD:∀{l:List Nd},(∀x,x∈l->LS x)->Au l
 | [],_=>by rw[Au];trivial
 | x::l,h=>by
  rw[Au];exact⟨h x (by simp),MD fun y hy=>h y (by simp[hy])⟩
theorem R3(hB:IsBulk B):∀(N:Nat) {x:DataW H} {cs:aI} {F:aJ},B x<=N->R1 enc W base spare held 27 W F x cs->∃(e:Nd) (d:Nat),ol false d W (fun _=>True) e cs/\LS e/\mO e<=B x
 | 0,x,cs,F,h,_=>by have:=hB.one x;omega
 | N+1,x,cs,F,h,⟨eY,p,ht,hw⟩=>by
  obtain⟨⟨k,nm,ini,dft,en,lv,mv,xs,a,u⟩,hr,hm⟩:=Oj (enc:=enc) (W:=W) (base:=base) (spare:=spare) (held:=held) hB eY cs (x,p) ht hw;obtain⟨c1,r1,rfl,⟨rfl,i1⟩,c2,r2,rfl,⟨rfl,i2⟩,c3,r3,rfl,⟨rfl,i3⟩,c4,r4,rfl,⟨rfl,i4⟩,c5,r5,rfl,⟨ens,rfl,BU,_⟩,c6,r6,rfl,⟨Ie,rfl,FC,_⟩,c7,r7,rfl,⟨mvs,rfl,qy,_⟩,c8,r8,rfl,⟨sl,rfl,rO,_⟩,c9,r9,rfl,⟨rfl,i9⟩,hu⟩:=hr;have hu:r9=[]:=hu;subst hu;dsimp only at hm rO BU FC qy;have Kz:∀y,y∈xs->B y<=(xs.map B).sum:=fun y hy=>AM (List.mem_map_of_mem hy);obtain⟨l,l1,l2,l3⟩:=Jt (B:=B) (sz:=fun e:Nd×Nat=>mO e.1) (Q:=fun j e=>∃base cs,sl.a=some base/\cs.length=9/\aB W (base.add (j*9)) cs/\ol false e.2 W (fun _=>True) e.1 cs/\LS e.1) xs 0 fun j y hj=>by
   rw[bO];obtain⟨bs,ds,g1,g2,g3,g4,g5⟩:=rO.at_ j y hj;obtain⟨e,d,t1,t2,t3⟩:=R3 hB N (x:=y) (by have:=Kz y (bF hj);omega) g5;exact⟨(e,d),⟨bs,ds,g1,g3,g4,t1,t2⟩,t3⟩
  obtain⟨m,hmx⟩:=Ju (fun e:Nd×Nat=>e.2) l;obtain⟨a1,a2,a3⟩:=Jv BU;obtain⟨b1,b2,b3⟩:=Jv FC;obtain⟨d1,d2,d3⟩:=aaM qy;refine⟨.mk ⟨k,nm.data.toList,ini.data.toList,dft.data.toList,en.map (·.1),lv.map (·.1),mv.map (·.1),a⟩ (l.map (·.1)),m+1,⟨ens,Ie,mvs,sl,?_,⟨a1,b1,d1⟩,?_,fun h=>(by cases h)⟩,?_,?_⟩
  ·show _=[_,Value.string (T nm.data.toList),Value.string (T ini.data.toList),Value.string (T dft.data.toList),_,_,_,_,_]
   rw[<-yu nm,<-yu ini,<-yu dft];rfl
  ·refine⟨by rw[Nd.kids,bm,l1];exact rO.len,rO.cap,rO.nil0,rO.big,fun j e hj=>?_⟩;rw[Nd.kids,ch,fW]at hj;obtain⟨q,q1,rfl⟩:=hj;obtain⟨bs,ds,g1,g2,g3,g4,g5⟩:=l2 j q q1;rw[bO]at g3;exact⟨bs,ds,g1,trivial,g2,g3,aaf (hmx q (bF q1)) g4⟩
  ·rw[LS];refine⟨⟨a2,b2,d2⟩,MD fun y hy=>?_⟩;obtain⟨q,q1,rfl⟩:=eE.1 hy;obtain⟨j,hj⟩:=eT q1;obtain⟨bs,ds,g1,g2,g3,g4,g5⟩:=l2 j q hj;exact g5
  ·rw[mO,Hk,gD];unfold CE;dsimp only;rw[bsz,bsz,bsz];have e:(l.map (mO∘fun x=>x.1)).sum=(l.map fun e:Nd×Nat=>mO e.1).sum:=rfl;omega
def amJ:Rp (Nd×Nat):=fun w F x cs=>∃d,ol false d w F x.1 cs/\LS x.1/\mO x.1<=x.2
theorem Ol(hB:IsBulk B):iL B enc aq W base spare held 27 amJ fun x=>x.2:=fun eY cs x h hw=>by
 obtain⟨e,d,h1,h2,h3⟩:=R3 hB (B x.1) (x:=x.1) (F:=fun _=>True) (aX _) ⟨eY,x.2,h,hw⟩;exact⟨(e,B x.1),⟨d,h1,h2,h3⟩,aX _⟩
def rChU:Rp (Ch×Nat):=fun w F x cs=>∃(D:Nat) (vs:Sl) (EY:aI),cs=vs.v::EY/\ChR false D w F x.1 vs EY/\UL x.1/\qX x.1.vars+mO x.1.root<=x.2
theorem opensB_ch(hB:IsBulk B):iL B enc aq W base spare held 29 rChU fun x=>x.2:=by
 have h:=jf (enc:=enc) (P:=aq) (W:=W) (base:=base) (spare:=spare) (held:=held) (T:=10) hB Tryz.underlying29 (by kernel_rfl)
  (dD (s:=1) rfl (by kernel_rfl) (opensB_slice (size:=3) (bytes:=32) hB Tryz.underlying22 (by kernel_rfl) (by kernel_rfl) (Oi hB)) (dD (s:=9) rfl (by kernel_rfl) (Ol hB) (tN rfl)))
 refine h.map (fun x=>((⟨x.1.map (·.1),x.2.1.1⟩:Ch),(x.1.map fun x=>x.2).sum+x.2.1.2)) ?_;rintro⟨vs,⟨nd,m⟩,u⟩ cs ⟨c1,r1,rfl,⟨vsl,rfl,yj,_⟩,c2,r2,rfl,⟨d,hnd,hn,hz⟩,hu⟩;have hu:r2=[]:=hu;subst hu;rw[bQ];refine⟨⟨d,vsl,c2,rfl,⟨⟨MB (·.1) yj fun x cs _ hx=>hx.1,fun h=>(by cases h)⟩,hnd⟩,⟨fun v hv=>?_,hn⟩,?_⟩,by dsimp only;omega⟩
 ·obtain⟨x,hx,rfl⟩:=eE.1 hv;obtain⟨cs,hc⟩:=CJ yj hx;exact hc.2.1
 ·show qX (vs.map (·.1))+mO nd<=_;rw[Hj];have:=yX (f:=fun v:Vr=>v.n.length+1) (l:=vs) fun x hx=>by
   obtain⟨cs,hc⟩:=CJ yj hx;exact hc.2.2
  dsimp only at hz⊢;omega
end
theorem CL:∀{p:List (aH×Int)} {l:List (aH)},xW l p=[]->(p.map fun x=>x.1).Nodup/\∀x,x∈p.map (fun x=>x.1)->x∉l
 | [],l,_=>⟨List.nodup_nil,fun x h=>by simp at h⟩
 | x::p,l,h=>by
  rw[xW]at h;obtain⟨h1,h2⟩:=fX.1 h;have h1:x.1∉l:=by simpa using LW.1 h1
  obtain⟨g1,g2⟩:=CL h2;rw[bD];refine⟨List.nodup_cons.2 ⟨fun hm=>g2 _ hm (by simp),g1⟩,fun y hy=>?_⟩;rcases aU.1 hy with rfl | hy
  ·exact h1
  ·exact fun hm=>g2 y hy (BZ _ hm)
def pc(xs L:List cN)(a:Nat):Prop:=∀(i:Nat) (x:cN),L[i]? =some x->xs[a+i]? =some x
theorem pc.left{xs L M:List cN}{a:Nat}(h:pc xs (L++M) a):pc xs L a:=fun i x hi=>h i x (by rw[bK (fJ hi)];exact hi)
theorem pc.right{xs L M:List cN}{a:Nat}(h:pc xs (L++M) a):pc xs M (a+L.length):=fun i x hi=>by
 rw[dA];exact h _ x (by rw[bT (by omega),dF];exact hi)
theorem qZ{c:Ch}(h:(fU c).1=0):(gr c).2=0/\Cx c=[]:=by
 unfold fU at h;by_cases hp:(gr c).2≠0
 ·rw[if_pos hp]at h;exact absurd h hp
 ·rw[if_neg hp]at h;exact⟨KG.1 hp,Rm (Rt c) h⟩
theorem Om{c:Ch}(h:(gr c).2=0):GV c=true:=by
 unfold gr at h;by_cases h1:GV c=true
 ·exact h1
 ·rw[if_neg h1]at h;exact absurd h (by decide)
section
variable {w w':av} {F G:aJ} {s:Sl} {xs:List cN}
theorem Wh{k0:Nat}(x:cN)(n:aH)(hB:aF w k0 9 [ab (T n)]):az aq 177 #[ah (spv x).toArray,ae (some ⟨k0,0,none⟩)] w fun e w'=>e=ak (aj (decide (x.nm=n)))/\ay [] w w':=by
 refine ret (alT _ _ _ _ _ _ _ _ ?_);intro k1 w0 hk iM hO;exact⟨_,(hO.blk hB (by simp)).cells 0 [_] fun j v hj=>(by rw[bO];exact hj),by rw[mA],hO⟩
theorem Jw{n:aH}{j:Nat}{x:cN}(hj:xs[j]? =some x)(h:∀y,y∈xs.take j->y.nm≠n)(e:x.nm=n):ir xs n=j:=by
 unfold ir;have hl:=fJ hj;have:uv n (xs.map fun x:cN=>x.nm)=j:=by
  have e1:xs.map (fun x:cN=>x.nm)=(xs.take j).map (fun x:cN=>x.nm)++n::(xs.drop (j+1)).map fun x:cN=>x.nm:=by
   rw[<-e,<-bD,<-cJ];congr 1;rw[<-(aV.1 hj).2,List.getElem_cons_drop,cZ]
  rw[e1,Eb]
  ·rw[bm,cT];omega
  ·intro hm;obtain⟨y,hy,e'⟩:=eE.1 hm;exact h y hy e'
 rw[this,if_pos hl]
theorem aaN(h:aA pb 5 w F s xs)(n:aH):az aq 129 #[s.v,ab (T n)] w fun e w'=>e=ak (O U (ir xs n))/\ay [] w w':=by
 refine ret (alS _ _ _ _ ?_);intro k0 w0 gu fe cD uD;have hl:=h.len;have OT:=h.cap;have yi:=h.big;refine(afN s ⟨.func (.func 177) #[] #[ae (some ⟨k0,0,none⟩)],rfl⟩ (fun v w'=>v=O U (ir xs n)/\ay [] w0 w') w0 ?_).mono (by
  rintro _ w' ⟨v,rfl,rfl,hO⟩;exact⟨_,rfl,_,hO.blk uD (by simp),rfl,cD.cf hO⟩)
 refine⟨fun kv i u=>∃j:Nat,i=(j:Int)/\kv+j=xs.length/\j<=xs.length/\(∀y,y∈xs.take j->y.nm≠n)/\ay [] w0 u,xs.length,⟨0,rfl,by omega,bh _,by simp,Only.refl _ _⟩,?_⟩;rintro kv _ u ⟨j,rfl,tY,hj,hh,hO⟩;refine⟨fun hc=>?_,fun hc=>?_⟩
 ·have hc:=aO hc;obtain⟨x,hx⟩:=gV (xs:=xs) (i:=j) (by omega);obtain⟨ad,a1,a2,_⟩:=kH (SliceF.only dk (by decide) h (cD.cf hO) (by simp)) hx;refine⟨ad,a1,_,_,_,_,_,a2,177,[],[ae (some ⟨k0,0,none⟩)],rfl,fu (by kernel_rfl),(Wh x n (hO.blk uD (by simp))).mono ?_⟩;rintro _ u1 ⟨rfl,cr⟩;refine⟨_,rfl,fun hb=>⟨?_,hO.cf cr⟩,fun hb=>⟨kv-1,by omega,j+1,by rw[fR (by omega) (by omega)];rfl,by omega,by omega,fun y hy=>?_,hO.cf cr⟩⟩
  ·rw[Jw hx hh (aO hb)]
  ·rw[bJ,hx,bR]at hy;rcases hy with hy | hy
   ·exact hh y hy
   ·simp only[Option.toList,aN]at hy;subst hy;exact aR hb
 ·have hc:=aR hc;rw[bq (by omega)]at hh;refine⟨?_,hO⟩;rcases oP xs n with⟨e,_⟩ | ⟨i,x,_,hx,e⟩
  ·rw[e]
  ·exact absurd e (hh x (bF hx))
end
end Go.Proofs.YtbkjcdocjfknfaaGreatDoor.Con
set_option linter.unusedSectionVars false
namespace Go.Proofs.YtbkjcdocjfknfaaGreatDoor.Con
open Go.Value renaming int->O,string->ab,pointer->ae,agg->ah,tuple->ai,bool->aj
open Go.IntKind renaming i64->U,wrap->ar
open Go.Ending renaming returned->ak
open _root_.ByteArray renaming mk->ao
open _root_.Go.Proofs.Tryz renaming prog->aq
open Go.Instr renaming buildSlice->au
open Go renaming World->av,Value->aw,Calls->az
open Go.Kt renaming Only->ay,SliceF->aA,Cells->aB,OnlyP->aD,Blk->aF
open Go Go.RowKit Go.Kt Go.Kt.V Go.Proofs.YtbkjcdocjfknfaaGreatDoor.Vc
set_option linter.unusedSimpArgs false
set_option linter.unusedVariables false
set_option maxHeartbeats 1600000
set_option maxRecDepth 100000
set_option linter.unusedSectionVars false
def vj(xs:List cN)(s:aH):Int:=if s=[]then -1 else ir xs s
def R4(xs:List cN)(l:List Int):Nat->Int
 | 0=> -1
 | n+1=>if(l.all fun k=>pX xs n k)=true then n else R4 xs l n
def aaO(xs:List cN)(n:Int):Bool:=decide (0<=n)&&decide (n<xs.length)
theorem Hm{xs:List cN}{n:Int}:aaO xs n=true↔wL xs n:=by
 unfold aaO wL;rw[aQ,bM,bM]
def mtM(xs:List cN)(l:List Int):Int:=if l=[]∨(l.any fun n=>!aaO xs n)=true then -1 else R4 xs l xs.length
theorem wv(xs:List cN)(l:List Int):∀n:Nat,(R4 xs l n= -1/\∀m,m<n->(l.all fun k=>pX xs m k)=false)∨∃m:Nat,R4 xs l n=m/\m<n/\(l.all fun k=>pX xs m k)=true/\∀j,m<j->j<n->(l.all fun k=>pX xs j k)=false
 | 0=>.inl ⟨rfl,fun m h=>by omega⟩
 | n+1=>by
  unfold R4;by_cases h:(l.all fun k=>pX xs n k)=true
  ·rw[if_pos h];exact .inr ⟨n,rfl,by omega,h,fun j h1 h2=>by omega⟩
  ·rw[if_neg h];have h:(l.all fun k=>pX xs n k)=false:=by simpa using h
   rcases wv xs l n with⟨h1,h2⟩ | ⟨m,h1,h2,h3,h4⟩
   ·exact .inl ⟨h1,fun m hm=>(Nat.lt_succ_iff_lt_or_eq.1 hm).elim (h2 m) fun e=>by rw[e];exact h⟩
   ·exact .inr ⟨m,h1,by omega,h3,fun j h5 h6=>(Nat.lt_succ_iff_lt_or_eq.1 h6).elim (h4 j h5) fun e=>by rw[e];exact h⟩
theorem yY{xs:List cN}{l:List Int}{m:Nat}:(l.all fun k=>pX xs m k)=true↔∀n:Int,n∈l->∃k:Nat,n=k/\qU xs m k:=by
 rw[dY];constructor
 ·intro h n hn;obtain⟨i,j,h1,h2,h3⟩:=sM.1 (h n hn);have:i=m:=by omega
  subst this;exact⟨j,h2,h3⟩
 ·intro h n hn;obtain⟨k,h1,h2⟩:=h n hn;exact sM.2 ⟨m,k,rfl,h1,h2⟩
theorem Fo.agE{xs:List cN}(F:Fo xs){l:List Int}{r:Int}(h:Mt xs l r):r=mtM xs l:=by
 unfold mtM;rcases h with⟨h1,h2⟩ | ⟨⟨h1,h2⟩,m,h3,h4,h5⟩
 ·rw[if_pos,h2];rcases h1 with h1 | ⟨n,hn,hb⟩
  ·exact .inl h1
  ·refine .inr (qx.2 ⟨n,hn,?_⟩);rw[dS,dx];exact fun h=>hb (Hm.1 h)
 ·rw[if_neg]
  ·obtain⟨n,hn⟩:=List.exists_mem_of_ne_nil l h1;obtain⟨k,_,hk⟩:=h4 n hn;have hm:m<xs.length:=by
    obtain⟨s,hs,_⟩:=hk;exact fJ hs
   rcases wv xs l xs.length with⟨_,g⟩ | ⟨q,g1,g2,g3,g4⟩
   ·have:=g m hm;rw[yY.2 h4]at this;cases this
   ·have hq:=h5 q (yY.1 g3);have:m<=q:=by
     refine xJ fun hl=>?_;have:=g4 m hl hm;rw[yY.2 h4]at this;cases this
    rw[g1,h3];omega
  ·rintro(h | h)
   ·exact h1 h
   ·obtain⟨n,hn,hb⟩:=qx.1 h;rw[Hm.2 (h2 n hn)]at hb;cases hb
def Hn(xs:List cN)(l:List Int):Nat->Int->Int
 | 0,d=>d
 | n+1,d=>if 0<d/\(oZ xs d≠1∨d∈l)then Hn xs l n (GW xs d)else d
def Ej(xs:List cN)(src:Int)(tg:List Int):Int:=if tg=[]then -1 else Hn xs (src::tg) xs.length (mtM xs (src::tg))
structure Ro where
 src:Int
 slot:Int
 k:Int
 ev:aH
 wt:Int
 tg:List Int
 dom:Int
def Fv(xs:List cN)(a i:Nat)(m:Mv):Ro:=⟨a,i,m.k,m.ev,m.wt,m.tg.map (vj xs),Ej xs a (m.tg.map (vj xs))⟩
def xr(xs:List cN)(a:Nat):Nat->List Mv->List Ro
 | _,[]=>[]
 | i,m::l=>Fv xs a i m::xr xs a (i+1) l
mutual
def wM(xs:List cN):Nat->Nd->List Ro
 | a,.mk b l=>xr xs a 0 b.mv++jP xs (a+1) l
def jP(xs:List cN):Nat->List Nd->List Ro
 | _,[]=>[]
 | a,x::l=>wM xs a x++jP xs (a+iQ x) l
end
mutual
def AN:Nd->List Nb
 | .mk b l=>b::vm l
def vm:List Nd->List Nb
 | []=>[]
 | x::l=>AN x++vm l
end
structure Pl where
 sp:List cN
 ini:List Int
 dft:List Int
 ro:List Ro
def gp(c:Ch):Pl:=⟨cF c,(AN c.root).map fun b=>vj (cF c) b.ini,(AN c.root).map fun b=>vj (cF c) b.dft,wM (cF c) 0 c.root⟩
theorem Ek:∀l m:List Nd,vm (l++m)=vm l++vm m
 | [],m=>by rw[ck,vm,ck]
 | x::l,m=>by rw[bZ,vm,vm,Ek l m,bH]
mutual
theorem tP:∀x,(AN x).length=iQ x
 | .mk b l=>by rw[AN,iQ,bf,tQ]
theorem tQ:∀l,(vm l).length=dJ l
 | []=>by rw[vm,dJ];rfl
 | x::l=>by rw[vm,dJ,aP,tP,tQ]
end
theorem AO(xs:List cN):∀(l m:List Nd) (a:Nat),jP xs a (l++m)=jP xs a l++jP xs (a+dJ l) m
 | [],m,a=>by rw[ck,jP,ck,dJ,dG]
 | x::l,m,a=>by rw[bZ,jP,jP,AO xs l m,bH,dJ,dA]
theorem AP(xs:List cN)(a:Nat):∀(l:List Mv) (i:Nat) (m:Mv),xr xs a i (l++[m])=xr xs a i l++[Fv xs a (i+l.length) m]
 | [],i,m=>rfl
 | x::l,i,m=>by
  rw[bZ,xr,xr,AP xs a l,bZ,bf];congr 4;omega
theorem mq(xs:List cN)(a:Nat):∀(l:List Mv) (i:Nat),(xr xs a i l).length=l.length
 | [],_=>rfl
 | x::l,i=>by rw[xr,bf,bf,mq xs a l]
theorem dc.sl{B:Nat}{w:av}{s:Sl}{xs:List Int}(h:dc B w s xs):aA fz 1 w (fun k=>B<=k) s xs:=(h.slice bN).mono bN fun k hk=>hk.elim (fun h=>h.elim) fun h=>h.1
theorem gW{w:av}{F:aJ}{s:Sl}{l:List Int}(h:aA fz 1 w F s l){i:Nat}{x:Int}(hx:l[i]? =some x):∃ad,cW s (i:Int) 1 ad/\aB w ad [O U x]:=by
 have bS:=(aV.1 hx).1;have hl:=h.len;obtain⟨ad,y,cs,g1,g2,g3,g4,g5,g6⟩:=h.get (bA i) (by omega);rw[aY,hx]at g2;injection g2 with g2;subst g2;obtain⟨rfl,_⟩:=g6;exact⟨ad,g1,g5⟩
theorem kI{w w':av}{F:aJ}{s:Sl}{l:List Int}(h:aA fz 1 w F s l)(hO:ay [] w w'):aA fz 1 w' F s l:=SliceF.only bN (by decide) h hO (by simp)
def ez(s:Sl)(k:Nat):Prop:=s.a=some ⟨k,0,none⟩
theorem R5{w:av}{F:aJ}{s:Sl}{l:List Int}(h:aA fz 1 w F s l)(c:Int):
  az aq 99 #[Sl.v s,O U c] w fun e w'=>∃i:Int,e=ak (O U i)/\decide (i>=0)=decide (c∈l)/\ay [] w w':=by
 refine(afZ s c (fun v w'=>∃i:Int,v=O U i/\decide (i>=0)=decide (c∈l)/\ay [] w w') w ?_).mono (by
  rintro e w' ⟨v,rfl,i,rfl,h⟩;exact⟨i,rfl,h⟩)
 have fi:=h.len;have rK:=h.big;have mU:=h.cap;refine⟨fun nv i w'=>∃n:Nat,n<=l.length/\i=(n:Int)/\nv=l.length-n/\(∀x,x∈l.take n->x≠c)/\w'=w,l.length,⟨0,bh _,rfl,rfl,by simp,rfl⟩,?_⟩;rintro nv _ u ⟨n,hn,rfl,rfl,hp,hu⟩;obtain rfl:w=u:=hu.symm;refine⟨fun hc=>?_,fun hc=>?_⟩
 ·have bS:(n:Int)<s.n:=aO hc;have PK:n<l.length:=by omega
  obtain⟨ad,g1,g5⟩:=gW h (aW PK);refine⟨ad,g1,_,g5,fun he=>⟨_,rfl,?_,Only.refl _ _⟩,fun he=>⟨l.length-(n+1),by omega,n+1,by omega,by rw[fR (by omega) (by omega)];rfl,rfl,?_,rfl⟩⟩
  ·have he:c=l[n]:=by simpa using he
   rw[bL (by omega)];symm;rw[cA,he];exact dZ PK
  ·have he:c≠l[n]:=by simpa using he
   intro y hy;rw[bJ,aW PK]at hy;simp only[nK,bR,aN]at hy;rcases hy with hy | rfl
   ·exact hp y hy
   ·exact fun e=>he e.symm
 ·have rl:¬((n:Int)<s.n):=aR hc;rw[bq (by omega)]at hp;refine⟨_,rfl,?_,Only.refl _ _⟩;rw[bC (by omega)];exact(bC fun hh=>hp c hh rfl).symm
theorem sV{w:av}{F:aJ}{s:Sl}{l:List Int}(h:aA fz 1 w F s l)(c:Int):
  az aq 56 #[Sl.v s,O U c] w fun e w'=>e=ak (aj (decide (c∈l)))/\ay [] w w':=by
 refine ret (afW _ _ _ _ ?_);refine(R5 h c).mono ?_;rintro _ w1 ⟨i,rfl,hi,hO⟩;exact⟨i,rfl,by rw[hi],hO⟩
theorem R6(u:av){a:Int}(ha:rS a):∃y w1,(au 32 1 #[.mk 0 (O U a)]).run aq u=.ok (Sl.v y) w1/\ay [] u w1/\dc u.heap.size w1 y [a]:=by
 obtain⟨y,w1,k1,k2,k3,_⟩:=gY (P:=aq) (t:=32) (e:=3) (i:=Tryz.t3) (z:=O U 0) (w:=u) (F:=fun _=>False) (vs:=[O U a]) (parts:=#[.mk 0 (O U a)]) (len:=1) (xs:=[a]) (r:=fz) (size:=1) (by kernel_rfl) (by kernel_rfl) rfl rfl (by decide) rfl rfl (by decide) (by decide) bN ⟨⟨rfl,rfl,ha⟩,trivial⟩;exact⟨y,w1,k1,k3,k2⟩
theorem R7{A:Nat}{u:av}{s y:Sl}{is js:List Int}{G:aJ}(h:dc A u s is)(hA:A<=u.heap.size)(hy:aA fz 1 u G y js)(hG:∀k,G k->¬ez s k)(hm:is.length+js.length<=1000000000):
  ∃s' w2,(Builtin.append_ #[32,32] 32 #[Sl.v s,Sl.v y]).run aq u=.ok (Sl.v s') w2/\dc A w2 s' (is++js)/\aD (ez s) u w2/\∀k,ez s' k->ez s k∨u.heap.size<=k:=by
 obtain⟨s',w2,g1,g2,gs,g3,g4,g5⟩:=qE (P:=aq) (t:=32) (ty:=32) (e:=3) (i:=Tryz.t3) (bytes:=8) (size:=1) (r:=fz) (F:=fun _=>True) (y:=y) (ys:=js) (by kernel_rfl) (by kernel_rfl) rfl rfl rfl rfl bN (h.mono bN fun k hk=>trivial) (hy.mono bN fun k hk=>⟨trivial,hG k hk⟩) hA (by omega) (by decide);refine⟨s',w2,g1,dc.of g2,g3.p fun g hg=>.inl (g4 g hg).1,fun k hk=>?_⟩;unfold ez at hk⊢;rcases g5 with e | e
 ·exact .inl (by rw[<-e];exact hk)
 ·rw[e]at hk;injection hk with hk;injection hk with hk;exact .inr (by omega)
theorem R8{A:Nat}{u:av}{s:Sl}{is:List Int}(h:dc A u s is)(hA:A<=u.heap.size){n:Int}(hn:rS n)(hm:is.length<=20000000):
  ∃y w1,(au 32 1 #[.mk 0 (O U n)]).run aq u=.ok (Sl.v y) w1/\ay [] u w1/\∃s' w2,(Builtin.append_ #[32,32] 32 #[Sl.v s,Sl.v y]).run aq w1=.ok (Sl.v s') w2/\dc A w2 s' (is++[n])/\aD (ez s) w1 w2/\∀k,ez s' k->ez s k∨u.heap.size<=k:=by
 obtain⟨y,w1,k1,k3,s',w2,g1,g2,⟨gs,g3,g4⟩,g5⟩:=jK (P:=aq) (t:=32) (ty:=32) (e:=3) (i:=Tryz.t3) (bytes:=8) (size:=1) (r:=fz) (G:=fun _=>False) (v:=O U n) (x:=n) (by kernel_rfl) (by kernel_rfl) rfl rfl rfl rfl (by decide) (by decide) (by decide) bN h hA rfl ⟨rfl,hn⟩ (fun _ h=>h.elim) (by omega);refine⟨y,w1,k1,k3,s',w2,g1,dc.of g2,g3.p fun g hg=>.inl (g4 g hg).1,fun k hk=>?_⟩;unfold ez at hk⊢;rcases g5 with e | ⟨g,e,h⟩
 ·exact .inl (by rw[<-e];exact hk)
 ·rw[e]at hk;injection hk with hk;injection hk with hk;exact .inr (by omega)
section
variable {w w':av} {F G:aJ} {s:Sl} {xs:List cN} {b:Nat} {ty:TypeId} {x1 x2 x3:aw}
theorem R9(hB:aF w b ty [s.v,x1,x2,x3])(h:aA pb 5 w F s xs)(n:aH):az aq 88 #[ae (some ⟨b,0,none⟩),ab (T n)] w fun e w'=>e=ak (O U (vj xs n))/\ay [] w w':=by
 refine ret (amf _ _ _ _ ?_);have q0:((T n).toList==(ao #[]).toList)=decide (n=[]):=mA n [];rw[q0];refine⟨fun hc=>⟨?_,Only.refl _ _⟩,fun hc=>⟨s,Blk.dQ hB 0 rfl,(aaN h n).mono ?_⟩⟩
 ·unfold vj;rw[if_pos (aO hc)]
 ·rintro _ w0 ⟨rfl,hO⟩;exact⟨_,rfl,by unfold vj;rw[if_neg (aR hc)],hO⟩
theorem aaQ(xs:List cN)(n:aH):vj xs n= -1∨∃j:Nat,vj xs n=j/\j<xs.length:=by
 unfold vj;split
 ·exact .inl rfl
 ·exact AK xs n
theorem Oo(hB:aF w b ty [s.v,x1,x2,x3])(h:aA pb 5 w F s xs)(hF:Fo xs)(yH:xs.length<=1000000){sT:Sl}{tg:List Int}(hT:aA fz 1 w G sT tg)(hm:tg.length<=20000000){a:Nat}(ha:a<=1000000):
  az aq 89 #[ae (some ⟨b,0,none⟩),O U (a:Int),sT.v] w fun e w'=>e=ak (O U (Ej xs a tg))/\ay [] w w':=by
 refine ret (amg _ _ _ _ _ ?_);have hl:=hT.len;refine⟨fun hc=>⟨?_,Only.refl _ _⟩,fun hc=>?_⟩
 ·have hc:(sT.n:Int)=0:=by simpa using hc
  have:tg=[]:=cb (by omega);unfold Ej;rw[if_pos this]
 have hc:¬(sT.n:Int)=0:=by simpa using hc
 have ik:tg≠[]:=fun e=>hc (by rw[e]at hl;simp at hl;omega);obtain⟨y,w0,k1,k3,k2⟩:=R6 w (a:=(a:Int)) ⟨by omega,by omega⟩;have z0:=k3.size;have hT0:aA fz 1 w0 (fun k=>G k/\k<w.heap.size) sT tg:=kI (SliceF.inHeap bN hT (by decide)) k3;obtain⟨q,w1,g1,g2,g3,_⟩:=R7 k2 z0 hT0 (fun k hk e=>by have:=(k2.blk e).1;dsimp only at this;omega) (by rw[bG];omega);have o1:ay [] w w1:=(k3.mL (g3.mono (G:=fun k=>w.heap.size<=k) fun k _ e=>by have:=(k2.blk e).1;exact this)).only fun k hk=>hk;refine⟨y,w0,k1,q,w1,g1,s,Blk.dQ (o1.blk hB (by simp)) 0 rfl,(RN (SliceF.only dk (by decide) h o1 (by simp)) hF (g2.slice bN)).mono ?_⟩;rintro _ w2 ⟨⟨r,rfl,hr⟩,cR⟩;have o2:=o1.cf cR;have er:=hF.agE hr;have e1:[(a:Int)]++tg=(a:Int)::tg:=rfl;rw[e1]at er g2;have Zc:r<xs.length:=by
  have hl:=hF.ne;rw[er];unfold mtM;split
  ·omega
  ·rcases wv xs ((a:Int)::tg) xs.length with⟨g,_⟩ | ⟨m,g1,g2,_,_⟩<;>omega
 refine⟨r,rfl,fun kv d u=>Hn xs ((a:Int)::tg) kv d=Ej xs a tg/\d<xs.length/\d<=kv/\ay [] w u/\ay [] w1 u,xs.length,⟨?_,Zc,by omega,o2,cR⟩,?_⟩
 ·unfold Ej;rw[if_neg ik,er]
 rintro kv d w3 ⟨hd,zf,hdk,o3,p3⟩;refine⟨fun c u=>c=decide (0<d/\(oZ xs d≠1∨d∈(a:Int)::tg))/\ay [] w u/\ay [] w1 u,?_,fun uj=>?_,fun uj=>?_⟩
 ·rintro _ w4 ⟨rfl,o4,p4⟩;refine⟨fun hb=>?_,fun hb=>⟨?_,o4⟩⟩
  ·have hb:=aO hb;obtain⟨i,rfl⟩:∃i:Nat,d=i:=⟨d.toNat,by omega⟩
   obtain⟨x,hx⟩:=gV (xs:=xs) (i:=i) (by omega);obtain⟨ad,a1,_,a3,_⟩:=kH (SliceF.only dk (by decide) h o4 (by simp)) hx;have hp:=hF.uy hx;obtain⟨n,rfl⟩:∃n,kv=n+1:=⟨kv-1,by omega⟩
   refine⟨s,Blk.dQ (o4.blk hB (by simp)) 0 rfl,ad,a1,x.pa,a3,n,by omega,?_,by omega,by omega,o4,p4⟩;rw[Hn,if_pos hb,li hx]at hd;exact hd
  ·have hb:=aR hb;congr 1;rw[<-hd];cases kv with
   | zero=>rfl
   | succ n=>rw[Hn,if_neg hb]
 ·have uj:=aO uj;obtain⟨i,rfl⟩:∃i:Nat,d=i:=⟨d.toNat,by omega⟩
  obtain⟨x,hx⟩:=gV (xs:=xs) (i:=i) (by omega);obtain⟨ad,a1,a2,_⟩:=kH (SliceF.only dk (by decide) h o3 (by simp)) hx;refine⟨s,Blk.dQ (o3.blk hB (by simp)) 0 rfl,ad,a1,x.k,a2.dQ 0 _ rfl,fun hk=>⟨?_,o3,p3⟩,fun hk=>(sV (kI (g2.slice bN) p3) _).mono ?_⟩
  ·have hk:x.k≠1:=by simpa using hk
   exact(bL ⟨uj,.inl (by rw[kB hx];exact hk)⟩).symm
  ·have hk:x.k=1:=by simpa using hk
   rintro _ w5 ⟨rfl,eP⟩;refine⟨_,rfl,?_,o3.cf eP,p3.cf eP⟩;rw[iP,kB hx];exact⟨fun h=>⟨uj,.inr h⟩,fun h=>h.2.resolve_left fun h'=>h' hk⟩
 ·have uj:=aR uj;exact⟨(bC fun h=>uj h.1).symm,o3,p3⟩
end
def Yn:Rp Ro:=fun w F x cs=>∃tg:Sl,cs=[O U x.src,O U x.slot,O U x.k,ab (T x.ev),O U x.wt,tg.v,O U x.dom]/\aA fz 1 w F tg x.tg
theorem gC:Yn.Ok where
 keep:=by
  rintro w w' F x cs ⟨d,h1,h2⟩ hk;exact⟨d,h1,h2.keep bN (by decide) hk⟩
 inHeap:=by
  rintro w F x cs ⟨d,h1,h2⟩;exact⟨d,h1,h2.inHeap bN (by decide)⟩
 mono:=by
  rintro w F G x cs ⟨d,h1,h2⟩ hk;exact⟨d,h1,h2.mono bN hk⟩
 one:=by
  rintro w F x cs ⟨d,rfl,_⟩ v hv;simp only[aU,ba,bW]at hv;rcases hv with rfl | rfl | rfl | rfl | rfl | rfl | rfl<;>rfl
def Q3(a c d:Sl)(k:Nat):Prop:=ez a k∨ez c k∨ez d k
structure La (w:av) (b:Nat) (F:aJ) (s si sd sr:Sl) (xs:List cN) (ini dft:List Int) (ro:List Ro):Prop where
 blk:aF w b 101 [s.v,si.v,sd.v,sr.v]
 sp:aA pb 5 w F s xs
 hF:∀k,F k->k<w.heap.size/\k≠b/\¬Q3 si sd sr k
 i:dc (b+1) w si ini
 d:dc (b+1) w sd dft
 r:Own Yn 7 73 (b+1) w (fun k=>b<k/\¬ez si k/\¬ez sd k) sr ro
 ap:∀k,ez si k->¬ez sd k/\¬ez sr k
 ap2:∀k,ez sd k->¬ez sr k
section
variable {w w':av} {F:aJ} {s si sd sr:Sl} {xs:List cN} {b:Nat} {ini dft:List Int} {ro:List Ro}
theorem La.lt(h:La w b F s si sd sr xs ini dft ro):b<w.heap.size:=h.blk.lt
theorem La.bi(h:La w b F s si sd sr xs ini dft ro):∀k,ez si k->b<k/\k<w.heap.size:=fun k e=>by have:=h.i.blk e;dsimp only at this;omega
theorem La.bd(h:La w b F s si sd sr xs ini dft ro):∀k,ez sd k->b<k/\k<w.heap.size:=fun k e=>by have:=h.d.blk e;dsimp only at this;omega
theorem La.br(h:La w b F s si sd sr xs ini dft ro):∀k,ez sr k->b<k/\k<w.heap.size:=fun k e=>by have:=h.r.blk e;dsimp only at this;omega
theorem La.o0(h:La w b F s si sd sr xs ini dft ro)(hO:ay [] w w'):La w' b F s si sd sr xs ini dft ro:=
 ⟨hO.blk h.blk (by simp),SliceF.only dk (by decide) h.sp hO (by simp),fun k hk=>⟨cm (h.hF k hk).1 hO.size,(h.hF k hk).2⟩,h.i.keep bN fun k _ bS=>hO.block k bS (by simp),h.d.keep bN fun k _ bS=>hO.block k bS (by simp),h.r.keep gC fun k _ bS=>hO.block k bS (by simp),h.ap,h.ap2⟩
theorem La.amX(h:La w b F s si sd sr xs ini dft ro){n:Int}(hn:rS n)(hm:ini.length<=20000000):
  ∃y w1,(au 32 1 #[.mk 0 (O U n)]).run aq w=.ok (Sl.v y) w1/\ay [] w w1/\∃s' w2,(Builtin.append_ #[32,32] 32 #[Sl.v si,Sl.v y]).run aq w1=.ok (Sl.v s') w2/\aD (ez si) w1 w2/\(∀k,ez s' k->ez si k∨w.heap.size<=k)/\aF w2 b 101 [s.v,si.v,sd.v,sr.v]/\
   ∀w3,ay [b] w2 w3->aF w3 b 101 [s.v,s'.v,sd.v,sr.v]->La w3 b F s s' sd sr xs (ini++[n]) dft ro:=by
 have bS:=h.lt;obtain⟨y,w1,k1,k3,s',w2,g1,g2,g3,g4⟩:=R8 h.i (by omega) hn hm;have z1:=k3.size;have z2:=g3.size;refine⟨y,w1,k1,k3,s',w2,g1,g3,g4,g3.blk (k3.blk h.blk (by simp)) fun e=>by have:=h.bi b e;omega,fun w3 hO hB=>?_⟩;have hk:∀k,k<w.heap.size->k≠b->¬ez si k->w3.heap[k]? =w.heap[k]? :=fun k h1 h2 h3=>by
  rw[hO.block k (by omega) (by simpa using h2),g3.block k (by omega) h3,k3.block k h1 (by simp)]
 refine⟨hB,h.sp.keep dk (by decide) fun k uG hl=>hk k hl (h.hF k uG).2.1 fun e=>(h.hF k uG).2.2 (.inl e),fun k uG=>⟨by have:=(h.hF k uG).1;have:=hO.size;omega,(h.hF k uG).2.1,fun hq=>hq.elim (fun e=>(g4 k e).elim (fun e=>(h.hF k uG).2.2 (.inl e)) fun e=>by have:=(h.hF k uG).1;omega) fun e=>(h.hF k uG).2.2 (.inr e)⟩,g2.keep bN fun k iM hl=>hO.block k hl (by have:=iM.resolve_left id;simp;omega),h.d.keep bN fun k iM hl=>?_,((h.r.inHeap gC).keep gC fun k iM hl=>?_).mono gC fun k iM=>⟨iM.1.1,fun e=>?_,iM.1.2.2⟩,fun k e=>?_,h.ap2⟩
 ·have:=iM.resolve_left id;exact hk k hl (by omega) fun e=>(h.ap k e).1 this.2
 ·rcases iM with iM | iM
  ·exact hk k hl (by have:=iM.1.1;omega) iM.1.2.1
  ·exact hk k hl (by omega) fun e=>(h.ap k e).2 iM.2
 ·rcases g4 k e with e | e
  ·exact iM.1.2.1 e
  ·have:=iM.2;omega
 ·rcases g4 k e with e | e
  ·exact h.ap k e
  ·exact⟨fun e'=>by have:=h.bd k e';omega,fun e'=>by have:=h.br k e';omega⟩
theorem La.amY(h:La w b F s si sd sr xs ini dft ro){n:Int}(hn:rS n)(hm:dft.length<=20000000):
  ∃y w1,(au 32 1 #[.mk 0 (O U n)]).run aq w=.ok (Sl.v y) w1/\ay [] w w1/\∃s' w2,(Builtin.append_ #[32,32] 32 #[Sl.v sd,Sl.v y]).run aq w1=.ok (Sl.v s') w2/\aD (ez sd) w1 w2/\(∀k,ez s' k->ez sd k∨w.heap.size<=k)/\aF w2 b 101 [s.v,si.v,sd.v,sr.v]/\
   ∀w3,ay [b] w2 w3->aF w3 b 101 [s.v,si.v,s'.v,sr.v]->La w3 b F s si s' sr xs ini (dft++[n]) ro:=by
 have bS:=h.lt;obtain⟨y,w1,k1,k3,s',w2,g1,g2,g3,g4⟩:=R8 h.d (by omega) hn hm;have z1:=k3.size;have z2:=g3.size;refine⟨y,w1,k1,k3,s',w2,g1,g3,g4,g3.blk (k3.blk h.blk (by simp)) fun e=>by have:=h.bd b e;omega,fun w3 hO hB=>?_⟩;have hk:∀k,k<w.heap.size->k≠b->¬ez sd k->w3.heap[k]? =w.heap[k]? :=fun k h1 h2 h3=>by
  rw[hO.block k (by omega) (by simpa using h2),g3.block k (by omega) h3,k3.block k h1 (by simp)]
 refine⟨hB,h.sp.keep dk (by decide) fun k uG hl=>hk k hl (h.hF k uG).2.1 fun e=>(h.hF k uG).2.2 (.inr (.inl e)),fun k uG=>⟨by have:=(h.hF k uG).1;have:=hO.size;omega,(h.hF k uG).2.1,fun hq=>hq.elim (fun e=>(h.hF k uG).2.2 (.inl e)) fun hq=>hq.elim (fun e=>(g4 k e).elim (fun e=>(h.hF k uG).2.2 (.inr (.inl e))) fun e=>by have:=(h.hF k uG).1;omega) fun e=>(h.hF k uG).2.2 (.inr (.inr e))⟩,h.i.keep bN fun k iM hl=>?_,g2.keep bN fun k iM hl=>hO.block k hl (by have:=iM.resolve_left id;simp;omega),((h.r.inHeap gC).keep gC fun k iM hl=>?_).mono gC fun k iM=>⟨iM.1.1,iM.1.2.1,fun e=>?_⟩,fun k e=>⟨fun e'=>?_,(h.ap k e).2⟩,fun k e=>?_⟩
 ·have:=iM.resolve_left id;exact hk k hl (by omega) (h.ap k this.2).1
 ·rcases iM with iM | iM
  ·exact hk k hl (by have:=iM.1.1;omega) iM.1.2.2
  ·exact hk k hl (by omega) fun e=>h.ap2 k e iM.2
 ·rcases g4 k e with e | e
  ·exact iM.1.2.2 e
  ·have:=iM.2;omega
 ·rcases g4 k e' with e' | e'
  ·exact(h.ap k e).1 e'
  ·have:=h.bi k e;omega
 ·rcases g4 k e with e | e
  ·exact h.ap2 k e
  ·exact fun e'=>by have:=h.br k e';omega
theorem La.amZ(h:La w b F s si sd sr xs ini dft ro){x:Ro}{tg:Sl}{G:aJ}(hT:aA fz 1 w G tg x.tg)(hG:∀k,G k->b<k/\¬ez si k/\¬ez sd k/\¬ez sr k)(hm:ro.length<=20000000):
  ∃y w1,(au 53 1 #[.mk 0 (ah #[O U x.src,O U x.slot,O U x.k,ab (T x.ev),O U x.wt,tg.v,O U x.dom])]).run aq w=.ok (Sl.v y) w1/\ay [] w w1/\∃s' w2,(Builtin.append_ #[53,53] 53 #[Sl.v sr,Sl.v y]).run aq w1=.ok (Sl.v s') w2/\aD (ez sr) w1 w2/\(∀k,ez s' k->ez sr k∨w.heap.size<=k)/\aF w2 b 101 [s.v,si.v,sd.v,sr.v]/\
   ∀w3,ay [b] w2 w3->aF w3 b 101 [s.v,si.v,sd.v,s'.v]->La w3 b F s si sd s' xs ini dft (ro++[x]):=by
 have bS:=h.lt;obtain⟨y,w1,k1,k3,s',w2,g1,g2,⟨gs,g3',g4'⟩,g5⟩:=jK (P:=aq) (t:=53) (ty:=53) (e:=73) (i:=Tryz.t73) (bytes:=80) (size:=7) (r:=Yn) (G:=G) (v:=ah #[O U x.src,O U x.slot,O U x.k,ab (T x.ev),O U x.wt,tg.v,O U x.dom]) (x:=x) (by kernel_rfl) (by kernel_rfl) rfl rfl rfl rfl (by decide) (by decide) (by decide) gC h.r (by omega) rfl ⟨tg,rfl,hT⟩ (fun k hk _=>by have:=hG k hk;exact⟨⟨this.1,this.2.1,this.2.2.1⟩,this.2.2.2⟩) (by omega);have g3:aD (ez sr) w1 w2:=g3'.p fun g hg=>.inl (g4' g hg).1;have g4:∀k,ez s' k->ez sr k∨w.heap.size<=k:=fun k hk=>by
  unfold ez at hk⊢;rcases g5 with e | ⟨g,e,h⟩
  ·exact .inl (by rw[<-e];exact hk)
  ·rw[e]at hk;injection hk with hk;injection hk with hk;exact .inr (by omega)
 have z1:=k3.size;have z2:=g3.size;refine⟨y,w1,k1,k3,s',w2,g1,g3,g4,g3.blk (k3.blk h.blk (by simp)) fun e=>by have:=h.br b e;omega,fun w3 hO hB=>?_⟩;have hk:∀k,k<w.heap.size->k≠b->¬ez sr k->w3.heap[k]? =w.heap[k]? :=fun k h1 h2 h3=>by
  rw[hO.block k (by omega) (by simpa using h2),g3.block k (by omega) h3,k3.block k h1 (by simp)]
 refine⟨hB,h.sp.keep dk (by decide) fun k uG hl=>hk k hl (h.hF k uG).2.1 fun e=>(h.hF k uG).2.2 (.inr (.inr e)),fun k uG=>⟨by have:=(h.hF k uG).1;have:=hO.size;omega,(h.hF k uG).2.1,fun hq=>hq.elim (fun e=>(h.hF k uG).2.2 (.inl e)) fun hq=>hq.elim (fun e=>(h.hF k uG).2.2 (.inr (.inl e))) fun e=>(g4 k e).elim (fun e=>(h.hF k uG).2.2 (.inr (.inr e))) fun e=>by have:=(h.hF k uG).1;omega⟩,h.i.keep bN fun k iM hl=>?_,h.d.keep bN fun k iM hl=>?_,(g2.keep gC fun k iM hl=>hO.block k hl ?_).mono gC fun k iM=>?_,fun k e=>⟨(h.ap k e).1,fun e'=>?_⟩,fun k e e'=>?_⟩
 ·have:=iM.resolve_left id;exact hk k hl (by omega) (h.ap k this.2).2
 ·have:=iM.resolve_left id;exact hk k hl (by omega) (h.ap2 k this.2)
 ·simp only[aN];rcases iM with(iM | iM) | iM<;>omega
 ·rcases iM with iM | iM
  ·exact iM
  ·exact⟨by omega,fun e=>by have:=h.bi k e;omega,fun e=>by have:=h.bd k e;omega⟩
 ·rcases g4 k e' with e' | e'
  ·exact(h.ap k e).2 e'
  ·have:=h.bi k e;omega
 ·rcases g4 k e' with e' | e'
  ·exact h.ap2 k e e'
  ·have:=h.bd k e;omega
end
section
def rI(b:Nat)(Q:aJ)(w:av)(Q':aJ)(w':av):Prop:=aD (fun k=>k=b∨Q k) w w'/\∀k,Q' k->Q k∨w.heap.size<=k
theorem rI.refl(b:Nat)(Q:aJ)(w:av):rI b Q w Q w:=⟨OnlyP.refl _ _,fun _ h=>.inl h⟩
theorem rI.trans{b:Nat}{Q R S:aJ}{u v w:av}(h:rI b Q u R v)(g:rI b R v S w):rI b Q u S w:=by
 refine⟨h.1.trans g.1 fun k hk=>?_,fun k hk=>?_⟩
 ·rcases hk with hk | hk
  ·exact .inl (.inl hk)
  ·exact(h.2 k hk).elim (fun h=>.inl (.inr h)) .inr
 ·rcases g.2 k hk with hk | hk
  ·exact h.2 k hk
  ·exact .inr (bp h.1.size hk)
theorem rI.cf{b:Nat}{Q R:aJ}{u v w:av}(h:rI b Q u R v)(hO:ay [] v w):rI b Q u R w:=⟨h.1.cf hO,h.2⟩
theorem rI.of0{b:Nat}{Q R:aJ}{u v w:av}(hO:ay [] u v)(h:rI b Q v R w):rI b Q u R w:=⟨hO.mL h.1,fun k hk=>(h.2 k hk).imp id fun h=>bp hO.size h⟩
theorem xt{y:Nd}:∀{l:List Nd} {j:Nat},l[j]? =some y->iw (l.take j)+mO y<=iw l
 | [],j,h=>by simp at h
 | x::l,0,h=>by
  rw[ci,aZ]at h;subst h;rw[cM,iw,iw];omega
 | x::l,j+1,h=>by
  rw[cu]at h;have:=xt h;rw[dV,iw,iw];omega
mutual
theorem Jx(xs:List cN):∀(x:Nd) (a:Nat),(wM xs a x).length<=mO x
 | .mk b l,a=>by
  have:=El xs l (a+1);have:=lj b.mv;rw[wM,aP,mq,mO];unfold CE;omega
theorem El(xs:List cN):∀(l:List Nd) (a:Nat),(jP xs a l).length<=iw l
 | [],a=>by rw[jP];exact bh _
 | x::l,a=>by
  have:=Jx xs x a;have:=El xs l (a+iQ x);rw[jP,aP,iw];omega
end
section
variable {b:Nat} {F:aJ} {s:Sl} {xs:List cN}
theorem La.q3{w:av}{si sd sr:Sl}{ini dft:List Int}{ro:List Ro}(h:La w b F s si sd sr xs ini dft ro):∀k,Q3 si sd sr k->b<k/\k<w.heap.size:=fun k hk=>hk.elim (h.bi k) fun hk=>hk.elim (h.bd k) (h.br k)
theorem Yo(tZ:Fo xs)(yH:xs.length<=64):∀(D:Nat) {w:av} {G:aJ} {x:Nd} {cs:aI} {si sd sr:Sl} {ini dft:List Int} {ro:List Ro},ol false D w G x cs->(∀k,G k->k<b)->La w b F s si sd sr xs ini dft ro->
  mO x<=8388608->ini.length+iQ x<=1000000->dft.length=ini.length->ro.length+mO x<=16777216->
  az aq 43 #[ae (some ⟨b,0,none⟩),ah cs.toArray] w fun e w'=>e=ak (ai #[])/\∃si' OY sr',La w' b F s si' OY sr' xs (ini++(AN x).map fun c=>vj xs c.ini) (dft++(AN x).map fun c=>vj xs c.dft) (ro++wM xs ini.length x)/\rI b (Q3 si sd sr) w (Q3 si' OY sr') w'
 | 0,_,_,_,_,_,_,_,_,_,_,h,_,_,_,_,_,_=>h.elim
 | D+1,w,G,.mk bb ks,cs,si,sd,sr,ini,dft,ro,⟨en,lv,mv,kids,nP,⟨_,_,qy⟩,gu⟩,hG,hL,hz,hn,zf,hro=>by
  have hk:=gu.1;have qy:=qy.1;clear gu;dsimp only[Nd.kids,Nd.b]at hk nP qy;subst nP;rw[iQ]at hn;rw[mO]at hz hro;have Tu:=hk.len;have Bx:=qy.len;have hnn:=pW ks;have zg:=lj bb.mv;have awH:xj bb.mv<=CE bb:=by unfold CE;omega
  refine ret (al4 _ _ _ _ _ _ _ _ _ _ _ _ ?_);intro k0 w0 gu fe cD;have z0:=cD.size;have C4:=hL.lt;have hq:=hL.q3;have Uu:=hL.o0 cD;have inA:∀n,rS (vj xs n):=fun n=>by
   rcases aaQ xs n with h | ⟨j,h,hj⟩
   ·rw[h];exact⟨by decide,by decide⟩
   ·rw[h];exact⟨by omega,by omega⟩
  have Uo:si.n=ini.length:=hL.i.len;have sw:∀{Q':aJ} {u v:av} {bs:List Nat} {P:aJ},rI b (Q3 si sd sr) w0 Q' u->aD P u v->(∀k,P k->k=b∨Q' k)->(∀k,k∈bs->k<w0.heap.size/\w.heap.size<=k)->bU bs u v:=fun{Q' u v bs P} m hO hP hb=>hO.same fun x hx=>by
   have hx:=hb x hx;refine⟨by have:=m.1.size;omega,fun hh=>?_⟩;rcases hP x hh with rfl | hh
   ·omega
   ·rcases m.2 x hh with hh | hh
    ·have:=hq x hh;omega
    ·omega
  refine⟨si,Blk.dQ Uu.blk 1 rfl,fun w1 cr=>⟨fun k=>k=b,rfl,si,Blk.dQ (cr.blk Uu.blk (by simp)) 1 rfl,?_⟩⟩;have hL1:=Uu.o0 cr;have z1:=cr.size;have m1:rI b (Q3 si sd sr) w0 (Q3 si sd sr) w1:=(rI.refl _ _ _).cf cr;refine(R9 hL1.blk hL1.sp bb.ini).mono ?_;rintro _ w2 ⟨rfl,cR⟩;have hL2:=hL1.o0 cR;have m2:=m1.cf cR;obtain⟨y,w3,p1,p2,s1,w4,p3,p4,p5,p6,p7⟩:=hL2.amX (inA bb.ini) (by omega);have z2:=cR.size;have z3:=p2.size;have z4:=p4.size;refine⟨_,rfl,cR.same (by simp;omega),bP.only cR,y,w3,p1,p2.same (by simp;omega),bP.only p2,s1,w4,p3,sw (m2.cf p2) p4 (fun k hk=>.inr (.inl hk)) (by simp;omega),fun k hk bS=>?_,b,1,_,_,rfl,p6,cy rfl,by omega,fun w5 eP u7 w6 eB=>?_⟩
  ·subst hk;exact p4.block _ bS fun e=>by have:=hL.bi _ e;omega
  have Zb:=p7 w5 eP u7;have z5:=eP.size;have m5:rI b (Q3 si sd sr) w0 (Q3 s1 sd sr) w5:=by
   refine m2.trans ⟨(p2.mL (p4.mono (G:=fun k=>k=b∨Q3 si sd sr k) fun k _ hk=>.inr (.inl hk))).trans (eP.p (F:=fun k=>k=b) (by simp)) fun k hk=>.inl (.inl hk),fun k hk=>?_⟩;rcases hk with hk | hk
   ·exact(p5 k hk).imp .inl fun h=>by omega
   ·exact .inl (.inr hk)
  have OW:=Zb.o0 eB;have z6:=eB.size;have m6:=m5.cf eB;refine⟨fun k=>k=b,rfl,sd,Blk.dQ OW.blk 2 rfl,(R9 OW.blk OW.sp bb.dft).mono ?_⟩;rintro _ w7 ⟨rfl,fE⟩;have Fh:=OW.o0 fE;have m7:=m6.cf fE;obtain⟨y8,w8,r1,r2,s2,w9,r3,r4,r5,r6,r7⟩:=Fh.amY (inA bb.dft) (by omega);have z7:=fE.size;have z8:=r2.size;have z9:=r4.size;refine⟨_,rfl,fE.same (by simp;omega),bP.only fE,y8,w8,r1,r2.same (by simp;omega),bP.only r2,s2,w9,r3,sw (m7.cf r2) r4 (fun k hk=>.inr (.inr (.inl hk))) (by simp;omega),fun k hk bS=>?_,b,2,_,_,rfl,r6,cy rfl,by omega,fun du dM wF=>?_⟩
  ·subst hk;exact r4.block _ bS fun e=>by have:=Fh.bd _ e;omega
  have acR:=r7 du dM wF;have PB:=dM.size;have m10:rI b (Q3 si sd sr) w0 (Q3 s1 s2 sr) du:=by
   refine m7.trans ⟨(r2.mL (r4.mono (G:=fun k=>k=b∨Q3 s1 sd sr k) fun k _ hk=>.inr (.inr (.inl hk)))).trans (dM.p (F:=fun k=>k=b) (by simp)) fun k hk=>.inl (.inl hk),fun k hk=>?_⟩;rcases hk with hk | hk | hk
   ·exact .inl (.inl hk)
   ·exact(r5 k hk).imp (fun h=>.inr (.inl h)) fun h=>by omega
   ·exact .inl (.inr (.inr hk))
  have hq0:∀{Q':aJ} {u:av},rI b (Q3 si sd sr) w0 Q' u->¬Q' k0:=fun m e=>by
   rcases m.2 k0 e with h | h
   ·have:=hq k0 h;omega
   ·omega
  have iM:∀{u:av} {Q':aJ},rI b (Q3 si sd sr) w0 Q' u->aA (ol false D) 9 u G kids ks:=fun m=>SliceF.jV (cG false D) (by decide) hk (cD.mL m.1) fun k Xj _=>by
   have:=hG k Xj;exact fun h=>h.elim (by omega) fun h=>by have:=hq k h;omega
  have Tz:∀{u:av} {Q':aJ},rI b (Q3 si sd sr) w0 Q' u->aA (Jd false) 13 u G mv bb.mv:=fun m=>SliceF.jV (lV false) (by decide) qy (cD.mL m.1) fun k Xj _=>by
   have:=hG k Xj;exact fun h=>h.elim (by omega) fun h=>by have:=hq k h;omega
  refine⟨fun kv i u=>∃(j:Nat) (q:Sl),i=(j:Int)/\kv+j=bb.mv.length/\j<=bb.mv.length/\La u b F s s1 s2 q xs (ini++[vj xs bb.ini]) (dft++[vj xs bb.dft]) (ro++xr xs ini.length 0 (bb.mv.take j))/\rI b (Q3 si sd sr) w0 (Q3 s1 s2 q) u,bb.mv.length,⟨0,sr,rfl,by omega,bh _,by rw[cM,xr,bQ];exact acR,m10⟩,?_⟩;rintro kv _ dC ⟨j,q,rfl,tY,hj,yK,m11⟩;have C6:=m11.1.size;refine⟨fun hc=>?_,fun hc=>?_⟩
  ·have hc:=aO hc;obtain⟨ad,m,ds,a1,a2,a3,a4,a5,a6⟩:=(Tz m11).get (bA j) (by omega);rw[aY]at a2;obtain⟨gc,tv,tg,rfl,Za,yr,vd⟩:=a6;obtain⟨sl,rfl⟩:=jc Za;have vd:=vd.1;have BR:=vd.len;have hmz:Jo m<=xj bb.mv:=sQ (bF a2);have htz:=yV m.tg;unfold Jo at hmz;refine⟨ad,a1,_,_,_,_,_,_,_,_,sl,_,tv,tg,_,a5,fun k9 jd dN hk9 acI ail TZ eS=>?_⟩;have z12:=eS.size;refine⟨fun T0 i a2' sl2 k2 ev wt l dm u=>∃t:Nat,i=(t:Int)/\a2'=(ini.length:Int)/\sl2=(j:Int)/\k2=m.k/\ev=T m.ev/\wt=m.wt/\dm=0/\T0+t=m.tg.length/\t<=m.tg.length/\dc dN.heap.size u l ((m.tg.take t).map (vj xs))/\ay [] dC u/\dN.heap.size<=u.heap.size,m.tg.length,⟨0,rfl,by rw[Uo],rfl,rfl,rfl,rfl,rfl,by omega,bh _,Own.nil _ _ _ _ _ _,eS,aX _⟩,?_⟩;rintro T0 _ _ _ _ _ _ l _ fb ⟨t,rfl,rfl,rfl,rfl,rfl,rfl,rfl,OZ,ht,hT,eH,PF⟩;have rl:∀k,ez l k->dN.heap.size<=k:=fun k e=>(hT.blk e).1;have acU:=yK.o0 eH;have Xb:((m.tg.take t).map (vj xs)).length=t:=by rw[bm,cT];omega
   refine⟨fun lw=>?_,fun lw=>?_⟩
   ·have lw:=aO lw;obtain⟨ve,x2,cs2,b1,b2,b3,b4,b5,b6⟩:=(SliceF.only cP (by decide) vd eH (by simp)).get (bA t) (by omega);rw[aY]at b2;unfold ju at b6;subst b6;refine⟨ve,b1,_,b5,fun fk ep=>⟨fun k=>k<dN.heap.size,TZ,?_⟩⟩;have W0:=ep.size;have ain:=acU.o0 ep;refine(R9 ain.blk ain.sp x2).mono ?_;rintro _ fZ ⟨rfl,gL⟩;have z15:=gL.size;have apq:dc dN.heap.size fZ l _:=(hT.keep bN fun k _ bS=>ep.block k bS (by simp)).keep bN fun k _ bS=>gL.block k bS (by simp);obtain⟨y2,gI,c1,c2,l2,gf,c3,c4,c5,c6⟩:=R8 apq (by omega) (inA x2) (by rw[Xb];omega);have z16:=c2.size;have z17:=c5.size;have o17:ay [] dC gf:=((((eH.cf ep).cf gL).cf c2).mL (c5.mono (G:=fun k=>dC.heap.size<=k) fun k _ e=>by have:=rl k e;omega)).only fun k hk=>hk;refine⟨_,rfl,gL.same (by simp;omega),bP.only gL,y2,gI,c1,c2.same (by simp;omega),bP.only c2,l2,gf,c3,c5.same fun x hx=>?_,fun k hk _=>c5.block k (by omega) fun e=>(by have:=rl k e;omega),fun iy mV=>⟨T0-1,by omega,t+1,by rw[fR (by omega) (by omega)];rfl,rfl,rfl,rfl,rfl,rfl,rfl,by omega,by omega,?_,o17.trans mV fun x hx=>.inr (by simp only[aN]at hx;omega),by have:=mV.size;omega⟩⟩
    ·simp only[aU,ba,bW]at hx;rcases hx with rfl | rfl | rfl
     ·exact⟨by omega,fun e=>by have:=rl _ e;omega⟩
     ·exact⟨by omega,fun e=>by have:=rl _ e;omega⟩
     ·exact⟨by omega,fun e=>by have:=rl _ e;omega⟩
    ·rw[bJ,b2,cJ];exact c4.keep bN fun k hk bS=>mV.block k bS (by have:=hk.resolve_left id;simp;omega)
   ·have lw:=aR lw;have hte:t=m.tg.length:=by omega
    subst hte;rw[bq (aX _)]at hT Xb;rw[Uo];refine(Oo acU.blk acU.sp tZ (by omega) (hT.slice bN) (by rw[Xb];omega) (a:=ini.length) (by omega)).mono ?_;rintro _ jA ⟨rfl,j6⟩;have z19:=j6.size;refine⟨_,rfl,j6.same (by simp;omega),fun iW nJ=>⟨fun k=>k=b,rfl,?_⟩⟩;have z20:=nJ.size;have o20:ay [] dC iW:=(eH.cf j6).trans nJ fun x hx=>.inr (by simp only[aN]at hx;omega);have aio:=yK.o0 o20;have apr:dc dN.heap.size iW l _:=(hT.keep bN fun k _ bS=>j6.block k bS (by simp)).keep bN fun k hk bS=>nJ.block k bS (by have:=hk.resolve_left id;simp;omega);obtain⟨y3,lu,d1,d2,q',oT,d3,d4,d5,d6,d7⟩:=aio.amZ (x:=Fv xs ini.length j m) (apr.slice bN) (fun k hk=>by
     have hk:=hk.resolve_left id;exact⟨by omega,fun e=>by have:=yK.bi k e;omega,fun e=>by have:=yK.bd k e;omega,fun e=>by have:=yK.br k e;omega⟩) (by rw[aP,mq,cT];omega)
    have z21:=d2.size;have z22:=d4.size;refine⟨q,Blk.dQ aio.blk 3 rfl,y3,lu,d1,d2.same (by simp;omega),bP.only d2,q',oT,d3,d4.same fun x hx=>?_,fun k hk bS=>?_,b,3,_,_,rfl,d6,cy rfl,by omega,by omega,by omega,fun om qo aps=>⟨kv-1,by omega,j+1,q',by rw[fR (by omega) (by omega)];rfl,by omega,by omega,?_,?_⟩⟩
    ·simp only[aU,ba,bW]at hx;rcases hx with rfl | rfl | rfl
     ·exact⟨by omega,fun e=>hq0 m11 (.inr (.inr e))⟩
     ·exact⟨by omega,fun e=>by have:=yK.br _ e;omega⟩
     ·exact⟨by omega,fun e=>by have:=yK.br _ e;omega⟩
    ·subst hk;exact d4.block _ bS fun e=>by have:=yK.br _ e;omega
    ·have e:bb.mv.take (j+1)=bb.mv.take j++[m]:=by rw[bJ,a2];rfl
     have hl:(bb.mv.take j).length=j:=by rw[cT];omega
     rw[e,AP,hl,bO,<-bH];exact d7 om qo aps
    ·refine(m11.cf o20).trans ⟨(d2.mL (d4.mono (G:=fun k=>k=b∨Q3 s1 s2 q k) fun k _ hk=>.inr (.inr (.inr hk)))).trans (qo.p (F:=fun k=>k=b) (by simp)) fun k hk=>.inl (.inl hk),fun k hk=>?_⟩;rcases hk with hk | hk | hk
     ·exact .inl (.inl hk)
     ·exact .inl (.inr (.inl hk))
     ·exact(d5 k hk).imp (fun h=>.inr (.inr h)) fun h=>by omega
  ·have hc:=aR hc;have qt:j=bb.mv.length:=by omega
   subst qt;rw[bq (aX _)]at yK;clear tY;refine⟨fun kv i u=>∃(j:Nat) (qi qd qr:Sl),i=(j:Int)/\kv+j=ks.length/\j<=ks.length/\La u b F s qi qd qr xs (ini++(vj xs bb.ini::(vm (ks.take j)).map fun c=>vj xs c.ini)) (dft++(vj xs bb.dft::(vm (ks.take j)).map fun c=>vj xs c.dft)) (ro++(xr xs ini.length 0 bb.mv++jP xs (ini.length+1) (ks.take j)))/\rI b (Q3 si sd sr) w0 (Q3 qi qd qr) u,ks.length,⟨0,s1,s2,q,rfl,by omega,bh _,by rw[cM,vm,jP,bQ];exact yK,m11⟩,?_⟩;rintro kv _ oU ⟨j,qi,qd,qr,rfl,tY,hj,Xk,m24⟩;have z24:=m24.1.size;refine⟨fun lw=>?_,fun lw=>?_⟩
   ·have lw:=aO lw;obtain⟨ad,y,ds,a1,a2,a3,a4,a5,a6⟩:=(iM m24).get (bA j) (by omega);rw[aY]at a2;have US:=a6;obtain⟨D',rfl⟩:∃D',D=D'+1:=by
     cases D with
     | zero=>exact a6.elim
     | succ D'=>exact⟨D',rfl⟩
    obtain⟨vu,xH,rQ,kK,rfl,_⟩:=US;have lC:=nM a2;have hyz:mO y<=iw ks:=nX (bF a2);have hzt:=xt a2;refine⟨ad,a1,_,_,_,_,vu,xH,rQ,kK,_,a5,fun yp mM awM aip tu=>?_⟩;have z25:=tu.size;have aiq:=Xk.o0 tu;have Bg:(ini++(vj xs bb.ini::(vm (ks.take j)).map fun c=>vj xs c.ini)).length=ini.length+1+dJ (ks.take j):=by
     rw[aP,bf,bm,tQ];omega
    have air:(dft++(vj xs bb.dft::(vm (ks.take j)).map fun c=>vj xs c.dft)).length=dft.length+1+dJ (ks.take j):=by
     rw[aP,bf,bm,tQ];omega
    have Zc:(ro++(xr xs ini.length 0 bb.mv++jP xs (ini.length+1) (ks.take j))).length<=ro.length+(CE bb+iw (ks.take j)):=by
     have:=El xs (ks.take j) (ini.length+1);rw[aP,aP,mq];omega
    refine(Yo tZ yH (D'+1) ((cG false (D'+1)).keep a6 fun k _ bS=>tu.block k bS (by simp)) hG aiq (by omega) (by rw[Bg];omega) (by rw[Bg,air];omega) (by omega)).mono ?_;rintro _ oo ⟨rfl,ti,td,tr,acV,m26⟩;have z26:=m26.1.size;have awN:=aiq.q3;have apv:=hq0 m24;refine⟨rfl,m26.1.same fun x hx=>?_,kv-1,by omega,j+1,ti,td,tr,by rw[fR (by omega) (by omega)];rfl,by omega,by omega,?_,(m24.cf tu).trans m26⟩
    ·simp only[aU,ba,bW]at hx;rcases hx with rfl | rfl
     ·exact⟨by omega,fun h=>h.elim (by omega) apv⟩
     ·exact⟨aip,fun h=>h.elim (by omega) fun h=>by have:=Xk.q3 _ h;omega⟩
    ·have e:ks.take (j+1)=ks.take j++[y]:=by rw[bJ,a2];rfl
     rw[Bg]at acV;rw[e,Ek,vm,vm,bQ,AO,jP,jP,bQ,cJ,cJ,<-bH (xr xs ini.length 0 bb.mv),<-bH ro];rw[bH,bH,bZ,bZ]at acV;exact acV
   ·have lw:=aR lw;have qt:j=ks.length:=by omega
    subst qt;rw[bq (aX _)]at Xk;refine⟨rfl,qi,qd,qr,?_,rI.of0 cD m24⟩;rw[AN,wM,bD,bD];exact Xk
end
structure PlR (w:av) (F:aJ) (s si sd sr:Sl) (p:Pl):Prop where
 sp:aA pb 5 w F s p.sp
 ini:aA fz 1 w F si p.ini
 dft:aA fz 1 w F sd p.dft
 ro:aA Yn 7 w F sr p.ro
theorem PlR.o0{w w':av}{F:aJ}{s si sd sr:Sl}{p:Pl}(h:PlR w F s si sd sr p)(hO:ay [] w w'):PlR w' F s si sd sr p:=
 ⟨SliceF.only dk (by decide) h.sp hO (by simp),SliceF.only bN (by decide) h.ini hO (by simp),SliceF.only bN (by decide) h.dft hO (by simp),SliceF.only gC (by decide) h.ro hO (by simp)⟩
theorem Sa{c:Ch}(h:(fU c).1=0):fU c=(0,0):=by
 obtain⟨h1,h2⟩:=qZ h;unfold fU;rw[if_neg (fun e=>e h1),h2];rfl
theorem AQ{w:av}{F:aJ}{D:Nat}{c:Ch}{vs:Sl}{cs:aI}(hx:ChR false (D+1) w F c vs cs)(hn:UL c)(hs:qX c.vars+mO c.root<=8388608)(hE:Er w)(hT:Tb w):
  az aq 19 #[ah (vs.v::cs).toArray] w fun e w'=>(∃s si sd sr:Sl,e=ak (ai #[ah #[s.v,si.v,sd.v,sr.v],ah #[O U (fU c).1,O U (fU c).2]])/\((fU c).1=0->PlR w' (fun k=>w.heap.size<=k) s si sd sr (gp c)))/\ay [] w w':=by
 obtain⟨en,lv,mv,kids,nP,_⟩:=hx.root;subst nP;refine(alY vs c.root.b.k (T c.root.b.nm) (T c.root.b.ini) (T c.root.b.dft) en lv mv kids c.root.b.a (fun v w'=>(∃s si sd sr:Sl,v=ai #[ah #[s.v,si.v,sd.v,sr.v],ah #[O U (fU c).1,O U (fU c).2]]/\((fU c).1=0->PlR w' (fun k=>w.heap.size<=k) s si sd sr (gp c)))/\ay [] w w') w ?_).mono (by rintro _ w' ⟨v,rfl,⟨s,si,sd,sr,rfl,h⟩,h'⟩;exact⟨⟨s,si,sd,sr,rfl,h⟩,h'⟩);intro k0 k1 k2 w0 gu fe j5 iX rm rn cD;have z0:=cD.size;have keep:∀{u:av},ay [] w u->ChR false (D+1) u F c vs (nE c.root.b.k c.root.b.nm c.root.b.ini c.root.b.dft en lv mv kids c.root.b.a):=fun hO=>⟨hx.vars.keep fA (by decide) fun k _ bS=>hO.block k bS (by simp),(cG false _).keep hx.root fun k _ bS=>hO.block k bS (by simp)⟩
 refine(Hg (keep cD) hn hs (hE.only cD) (hT.only cD)).mono ?_;rintro _ w1 ⟨rfl,cr⟩;have z1:=cr.size;have o1:=cD.cf cr;refine⟨_,_,rfl,cr.same (by simp;omega),fun hc k3 w2 wG rL cR n1 n2 n3 n4 n5 n6=>?_,fun hc k4 k5 w4 Bl E9 C7 H2 dL=>?_⟩
 ·have hc:(fU c).1≠0:=by simpa using hc
  refine⟨fun k=>k=k3,rfl,fun h=>n5 h,fun h=>n6 h,fun w3 de=>⟨⟨Sl.nil,Sl.nil,Sl.nil,Sl.nil,rfl,fun h=>absurd h hc⟩,(o1.cf cR).trans de fun x hx=>.inr (by simp only[aU,ba,bW]at hx;omega)⟩⟩
 have hc:(fU c).1=0:=by simpa using hc
 have hp:=(qZ hc).1;have hnd:=tL hp;have z4:=dL.size;have o4:=o1.cf dL;refine(RL (keep o4) hn hs (hE.only o4) (hT.only o4)).mono ?_;rintro _ w5 ⟨⟨s,rfl,h1,_⟩,eP⟩;have hS:=h1 hp;have z5:=eP.size;have o5:=o4.cf eP;refine⟨s,_,rfl,eP.same (by simp;omega),fun w6 eB Tx n1 n2 n3 n4=>?_⟩;have z6:=eB.size;have o6:ay [] w w6:=o5.trans eB fun x hx=>.inr (by simp only[aN]at hx;omega);have hr6:ol false (D+1) w6 (fun k=>k<w.heap.size) c.root (nE c.root.b.k c.root.b.nm c.root.b.ini c.root.b.dft en lv mv kids c.root.b.a):=
  (cG false _).keep ((cG false _).mono ((cG false _).inHeap hx.root) fun k hk=>hk.2) fun k _ bS=>o6.block k bS (by simp)
 have Fg:aA pb 5 w6 (fun k=>w4.heap.size<=k/\k<w5.heap.size) s (cF c):=SliceF.only dk (by decide) ((SliceF.inHeap dk (hS.slice dk) (by decide)).mono dk fun k hk=>⟨(hk.1.resolve_left id).1,hk.2⟩) eB fun k hk _ hm=>by simp only[aN]at hm;omega
 have noQ:∀k,¬Q3 Sl.nil Sl.nil Sl.nil k:=fun k hk=>by rcases hk with hk | hk | hk<;>cases hk
 have hLa:La w6 k5 (fun k=>w4.heap.size<=k/\k<w5.heap.size) s Sl.nil Sl.nil Sl.nil (cF c) [] [] []:=⟨Tx,Fg,fun k hk=>⟨by omega,by omega,noQ k⟩,Own.nil _ _ _ _ _ _,Own.nil _ _ _ _ _ _,Own.nil _ _ _ _ _ _,fun k h=>(by cases h),fun k h=>(by cases h)⟩
 have fi:(cF c).length=iQ c.root:=by unfold cF;rw[lh]
 refine(Yo (yT c) (by omega) (D+1) hr6 (fun k hk=>by omega) hLa (by omega) (by rw[cz];omega) rfl (by rw[cz];omega)).mono ?_;rintro _ w7 ⟨rfl,si,sd,sr,Fh,m7⟩;have z7:=m7.1.size;refine⟨rfl,m7.1.same fun x hx=>?_,s,si,sd,sr,Fh.blk,fun w8 fy vt=>⟨⟨s,si,sd,sr,by rw[Sa hc],fun _=>?_⟩,?_⟩⟩
 ·simp only[aU,ba,bW]at hx;refine⟨by omega,fun h=>h.elim (by omega) (noQ x)⟩
 ·have kp:∀k,k<w7.heap.size->k∉[k2,k1]->w8.heap[k]? =w7.heap[k]? :=fun k h1 h2=>fy.block k h1 h2;simp only[ck]at Fh;rw[show([]:List Int).length=0 from rfl]at Fh;refine⟨(Fh.sp.keep dk (by decide) fun k hk bS=>kp k bS (by simp;omega)).mono dk fun k hk=>by omega,((Fh.i.slice bN).keep bN (by decide) fun k hk bS=>kp k bS ?_).mono bN fun k hk=>?_,((Fh.d.slice bN).keep bN (by decide) fun k hk bS=>kp k bS ?_).mono bN fun k hk=>?_,((Fh.r.slice gC).keep gC (by decide) fun k hk bS=>kp k bS ?_).mono gC fun k hk=>?_⟩
  ·have:=hk.resolve_left id;simp;omega
  ·have:=hk.resolve_left id;omega
  ·have:=hk.resolve_left id;simp;omega
  ·have:=hk.resolve_left id;omega
  ·rcases hk with hk | hk
   ·have:=hk.1;simp;omega
   ·simp;omega
  ·rcases hk with hk | hk
   ·have:=hk.1;omega
   ·omega
 ·refine((o6.mL (m7.1.mono (G:=fun k=>w.heap.size<=k) fun k _ hk=>hk.elim (by omega) fun h=>absurd h (noQ k))).only fun k hk=>hk).trans fy fun x hx=>.inr (by simp only[aU,ba,bW]at hx;omega)
end
def kd(xs:List cN)(i:Int):Int:=((xs[i.toNat]?).map fun s:cN=>s.k).getD 0
theorem ux{xs:List cN}{i:Nat}{s:cN}(h:xs[i]? =some s):kd xs (i:Int)=s.k:=by
 unfold kd;rw[aY,h];rfl
def Bq(k:Int):Bool:=(k==1)||(k==2)
def dz(xs:List cN)(n:Nat):List Int:=(fT xs n xs.length).filter fun k=>Bq (kd xs k)
structure Sd (xs:List cN):Prop where
 fo:Fo xs
 le:xs.length<=64
 kn:∀(i:Nat) (s:cN),xs[i]? =some s->1<=s.k/\s.k<=4
 rt:∃s,xs[0]? =some s/\s.k=1
 pr:∀(i:Nat) (s:cN),xs[i]? =some s->s.k=2->dz xs i≠[]
theorem Ho{xs:List cN}{i n:Nat}{k:Int}:k∈fT xs i n↔∃(q:Nat) (t:cN),k=q/\q<n/\xs[q]? =some t/\t.pa=i:=by
 unfold fT;rw[eE];constructor
 ·rintro⟨q,hq,rfl⟩;rw[ft,fG]at hq;have:=aO hq.2;cases hx:xs[q]? with
  | none=>rw[hx]at this;cases this
  | some t=>
   rw[hx]at this;injection this with this;exact⟨q,t,rfl,hq.1,hx,this⟩
 ·rintro⟨q,t,rfl,h1,h2,h3⟩;exact⟨q,by rw[ft,fG];exact⟨h1,bL (by rw[h2];exact bI some h3)⟩,rfl⟩
theorem jE{xs:List cN}{i:Nat}{k:Int}:k∈dz xs i↔∃(q:Nat) (t:cN),k=q/\xs[q]? =some t/\t.pa=i/\Bq t.k=true:=by
 unfold dz;rw[ft,Ho];constructor
 ·rintro⟨⟨q,t,rfl,_,h2,h3⟩,h4⟩;rw[ux h2]at h4;exact⟨q,t,rfl,h2,h3,h4⟩
 ·rintro⟨q,t,rfl,h2,h3,h4⟩;exact⟨⟨q,t,rfl,fJ h2,h2,h3⟩,by rw[ux h2];exact h4⟩
theorem nN(xs:List cN)(i:Nat):(dz xs i).Pairwise (· <·):=(xV xs i xs.length).1.filter _
theorem Hp(xs:List cN)(i:Nat):(dz xs i).length<=xs.length:=by
 unfold dz;refine bp (da _ _) ?_;unfold fT;rw[bm];exact bp (da _ _) (by rw[gZ];exact aX _)
theorem qc:∀{l m:List Int},l.Pairwise (· <·)->m.Pairwise (· <·)->(∀x,x∈l↔x∈m)->l=m
 | [],[],_,_,_=>rfl
 | [],y::m,_,_,h=>absurd ((h y).2 (.head _)) (by simp)
 | x::l,[],_,_,h=>absurd ((h x).1 (.head _)) (by simp)
 | x::l,y::m,hl,hm,h=>by
  rw[fN]at hl hm;have hxy:x=y:=by
   have h1:=(h x).1 (.head _);have h2:=(h y).2 (.head _);rw[aU]at h1 h2;rcases h1 with h1 | h1
   ·exact h1
   rcases h2 with h2 | h2
   ·exact h2.symm
   have:=hl.1 y h2;have:=hm.1 x h1;omega
  subst hxy;rw[qc hl.2 hm.2 fun z=>?_];have hz:=h z;rw[aU,aU]at hz;constructor
  ·intro Ut;rcases hz.1 (.inr Ut)with e | e
   ·subst e;exact absurd (hl.1 z Ut) (by omega)
   ·exact e
  ·intro Ut;rcases hz.2 (.inr Ut)with e | e
   ·subst e;exact absurd (hm.1 z Ut) (by omega)
   ·exact e
def Ph(n:Nat)(p:Nat->Bool):List Int:=((List.range n).filter p).map fun k:Nat=>(k:Int)
theorem Em(n:Nat)(p:Nat->Bool):(Ph n p).length<=n:=by
 unfold Ph;rw[bm];exact bp (da _ _) (by rw[gZ];exact aX _)
theorem ra{n:Nat}{p:Nat->Bool}{x:Int}:x∈Ph n p↔∃k:Nat,x=k/\k<n/\p k=true:=by
 unfold Ph;rw[eE];constructor
 ·rintro⟨k,hk,rfl⟩;rw[ft,fG]at hk;exact⟨k,rfl,hk⟩
 ·rintro⟨k,rfl,hk⟩;exact⟨k,by rw[ft,fG];exact hk,rfl⟩
theorem Hq(n:Nat)(p:Nat->Bool):(Ph n p).Pairwise (· <·):=by
 unfold Ph;rw[List.pairwise_map];refine List.Pairwise.imp (R:=(· <·)) (fun h=>by omega) ?_;exact List.Pairwise.filter _ List.pairwise_lt_range
def lvP(xs:List cN)(act:List Int)(n:Nat):Bool:=decide ((n:Int)∈act)&&(kd xs n==1)&&((dz xs n).length==0)
def Ie(xs:List cN)(act:List Int):List Int:=Ph xs.length (lvP xs act)
def Pj(xs:List cN)(act:List Int)(n:Nat):Nat:=(dz xs n).countP fun r=>decide (r∈act)
def xu(xs:List cN)(act:List Int)(n:Nat):Bool:=if kd xs n=2 then Pj xs act n==(dz xs n).length else Pj xs act n==min 1 (dz xs n).length
structure apw (xs:List cN) (act:List Int) (x:Int):Prop where
 ge:0<=x
 lt:x<xs.length
 st:Bq (kd xs x)=true
 up:x=0∨∀s,xs[x.toNat]? =some s->s.pa∈act
 on:xu xs act x.toNat=true
structure Lg (xs:List cN) (act:List Int):Prop where
 rt:(0:Int)∈act
 rise:act.Pairwise (· <·)
 at_:∀x,x∈act->apw xs act x
section
variable {xs:List cN}
theorem Sd.JR(hF:Sd xs){n:Nat}{r:Int}(h:r∈dz xs n):∃(q:Nat) (t:cN),r=q/\xs[q]? =some t/\t.pa=n/\Bq t.k=true/\n<q/\∀s,xs[n]? =some s->(q:Int)<s.en:=by
 obtain⟨q,t,h1,h2,h3,h4⟩:=jE.1 h;have h5:=hF.fo.uy h2;refine⟨q,t,h1,h2,h3,h4,by omega,fun s hs=>?_⟩;obtain⟨p,s',g1,g2,g3,g4,g5,_⟩:=hF.fo.par h2 (by omega);have:p=n:=by omega
 subst this;rw[hs]at g3;injection g3 with g3;rw[g3];exact g5
theorem Sd.apart(hF:Sd xs){n q r:Nat}{s t:cN}(hq:xs[q]? =some s)(hr:xs[r]? =some t)(h1:s.pa=n)(h2:t.pa=n)(hqr:q<r):s.en<=r:=by
 have h5:=hF.fo.uy hq;obtain⟨p,s',g1,g2,g3,g4,g5,g6⟩:=hF.fo.par hr (by omega);refine gq fun hh=>?_;have:=g6 q s hq hqr (by omega);omega
theorem CM{α:Type}{f:α->List Int}{lo:α->Int}{hi:α->Int}:∀{rs:List α},rs.Pairwise (fun a b=>hi a<=lo b)->(∀r,r∈rs->(f r).Pairwise (· <·)/\∀x,x∈f r->lo r<=x/\x<hi r)->(rs.flatMap f).Pairwise (· <·)
 | [],_,_=>by simp
 | r::rs,hp,hr=>by
  rw[fN]at hp;rw[vB,gM];refine⟨(hr r (.head _)).1,CM hp.2 fun q hq=>hr q (.tail _ hq),fun x hx y hy=>?_⟩;obtain⟨q,hq,hy⟩:=qu.1 hy;have h1:=(hr r (.head _)).2 x hx;have h2:=(hr q (.tail _ hq)).2 y hy;have h3:=hp.1 q hq;omega
def Hr(xs:List cN)(r:Int):Int:=((xs[r.toNat]?).map fun s:cN=>s.en).getD 0
theorem nY{i:Nat}{s:cN}(h:xs[i]? =some s):Hr xs i=s.en:=by
 unfold Hr;rw[aY,h];rfl
theorem Sd.uW(hF:Sd xs)(n:Nat){l:List Int}(hl:l.Pairwise (· <·))(hm:∀r,r∈l->r∈dz xs n):l.Pairwise fun a b=>Hr xs a<=b:=by
 refine List.Pairwise.imp_of_mem (fun{a b} ha hb bS=>?_) hl;obtain⟨q,s,rfl,h2,h3,_⟩:=hF.JR (hm a ha);obtain⟨r,t,rfl,g2,g3,_⟩:=hF.JR (hm b hb);rw[nY h2];exact hF.apart h2 g2 h3 g3 (by omega)
theorem Hs:∀{l:List Int} {lo hi:Int},l.Pairwise (· <·)->(∀x,x∈l->lo<=x/\x<hi)->lo<=hi->(l.length:Int)<=hi-lo
 | [],lo,hi,_,_,h=>by simp;omega
 | a::l,lo,hi,hp,hm,h=>by
  rw[fN]at hp;have ha:=hm a (.head _);have:=Hs (lo:=a+1) (hi:=hi) hp.2 (fun x hx=>⟨by have:=hp.1 x hx;omega,(hm x (.tail _ hx)).2⟩) (by omega);rw[bf];omega
end
section
variable {B:Nat} {w w':av} {s:Sl} {l d:List Int}
theorem dc.cells(h:dc B w s l){g:Nat}(ha:s.a=some ⟨g,0,none⟩):∃tail,B<=g/\aF w g 3 (l.map (Value.int U)++tail)/\tail.length=s.c-s.n/\s.n=l.length/\s.n<=s.c/\s.c<=9223372036854775807/\∀x,x∈l->rS x:=by
 rcases h with⟨rfl,rfl⟩ | ⟨g',css,tail,h1,h2,h4,h5,h6,h7,h9,h8⟩
 ·cases ha
 ·rw[h1]at ha;injection ha with ha;injection ha with ha;subst ha;have Pu:∀{l:List Int} {css:List (aI)},mN fz 1 w (fun k=>False/\k≠g') l css->css.flatten=l.map (Value.int U)/\∀x,x∈l->rS x:=by
   intro l css
   induction l generalizing css with
   | nil=>
    intro h;have:=h.len;cases css with
    | nil=>exact⟨rfl,fun x hx=>by cases hx⟩
    | cons c css=>cases this
   | cons a l ih=>
    intro h;cases css with
    | nil=>have:=h.len;cases this
    | cons c css=>
     have hh:=h;unfold mN at hh;obtain⟨⟨uj,lw,Bz⟩,hr⟩:(c.length=1/\fz w (fun k=>False/\k≠g') a c)/\mN fz 1 w (fun k=>False/\k≠g') l css:=hh;obtain⟨e1,e2⟩:=ih hr;refine⟨by rw[di,e1,lw];rfl,fun x hx=>?_⟩;rw[aU]at hx;rcases hx with rfl | hx
     ·exact Bz
     ·exact e2 x hx
  obtain⟨e1,e2⟩:=Pu h8;rw[e1]at h4;exact⟨tail,h2,h4,by omega,h6,h7,h9,e2⟩
theorem dc.mk{g:Nat}{tail:aI}(ha:s.a=some ⟨g,0,none⟩)(hB:B<=g)(hb:aF w g 3 (l.map (Value.int U)++tail))(ht:tail.length=s.c-s.n)(hn:s.n=l.length)(hc:s.n<=s.c)(YG:s.c<=9223372036854775807)(hi:∀x,x∈l->rS x):dc B w s l:=by
 refine .inr ⟨g,l.map fun x=>[Value.int U x],tail,ha,hB,?_,by omega,hn,hc,YG,?_⟩
 ·have:(l.map fun x=>[Value.int U x]).flatten=l.map (Value.int U):=by
   clear hb hn hi
   induction l with
   | nil=>rfl
   | cons a l ih=>rw[bD,di,ih];rfl
  rw[this];exact hb
 ·clear hb hn
  induction l with
  | nil=>trivial
  | cons a l ih=>exact⟨⟨rfl,rfl,hi a (.head _)⟩,ih fun x hx=>hi x (.tail _ hx)⟩
theorem dc.Yz(h:dc B w s l):(s=Sl.nil/\l=[])∨∃g,s.a=some ⟨g,0,none⟩:=by
 rcases h with h | ⟨g,css,tail,h1,_⟩
 ·exact .inl h
 ·exact .inr ⟨g,h1⟩
theorem dc.ofRow{v:aw}(h:w'.ownsRow B 3 1 v l.length (l.map (Value.int U)))(hi:∀x,x∈l->rS x):∃s:Sl,v=s.v/\dc B w' s l:=by
 rcases h.2 with⟨rfl,hn⟩ | ⟨g,cap,cur,rfl,h1,h2,h3,h4,h5,h6⟩
 ·have:l=[]:=cb hn;subst this;exact⟨Sl.nil,rfl,Own.nil _ _ _ _ _ _⟩
 ·refine⟨⟨some ⟨g,0,none⟩,l.length,cap⟩,rfl,dc.mk (tail:=cur.toList.drop l.length) rfl h1 ?_ ?_ rfl h3 ?_ hi⟩
  ·rw[gj]at h6;rw[<-h6,cZ];unfold aF;rw[h2]
  ·dsimp only;rw[cH,jG,h5];omega
  ·have:maxLen=9223372036854775807:=rfl;dsimp only;omega
end
theorem AR{zs:List Int}{j:Nat}(h:j<zs.length):zs.toArray[j]! =zs[j]:=by
 rw[getElem!_pos _ j (by simpa using h)];simp
theorem qe{zs:List Int}(h:zs.Pairwise (· <=·)):∀m,m<=zs.length->(Lib.compactUpTo zs.toArray m).Pairwise (· <·)/\∀x,x∈Lib.compactUpTo zs.toArray m↔∃j,j<m/\zs[j]? =some x
 | 0,_=>by
  refine⟨by simp[Lib.compactUpTo],fun x=>⟨fun hx=>by simp[Lib.compactUpTo]at hx,fun⟨j,hj,_⟩=>by omega⟩⟩
 | m+1,hm=>by
  obtain⟨h1,h2⟩:=qe h m (by omega);rw[Lib.compactUpTo_succ,AR (by omega)];have Bx:m<zs.length:=by omega
  by_cases hk:Lib.keeps zs.toArray m=true
  ·rw[if_pos hk];refine⟨gM.2 ⟨h1,by simp,fun p hp q hq=>?_⟩,fun x=>?_⟩
   ·simp only[aN]at hq;subst hq;obtain⟨j,hj,hjp⟩:=(h2 p).1 hp;rw[aW (by omega)]at hjp;injection hjp with hjp;have hk:=aO hk;rcases hk with hk | hk
    ·omega
    ·rw[AR Bx,AR (by omega)]at hk;have a1:=dX.1 h (m-1) m (by omega) Bx (by omega);by_cases hjm:j=m-1
     ·subst hjm;omega
     ·have a2:=dX.1 h j (m-1) (by omega) (by omega) (by omega);omega
   ·rw[bR,h2,aN];constructor
    ·rintro(⟨j,hj,hx⟩ | rfl)
     ·exact⟨j,by omega,hx⟩
     ·exact⟨m,by omega,aW Bx⟩
    ·rintro⟨j,hj,hx⟩;by_cases hjm:j=m
     ·subst hjm;rw[aW Bx]at hx;injection hx with hx;exact .inr hx.symm
     ·exact .inl ⟨j,by omega,hx⟩
  ·rw[if_neg hk,bQ];refine⟨h1,fun x=>(h2 x).trans ⟨fun⟨j,hj,hx⟩=>⟨j,by omega,hx⟩,fun⟨j,hj,hx⟩=>?_⟩⟩;by_cases hjm:j=m
   ·subst hjm;have iM:¬(j=0∨zs.toArray[j]! ≠zs.toArray[j-1]!):=fun hh=>hk (bL hh);rw[AR Bx]at iM;have h0:j≠0:=fun e=>iM (.inl e);have e:zs[j]=zs.toArray[j-1]! :=gq fun e=>iM (.inr e);rw[AR (by omega)]at e;rw[aW Bx]at hx;injection hx with hx;exact⟨j-1,by omega,by rw[aW (by omega),<-e,hx]⟩
   ·exact⟨j,by omega,hx⟩
theorem rb{zs:List Int}(h:zs.Pairwise (· <=·)):(Lib.compact zs).Pairwise (· <·)/\∀x,x∈Lib.compact zs↔x∈zs:=by
 obtain⟨h1,h2⟩:=qe h zs.length (aX _);refine⟨h1,fun x=>(h2 x).trans ⟨fun⟨j,_,hx⟩=>bF hx,fun hx=>?_⟩⟩;obtain⟨j,hj⟩:=eT hx;exact⟨j,(aV.1 hj).1,hj⟩
def Ht(l:List Int):List Int:=Lib.compact (l.mergeSort fun x y=>decide (x<=y))
theorem xv(l:List Int):(l.mergeSort fun x y=>decide (x<=y)).Pairwise (· <=·):=by
 have:=List.pairwise_mergeSort (le:=fun x y:Int=>decide (x<=y)) (fun a b c h1 h2=>by simp only[bM]at*;omega) (fun a b=>by simp only[cn,bM];omega) l;exact this.imp fun h=>by simpa using h
theorem Oq(l:List Int):(Ht l).Pairwise (· <·):=(rb (xv l)).1
theorem Hu{l:List Int}{x:Int}:x∈Ht l↔x∈l:=by
 unfold Ht;rw[(rb (xv l)).2 x];exact(List.mergeSort_perm l _).mem_iff
theorem Sc:Ht []=[]:=jS.2 fun x hx=>by rw[Hu]at hx;cases hx
theorem Hv(zs:List Int):(Lib.compact zs).length<=zs.length:=by
 unfold Lib.compact Lib.compactUpTo;rw[bm];exact bp (da _ _) (by rw[gZ];exact aX _)
section
variable {B:Nat} {w w':av} {s:Sl} {l d:List Int}
theorem dc.cut(h:dc B w s l)(k:Nat)(hk:k<=l.length)(ha:s.a≠none):dc B w ⟨s.a,k,s.c⟩ (l.take k):=by
 rcases h.Yz with⟨rfl,_⟩ | ⟨g,hg⟩
 ·exact absurd rfl ha
 obtain⟨tail,h1,h2,h3,h4,h5,h6,h7⟩:=h.cells hg;refine dc.mk (tail:=(l.drop k).map (Value.int U)++tail) hg h1 ?_ ?_ ?_ (by dsimp only;omega) h6 fun x hx=>h7 x (List.mem_of_mem_take hx)
 ·rw[<-bH,<-cJ,cZ];exact h2
 ·dsimp only;rw[aP,bm,cH];omega
 ·dsimp only;rw[cT];omega
theorem Ot{tail:aI}(hd:d.length=l.length):Sort.putCells (Value.int U) 0 d.toArray ((l.map (Value.int U)++tail).toArray)=(d.map (Value.int U)++tail).toArray:=by
 apply Array.ext_getElem?;intro k;simp only[Sort.putCells,Array.getElem?_mapIdx,kO,kQ];by_cases hk:k<d.length
 ·rw[bK (by rw[bm];omega),bK (by rw[bm];omega),ch,ch,aW (show k<l.length by omega),aW hk];simp only[dR];rw[if_pos ⟨bh _,by omega⟩,oC,AR hk]
 ·rw[bT (by rw[bm];omega),bT (by rw[bm];omega),bm,bm,hd];cases tail[k-l.length]? with
  | none=>rfl
  | some v=>
   simp only[dR];rw[if_neg (by omega)]
theorem dc.put(h:dc B w s l){g:Nat}(ha:s.a=some ⟨g,0,none⟩)(hd:d.length=l.length)(hi:∀x,x∈d->rS x)(n:Nat)(os:Array Obj):dc B (Sort.grow (Sort.putRow (Value.int U) (Sort.ahead w n) g 0 d.toArray) os) s d/\ay [g] w (Sort.grow (Sort.putRow (Value.int U) (Sort.ahead w n) g 0 d.toArray) os):=by
 obtain⟨tail,h1,h2,h3,h4,h5,h6,h7⟩:=h.cells ha;have bS:=h2.lt;refine⟨dc.mk (tail:=tail) ha h1 ?_ h3 (by omega) h5 h6 hi,rfl,rfl,rfl,by simp,fun k hk hn=>?_⟩
 ·unfold aF;rw[Sort.heap_grow_old _ _ (by simpa using bS)];show(w.heap.modify g _)[g]? =_;rw[kP,if_pos rfl];unfold aF at h2;rw[h2];show some (Sort.onCells _ _)=_;unfold Sort.onCells;dsimp only;rw[Ot hd]
 ·rw[Sort.heap_grow_old _ _ (by simpa using hk)];show(w.heap.modify g _)[k]? =_;rw[kP,if_neg fun e=>hn (by simp[e])]
theorem dc.holds(h:dc B w s l){g:Nat}(ha:s.a=some ⟨g,0,none⟩):Sort.Holds (Value.int U) w g 0 l.toArray:=by
 obtain⟨tail,h1,h2,h3,h4,h5,h6,h7⟩:=h.cells ha;intro j hj;have hj:j<l.length:=by simpa using hj
 rw[AR hj,bO];refine⟨?_,?_⟩
 ·rw[h2.cell,bK (by rw[bm];omega),ch,aW hj];rfl
 ·unfold World.frozen?;unfold aF at h2;dsimp only;rw[h2];simp
theorem Se(h:dc B w s l)(hm:l.length<=1000000000):az aq 93 #[s.v] w fun e w'=>∃s':Sl,e=ak s'.v/\s'.a=s.a/\dc B w' s' (Ht l)/\aD (fun k=>s.a=some ⟨k,0,none⟩) w w':=by
 refine(ami s (fun v w'=>∃s':Sl,v=s'.v/\s'.a=s.a/\dc B w' s' (Ht l)/\aD (fun k=>s.a=some ⟨k,0,none⟩) w w') w ?_).mono (by rintro _ w' ⟨v,rfl,s',rfl,h⟩;exact⟨s',rfl,h⟩);rcases h.Yz with⟨rfl,rfl⟩ | ⟨g,hg⟩
 ·refine(Tryz.slices_Sort_int_none none 0 w).mono ?_;rintro _ u ⟨rfl,hu⟩;obtain rfl:w=u:=hu.symm;refine⟨rfl,(Tryz.slices_Compact_int_empty none 0 w).mono ?_⟩;rintro _ u ⟨rfl,hu⟩;obtain rfl:w=u:=hu.symm;exact⟨Sl.nil,rfl,Sl.nil,rfl,rfl,by rw[Sc];exact Own.nil _ _ _ _ _ _,OnlyP.refl _ _⟩
 ·obtain⟨tail,h1,h2,h3,h4,h5,h6,h7⟩:=h.cells hg;obtain⟨sa,sn,sc⟩:=s;dsimp only at hg h3 h4 h5 h6;subst hg h4;refine(Tryz.slices_Sort_int g 0 sc l w (h.holds rfl) h2.lt (by omega)).mono ?_;rintro _ w1 ⟨rfl,n,os,rfl⟩;have T1:=List.mergeSort_perm l fun x y=>decide (x<=y);have hli:∀x,x∈(l.mergeSort fun x y=>decide (x<=y))->rS x:=fun x hx=>h7 x (T1.mem_iff.1 hx);obtain⟨Fi,cr⟩:=h.put (d:=l.mergeSort fun x y=>decide (x<=y)) rfl T1.length_eq hli n os;refine⟨rfl,?_⟩;have esr:Ht l=Lib.compact (l.mergeSort fun x y=>decide (x<=y)):=rfl;have Bx:=T1.length_eq;rw[esr];generalize hw1:Sort.grow _ os=w1 at*
  generalize hms:(l.mergeSort fun x y=>decide (x<=y))=ms at*
  have mT:=Hv ms;have ait:∀x,x∈Lib.compact ms->x∈ms:=fun x hx=>by
   have:=(rb (xv l)).2 x;rw[hms]at this;exact this.1 hx
  rw[<-Bx];refine(Tryz.slices_Compact_int g 0 sc ms w1 (Fi.holds rfl) (by omega) (by omega)).mono ?_;rintro _ w2 ⟨rfl,q,rfl⟩;obtain⟨O0,cR⟩:=Fi.put (d:=Lib.compact ms++List.replicate (ms.length-(Lib.compact ms).length) 0) rfl (by rw[aP,db];omega) (fun x hx=>by
   rw[bR]at hx;rcases hx with hx | hx
   ·exact hli x (ait x hx)
   ·rw[(List.mem_replicate.1 hx).2];exact⟨by decide,by decide⟩) q #[]
  rw[Sort.grow_empty]at O0 cR;have Fj:=O0.cut (Lib.compact ms).length (by rw[aP];omega) (by simp);rw[List.take_left]at Fj;have t0:∀x,x∈[g]->(some (⟨g,0,none⟩:Addr)=some ⟨x,0,none⟩)∨w.heap.size<=x:=fun x hx=>by
   simp only[aN]at hx;subst hx;exact .inl rfl
  exact⟨⟨some ⟨g,0,none⟩,_,sc⟩,rfl,_,rfl,rfl,Fj,(cr.mem cR (by simp)).p t0⟩
theorem Jy{F:aJ}{sa:Sl}{act:List Int}(ha:aA fz 1 w F sa act)(hm:act.length<=1000000000):az aq 48 #[sa.v] w fun e w'=>∃s:Sl,e=ak s.v/\dc w.heap.size w' s act/\ay [] w w':=by
 have hi:∀x,x∈act->rS x:=fun x hx=>by
  obtain⟨cs,h⟩:=ha.mem hx;exact h.2
 obtain⟨a,n,c⟩:=sa;have hl:=ha.len;dsimp only at hl;subst hl;cases a with
 | none=>
  have:=IQ ha rfl;subst this;refine(Tryz.slices_Clone_int_nil 0 c w).mono ?_;rintro _ u ⟨rfl,hu⟩;obtain rfl:w=u:=hu.symm;exact⟨Sl.nil,rfl,Own.nil _ _ _ _ _ _,Only.refl _ _⟩
 | some base=>
  by_cases h0:act=[]
  ·subst h0;refine(Tryz.slices_Clone_int_zero base c w).mono ?_;rintro _ w' ⟨v,rfl,h1,_,h2⟩;obtain⟨s,rfl,hs⟩:=dc.ofRow (l:=[]) h1 hi;exact⟨s,rfl,hs,Only.qk h2⟩
  ·have h0:0<act.length:=jH.2 h0;obtain⟨ast,cs,e1,_,fi,c0,_⟩:=ha.at_ 0 _ (aW h0);injection e1 with e1;subst e1;obtain⟨b,o,sp⟩:=base;have Fg:sp=none:=by
    cases cs with
    | nil=>cases fi
    | cons v cs=>exact World.cell?_spot (c0 0 v rfl)
   subst Fg;have yq:∀j,j<act.length->w.cell? ⟨b,o+j,none⟩=some (.int U (act.getD j 0)):=fun j hj=>by
    obtain⟨base,cs,e1,_,_,c0,hc,_⟩:=ha.at_ j _ (aW hj);injection e1 with e1;subst e1 hc;have:=c0 0 _ rfl;rw[fL,fL]at this;rw[ul,aW hj];simpa using this
   refine(Tryz.slices_Clone_int b o act.length c act w (aX _) (by omega) yq).mono ?_;rintro _ w' ⟨v,rfl,h1,_,h2⟩;rw[bq (aX _)]at h1;obtain⟨s,rfl,hs⟩:=dc.ofRow (l:=act) h1 hi;exact⟨s,rfl,hs,Only.qk h2⟩
end
structure ClI (w:av) (S:aJ) (O1:FuncId) (cap:aI) (l:List Int) (p:Int->Bool):Prop where
 en:∀(args:Array aw) (w:av),(callFunc O1 args).run aq w=.ok (.enter O1 args) w
 call:∀x,x∈l->∀u,aD S w u->az aq O1 ((O U x::cap):aI).toArray u fun e u'=>e=ak (aj (p x))/\ay [] u u'
section
variable {w:av} {s:Sl} {l:List Int} {B O1:Nat} {cap:aI} {p:Int->Bool}
theorem Sf{S F:aJ}(hs:aA fz 1 w F s l)(hl:l.length<=2000000)(hF:∀k,F k->S k)(hc:ClI w (fun _=>False) O1 cap l p){f:OV}(hf:f.v=.func (.func O1) #[] cap.toArray):
  az aq 91 #[s.v,f.v] w fun e w'=>(∃i:Int,e=ak (O U i)/\((i= -1/\∀x,x∈l->p x=false)∨∃n:Nat,i=(n:Int)/\n<l.length/\(l.take n).filter (fun x=>!p x)=l.take n/\∀x,l[n]? =some x->p x=true))/\ay [] w w':=by
 refine(QL s f (fun v w'=>(∃i:Int,v=O U i/\((i= -1/\∀x,x∈l->p x=false)∨∃n:Nat,i=(n:Int)/\n<l.length/\(l.take n).filter (fun x=>!p x)=l.take n/\∀x,l[n]? =some x->p x=true))/\ay [] w w') w ?_).mono (by rintro _ w' ⟨v,rfl,⟨i,rfl,h⟩,h'⟩;exact⟨⟨i,rfl,h⟩,h'⟩);have hn:=hs.len;refine⟨fun kv i u=>∃j:Nat,i=(j:Int)/\kv+j=l.length/\j<=l.length/\(∀x,x∈l.take j->p x=false)/\ay [] w u,l.length,⟨0,rfl,by omega,bh _,by simp,Only.refl _ _⟩,?_⟩;rintro kv _ u ⟨j,rfl,tY,hj,hp,hO⟩;refine⟨fun KB=>?_,fun KB=>?_⟩
 ·have KB:=aO KB;have j8:j<l.length:=by omega
  obtain⟨ad,a1,a2⟩:=gW (kI hs hO) (aW j8);refine⟨ad,a1,_,a2,O1,[],cap,hf,hc.en,(hc.call _ (dZ j8) u hO.p0).mono ?_⟩;rintro _ u' ⟨rfl,Db⟩;have nt:l.take (j+1)=l.take j++[l[j]]:=by rw[bJ,aW j8];rfl
  refine⟨_,rfl,fun ht=>⟨⟨_,rfl,.inr ⟨j,rfl,j8,?_,fun x hx=>?_⟩⟩,hO.cf Db⟩,fun hf=>⟨kv-1,by omega,j+1,by rw[fR (by omega) (by omega)];rfl,by omega,by omega,fun x hx=>?_,hO.cf Db⟩⟩
  ·rw[List.filter_eq_self];intro x hx;rw[hp x hx];rfl
  ·rw[aW j8]at hx;injection hx with hx;rw[<-hx];exact ht
  ·rw[nt,bR,aN]at hx;rcases hx with hx | rfl
   ·exact hp x hx
   ·exact hf
 ·have KB:=aR KB;rw[bq (by omega)]at hp;exact⟨⟨-1,rfl,.inl ⟨rfl,hp⟩⟩,hO⟩
theorem yZ(hs:dc B w s l)(hl:l.length<=2000000)(hc:ClI w (fun k=>s.a=some ⟨k,0,none⟩) O1 cap l p){f:OV}(hf:f.v=.func (.func O1) #[] cap.toArray):
  az aq 49 #[s.v,f.v] w fun e w'=>∃s':Sl,e=ak s'.v/\s'.a=s.a/\s'.c=s.c/\dc B w' s' (l.filter fun x=>!p x)/\aD (fun k=>s.a=some ⟨k,0,none⟩) w w':=by
 refine(afU s f (fun v w'=>∃s':Sl,v=s'.v/\s'.a=s.a/\s'.c=s.c/\dc B w' s' (l.filter fun x=>!p x)/\aD (fun k=>s.a=some ⟨k,0,none⟩) w w') w ?_).mono (by rintro _ w' ⟨v,rfl,s',rfl,h⟩;exact⟨s',rfl,h⟩);have hn:=hs.len;have mU:=hs.cap;refine(Sf (S:=fun _=>True) hs.sl hl (fun _ _=>trivial) ⟨hc.en,fun x hx u hO=>hc.call x hx u (hO.mono fun k _ h=>h.elim)⟩ hf).mono ?_;rintro _ w1 ⟨⟨i,rfl,hi⟩,cr⟩;have C3:dc B w1 s l:=hs.keep bN fun k _ bS=>cr.block k bS (by simp);refine⟨i,rfl,fun h1=>?_,fun h1=>?_⟩
 ·have h1:i= -1:=by simpa using h1
  rcases hi with⟨_,hi⟩ | ⟨n,rfl,_⟩
  ·have:l.filter (fun x=>!p x)=l:=by
    rw[List.filter_eq_self];intro x hx;rw[hi x hx];rfl
   rw[this];exact⟨s,rfl,rfl,rfl,C3,cr.p0⟩
  ·omega
 ·have h1:i≠ -1:=by simpa using h1
  rcases hi with⟨hi,_⟩ | ⟨n,rfl,PK,hft,hpn⟩
  ·exact absurd hi h1
  rw[fR (x:=(n:Int)+1) (by omega) (by omega)];refine⟨fun kv i j u=>∃(a b:Nat) (ys:List Int),i=(a:Int)/\j=(b:Int)/\a<b/\b<=l.length/\kv=l.length-b/\ys.length=l.length/\ys.take a=(l.take b).filter (fun x=>!p x)/\ys.drop b=l.drop b/\dc B u s ys/\aD (fun k=>s.a=some ⟨k,0,none⟩) w u,l.length-(n+1),⟨n,n+1,l,rfl,by omega,by omega,by omega,rfl,rfl,?_,rfl,C3,cr.p0⟩,?_⟩
  ·have:l.take (n+1)=l.take n++[l[n]]:=by rw[bJ,aW PK];rfl
   rw[this,fj,hft];simp[hpn _ (aW PK)]
  ·rintro kv _ _ w2 ⟨a,b,ys,rfl,rfl,hab,C4,rfl,JV,hya,hyb,mW,cR⟩;refine⟨fun lw=>?_,fun lw=>?_⟩
   ·have lw:(b:Int)<s.n:=aO lw;have j9:b<l.length:=by omega
    rw[fR (x:=(b:Int)+1) (by omega) (by omega)];have aiu:ys[b]? =some l[b]:=by
     have:=bI List.head? hyb;rw[List.head?_drop,List.head?_drop,aW j9]at this;exact this
    have nt:l.take (b+1)=l.take b++[l[b]]:=by rw[bJ,aW j9];rfl
    have hdr:ys.drop (b+1)=l.drop (b+1):=by
     have:=bI (List.drop 1) hyb;simpa[oE]using this
    obtain⟨ad,a1,a2⟩:=gW mW.sl aiu;obtain⟨cs,hin⟩:=mW.sl.mem (bF aiu);refine⟨fun i1 u=>∃(a':Nat) (ys':List Int),i1=(a':Int)/\a'<b+1/\ys'.length=l.length/\ys'.take a'=(l.take (b+1)).filter (fun x=>!p x)/\ys'.drop (b+1)=l.drop (b+1)/\dc B u s ys'/\aD (fun k=>s.a=some ⟨k,0,none⟩) w u,?_,ad,a1,_,a2,O1,[],cap,hf,hc.en,(hc.call _ (dZ j9) w2 cR).mono ?_⟩
    ·rintro _ w3 ⟨a',ys',rfl,q1,q2,q3,q4,q5,q6⟩;exact⟨l.length-(b+1),by omega,a',b+1,ys',rfl,by omega,q1,by omega,rfl,q2,q3,q4,q5,q6⟩
    ·rintro _ w5 ⟨rfl,eP⟩;have Zf:dc B w5 s ys:=mW.keep bN fun k _ bS=>eP.block k bS (by simp);have abM:=cR.cf eP;refine⟨_,rfl,fun JY=>?_,fun JY=>?_⟩
     ·have JY:p l[b]=false:=by simpa using JY
      obtain⟨g,cells,p1,p2,p3,p4,p5⟩:=Own.store (x:=l[b]) (n:=a) (vs:=[O U l[b]]) (G:=fun _=>False) bN Zf (by omega) rfl ⟨rfl,hin.2⟩ (fun k hk _=>hk.elim) (by decide);refine⟨_,p2,g,a*1,cells,_,rfl,p3,p4,fun w6 eB hb6=>?_⟩;rw[fR (x:=(a:Int)+1) (by omega) (by omega)];refine⟨a+1,ys.set a l[b],by omega,by omega,by rw[ij];exact JV,?_,?_,p5 w6 eB hb6,abM.trans (eB.p (F:=fun k=>s.a=some ⟨k,0,none⟩) fun k hk=>.inl (by simp only[aN]at hk;rw[hk];exact p1)) fun k hk=>.inl hk⟩
      ·rw[bJ,Fm (aX _),hya,oB (by omega),nt,fj];simp[JY]
      ·rw[Fp (by omega)];exact hdr
     ·have JY:p l[b]=true:=by simpa using JY
      refine⟨a,ys,rfl,by omega,JV,?_,hdr,Zf,abM⟩;rw[nt,fj,hya];simp[JY]
   ·have lw:¬(b:Int)<s.n:=aR lw;have Tc:b=l.length:=by omega
    subst Tc;rw[bq (aX _)]at hya;obtain⟨w3,g,k1,k2,k3,k4⟩:=Own.clear (P:=aq) (t:=32) (ty:=0) (i:=a) bN (by decide) (by kernel_rfl) (fun w=>Tryz.zeroValue3 w) (by intro v hv;simp[Value.cells]at hv;rcases hv with rfl<;>rfl) rfl mW (by omega);refine⟨a,⟨rfl,by omega,mU⟩,w3,k1,a,⟨rfl,by omega⟩,_,rfl,?_,?_,by rw[<-hya];exact k4,cR.trans (k3.p (F:=fun k=>s.a=some ⟨k,0,none⟩) fun k hk=>.inl (by simp only[aN]at hk;rw[hk];exact k2)) fun k hk=>.inl hk⟩
    ·simp only[Sl.cut];split
     ·rfl
     ·rw[k2];rfl
    ·exact oC _
end
end Go.Proofs.YtbkjcdocjfknfaaGreatDoor.Con
set_option linter.unusedSectionVars false
namespace Go.Proofs.YtbkjcdocjfknfaaGreatDoor.Con
open Go.Value renaming int->O,string->ab,pointer->ae,agg->ah,tuple->ai,bool->aj
open Go.IntKind renaming i64->U,wrap->ar
open Go.Ending renaming returned->ak
open _root_.ByteArray renaming mk->ao
open _root_.Go.Proofs.Tryz renaming prog->aq
open Go.Instr renaming buildSlice->au
open Go renaming World->av,Value->aw,Calls->az
open Go.Kt renaming Only->ay,SliceF->aA,Cells->aB,OnlyP->aD,Blk->aF
set_option linter.unusedSimpArgs false
set_option linter.unusedVariables false
def Kc(xs:List cN)(d:Int)(c:Nat):Prop:=∃t,xs[c]? =some t/\t.pa=d
def Sb(xs:List cN)(d:Int)(x:Nat):Prop:=d<x/\x<xs.length/\(d= -1∨∃k:Nat,d=k/\qU xs k x)
def SS(xs:List cN)(x:Nat):Prop:=∃t,xs[x]? =some t/\(t.k=1∨t.k=2)
def Pk(xs:List cN)(S:aJ)(d:Int):Prop:=∀c c',Kc xs d c->Kc xs d c'->S c->S c'->c=c'
section
variable {xs:List cN} (F:Fo xs) {d d':Int} {c c' k n x:Nat} {t:cN} {D:Int->Prop} {S G:aJ}
include F
theorem Fo.M8(h:Kc xs d c):Sb xs d c:=by
 obtain⟨t,h1,rfl⟩:=h;have hl:=fJ h1;by_cases h0:0<c
 ·obtain⟨p,s,g1,g2,g3,_,g5,_⟩:=F.par h1 h0;exact⟨by omega,hl,.inr ⟨p,g2,s,g3,by omega,g5⟩⟩
 ·have:c=0:=by omega
  subst this;have:=(F.rt t h1).1;exact⟨by omega,hl,.inl this⟩
theorem Fo.aa9(h:Sb xs d k)(g:qU xs k x):Sb xs d x:=by
 obtain⟨h1,h2,h3⟩:=h;have hl:=F.Bd g;have lC:k<=x:=by obtain⟨_,_,h,_⟩:=g;exact h
 refine⟨by omega,hl,h3.imp id ?_⟩;rintro⟨m,e,hm⟩;exact⟨m,e,F.EW hm g⟩
end
end Go.Proofs.YtbkjcdocjfknfaaGreatDoor.Con
set_option linter.unusedSectionVars false
namespace Go.Proofs.YtbkjcdocjfknfaaGreatDoor.Con
open Go.Value renaming int->O,string->ab,pointer->ae,agg->ah,tuple->ai,bool->aj
open Go.IntKind renaming i64->U,wrap->ar
open Go.Ending renaming returned->ak
open _root_.ByteArray renaming mk->ao
open _root_.Go.Proofs.Tryz renaming prog->aq
open Go.Instr renaming buildSlice->au
open Go renaming World->av,Value->aw,Calls->az
open Go.Kt renaming Only->ay,SliceF->aA,Cells->aB,OnlyP->aD,Blk->aF
open Go Go.RowKit Go.Kt
set_option linter.unusedSimpArgs false
set_option linter.unusedVariables false
def AU(n:Int):Nat:=if 0<=n/\n<=63 then 2 ^ n.toNat else 0
def Pm(m:Nat)(n:Int):Nat:=m||| AU n
def iu(l:List Int):Nat:=l.foldl Pm 0
theorem Hw(n:Int)(i:Nat):(AU n).testBit i=decide (i<64/\n=i):=by
 unfold AU;split
 ·rw[Nat.testBit_two_pow,iP];omega
 ·rw[jT];exact(bC (by omega)).symm
theorem tR(n:Int):AU n<2 ^ 64:=by
 unfold AU;split
 ·exact Nat.pow_lt_pow_right (by decide) (by omega)
 ·decide
theorem AV:∀(l:List Int) (m i:Nat),(l.foldl Pm m).testBit i=(m.testBit i||decide (i<64/\(i:Int)∈l))
 | [],m,i=>by simp
 | n::l,m,i=>by
  rw[rM,AV l,Pm,Nat.testBit_or,Hw,Bool.or_assoc];congr 1;rw[<-Bool.decide_or,iP,aU];constructor
  ·rintro(⟨h,rfl⟩ | ⟨h,h2⟩)
   ·exact⟨h,.inl rfl⟩
   ·exact⟨h,.inr h2⟩
  ·rintro⟨h,h2 | h2⟩
   ·exact .inl ⟨h,h2.symm⟩
   ·exact .inr ⟨h,h2⟩
theorem tS(l:List Int)(i:Nat):(iu l).testBit i=decide (i<64/\(i:Int)∈l):=by
 unfold iu;rw[AV,jT,mX]
theorem amK{x:Nat}(h:∀i,x.testBit i=true->i<64):x<2 ^ 64:=Nat.lt_pow_two_of_testBit x fun i hi=>by
 cases hx:x.testBit i with
 | true=>have:=h i hx;omega
 | false=>rfl
theorem ME(l:List Int){m:Nat}(hm:m<2 ^ 64):l.foldl Pm m<2 ^ 64:=amK fun i hi=>by
 rw[AV,cn,bM]at hi;rcases hi with hi | hi
 ·refine Nat.lt_of_not_le fun lC=>?_;rw[Nat.testBit_lt_two_pow (cm hm (rq (by decide) lC))]at hi;cases hi
 ·exact hi.1
theorem nZ(l:List Int):iu l<2 ^ 64:=ME l (by decide)
def kD(x:Nat):List Int:=Ph 64 fun i=>x.testBit i
theorem ma{x:Nat}{n:Int}:n∈kD x↔∃k:Nat,n=k/\k<64/\x.testBit k=true:=ra
theorem oa(x:Nat):(kD x).Pairwise (· <·):=Hq _ _
theorem qf(x:Nat):(kD x).length<=64:=Em _ _
theorem Hx{x:Nat}(h0:x≠0)(h:x<2 ^ 64):x.testBit (Go.Lib.ctz 64 x)=true/\Go.Lib.ctz 64 x<64/\(∀i,i<Go.Lib.ctz 64 x->x.testBit i=false)/\∀i,(x&&& (x-1)).testBit i=(x.testBit i&&decide (i≠Go.Lib.ctz 64 x)):=by
 obtain⟨m,h1,h2⟩:=Go.Lib.ctzFrom_spec 64 x (H6 h0) h;have e:Go.Lib.ctz 64 x=Go.Lib.ctzFrom 64 x:=by unfold Go.Lib.ctz;rw[if_neg h0]
 rw[e];generalize Go.Lib.ctzFrom 64 x=k at*
 have hp:0<2 ^ k:=Nat.pow_pos (by decide);have hb:∀i,i<k->x.testBit i=false:=fun i hi=>by
  rw[h1,KI,Nat.testBit_mul_two_pow,bC (by omega),dU]
 have hk:x.testBit k=true:=by
  rw[h1,KI,Nat.testBit_mul_two_pow,bL (aX _),oG,cO];simp
 refine⟨hk,h2,hb,fun i=>?_⟩;rw[kF];rcases Nat.lt_trichotomy i k with hi | rfl | hi
 ·rw[hb i hi,dU,dU]
 ·rw[hk,cO,cO,bC (fun h=>h rfl)];have e:(x-1)/2 ^ i=2*m:=by
   rw[h1,Nat.mul_add,gj,Nat.add_sub_assoc hp];rw[Nat.mul_add_div hp,xL (by omega),dG]
  rw[jq,e];exact bC (by omega)
 ·rw[bL (by omega:i≠k),kM];obtain⟨d,rfl⟩:∃d,i=k+(1+d):=⟨i-k-1,by omega⟩
  have e1:x/2 ^ (k+(1+d))=m/2 ^ d:=by
   rw[vw,<-kj,vw,<-kj,h1,Nat.mul_div_cancel_left _ hp];congr 1;omega
  have e2:(x-1)/2 ^ (k+(1+d))=m/2 ^ d:=by
   rw[vw,<-kj,vw,<-kj,h1,Nat.mul_add,gj,Nat.add_sub_assoc hp,Nat.mul_add_div hp,xL (by omega:2 ^ k-1<2 ^ k),dG];congr 1;omega
  rw[jq,jq,e1,e2,Bool.and_self]
theorem aaR{x:Nat}(h0:x≠0):x&&& (x-1)<x:=um jU (by omega)
theorem Jz{x:Nat}(h0:x≠0)(h:x<2 ^ 64):kD x=(Go.Lib.ctz 64 x:Int)::kD (x&&& (x-1)):=by
 obtain⟨h1,h2,h3,h4⟩:=Hx h0 h;refine qc (oa x) ?_ fun n=>?_
 ·rw[fN];refine⟨fun n hn=>?_,oa _⟩;obtain⟨k,rfl,hk,hb⟩:=ma.1 hn;rw[h4,aQ,bM]at hb;have:¬k<Go.Lib.ctz 64 x:=fun hl=>by rw[h3 k hl]at hb;cases hb.1
  omega
 ·rw[aU,ma,ma];constructor
  ·rintro⟨k,rfl,hk,hb⟩;by_cases he:k=Go.Lib.ctz 64 x
   ·exact .inl (by rw[he])
   ·exact .inr ⟨k,rfl,hk,by rw[h4,hb,bL he,Bool.and_self]⟩
  ·rintro(rfl | ⟨k,rfl,hk,hb⟩)
   ·exact⟨_,rfl,h2,h1⟩
   ·rw[h4,aQ]at hb;exact⟨k,rfl,hk,hb.1⟩
def aaS(xs:List cN)(S n:Nat):Prop:=(kd xs n=2->∀r,r∈dz xs n->S.testBit r.toNat=true)/\(kd xs n=1->dz xs n=[]∨∃r,r∈dz xs n/\S.testBit r.toNat=true)
theorem aaS.mono{xs:List cN}{S S' n:Nat}(h:aaS xs S n)(hs:∀m,S.testBit m=true->S'.testBit m=true):aaS xs S' n:=
 ⟨fun e r hr=>hs _ (h.1 e r hr),fun e=>(h.2 e).imp id fun⟨r,hr,hb⟩=>⟨r,hr,hs _ hb⟩⟩
section
variable {xs:List cN} (sd:Sd xs) {D:Int->Prop} {gl:Nat->List Int}
include sd
theorem Hy{n c:Nat}:(c:Int)∈dz xs n↔Kc xs n c/\SS xs c:=by
 rw[jE];constructor
 ·rintro⟨q,t,e,h1,h2,h3⟩;have:q=c:=by omega
  subst this;refine⟨⟨t,h1,h2⟩,t,h1,?_⟩;unfold Bq at h3;rw[cn,ey,ey]at h3;exact h3
 ·rintro⟨⟨t,h1,h2⟩,u,h3,h4⟩;rw[h1,aZ]at h3;subst h3;refine⟨c,t,rfl,h1,h2,?_⟩;unfold Bq;rw[cn,ey,ey];exact h4
end
end Go.Proofs.YtbkjcdocjfknfaaGreatDoor.Con
