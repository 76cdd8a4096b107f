import Derived.Test.YtbkjcdocjfknfaaGreatDoorQp6
set_option linter.unusedSectionVars false
namespace Go.Proofs.YtbkjcdocjfknfaaGreatDoor.Con
open Go.Value renaming int->O,string->ah,pointer->ai,agg->aj,tuple->ak,bool->ao
open Go.IntKind renaming i64->ae,wrap->av
open Go.Ending renaming returned->aq
open _root_.ByteArray renaming mk->ar
open _root_.Go.Proofs.Tryz renaming prog->au
open Go.Instr renaming buildSlice->aw
open Go renaming World->ay,Value->az,Calls->aB
open Go.Kt renaming Only->aA,SliceF->aD,Cells->aE,OnlyP->aF,Blk->aH
open Go Go.RowKit Go.Kt Go.Kt.V Go.Proofs.YtbkjcdocjfknfaaGreatDoor.Vc
set_option linter.unusedSimpArgs false
set_option linter.unusedVariables false
set_option maxHeartbeats 4000000
theorem rO(w:ay)(p:Addr)(n:Nat)(a:Addr):(w.freeze p n).cell? a=w.cell? a:=by
 unfold World.freeze;split
 ·rfl
 ·unfold World.cell?;simp only[gA];by_cases U3:p.block=a.block
  ·rw[if_pos U3];cases h:w.heap[a.block]? with
   | none=>rfl
   | some o=>
    cases o with
    | cells c e f=>obtain⟨lo,hi⟩:=f;rfl
    | _=>rfl
  ·rw[if_neg U3]
theorem rP(w:ay)(p:Addr)(n:Nat):aF (fun k=>k=p.block) w (w.freeze p n):=by
 unfold World.freeze;split
 ·exact OnlyP.refl _ _
 ·exact⟨rfl,rfl,rfl,by simp,fun k hk hn=>by
   simp only[gA];rw[if_neg fun e=>hn e.symm]⟩
theorem XS{w:ay}{F:aL}{s:Sl}{g B:Nat}{l:aJ}(ha:s.a=some ⟨g,0,none⟩)(h:Own ji 1 5 B w F s l)(bX:g<w.heap.size):
  ∃w',(convert 241 241 (Sl.v s)).run au w=.ok (Sl.v s) w'/\aD ji 1 w' (fun _=>True) s l/\aF (fun k=>k=g) w w':=by
 have hs:=Bs h;obtain⟨g',css,tail,a1,a2,a4,_⟩:=h.resolve_left (fun e=>by rw[e.1]at ha;cases ha);rw[ha]at a1;injection a1 with a1;injection a1 with a1;subst a1;have Hi:w.shape? g=some (5,(css.flatten++tail).toArray.size):=by
  unfold World.shape?;unfold aH at a4;rw[a4]
 have hu:Tryz.prog.underlying 241=some (.slice 5):=by kernel_rfl
 have Zr:Tryz.prog.underlying 5=some (.int .u8):=by kernel_rfl
 refine⟨w.freeze ⟨g,(css.flatten++tail).toArray.size,none⟩ 1,?_,⟨hs.len,hs.cap,hs.nil0,hs.big,fun j x hj=>?_⟩,rP w ⟨g,(css.flatten++tail).toArray.size,none⟩ 1⟩
 ·unfold Sl.v;rw[ha];simp[convert,run_underlying hu,run_underlying Zr,markStringish,Hi,Result.andThen]
 ·obtain⟨base,cs,g1,g2,g3,g4,g5⟩:=hs.at_ j x hj;exact⟨base,cs,g1,trivial,g3,fun q v hq=>by rw[rO];exact g4 q v hq,g5⟩
theorem u8i{c d:UInt8}:((c.toNat:Int)==(d.toNat:Int))=(c==d):=by
 rw[bT];simp only[dW];constructor
 ·intro h;exact R9.1 (by omega)
 ·rintro rfl;rfl
theorem Mh{m:aJ}(h:JI m=true):2<=m.length:=by
 match m,h with
 | _::_::_,_=>simp
theorem zm{m:aJ}:mT m<=m.length:=by
 unfold mT;split
 ·exact Mh (by assumption)
 ·split
  ·split
   ·simp
   ·exact bA _
  ·exact bA _
theorem XU{w:ay}{b:Nat}{l:aJ}{i:Nat}{rs:Sl}{acc:List Tk}(h:Cut w b l i rs acc)(ha:acc.length<=16384)(gz:i<l.length):
  aB au 196 #[ai (some ⟨b,0,none⟩)] w fun e w'=>∃v,e=aq v/\aF (fun k=>b<=k) w w'/\Nu w' b l i acc (tL (l.drop i)) v:=by
 refine acQ ⟨b,0,none⟩ (fun v w'=>aF (fun k=>b<=k) w w'/\Nu w' b l i acc (tL (l.drop i)) v) w ?_;obtain⟨ws,hb,hw⟩:=h.blk;have SC:=h.ll;have Hh:=h.il;refine(zi hb h.il).mono ?_;rintro _ w0 ⟨rfl,cK⟩;have xP:(l.drop i).length=l.length-i:=cG;generalize hm:l.drop i=m at*
 obtain⟨c,r,rfl⟩:∃c r,m=c::r:=by
  cases m with
  | nil=>simp at xP;omega
  | cons c r=>exact⟨c,r,rfl⟩
 have g0:(0:Int)<=0/\(T (c::r))[0]? =some c:=⟨nJ _,by rw[wV];rfl⟩
 refine⟨T (c::r),rfl,fun i0 w'=>i0=(if C9.contains c then 1 else 0:Int)/\aA [] w w',?_,c,g0,?_⟩
 ·rintro _ w1 ⟨rfl,cF⟩;refine⟨fun i1 w'=>i1=(mT (c::r):Int)/\aA [] w w',?_,fun b w'=>b=JI (c::r)/\aA [] w w',?_,?_,?_⟩
  ·rintro _ w2 ⟨rfl,dh⟩;refine⟨fun hz=>⟨dh.p0,?_⟩,fun hz=>⟨mT (c::r),⟨rfl,by rw[dH];exact zm⟩,?_⟩⟩
   ·rw[tL,if_pos (by have:(mT (c::r):Int)=0:=(by simpa using hz);omega)];exact⟨rfl,rs,h.only dh⟩
   have hz:¬mT (c::r)=0:=by
    intro e;rw[e]at hz;simp at hz
   rw[tL,if_neg hz,yH,fY,lQ];have hn:=zm (m:=c::r);refine(ret (VO (T _) (fun v w'=>v=ah (T ((c::r).take (mT (c::r))))/\aA [] w2 w') w2 ?_)).mono ?_
   ·refine(Tryz.stringslite_Clone (T _) w2 (by rw[dH,dd];omega)).mono ?_;rintro _ w3 ⟨rfl,hw⟩;exact⟨_,rfl,rfl,Only.oa hw⟩
   rintro _ w3 ⟨rfl,dx⟩;refine⟨_,rfl,(JH (h.only (dh.cz dx)) 4 _ 0 0 (mT (c::r)) (by omega) ha).mono ?_⟩;rintro _ w4 ⟨rfl,dP,U1,hC⟩;exact⟨rfl,(dh.cz dx).pd dP,rfl,U1,hC⟩
  ·rintro _ w5 ⟨rfl,eE⟩;refine⟨fun hs=>⟨by rw[mT,if_pos hs];rfl,eE⟩,fun hs=>⟨?_,eE⟩⟩;have e:mT (c::r)=if C9.contains c then 1 else 0:=by rw[mT,if_neg (by rw[hs];decide)]
   rw[e];split<;>rfl
  ·intro hc;rw[dH]at hc;obtain⟨d,r,rfl⟩:∃d r',r=d::r':=by
    cases r with
    | nil=>simp at hc
    | cons d r=>exact⟨d,r,rfl⟩
   have g1:(0:Int)<=1/\(T (c::d::r))[1]? =some d:=⟨by decide,by rw[wV];rfl⟩
   have ex:(T (c::d::r)).extract 0 2=T [c,d]:=by rw[yH];rfl
   have sz:2<=(T (c::d::r)).size:=by rw[dH];simp
   have lit:(ar #[45,62])=T [45,62]:=rfl;have eqx:((T [c,d]).toList==(T [45,62]).toList)=(c==45&&d==62):=by
    rw[mf,bT];simp
   have e61:((d.toNat:Int)==61)=(d==61):=u8i (d:=61);have U4:JI (c::d::r)=((d==61&&[60,62,61,33].contains c)||(d==c&&[38,124].contains c)||(c==45&&d==62)):=rfl;rw[U4];generalize IJ:([60,62,61,33]:aJ).contains c=p1;generalize hp2:([38,124]:aJ).contains c=p2;have Hf:((((T (c::d::r)).extract 0 2).toList)==((ar #[45,62]).toList))=(c==45&&d==62):=by rw[ex,lit,eqx]
   refine⟨d,g1,fun Rx=>⟨c,g0,fun w6 ez=>?_⟩,fun Rx=>⟨d,g1,c,g0,fun Nc=>⟨c,g0,fun dJ dT=>?_⟩,fun Nc=>⟨sz,fun fT dU=>⟨?_,cF.cz dU⟩⟩⟩⟩
   ·rw[e61]at Rx;obtain⟨s,w7,k1,k2,k3,_⟩:=vY w6 [60,62,61,33] (n:=4) (parts:=#[(0,.int .u8 60),(1,.int .u8 62),(2,.int .u8 61),(3,.int .u8 33)]) rfl rfl (by decide) (by decide);refine⟨s,w7,k1,(Fs (Bs k2) c).mono ?_⟩;rintro _ w8 ⟨rfl,gn⟩;have lO:=cF.cz (ez.cz (k3.cz gn));rw[IJ];refine⟨_,rfl,fun hb=>⟨by rw[Rx,hb];rfl,lO⟩,fun hb=>⟨d,g1,c,g0,fun Nc=>⟨c,g0,?_⟩,fun Nc=>⟨sz,?_,lO⟩⟩⟩
    ·rw[u8i]at Nc;obtain⟨s,w9,k1,k2,k3,_⟩:=vY w8 [38,124] (n:=2) (parts:=#[(0,.int .u8 38),(1,.int .u8 124)]) rfl rfl (by decide) (by decide);refine⟨s,w9,k1,(Fs (Bs k2) c).mono ?_⟩;rintro _ dI ⟨rfl,eH⟩;have hO:=lO.cz (k3.cz eH);rw[hp2];exact⟨_,rfl,fun xx=>⟨by rw[Rx,hb,Nc,xx];rfl,hO⟩,fun xx=>⟨sz,by rw[Hf,Rx,hb,Nc,xx];rfl,hO⟩⟩
    ·rw[u8i]at Nc;rw[Hf,Rx,hb,Nc];rfl
   ·rw[e61]at Rx;rw[u8i]at Nc;obtain⟨s,fg,k1,k2,k3,_⟩:=vY dJ [38,124] (n:=2) (parts:=#[(0,.int .u8 38),(1,.int .u8 124)]) rfl rfl (by decide) (by decide);refine⟨s,fg,k1,(Fs (Bs k2) c).mono ?_⟩;rintro _ fC ⟨rfl,eS⟩;have hO:=cF.cz (dT.cz (k3.cz eS));rw[hp2];exact⟨_,rfl,fun xx=>⟨by rw[Rx,Nc,xx];rfl,hO⟩,fun xx=>⟨sz,by rw[Hf,Rx,Nc,xx];rfl,hO⟩⟩
   ·rw[e61]at Rx;rw[u8i]at Nc;rw[Hf,Rx,Nc];rfl
  ·intro hc iJ iu;rw[dH]at hc;have hr:r=[]:=by
    cases r with
    | nil=>rfl
    | cons d r=>exact absurd (aW hc) (by simp only[bp];omega)
   subst hr;exact⟨rfl,cF.cz iu⟩
 ·obtain⟨s,iX,k1,k2,k3,k4⟩:=vY w0 C9 (n:=17) (parts:=#[(0,.int .u8 123),(1,.int .u8 125),(2,.int .u8 40),(3,.int .u8 41),(4,.int .u8 91),(5,.int .u8 93),(6,.int .u8 59),(7,.int .u8 44),(8,.int .u8 61),(9,.int .u8 43),(10,.int .u8 45),(11,.int .u8 42),(12,.int .u8 47),(13,.int .u8 37),(14,.int .u8 60),(15,.int .u8 62),(16,.int .u8 33)]) rfl rfl (by decide) (by decide);obtain⟨fR,c1,c2,c3⟩:=XS k4 k2 (k2.blk k4).2;have iY:aA [] w0 fR:=((k3.p0 (F:=fun k=>w0.heap.size<=k)).trans c3 fun k hk=>.inl (by omega)).only fun k hk=>hk;refine⟨s,iX,k1,s,fR,c1,(Fs c2 c).mono ?_⟩;rintro _ jA ⟨rfl,lO⟩;have hO:=cK.cz (iY.cz lO);exact⟨_,rfl,fun hb=>⟨by rw[if_pos hb],hO⟩,fun hb=>⟨by rw[hb];rfl,hO⟩⟩
theorem Nu.int{w':ay}{b:Nat}{l:aJ}{i:Nat}{acc:List Tk}{r:Except Int Tq}{v:az}(h:Nu w' b l i acc r v):∃k:Int,v=O ae k:=by
 unfold Nu at h;split at h
 ·exact⟨_,h.1⟩
 ·exact⟨_,h.1⟩
theorem Tz{w:ay}{b:Nat}{l:aJ}{i:Nat}{rs:Sl}{acc:List Tk}(h:Cut w b l i rs acc)(ha:acc.length<=16384)(gz:i<l.length):
  aB au 154 #[ai (some ⟨b,0,none⟩)] w fun e w'=>∃v,e=aq v/\aF (fun k=>b<=k) w w'/\Nu w' b l i acc (uU (l.drop i)) v:=by
 refine acH ⟨b,0,none⟩ (fun v w'=>aF (fun k=>b<=k) w w'/\Nu w' b l i acc (uU (l.drop i)) v) w ?_;obtain⟨ws,hb,hw⟩:=h.blk;have hx:l[i]? =some l[i]:=aV gz;generalize l[i]=x at hx;have ht:uU (l.drop i)=if qF x then tK (l.drop i)else if ff x then zl (l.drop i)else tL (l.drop i):=by
  rw[Bt hx];rfl
 rw[ht];refine⟨T l,Blk.dZ hb 0 rfl,i,Blk.dZ hb 1 rfl,x,⟨bE i,by rw[wV,aX,hx]⟩,fun w0 cK=>(zh w0 x).mono ?_⟩;rintro _ w1 ⟨rfl,cF⟩;have jp:=cK.cz cF;refine⟨_,rfl,fun hl=>?_,fun hl=>(JD w1 x).mono ?_⟩
 ·rw[if_pos hl];refine(XR (h.only jp) ha).mono ?_;rintro _ w2 ⟨v,rfl,dh,hd⟩;obtain⟨k,rfl⟩:=hd.int;exact⟨k,rfl,jp.pd dh,hd⟩
 rintro _ w3 ⟨rfl,dx⟩;have Ax:=jp.cz dx;rw[if_neg (by rw[hl];decide)];refine⟨_,rfl,fun hd=>?_,fun hd=>?_⟩
 ·rw[if_pos hd];refine(Pc (h.only Ax) ha).mono ?_;rintro _ w2 ⟨v,rfl,dh,hd⟩;obtain⟨k,rfl⟩:=hd.int;exact⟨k,rfl,Ax.pd dh,hd⟩
 ·rw[if_neg (by rw[hd];decide)];refine(XU (h.only Ax) ha gz).mono ?_;rintro _ w2 ⟨v,rfl,dh,hd⟩;obtain⟨k,rfl⟩:=hd.int;exact⟨k,rfl,Ax.pd dh,hd⟩
theorem uV{m:aJ}{q:Tq}(h:uU m=.ok q):1<=q.2.2.2:=by
 cases m with
 | nil=>cases h
 | cons c r=>
  simp only[uU]at h;split at h
  ·rename_i hc;unfold tK at h;split at h
   ·cases h
   ·injection h with h;subst h;have:iB c=true:=by unfold iB;rw[hc];rfl
    dsimp only;rw[eF,if_pos this,bp];omega
  ·split at h
   ·rename_i hc;unfold zl at h;split at h
    ·cases h
    ·split at h
     ·cases h
     ·rename_i h1 h2;injection h with h;subst h;dsimp only;rw[eF,if_pos (by unfold iB;rw[hc,xY]),bp]at h2;omega
   ·unfold tL at h;split at h
    ·cases h
    ·injection h with h;subst h;dsimp only;omega
theorem JJ{m:aJ}{e:Int}(h:uU m=.error e):e≠0:=by
 cases m with
 | nil=>injection h with h;omega
 | cons c r=>
  simp only[uU]at h;split at h
  ·unfold tK at h;split at h
   ·injection h with h;omega
   ·cases h
  ·split at h
   ·unfold zl at h;split at h
    ·injection h with h;omega
    ·split at h
     ·injection h with h;omega
     ·cases h
   ·unfold tL at h;split at h
    ·injection h with h;omega
    ·cases h
def zo(l:aJ):Nat->Nat->Except (Int×Nat) (List Tk)
 | 0,_=>.ok []
 | f+1,i=>
  if l.length<=i+mS false (l.drop i)then .ok [⟨5,[],0,(i+mS false (l.drop i):Nat)⟩]
  else match uU (l.drop (i+mS false (l.drop i)))with
   | .error e=>.error (e,i+mS false (l.drop i))
   | .ok q=>match zo l f (i+mS false (l.drop i)+q.2.2.2)with
    | .error x=>.error x
    | .ok r=>.ok (⟨q.1,q.2.1,q.2.2.1,(i+mS false (l.drop i):Nat)⟩::r)
theorem Pe{l:aJ}:(gV l).2.1<=l.length:=by
 have:=sS (p:=ff) (l:=l);unfold gV;split
 ·exact bA _
 ·split
  ·exact bA _
  ·split
   ·exact this
   ·exact bA _
theorem Da{m:aJ}{q:Tq}(h:uU m=.ok q):q.2.2.2<=m.length:=by
 cases m with
 | nil=>cases h
 | cons c r=>
  simp only[uU]at h;split at h
  ·unfold tK at h;split at h
   ·cases h
   ·injection h with h;subst h;exact sS
  ·split at h
   ·unfold zl at h;split at h
    ·cases h
    ·split at h
     ·cases h
     ·injection h with h;subst h;exact Pe
   ·unfold tL at h;split at h
    ·cases h
    ·injection h with h;subst h;exact zm
theorem Pf{l:aJ}{i:Nat}(hi:i<=l.length):i+mS false (l.drop i)<=l.length:=by
 have:=C8 (b:=false) (l:=l.drop i);rw[cG]at this;omega
theorem Fw(l:aJ):∀(f g i:Nat),i<=l.length->l.length<i+f->l.length<i+g->zo l f i=zo l g i
 | 0,_,i,hi,h,_=>by omega
 | _,0,i,hi,_,h=>by omega
 | f+1,g+1,i,hi,h1,h2=>by
  rw[zo,zo];split
  ·rfl
  ·split
   ·rfl
   ·rename_i q hq;have h3:=uV hq;have h4:=Da hq;rw[cG]at h4;rw[Fw l f g _ (by omega) (by omega) (by omega)]
def uW(l:aJ)(i:Nat):Except (Int×Nat) (List Tk):=zo l (l.length+1) i
theorem pK{l:aJ}{i:Nat}(hi:i<=l.length):uW l i=if l.length<=i+mS false (l.drop i)then .ok [⟨5,[],0,(i+mS false (l.drop i):Nat)⟩]
  else match uU (l.drop (i+mS false (l.drop i)))with
   | .error e=>.error (e,i+mS false (l.drop i))
   | .ok q=>match uW l (i+mS false (l.drop i)+q.2.2.2)with
    | .error x=>.error x
    | .ok r=>.ok (⟨q.1,q.2.1,q.2.2.1,(i+mS false (l.drop i):Nat)⟩::r):=by
 unfold uW;rw[zo];split
 ·rfl
 ·split
  ·rfl
  ·rename_i q hq;have h3:=uV hq;have h4:=Da hq;rw[cG]at h4;rw[Fw l l.length (l.length+1) _ (by omega) (by omega) (by omega)]
def dq(l:aJ):List Tk×Int×Int:=if 16384<l.length then([],2, -1)else match uW l 0 with
 | .error x=>([],x.1,(x.2:Nat))
 | .ok r=>(r,0,0)
def iT(acc:List Tk):Except (Int×Nat) (List Tk)->Except (Int×Nat) (List Tk)
 | .error x=>.error x
 | .ok r=>.ok (acc++r)
theorem sU(b:Bool):∀(l:aJ),mS false (l.drop (mS b l))=0
 | []=>by simp[mS]
 | c::r=>by
  cases b with
  | true=>
   rw[mS,j6,me];exact sU _ r
  | false=>
   rw[mS];split
   ·rw[j6,me];exact sU _ r
   ·split
    ·rw[j6,me];exact sU _ r
    ·rename_i h1 h2;rw[fY,mS,if_neg h1,if_neg h2]
theorem Bw{l:aJ}{i:Nat}(hi:i<=l.length):uW l i=uW l (i+mS false (l.drop i)):=by
 have h1:=Pf hi;have h2:mS false (l.drop (i+mS false (l.drop i)))=0:=by
  rw[<-oA];exact sU false (l.drop i)
 rw[pK hi,pK h1,h2,fx]
theorem TA{a b:List Tk}{x:Except (Int×Nat) (List Tk)}:iT a (iT b x)=iT (a++b) x:=by
 cases x with
 | error _=>rfl
 | ok r=>simp[iT]
theorem Fx{w:ay}(l:aJ)(hE:Er w):
  aB au 113 #[ah (T l)] w fun e w'=>∃rs:Sl,e=aq (ak #[rs.v,aj #[O ae (dq l).2.1,O ae (dq l).2.2]])/\mD w.heap.size w' rs (dq l).1/\aA [] w w':=by
 refine(acw (T l) (fun v w'=>∃rs:Sl,v=(ak #[rs.v,aj #[O ae (dq l).2.1,O ae (dq l).2.2]])/\mD w.heap.size w' rs (dq l).1/\aA [] w w') w ?_).mono (by
  rintro e w' ⟨v,rfl,rs,rfl,h⟩;exact⟨rs,rfl,h⟩)
 rw[dH];refine⟨fun hc k0 w0 _ _ hO=>⟨Sl.nil,?_,?_,hO⟩,fun hc k1 w1 ke jH cF=>(JG w1).mono ?_⟩
 ·rw[dq,if_pos (by have:=aP hc;omega)]
 ·rw[dq,if_pos (by have:=aP hc;omega)];exact Own.nil _ _ _ _ _ _
 have SC:l.length<=16384:=by have:=aW hc;omega
 have WL:dq l=match uW l 0 with
  | .error x=>([],x.1,(x.2:Nat))
  | .ok r=>(r,0,0):=by rw[dq,if_neg (by omega)]
 rintro _ w2 ⟨ws,rfl,ZE,dh⟩;refine⟨ws,rfl,dh.same (by simp;omega),fun b w3 hb kc dx hblk=>?_⟩;have eS:=cF.cz (dh.cz dx);have z1:=cF.size;have z2:=dh.size;have z3:=dx.size;have hC0:Cut w3 b l 0 Sl.nil []:=⟨⟨ws,hblk,(SliceF.only dD (by decide) ((uT ZE).inHeap dD (by decide)) dx (by simp)).mono dD fun k hk=>by omega⟩,Own.nil _ _ _ _ _ _,hE.only eS,by have:=hE.lt;omega,bA _,SC⟩
 have sm:∀{u u':ay},w2.heap.size<=u.heap.size->aF (fun k=>b<=k) u u'->ci [k1] u u':=fun hu hO=>hO.same (by intro x hx;simp only[aO]at hx;subst hx;omega);refine(Pa hblk (bA _) (by omega)).mono ?_;rintro _ w4 ⟨rfl,dP,U2⟩;have p4:aF (fun k=>b<=k) w3 w4:=dP.p fun x hx=>.inl (by simp only[aO]at hx;omega);have hC4:Cut w4 b l (0+mS false (l.drop 0)) Sl.nil []:=hC0.move dP (Pf (bA _)) fun Na h'=>by
  have:Na=ws:=by
   unfold aH at h' hblk;rw[h']at hblk;simp[Sl.v]at hblk;cases ws;cases Na;simp_all
  subst this;exact U2
 refine⟨rfl,sm (by omega) p4,T l,_,ws,Sl.nil,U2,fun nv e1 e2 s0 i0 l1 l2 w'=>e1=0/\e2=0/\s0=T l/\∃(i:Nat) (acc:List Tk),i0=(i:Int)/\Cut w' b l i l2 acc/\acc.length<=i/\mS false (l.drop i)=0/\uW l 0=iT acc (uW l i)/\nv=l.length-i/\aF (fun k=>b<=k) w3 w'/\aH w' b 226 [ah (T l),O ae (i:Int),l1.v,l2.v],l.length-(0+mS false (l.drop 0)),?_,?_⟩
 ·refine⟨rfl,rfl,rfl,_,[],rfl,hC4,bA _,?_,?_,rfl,p4,U2⟩
  ·rw[<-oA];exact sU false (l.drop 0)
  ·rw[<-Bw (bA _)];cases uW l 0<;>rfl
 rintro nv _ _ _ _ l1 rs w5 ⟨rfl,rfl,rfl,i,acc,rfl,hC,fu,hsk,og,rfl,eE,LD⟩;have z5:=eE.size;have Hh:=hC.il;refine(VT LD).mono ?_;rintro _ w6 ⟨rfl,ez⟩;have hC6:=hC.only ez;have hb6:aH w6 b 226 [ah (T l),O ae (i:Int),l1.v,rs.v]:=(ez.block b LD.lt (by simp)).trans LD;have z6:=ez.size;have nA:=pK hC.il;rw[hsk,fx]at nA;refine⟨_,rfl,ez.same (by simp;omega),T l,i,l1,rs,hb6,fun hc=>?_,fun hc=>?_⟩
 ·have bX:i<l.length:=by simpa using hc
  rw[if_neg (by omega)]at nA;refine(Tz hC6 (by omega) bX).mono ?_;rintro _ w7 ⟨v,rfl,fI,hd⟩;have p7:aF (fun k=>b<=k) w3 w7:=(eE.cz ez).trans fI fun k hk=>.inl hk;have z7:=fI.size;unfold Nu at hd;cases hq:uU (l.drop i)with
  | error e=>
   rw[hq]at hd nA;obtain⟨rfl,rs7,hC7⟩:=hd;obtain⟨ws7,WM,_⟩:=hC7.blk;refine⟨e,rfl,sm (by omega) fI,T l,i,ws7,rs7,WM,fun _ w8 gn _=>⟨Sl.nil,?_,?_,?_⟩,fun he=>absurd (JJ hq) (by simpa using he)⟩
   ·rw[WL,og,nA];rfl
   ·rw[WL,og,nA];exact Own.nil _ _ _ _ _ _
   ·exact(((eS.p0 (F:=fun k=>w.heap.size<=k)).trans p7 fun k hk=>.inl (by omega)).trans (gn.p (F:=fun k=>k=k1) fun x hx=>.inl (by simpa using hx)) fun k hk=>.inl (by omega)).only fun k hk=>hk
  | ok q=>
   rw[hq]at hd nA;obtain⟨rfl,rs7,hC7⟩:=hd;obtain⟨ws7,WM,_⟩:=hC7.blk;have hq1:=uV hq;have h7l:=hC7.il;refine⟨0,rfl,sm (by omega) fI,T l,(i+q.2.2.2:Nat),ws7,rs7,WM,fun he=>(by simp at he),fun _=>(Pa WM h7l (by omega)).mono ?_⟩;rintro _ w9 ⟨rfl,gv,hb9⟩;have p9:aF (fun k=>b<=k) w7 w9:=gv.p fun x hx=>.inl (by simp only[aO]at hx;omega);have hC9:=hC7.move gv (Pf h7l) fun Na h'=>by
    have:Na=ws7:=by
     unfold aH at h' WM;rw[h']at WM;simp[Sl.v]at WM;cases ws7;cases Na;simp_all
    subst this;exact hb9
   refine⟨rfl,sm (by omega) p9,T l,_,ws7,rs7,hb9,l.length-(i+q.2.2.2+mS false (l.drop (i+q.2.2.2))),by omega,rfl,rfl,rfl,_,_,rfl,hC9,?_,?_,?_,rfl,p7.trans p9 fun k hk=>.inl hk,hb9⟩
   ·rw[aU,bP];omega
   ·rw[<-oA];exact sU false _
   ·rw[og,nA,<-Bw h7l,<-TA];dsimp only;cases uW l (i+q.2.2.2)<;>rfl
 ·have mz:l.length<=i:=by simpa using hc
  rw[if_pos mz]at nA;refine(JH hC6 5 [] 0 0 0 (by omega) (by omega)).mono ?_;rintro _ dI ⟨rfl,eH,ZF,ae5⟩;obtain⟨alt,alu,_⟩:=ae5.blk;have ZG:aF (fun k=>b<=k) w3 dI:=(eE.cz ez).trans eH fun k hk=>.inl hk;have htt:dq l=(acc++[⟨5,[],0,(i:Nat)⟩],0,0):=by
   rw[WL,og,nA];rfl
  refine⟨rfl,sm (by omega) eH,T l,_,alt,ZF,alu,fun dJ dT _=>⟨ZF,?_,?_,?_⟩⟩
  ·rw[htt]
  ·rw[htt];have:mD (b+1) dJ ZF _:=ae5.own.keep fun k hk bX=>dT.block k bX (by simp only[aO];omega);exact Own.low this (by omega)
  ·exact(((eS.p0 (F:=fun k=>w.heap.size<=k)).trans ZG fun k hk=>.inl (by omega)).trans (dT.p (F:=fun k=>k=k1) fun x hx=>.inl (by simpa using hx)) fun k hk=>.inl (by omega)).only fun k hk=>hk
inductive Ex where
 | mk (k n:Int) (s:aJ) (op:Int) (subs:List Ex) (a:Int)
def Ex.k:Ex->Int | .mk k _ _ _ _ _=>k
def Ex.n:Ex->Int | .mk _ n _ _ _ _=>n
def Ex.s:Ex->aJ | .mk _ _ s _ _ _=>s
def Ex.op:Ex->Int | .mk _ _ _ op _ _=>op
def Ex.fW:Ex->List Ex | .mk _ _ _ _ l _=>l
def Ex.a:Ex->Int | .mk _ _ _ _ _ a=>a
def tk0:Tk:=⟨5,[],0, -1⟩
def tk(ts:List Tk)(i:Nat):Tk:=(ts[i]?).getD tk0
def sg(ts:List Tk)(i:Nat)(s:aJ):Bool:=(tk ts i).k==4&&decide ((tk ts i).t=s)
def ij(ts:List Tk)(i:Nat):Int×Int:=(if(tk ts i).k=5 then 3 else 4,(tk ts i).a)
theorem JK{ts:List Tk}{i:Nat}(h:i<ts.length):ts[i]? =some (tk ts i):=by
 unfold tk;rw[aV h];rfl
def wa(ts:List Tk):Prop:=∀i,i<ts.length->((tk ts i).k=5↔i+1=ts.length)
theorem wa.next{ts:List Tk}(h:wa ts){i:Nat}(hi:i<ts.length)(hk:(tk ts i).k≠5):i+1<ts.length:=by
 have h2:¬(i+1=ts.length):=fun e=>hk ((h i hi).2 e);omega
theorem Db{ts:List Tk}{i:Nat}{s:aJ}(h:sg ts i s=true):(tk ts i).k≠5:=by
 simp only[sg,aQ,dW]at h;rw[h.1];decide
def AX:List (aJ):=[[],[43],[45],[42],[47],[37],[60],[60,61],[62],[62,61],[61,61],[33,61],[38,38],[124,124],[45],[33]]
def kG(op:Int):Int:=if 3<=op/\op<=5 then 5 else if op=1∨op=2 then 4 else if 6<=op/\op<=9 then 3 else if op=10∨op=11 then 2 else if op=12 then 1 else if op=13 then 0 else 6
def lC(op:Nat):aJ:=(AX[op]?).getD []
def wb(ts:List Tk)(k:Int)(i:Nat):Nat->Nat->Int
 | 0,_=>0
 | f+1,op=>if kG (op:Int)=k/\sg ts i (lC op)=true then(op:Int)else wb ts k i f (op+1)
def zq(ts:List Tk)(k:Int)(i:Nat):Int:=wb ts k i 13 1
theorem wc{ts:List Tk}{k:Int}{i:Nat}:∀(f op:Nat),wb ts k i f op≠0->(tk ts i).k≠5
 | 0,_,h=>absurd rfl h
 | f+1,op,h=>by
  rw[wb]at h;split at h
  ·rename_i hc;exact Db hc.2
  ·exact wc f _ h
abbrev Pr:=Except (Int×Int) (Ex×Nat)
def TB(g:Ex->Ex):Pr->Pr
 | .error e=>.error e
 | .ok (x,j)=>.ok (g x,j)
def Mi:Pr->(Ex->Nat->Pr)->Pr
 | .error e,_=>.error e
 | .ok (x,j),g=>g x j
def AY(ts:List Tk):Pr->Pr
 | .error e=>.error e
 | .ok (x,j)=>if sg ts j [41]then .ok (x,j+1)else .error (ij ts j)
def qT(d:Nat)(a:Int)(r:Pr):Pr:=if d=20 then .error (21,a)else r
def TC(ts:List Tk)(i:Nat):Pr:=
 if sg ts (i+1) [40]then
  (if(tk ts (i+2)).k=1 then
   (if sg ts (i+3) [41]then .ok (.mk 3 0 (tk ts (i+2)).t 0 [] (tk ts i).a,i+4)else .error (ij ts (i+3)))
  else .error (ij ts (i+2)))
 else .error (ij ts (i+1))
def Dc(ts:List Tk)(E0 MR:Nat->Pr)(d i:Nat):Pr:=
 if(sg ts i [45]||sg ts i [33])=true then TB (fun x=>.mk 4 0 [] (if(tk ts i).t=[33]then 15 else 14) [x] (tk ts i).a) (qT d (tk ts i).a (MR (i+1)))
 else if sg ts i [40]=true then qT d (tk ts i).a (AY ts (E0 (i+1)))
 else if(tk ts i).k=3 then .ok (.mk 1 (tk ts i).n [] 0 [] (tk ts i).a,i+1)
 else if(tk ts i).k=1 then .ok (.mk 2 0 (tk ts i).t 0 [] (tk ts i).a,i+1)
 else if(tk ts i).k=2/\(tk ts i).t=[105,110]then TC ts i
 else .error (ij ts i)
def mU(ts:List Tk)(E:Nat->Pr)(k:Int):Nat->Ex->Nat->Pr
 | 0,x,j=>.ok (x,j)
 | g+1,x,j=>if zq ts k j=0 then .ok (x,j)else Mi (E (j+1)) fun y j'=>mU ts E k g (.mk 5 0 [] (zq ts k j) [x,y] x.a) j'
def fK(ts:List Tk):Nat->Nat->Nat->Nat->Pr
 | 0,_,_,_=>.error (1,0)
 | f+1,k,d,i=>if k=6 then Dc ts (fK ts f 0 (d+1)) (fK ts f 6 (d+1)) d i else Mi (fK ts f (k+1) d i) fun x j=>mU ts (fK ts f (k+1) d) (k:Int) (ts.length-j) x j
theorem JL{g:Ex->Ex}{r:Pr}{x:Ex}{j:Nat}(h:TB g r=.ok (x,j)):∃y,r=.ok (y,j)/\x=g y:=by
 cases r with
 | error e=>cases h
 | ok q=>
  obtain⟨y,j'⟩:=q;simp only[TB,ft,fJ]at h;obtain⟨rfl,rfl⟩:=h;exact⟨y,rfl,rfl⟩
theorem uX{d:Nat}{a:Int}{r:Pr}{q:Ex×Nat}(h:qT d a r=.ok q):r=.ok q/\d≠20:=by
 unfold qT at h;split at h
 ·cases h
 ·exact⟨h,by assumption⟩
theorem JM{ts:List Tk}{r:Pr}{x:Ex}{j:Nat}(h:AY ts r=.ok (x,j)):∃j',r=.ok (x,j')/\sg ts j' [41]=true/\j=j'+1:=by
 cases r with
 | error e=>cases h
 | ok q=>
  obtain⟨y,j'⟩:=q;simp only[AY]at h;split at h
  ·simp only[ft,fJ]at h;obtain⟨rfl,rfl⟩:=h;exact⟨j',rfl,by assumption,rfl⟩
  ·cases h
theorem yh{r:Pr}{g:Ex->Nat->Pr}{q:Ex×Nat}(h:Mi r g=.ok q):∃x j,r=.ok (x,j)/\g x j=.ok q:=by
 cases r with
 | error e=>cases h
 | ok p=>exact⟨p.1,p.2,rfl,h⟩
theorem XV{ts:List Tk}{i:Nat}{x:Ex}{j:Nat}(h:TC ts i=.ok (x,j)):j=i+4/\x=.mk 3 0 (tk ts (i+2)).t 0 [] (tk ts i).a:=by
 unfold TC at h;split at h
 ·split at h
  ·split at h
   ·simp only[ft,fJ]at h;exact⟨h.2.symm,h.1.symm⟩
   ·cases h
  ·cases h
 ·cases h
theorem Mj{ts:List Tk}{E0 MR:Nat->Pr}{d i:Nat}{x:Ex}{j:Nat}(hE:∀i x j,E0 i=.ok (x,j)->i<j)(hO:∀i x j,MR i=.ok (x,j)->i<j)(h:Dc ts E0 MR d i=.ok (x,j)):i<j:=by
 unfold Dc at h;split at h
 ·obtain⟨y,h1,_⟩:=JL h;have:=hO _ _ _ (uX h1).1;omega
 ·split at h
  ·obtain⟨j',h1,_,rfl⟩:=JM (uX h).1;have:=hE _ _ _ h1;omega
  ·split at h
   ·simp only[ft,fJ]at h;omega
   ·split at h
    ·simp only[ft,fJ]at h;omega
    ·split at h
     ·have:=(XV h).1;omega
     ·cases h
theorem zr{ts:List Tk}{E:Nat->Pr}{k:Int}(hE:∀i x j,E i=.ok (x,j)->i<j):∀(g:Nat) (x:Ex) (j:Nat) {x':Ex} {j':Nat},mU ts E k g x j=.ok (x',j')->j<=j'
 | 0,x,j,x',j',h=>by
  simp only[mU,ft,fJ]at h;omega
 | g+1,x,j,x',j',h=>by
  rw[mU]at h;split at h
  ·simp only[ft,fJ]at h;omega
  ·obtain⟨y,m,h1,h2⟩:=yh h;have:=hE _ _ _ h1;have:=zr hE g _ _ h2;omega
theorem lD{ts:List Tk}:∀(f k d i:Nat) {x:Ex} {j:Nat},fK ts f k d i=.ok (x,j)->i<j
 | 0,_,_,_,_,_,h=>by cases h
 | f+1,k,d,i,x,j,h=>by
  rw[fK]at h;split at h
  ·exact Mj (fun i x j h=>lD f _ _ i h) (fun i x j h=>lD f _ _ i h) h
  ·obtain⟨y,m,h1,h2⟩:=yh h;have:=lD f _ _ _ h1;have:=zr (fun i x j h=>lD f _ _ i h) _ _ _ h2;omega
def kH(k d:Nat):Nat:=(20-d)*8+(7-k)
def HS(ts:List Tk)(i:Nat):Pr:=fK ts (kH 0 0) 0 0 i
structure Rd (F G:aL) (ts:List Tk) (w:ay) (b:Nat) (l sn:Sl) (i:Nat) (fc fa d:Int):Prop where
 blk:aH w b 324 [l.v,O ae (i:Int),O ae fc,O ae fa,O ae d,sn.v]
 tok:aD JF 4 w F l ts
 sig:aD kz 1 w G sn AX
 hF:∀k,F k->k<b
 hG:∀k,G k->k<b
 en:wa ts
 lt:i<ts.length
section
variable {F G:aL} {ts:List Tk} {w w':ay} {b:Nat} {l sn:Sl} {i:Nat} {fc fa d:Int}
theorem Rd.only(h:Rd F G ts w b l sn i fc fa d)(hO:aA [] w w'):Rd F G ts w' b l sn i fc fa d:=
 ⟨hO.blk h.blk (by simp),SliceF.only ju (by decide) h.tok hO (by simp),SliceF.only dD (by decide) h.sig hO (by simp),h.hF,h.hG,h.en,h.lt⟩
theorem Rd.nu(h:Rd F G ts w b l sn i fc fa d)(hO:aA [b] w w'){i':Nat}{fc' fa' d':Int}(hB:aH w' b 324 [l.v,O ae (i':Int),O ae fc',O ae fa',O ae d',sn.v])(hi:i'<ts.length):Rd F G ts w' b l sn i' fc' fa' d':=
 ⟨hB,SliceF.only ju (by decide) h.tok hO fun k hk _ hm=>by have:=h.hF k hk;simp only[aO]at hm;omega,SliceF.only dD (by decide) h.sig hO fun k hk _ hm=>by have:=h.hG k hk;simp only[aO]at hm;omega,h.hF,h.hG,h.en,hi⟩
theorem Rd.own(h:Rd F G ts w b l sn i fc fa d){bs:List Nat}(hO:aA bs w w')(hb:∀x,x∈bs->b<x):Rd F G ts w' b l sn i fc fa d:=
 ⟨hO.blk h.blk fun hm=>by have:=hb b hm;omega,SliceF.only ju (by decide) h.tok hO fun k hk _ hm=>(by have:=h.hF k hk;have:=hb k hm;omega),SliceF.only dD (by decide) h.sig hO fun k hk _ hm=>(by have:=h.hG k hk;have:=hb k hm;omega),h.hF,h.hG,h.en,h.lt⟩
theorem Rd.lb(h:Rd F G ts w b l sn i fc fa d):b<w.heap.size:=h.blk.lt
theorem Rd.big(h:Rd F G ts w b l sn i fc fa d):ts.length<=9223372036854775807:=by
 have h1:=h.tok.len;have h2:=h.tok.cap;have h3:=h.tok.big;omega
theorem Rd.now(h:Rd F G ts w b l sn i fc fa d):∃ad,dL l (i:Int) 4 ad/\aE w ad [O ae (tk ts i).k,ah (T (tk ts i).t),O ae (tk ts i).n,O ae (tk ts i).a]:=by
 have hl:=h.tok.len;have bX:=h.lt;obtain⟨ad,x,cs,g1,g2,g3,g4,g5,g6⟩:=h.tok.get (bE i) (by omega);rw[aX,JK h.lt]at g2;injection g2 with g2;subst g2;unfold JF at g6;subst g6;exact⟨ad,g1,g5⟩
theorem Fy(h:Rd F G ts w b l sn i fc fa d):aB au 288 #[ai (some ⟨b,0,none⟩)] w fun e w'=>e=aq (tk ts i).v/\aA [] w w':=by
 refine ret (aiR _ _ _ ?_);intro k0 w0 hk iv hO;have h0:=h.only hO;obtain⟨ad,g1,g2⟩:=h0.now;exact⟨l,Blk.dZ h0.blk 0 rfl,_,Blk.dZ h0.blk 1 rfl,ad,g1,_,_,_,_,g2,fun w1 cF=>⟨rfl,hO.new cF hk⟩⟩
theorem Bx(h:Rd F G ts w b l sn i fc fa d):aB au 258 #[ai (some ⟨b,0,none⟩)] w fun e w'=>e=aq (ao (fc !=0))/\aA [] w w':=by
 refine ret (v7w _ _ _ ?_);exact⟨fc,Blk.dZ h.blk 2 rfl,rfl,Only.refl _ _⟩
theorem Dd(h:Rd F G ts w b l sn i fc fa d)(c:Int):aB au 297 #[ai (some ⟨b,0,none⟩),O ae c] w fun e w'=>e=aq (ak #[])/\aA [b] w w'/\
  Rd F G ts w' b l sn i (if fc=0 then c else fc) (if fc=0 then(tk ts i).a else fa) d:=by
 refine ret (aiT _ _ _ _ ?_);refine(Bx h).mono ?_;rintro _ w0 ⟨rfl,cK⟩;have h0:=h.only cK;refine⟨_,rfl,fun hc=>(Fy h0).mono ?_,fun hc=>?_⟩
 ·have hc:fc=0:=by simpa using hc
  subst hc;rintro _ w1 ⟨rfl,cF⟩;have h1:=h0.only cF;refine⟨_,_,_,_,rfl,b,2,_,_,rfl,h1.blk,by simp,fun w2 dh re=>⟨rfl,(cK.cz cF).weaken (fun _ h=>(by cases h)) |>.trans dh (fun x hx=>.inl hx),?_⟩⟩;rw[if_pos rfl,if_pos rfl];exact h1.nu dh re h.lt
 ·have hc:fc≠0:=by simpa using hc
  rw[if_neg hc,if_neg hc];exact⟨rfl,cK.weaken fun _ h=>(by cases h),h0⟩
theorem De(h:Rd F G ts w b l sn i fc fa d):aB au 294 #[ai (some ⟨b,0,none⟩)] w fun e w'=>e=aq (ak #[])/\aA [b] w w'/\
  Rd F G ts w' b l sn i (if fc=0 then(ij ts i).1 else fc) (if fc=0 then(ij ts i).2 else fa) d:=by
 refine ret (aiV _ _ _ ?_);refine⟨fun w'=>aA [b] w w'/\((tk ts i).k=5->Rd F G ts w' b l sn i (if fc=0 then 3 else fc) (if fc=0 then(tk ts i).a else fa) d)/\((tk ts i).k≠5->Rd F G ts w' b l sn i fc fa d),?_,(Fy h).mono ?_⟩
 ·rintro w0 ⟨cK,h1,h2⟩;by_cases hk:(tk ts i).k=5
  ·refine(Dd (h1 hk) 4).mono ?_;rintro _ w1 ⟨rfl,cF,hR⟩;refine⟨rfl,rfl,cK.trans cF (fun x hx=>.inl hx),?_⟩;unfold ij;rw[if_pos hk];by_cases hc:fc=0
   ·rw[if_pos hc,if_pos hc,if_neg (by decide),if_neg (by decide)]at hR;rw[if_pos hc,if_pos hc];exact hR
   ·rw[if_neg hc,if_neg hc,if_neg hc,if_neg hc]at hR;rw[if_neg hc,if_neg hc];exact hR
  ·refine(Dd (h2 hk) 4).mono ?_;rintro _ w1 ⟨rfl,cF,hR⟩;refine⟨rfl,rfl,cK.trans cF (fun x hx=>.inl hx),?_⟩;unfold ij;rw[if_neg hk];exact hR
 ·rintro _ w2 ⟨rfl,dh⟩;have h2:=h.only dh;refine⟨_,_,_,_,rfl,fun hc=>(Dd h2 3).mono ?_,fun hc=>⟨dh.weaken fun _ h=>(by cases h),fun e=>?_,fun _=>h2⟩⟩
  ·rintro _ w3 ⟨rfl,dx,hR⟩;exact⟨rfl,dh.weaken (fun _ h=>(by cases h)) |>.trans dx (fun x hx=>.inl hx),fun _=>hR,fun e=>absurd (by simpa using hc) e⟩
  ·rw[e]at hc;simp at hc
theorem adH(h:Rd F G ts w b l sn i fc fa d){H:aL}{s:Sl}{ss:List (aJ)}(hs:aD kz 1 w H s ss):aB au 289 #[ai (some ⟨b,0,none⟩),s.v] w fun e w'=>
  e=aq (ao (fc==0&&(tk ts i).k==4&&ss.contains (tk ts i).t))/\aA [] w w':=by
 refine ret (v8w _ _ _ _ ?_);refine(Fy h).mono ?_;rintro _ w0 ⟨rfl,cK⟩;refine⟨_,_,_,_,rfl,fun k0 w1 hk iv cF=>⟨fun c w'=>c=(fc==0&&(tk ts i).k==4&&ss.contains (tk ts i).t)/\aA [] w w',fun c w2 h2=>⟨by rw[h2.1],h2.2⟩,?_⟩⟩;have jp:=cK.cz cF;refine(Bx (h.only jp)).mono ?_;rintro _ w3 ⟨rfl,dx⟩;have e:(!(fc !=0))=(fc==0):=by cases h:(fc==0)<;>simp[bne,h]
 refine⟨_,rfl,dx.same (by simp;omega),fun hc=>(rM (SliceF.only dD (by decide) hs (jp.cz dx) (by simp)) _).mono ?_,fun hc=>⟨?_,jp.cz dx⟩⟩
 ·rintro _ w4 ⟨rfl,dP⟩;rw[e]at hc;have hl:=h.lb;have z3:=dx.size;exact⟨_,rfl,dP.same (by simp;omega),by rw[hc,cY],jp.cz (dx.cz dP)⟩
 ·rw[e]at hc;rw[hc,eu]
theorem is1(h:Rd F G ts w b l sn i fc fa d)(s:aJ):∃(s0:Sl) (w0:ay),(aw 31 1 #[.mk 0 (ah (T s))]).run au w=.ok s0.v w0/\aA [] w w0/\
  aB au 289 #[ai (some ⟨b,0,none⟩),s0.v] w0 fun e w'=>e=aq (ao (fc==0&&sg ts i s))/\aA [] w0 w':=by
 obtain⟨s0,w0,k1,k2,k3⟩:=nP w [s] (n:=1) (parts:=#[(0,ah (T s))]) rfl rfl (by decide) (by decide);refine⟨s0,w0,k1,k3,(adH (h.only k3) (uT k2)).mono ?_⟩;rintro _ w1 ⟨rfl,cF⟩;have e:[s].contains (tk ts i).t=decide ((tk ts i).t=s):=by
  by_cases e:(tk ts i).t=s
  ·rw[bK e,e];simp
  ·rw[bG e];simp[e]
 refine⟨?_,cF⟩;unfold sg;rw[Ba,e]
theorem is2(h:Rd F G ts w b l sn i fc fa d):∃(s0:Sl) (w0:ay),(aw 31 2 #[.mk 0 (ah (ar #[45])),.mk 1 (ah (ar #[33]))]).run au w=.ok s0.v w0/\aA [] w w0/\
  aB au 289 #[ai (some ⟨b,0,none⟩),s0.v] w0 fun e w'=>e=aq (ao (fc==0&&(sg ts i [45]||sg ts i [33])))/\aA [] w0 w':=by
 obtain⟨s0,w0,k1,k2,k3⟩:=nP w [[45],[33]] (n:=2) (parts:=#[(0,ah (T [45])),(1,ah (T [33]))]) rfl rfl (by decide) (by decide);refine⟨s0,w0,k1,k3,(adH (h.only k3) (uT k2)).mono ?_⟩;rintro _ w1 ⟨rfl,cF⟩;have e:[[45],[33]].contains (tk ts i).t=(decide ((tk ts i).t=[45])||decide ((tk ts i).t=[33])):=by
  rw[bT];simp
 refine⟨?_,cF⟩;unfold sg;rw[Ba,<-Bool.and_or_distrib_left,e]
theorem zv(h:Rd F G ts w b l sn i fc fa d)(s:aJ):aB au 292 #[ai (some ⟨b,0,none⟩),ah (T s)] w fun e w'=>e=aq (ak #[])/\aA [b] w w'/\
  (if fc==0&&sg ts i s then Rd F G ts w' b l sn (i+1) fc fa d else Rd F G ts w' b l sn i (if fc=0 then(ij ts i).1 else fc) (if fc=0 then(ij ts i).2 else fa) d):=by
 refine ret (v9w _ _ _ _ ?_);obtain⟨s0,w0,k1,k2,k3⟩:=is1 h s;refine⟨s0,w0,k1,k3.mono ?_⟩;rintro _ w1 ⟨rfl,cF⟩;have h1:=h.only (k2.cz cF);have jp:aA [b] w w1:=(k2.cz cF).weaken fun _ h=>(by cases h)
 refine⟨_,rfl,fun hc=>(De h1).mono ?_,fun hc=>?_⟩
 ·rintro _ w2 ⟨rfl,dh,hR⟩;have hc:(fc==0&&sg ts i s)=false:=by rwa[dy]at hc
  rw[hc];exact⟨rfl,rfl,jp.trans dh (fun x hx=>.inl hx),hR⟩
 ·have hc:(fc==0&&sg ts i s)=true:=by rwa[G6]at hc
  rw[hc];simp only[aQ]at hc;have hn:=h.en.next h.lt (Db hc.2);have hb:=h.big;refine⟨(i:Int),Blk.dZ h1.blk 1 rfl,b,1,_,_,rfl,h1.blk,by simp,fun w3 dx xy=>⟨rfl,jp.trans dx (fun x hx=>.inl hx),h1.nu dx ?_ hn⟩⟩;rw[gD (by omega) (by omega)]at xy;exact xy
theorem JN(h:Rd F G ts w b l sn i fc fa d):aB au 293 #[ai (some ⟨b,0,none⟩)] w fun e w'=>aA [b] w w'/\
  (if fc=0/\(tk ts i).k=1 then e=aq (ah (T (tk ts i).t))/\Rd F G ts w' b l sn (i+1) fc fa d else e=aq (ah (T []))/\Rd F G ts w' b l sn i (if fc=0 then(ij ts i).1 else fc) (if fc=0 then(ij ts i).2 else fa) d):=by
 refine(aiW ⟨b,0,none⟩ (fun v w'=>aA [b] w w'/\(if fc=0/\(tk ts i).k=1 then v=(ah (T (tk ts i).t))/\Rd F G ts w' b l sn (i+1) fc fa d else v=(ah (T []))/\Rd F G ts w' b l sn i (if fc=0 then(ij ts i).1 else fc) (if fc=0 then(ij ts i).2 else fa) d)) w ?_).mono (by
  rintro e w' ⟨v,rfl,hO,hv⟩;refine⟨hO,?_⟩;split at hv
  ·rename_i hc;rw[if_pos hc];exact⟨by rw[hv.1],hv.2⟩
  ·rename_i hc;rw[if_neg hc];exact⟨by rw[hv.1],hv.2⟩)
 refine(Fy h).mono ?_;rintro _ w0 ⟨rfl,cK⟩;refine⟨_,_,_,_,rfl,fun k0 w1 hk iv cF=>?_⟩;have jp:=cK.cz cF;have z0:=cK.size;have hl:=h.lb;refine(Bx (h.only jp)).mono ?_;rintro _ w2 ⟨rfl,dh⟩;have z2:=dh.size;have h2:=h.only (jp.cz dh);have pf:aA [b] w w2:=(jp.cz dh).weaken fun _ h=>(by cases h)
 refine⟨_,rfl,dh.same (by simp;omega),fun hc=>(De h2).mono ?_,fun hc=>?_⟩
 ·rintro _ w3 ⟨rfl,dx,hR⟩;refine⟨rfl,dx.same (by simp;omega),pf.trans dx (fun x hx=>.inl hx),?_⟩;rw[if_neg (fun hh=>by rw[hh.1,hh.2]at hc;simp at hc)];exact⟨rfl,hR⟩
 ·have hc:fc=0/\(tk ts i).k=1:=by simpa using hc
  have hn:=h.en.next h.lt (by rw[hc.2];decide);have hb:=h.big;refine⟨(i:Int),Blk.dZ h2.blk 1 rfl,b,1,_,_,rfl,h2.blk,by simp,by omega,fun w3 dx xy=>⟨pf.trans dx (fun x hx=>.inl hx),?_⟩⟩;rw[if_pos hc];refine⟨rfl,h2.nu dx ?_ hn⟩;rw[gD (by omega) (by omega)]at xy;exact xy
end
theorem HT(w:ay)(op:Int):aB au 280 #[O ae op] w fun e w'=>e=aq (O ae (kG op))/\w'=w:=by
 refine ret (aiY _ _ _ ?_);have fin:∀{k:Int} {w1:ay},kG op=k->(Value.int ae k=O ae (kG op)/\w1=w1):=fun e=>⟨by rw[e],rfl⟩
 refine⟨fun h=>fin ?_,fun h=>⟨fun b w'=>b=decide (op=1∨op=2)/\w'=w,?_,fun h1=>⟨?_,rfl⟩,fun h1=>⟨?_,rfl⟩⟩⟩
 ·simp only[aQ,bL]at h;unfold kG;rw[if_pos (by omega)]
 ·rintro _ w1 ⟨rfl,rfl⟩;have h:¬(3<=op/\op<=5):=fun hh=>by rw[bK hh.1,bK hh.2]at h;cases h
  refine⟨fun h1=>fin ?_,fun h1=>⟨fun h2=>fin ?_,fun h2=>⟨fun b w2=>b=decide (op=10∨op=11)/\w2=w1,?_,fun h3=>⟨?_,rfl⟩,fun h3=>⟨?_,rfl⟩⟩⟩⟩
  ·have h1:=aP h1;unfold kG;rw[if_neg h,if_pos h1]
  ·have h1:=aW h1;simp only[aQ,bL]at h2;unfold kG;rw[if_neg h,if_neg h1,if_pos (by omega)]
  ·rintro _ _ ⟨rfl,rfl⟩;have h1:=aW h1;have h2:¬(6<=op/\op<=9):=fun hh=>by rw[bK hh.1,bK hh.2]at h2;cases h2
   refine⟨fun h3=>fin ?_,fun h3=>⟨fun h4=>fin ?_,fun h4=>⟨fun h5=>fin ?_,fun h5=>fin ?_⟩⟩⟩
   ·have h3:=aP h3;unfold kG;rw[if_neg h,if_neg h1,if_neg h2,if_pos h3]
   ·have h3:=aW h3;have h4:op=12:=by simpa using h4
    unfold kG;rw[if_neg h,if_neg h1,if_neg h2,if_neg h3,if_pos h4]
   ·have h3:=aW h3;have h4:¬op=12:=by simpa using h4
    have h5:op=13:=by simpa using h5
    unfold kG;rw[if_neg h,if_neg h1,if_neg h2,if_neg h3,if_neg h4,if_pos h5]
   ·have h3:=aW h3;have h4:¬op=12:=by simpa using h4
    have h5:¬op=13:=by simpa using h5
    unfold kG;rw[if_neg h,if_neg h1,if_neg h2,if_neg h3,if_neg h4,if_neg h5]
  ·have h3:op=10:=by simpa using h3
   rw[h3];rfl
  ·have h3:¬op=10:=by simpa using h3
   rw[bT];simp[h3]
 ·have h1:op=1:=by simpa using h1
  rw[h1];rfl
 ·have h1:¬op=1:=by simpa using h1
  rw[bT];simp[h1]
section
variable {F G:aL} {ts:List Tk} {w w':ay} {b:Nat} {l sn:Sl} {i:Nat} {fc fa d:Int}
theorem zw(h:Rd F G ts w b l sn i fc fa d)(k:Int):aB au 275 #[ai (some ⟨b,0,none⟩),O ae k] w fun e w'=>e=aq (O ae (if fc=0 then zq ts k i else 0))/\aA [] w w':=by
 refine ret (aiX _ _ _ _ ?_);refine⟨fun nv i0 w'=>∃op:Nat,1<=op/\op<=14/\i0=(op:Int)/\nv=14-op/\(if fc=0 then zq ts k i else 0)=(if fc=0 then wb ts k i (14-op) op else 0)/\aA [] w w',13,⟨1,by decide,by decide,rfl,rfl,rfl,Only.refl _ _⟩,?_⟩;rintro nv _ w0 ⟨op,h1,h2,rfl,rfl,hV,cK⟩;refine⟨fun hc=>?_,fun hc=>?_⟩
 ·have hc:(op:Int)<=13:=aP hc;obtain⟨m,hm⟩:∃m,14-op=m+1:=⟨13-op,by omega⟩
  rw[hm,wb]at hV;refine⟨fun c w'=>c=(decide (kG (op:Int)=k)&&(fc==0&&sg ts i (lC op)))/\aA [] w w',?_,fun w2 dh=>(HT w2 _).mono ?_⟩
  ·rintro _ w1 ⟨rfl,cF⟩;refine⟨fun hb=>⟨?_,cF⟩,fun hb=>⟨m,by omega,op+1,by omega,by omega,by rw[gD (by omega) (by omega)];rfl,by omega,?_,cF⟩⟩
   ·simp only[aQ,bL,dW]at hb;rw[hV,if_pos hb.2.1,if_pos ⟨hb.1,hb.2.2⟩]
   ·rw[hV,show 14-(op+1)=m by omega];by_cases h0:fc=0
    ·rw[if_pos h0,if_pos h0,if_neg];rintro⟨e1,e2⟩;rw[bK e1,e2,h0]at hb;simp at hb
    ·rw[if_neg h0,if_neg h0]
  ·rintro _ w3 ⟨rfl,rfl⟩;have h3:=h.only (cK.cz dh);refine⟨_,rfl,fun hk=>?_,fun hk=>?_⟩
   ·have hk:kG (op:Int)=k:=by simpa using hk
    have hn:=h3.sig.len;have hol:AX.length=16:=rfl;obtain⟨ad,x,cs,g1,g2,g3,g4,g5,g6⟩:=h3.sig.get (i:=(op:Int)) (by omega) (by omega);unfold kz at g6;subst g6;rw[aX]at g2;have hx:lC op=x:=by unfold lC;rw[g2];rfl
    subst hx;obtain⟨s0,w4,k1,k2,k3⟩:=is1 h3 (lC op);refine⟨sn,Blk.dZ h3.blk 5 rfl,ad,g1,_,g5,s0,w4,k1,k3.mono ?_⟩;rintro _ w5 ⟨rfl,eE⟩;exact⟨_,rfl,by rw[bK hk,cY],cK.cz (dh.cz (k2.cz eE))⟩
   ·have hk:¬kG (op:Int)=k:=by simpa using hk
    exact⟨by rw[bG hk,eu],cK.cz dh⟩
 ·have hc:¬(op:Int)<=13:=aW hc;have:op=14:=by omega
  subst this;rw[hV];refine⟨?_,cK⟩;split<;>rfl
end
abbrev qU(k n:Int)(s:aJ)(op:Int)(sl:Sl)(a:Int):aK:=[O ae k,O ae n,ah (T s),O ae op,sl.v,O ae a]
inductive RXN (w:ay) (N:aL):Nat->Nat->Ex->aK->Prop
 | leaf (lo hi:Nat) (k n:Int) (s:aJ) (op a:Int):RXN w N lo hi (.mk k n s op [] a) (qU k n s op Sl.nil a)
 | one (lo m g hi:Nat) (k n:Int) (s:aJ) (op a:Int) (x:Ex) (cs:aK):RXN w N lo m x cs->lo<=g->m<=g->g<hi->¬N g->aH w g 64 cs->RXN w N lo hi (.mk k n s op [x] a) (qU k n s op ⟨some ⟨g,0,none⟩,1,1⟩ a)
 | two (lo m m' m2 g hi:Nat) (k n:Int) (s:aJ) (op a:Int) (x y:Ex) (cs ds:aK):RXN w N lo m x cs->m<=m'->RXN w N m' m2 y ds->lo<=m'->m<=g->m'<=g->m2<=g->g<hi->¬N g->aH w g 64 (cs++ds)->RXN w N lo hi (.mk k n s op [x,y] a) (qU k n s op ⟨some ⟨g,0,none⟩,2,2⟩ a)
abbrev RX(w:ay):Nat->Nat->Ex->aK->Prop:=RXN w fun _=>False
section
variable {w w':ay} {N N':aL} {lo hi:Nat} {x:Ex} {cs:aK}
theorem RXN.keep(h:RXN w N lo hi x cs):(∀k,lo<=k->k<hi->¬N k->k<w.heap.size->w'.heap[k]? =w.heap[k]?)->RXN w' N lo hi x cs:=by
 induction h with
 | leaf lo hi k n s op a=>exact fun _=>.leaf ..
 | one lo m g hi k n s op a x cs h1 h2 h3 h4 hn h5 ih=>
  intro hk;exact .one lo m g hi k n s op a x cs (ih fun j h6 h7 h8=>hk j h6 (by omega) h8) h2 h3 h4 hn ((hk g h2 h4 hn h5.lt).trans h5)
 | two lo m m' m2 g hi k n s op a x y cs ds h1 h2 h3 h4 h5 h6 h7 h8 hn h9 NR SD=>
  intro hk;exact .two lo m m' m2 g hi k n s op a x y cs ds (NR fun j a1 a2 a3=>hk j a1 (by omega) a3) h2 (SD fun j a1 a2 a3=>hk j (by omega) (by omega) a3) h4 h5 h6 h7 h8 hn ((hk g (by omega) h8 hn h9.lt).trans h9)
theorem RXN.wide(h:RXN w N lo hi x cs):∀{lo' Au:Nat},lo'<=lo->hi<=Au->RXN w N lo' Au x cs:=by
 induction h with
 | leaf lo hi k n s op a=>exact fun _ _=>.leaf ..
 | one lo m g hi k n s op a x cs h1 h2 h3 h4 hn h5 ih=>
  intro lo' Au a1 a2;exact .one lo' m g Au k n s op a x cs (ih a1 (aY _)) (by omega) h3 (by omega) hn h5
 | two lo m m' m2 g hi k n s op a x y cs ds h1 h2 h3 h4 h5 h6 h7 h8 hn h9 NR SD=>
  intro lo' Au a1 a2;exact .two lo' m m' m2 g Au k n s op a x y cs ds (NR a1 (aY _)) h2 h3 (by omega) h5 h6 h7 (by omega) hn h9
theorem RXN.Q5(h:RXN w N lo hi x cs):(∀k,lo<=k->k<hi->¬N k->¬N' k)->RXN w N' lo hi x cs:=by
 induction h with
 | leaf lo hi k n s op a=>exact fun _=>.leaf ..
 | one lo m g hi k n s op a x cs h1 h2 h3 h4 hn h5 ih=>
  intro hk;exact .one lo m g hi k n s op a x cs (ih fun j h6 h7=>hk j h6 (by omega)) h2 h3 h4 (hk g h2 h4 hn) h5
 | two lo m m' m2 g hi k n s op a x y cs ds h1 h2 h3 h4 h5 h6 h7 h8 hn h9 NR SD=>
  intro hk;exact .two lo m m' m2 g hi k n s op a x y cs ds (NR fun j a1 a2=>hk j a1 (by omega)) h2 (SD fun j a1 a2=>hk j (by omega) (by omega)) h4 h5 h6 h7 h8 (hk g (by omega) h8 hn) h9
theorem RXN.cells(h:RXN w N lo hi x cs):∃sl:Sl,cs=qU x.k x.n x.s x.op sl x.a/\(sl.n=x.fW.length):=by
 cases h with
 | leaf=>exact⟨_,rfl,rfl⟩
 | one=>exact⟨_,rfl,rfl⟩
 | two=>exact⟨_,rfl,rfl⟩
theorem RXN.only(h:RXN w N lo hi x cs){bs:List Nat}(hO:aA bs w w')(hb:∀k,k∈bs->k<lo∨hi<=k∨N k):RXN w' N lo hi x cs:=
 h.keep fun k h1 h2 hn h3=>hO.block k h3 fun hm=>by
  rcases hb k hm with e | e | e
  ·omega
  ·omega
  ·exact hn e
end
theorem Ph(w:ay)(vs:List (aK))(hv:∀v,v∈vs->v.length=6)(h0:0<vs.length)(hm:vs.length<=100){parts:Array (Nat×az)}(hp:parts=(((vs.map fun v=>Value.agg v.toArray).zipIdx 0).map fun x=>(x.2,x.1)).toArray):
  ∃w',(aw 62 vs.length parts).run au w=.ok (Sl.v ⟨some ⟨w.heap.size,0,none⟩,vs.length,vs.length⟩) w'/\aH w' w.heap.size 64 vs.flatten/\aA [] w w':=by
 have hc:((vs.map fun v=>Value.agg v.toArray).flatMap fun v=>v.cells.toList)=vs.flatten:=by
  clear hv h0 hm hp
  induction vs with
  | nil=>rfl
  | cons v vs ih=>rw[bF,uA,ih,dj];rfl
 have hs:Tryz.t64.size=6:=rfl;have uo:=run_buildSlice (P:=au) w 62 64 vs.length parts ((vs.map fun v=>Value.agg v.toArray).flatMap fun v=>v.cells.toList).toArray Tryz.t64 _ (by kernel_rfl) (by kernel_rfl) rfl (by rw[hs];omega) (by rw[hs];omega)
  (by
   subst hp;rw[im,hs];refine Go.Great.fill_whole (s:=6) (by decide) (vs.map fun v=>Value.agg v.toArray) _ (fun v hm=>?_) ?_
   ·obtain⟨x,hx,rfl⟩:=cJ.1 hm;have:=hv x hx;simpa[Value.cells]using this
   ·simp)
 rw[hc]at uo;exact⟨_,uo,Blk.alloc w _ _,Only.alloc _ _⟩
def exT(v:az):Prop:=∃(k n:Int) (s:aJ) (op:Int) (sl:Sl) (a:Int),v=aj (qU k n s op sl a).toArray
def nQ(F G:aL)(ts:List Tk)(w w':ay)(b:Nat)(l sn:Sl)(d:Nat)(r:Pr)(v:az):Prop:=aA [b] w w'/\match r with
 | .ok (x,j)=>∃cs,v=aj cs.toArray/\RX w' w.heap.size w'.heap.size x cs/\Rd F G ts w' b l sn j 0 0 (d:Int)
 | .error e=>e.1≠0/\exT v/\∃j,Rd F G ts w' b l sn j e.1 e.2 (d:Int)
section
variable {F G:aL} {ts:List Tk} {w w':ay} {b:Nat} {l sn:Sl} {i:Nat} {fc fa d:Int}
theorem iC:(ij ts i).1≠0:=by
 unfold ij;dsimp only;split<;>decide
theorem FA{d:Nat}(hd:d<=20)(h:Rd F G ts w b l sn i 0 0 (d:Int))(hi:i+1<ts.length){g:Nat}{z1 z2:aK}(hg:∀(x:Array az) (w:ay),(callFunc g x).run au w=.ok (.enter g x) w)(f:OV)(hf:f.v=.func (.func g) z1.toArray z2.toArray){r:Pr}
  (hr:d≠20->∀w1,aA [b] w w1->Rd F G ts w1 b l sn (i+1) 0 0 ((d+1:Nat):Int)->aB au g (z1++z2).toArray w1 fun e w'=>∃v,e=aq v/\nQ F G ts w1 w' b l sn (d+1) r v):
  aB au 290 #[ai (some ⟨b,0,none⟩),f.v] w fun e w'=>∃v,e=aq v/\nQ F G ts w w' b l sn d (qT d (tk ts i).a r) v:=by
 refine aiS ⟨b,0,none⟩ f (fun v w'=>nQ F G ts w w' b l sn d (qT d (tk ts i).a r) v) w ?_;intro k0 w0 hk iv cK;have hb:=h.lb;have h0:=h.only cK;refine⟨(d:Int),Blk.dZ h0.blk 4 rfl,fun hc=>(Dd h0 21).mono ?_,fun hc=>?_⟩
 ·have hc:d=20:=by have:(d:Int)=20:=(by simpa using hc);omega
  rintro _ w1 ⟨rfl,cF,hR⟩;rw[if_pos rfl,if_pos rfl]at hR;have z1:=cF.size;refine⟨rfl,cF.same (by simp;omega),fun w2 dh=>⟨?_,?_⟩⟩
  ·exact((cK.weaken (bs':=[b]) fun _ h=>(by cases h)).trans cF fun x hx=>.inl hx).new dh hk
  ·rw[qT,if_pos hc];exact⟨(by decide:(21:Int)≠0),⟨0,0,[],0,Sl.nil,0,rfl⟩,i,hR.own dh (by simp;omega)⟩
 ·have hc:d≠20:=fun e=>by subst e;simp at hc
  have IP:=h.big;refine⟨(i:Int),Blk.dZ h0.blk 1 rfl,b,1,_,_,rfl,h0.blk,by simp,by omega,fun w3 dx xy=>?_⟩;rw[gD (by omega) (by omega)]at xy;have h3:Rd F G ts w3 b l sn (i+1) 0 0 (d:Int):=h0.nu dx xy hi;have z3:=dx.size;refine⟨(d:Int),Blk.dZ h3.blk 4 rfl,b,4,_,_,rfl,h3.blk,by simp,by omega,fun w4 dP vG=>?_⟩;rw[gD (by omega) (by omega)]at vG;have h4:Rd F G ts w4 b l sn (i+1) 0 0 ((d+1:Nat):Int):=h3.nu dP vG hi;have z4:=dP.size;have Eb:aA [b] w w4:=((cK.weaken (bs':=[b]) fun _ h=>(by cases h)).trans dx fun x hx=>.inl hx).trans dP fun x hx=>.inl hx;refine⟨g,z1,z2,hf,hg,?_⟩;have e:vU (vU z1 []) z2=z1++z2:=by unfold vU;rw[bR]
  rw[e];refine(hr hc w4 Eb h4).mono ?_;rintro _ w6 ⟨v,rfl,ez,hd⟩;have z6:=ez.size;rw[qT,if_neg hc];have hv:∃(k n:Int) (s:aJ) (op:Int) (sl:Sl) (a:Int),v=aj (qU k n s op sl a).toArray:=by
   cases r with
   | error e=>exact hd.2.1
   | ok q=>
    obtain⟨cs,rfl,hx,_⟩:=hd;obtain⟨sl,rfl,_⟩:=hx.cells;exact⟨_,_,_,_,_,_,rfl⟩
  obtain⟨vk,vn,vs,vo,vsl,va,rfl⟩:=hv;refine⟨_,_,_,_,_,_,rfl,ez.same (by simp;omega),fun k8 w7 hk8 ZH fI=>?_⟩;have z7:=fI.size;have key:∀{j:Nat} {fc fa:Int},Rd F G ts w6 b l sn j fc fa ((d+1:Nat):Int)->∃i7:Int,aE w7 (Addr.add ⟨b,0,none⟩ 4) [O ae i7]/\∃k9 po:Nat,∃z4:aK,∃qR:Nat,(Addr.add ⟨b,0,none⟩ 4)=⟨k9,po,none⟩/\aH w7 k9 qR z4/\(po+1)<=z4.length/\k0≠k9/\k8≠k9/\
    ∀w8:ay,aA [k9] w7 w8->aH w8 k9 qR (cD z4 po [O ae (av ae (i7-1))])->∀w9:ay,aA [k0] w8 w9->aA [b] w w9/\aA [b,k0] w6 w9/\Rd F G ts w9 b l sn j fc fa (d:Int):=fun{j fc fa} h6=>by
   have h7:=h6.only fI;refine⟨((d+1:Nat):Int),Blk.dZ h7.blk 4 rfl,b,4,_,_,rfl,h7.blk,by simp,by omega,by omega,fun w8 gn uz w9 gv=>?_⟩;have ed:((d+1:Nat):Int)-1=d:=by omega
   rw[ed,gD (by omega) (by omega)]at uz;have h8:Rd F G ts w8 b l sn j fc fa (d:Int):=h7.nu gn uz h7.lt;have ae6:aA [b,k0] w6 w9:=((fI.weaken (bs':=[b,k0]) fun _ h=>(by cases h)).trans gn fun x hx=>.inl (by simp only[aO]at hx;simp[hx])).trans gv fun x hx=>.inl (by simp only[aO]at hx;simp[hx]);exact⟨(Eb.trans ez fun x hx=>.inl hx).trans ae6 (fun x hx=>by
    simp only[aR,bf,bU]at hx;rcases hx with rfl | rfl
    ·exact .inl (by simp)
    ·exact .inr hk),ae6,h8.own gv (by simp;omega)⟩
  have hd2:=hd;cases r with
  | error e=>
   obtain⟨h1,h2,j,h3⟩:=hd2;obtain⟨i7,k1,k9,po,z,qR,k2,k3,k4,k5,k6,k7⟩:=key h3;refine⟨i7,k1,k9,po,z,qR,k2,k3,k4,k5,k6,fun w8 gn uz w9 gv=>?_⟩;obtain⟨a1,a2,a3⟩:=k7 w8 gn uz w9 gv;exact⟨a1,h1,h2,j,a3⟩
  | ok q=>
   obtain⟨x,j⟩:=q;obtain⟨cs,h1,h2,h3⟩:=hd2;obtain⟨i7,k1,k9,po,z,qR,k2,k3,k4,k5,k6,k7⟩:=key h3;refine⟨i7,k1,k9,po,z,qR,k2,k3,k4,k5,k6,fun w8 gn uz w9 gv=>?_⟩;obtain⟨a1,a2,a3⟩:=k7 w8 gn uz w9 gv;have z9:=a2.size;exact⟨a1,cs,h1,(h2.only a2 fun k hk=>.inl (by simp only[aR,bf,bU]at hk;omega)).wide (by omega) z9,a3⟩
end
section
variable {F G:aL} {ts:List Tk} {w w':ay} {b:Nat} {l sn:Sl} {i:Nat} {fc fa d:Int}
theorem nQ.Ao{w w':ay}{d:Nat}{r:Pr}{v:az}(h:nQ F G ts w w' b l sn d r v):exT v:=by
 obtain⟨_,h⟩:=h;cases r with
 | error e=>exact h.2.1
 | ok q=>
  obtain⟨cs,rfl,hx,_⟩:=h;obtain⟨sl,rfl,_⟩:=hx.cells;exact⟨_,_,_,_,_,_,rfl⟩
theorem nQ.Q6{w0 w1 w2 w3:ay}{d:Nat}{r:Pr}{v:az}(h:nQ F G ts w1 w2 b l sn d r v)(cK:aA [b] w0 w1){bs:List Nat}(dh:aA bs w2 w3)(hb:∀x,x∈bs->b<x/\w0.heap.size<=x/\x<w1.heap.size):nQ F G ts w0 w3 b l sn d r v:=by
 obtain⟨hO,h⟩:=h;have z0:=cK.size;have z1:=hO.size;have z2:=dh.size;refine⟨(cK.trans hO fun x hx=>.inl hx).trans dh fun x hx=>.inr (hb x hx).2.1,?_⟩;cases r with
 | error e=>
  obtain⟨h1,h2,j,h3⟩:=h;exact⟨h1,h2,j,h3.own dh fun x hx=>(hb x hx).1⟩
 | ok q=>
  obtain⟨cs,h1,h2,h3⟩:=h;exact⟨cs,h1,(h2.only dh fun x hx=>.inl (hb x hx).2.2).wide z0 z2,h3.own dh fun x hx=>(hb x hx).1⟩
theorem adI{d:Nat}{r:Pr}{k0:Nat}(h:Rd F G ts w b l sn i 0 0 (d:Int))(hk:b<k0)(hB:aH w k0 320 [ai (some ⟨b,0,none⟩)])
  (hE:∀w1,aA [] w w1->aB au 257 #[ai (some ⟨b,0,none⟩),O ae 0] w1 fun e w'=>∃v,e=aq v/\nQ F G ts w1 w' b l sn d r v):
  aB au 291 #[ai (some ⟨k0,0,none⟩)] w fun e w'=>∃v,e=aq v/\nQ F G ts w w' b l sn d (AY ts r) v:=by
 refine aiU ⟨k0,0,none⟩ (fun v w'=>nQ F G ts w w' b l sn d (AY ts r) v) w ?_;intro k1 w0 ke jH cK;have hb:=h.lb;have tU:aH w0 k0 320 [ai (some ⟨b,0,none⟩)]:=cK.blk hB (by simp);have NS:=hB.lt;refine⟨_,Blk.dZ tU 0 rfl,(hE w0 cK).mono ?_⟩;rintro _ w1 ⟨v,rfl,hd⟩;obtain⟨k,n,s,op,sl,a,rfl⟩:=hd.Ao;have z1:=hd.1.size;refine⟨_,_,_,_,_,_,rfl,hd.1.same (by simp;omega),fun k2 w2 tF wM dh=>?_⟩;have z2:=dh.size;have re:aH w2 k0 320 [ai (some ⟨b,0,none⟩)]:=dh.blk (hd.1.blk tU (by simp;omega)) (by simp);refine⟨_,Blk.dZ re 0 rfl,_,rfl,?_⟩;obtain⟨cF,hd⟩:=hd;have pf:aA [b] w w2:=((cK.weaken fun _ h=>(by cases h)).trans cF fun x hx=>.inl hx).cz dh;cases r with
 | error e=>
  obtain⟨h1,h2,j,h3⟩:=hd;have h3:=h3.only dh;refine(zv h3 [41]).mono ?_;rintro _ w3 ⟨rfl,dx,hR⟩;rw[if_neg (by simp[h1]),if_neg h1,if_neg h1]at hR;refine⟨rfl,dx.same (by simp;omega),fun w4 dP=>⟨((pf.trans dx fun x hx=>.inl hx).new dP ke),h1,⟨_,_,_,_,_,_,rfl⟩,j,hR.own dP (by simp;omega)⟩⟩
 | ok q=>
  obtain⟨x,j⟩:=q;obtain⟨cs,h1,h2,h3⟩:=hd;have h3:=h3.only dh;refine(zv h3 [41]).mono ?_;rintro _ w3 ⟨rfl,dx,hR⟩;have z3:=dx.size;refine⟨rfl,dx.same (by simp;omega),fun w4 dP=>⟨((pf.trans dx fun x hx=>.inl hx).new dP ke),?_⟩⟩;have z4:=dP.size;by_cases hs:sg ts j [41]=true
  ·rw[if_pos (by simp[hs])]at hR;simp only[AY,hs,if_true];exact⟨cs,h1,(((h2.only dh (by simp)).only dx fun k hk=>.inl (by simp only[aO]at hk;omega)).only dP fun k hk=>.inl (by simp only[aO]at hk;omega)).wide (by omega) (by omega),hR.own dP (by simp;omega)⟩
  ·rw[if_neg (by simp[hs]),if_pos rfl,if_pos rfl]at hR;simp only[AY,hs,jI];exact⟨iC,⟨_,_,_,_,_,_,rfl⟩,j,hR.own dP (by simp;omega)⟩
theorem XW{f d:Nat}(hd:d<=20)(h:Rd F G ts w b l sn i 0 0 (d:Int))
  (hE:d≠20->∀w i,Rd F G ts w b l sn i 0 0 ((d+1:Nat):Int)->aB au 257 #[ai (some ⟨b,0,none⟩),O ae 0] w fun e w'=>∃v,e=aq v/\nQ F G ts w w' b l sn (d+1) (fK ts f 0 (d+1) i) v)
  (alv:d≠20->∀w i,Rd F G ts w b l sn i 0 0 ((d+1:Nat):Int)->aB au 274 #[ai (some ⟨b,0,none⟩)] w fun e w'=>∃v,e=aq v/\nQ F G ts w w' b l sn (d+1) (fK ts f 6 (d+1) i) v):
  aB au 274 #[ai (some ⟨b,0,none⟩)] w fun e w'=>∃v,e=aq v/\nQ F G ts w w' b l sn d (fK ts (f+1) 6 d i) v:=by
 have eR:fK ts (f+1) 6 d i=Dc ts (fK ts f 0 (d+1)) (fK ts f 6 (d+1)) d i:=by rw[fK,if_pos rfl]
 rw[eR];generalize hgE:fK ts f 0 (d+1)=E0 at*
 generalize hgO:fK ts f 6 (d+1)=MR at*
 generalize hR:Dc ts E0 MR d i=R;rw[Dc]at hR;refine aiQ ⟨b,0,none⟩ (fun v w'=>nQ F G ts w w' b l sn d R v) w ?_;intro k0 k1 w0 gU fi ke jH cK;have hb:=h.lb;refine(Fy (h.only cK)).mono ?_;rintro _ w1 ⟨rfl,cF⟩;have z1:=cF.size;have jp:=cK.cz cF;refine⟨_,_,_,_,rfl,cF.same (by simp;omega),fun k2 k3 w2 tF wM yx wN dh=>?_⟩;have z2:=dh.size;have z0:=cK.size;have pf:=jp.cz dh;have h2:=h.only pf;have IP:=h.big;have sm:∀{u u':ay},w2.heap.size<=u.heap.size->aA [b] u u'->ci [k0,k1,k2,k3] u u':=fun hu hO=>hO.same (by intro x hx;simp only[aR,bf,bU]at hx⊢;omega);have sm0:∀{u u':ay},w2.heap.size<=u.heap.size->aA [] u u'->ci [k0,k1,k2,k3] u u':=fun hu hO=>hO.same (by intro x hx;simp only[aR,bf,bU]at hx;exact⟨by omega,by simp⟩);refine⟨fun q _ _ _ _ _ _ vk vn vs vo vl va w'=>q=some ⟨b,0,none⟩/\aA [] w w'/\(tk ts i).k≠5/\∃t,vs=T t/\vl=Sl.nil/\R=.ok (.mk vk vn t vo [] va,i+1),?_,?_⟩
 ·rintro _ _ _ _ _ _ _ vk vn _ vo _ va w3 ⟨rfl,dx,gz,t,rfl,rfl,Nf⟩;have h3:=h.only dx;have hn:=h.en.next h.lt gz;refine⟨_,rfl,(i:Int),Blk.dZ h3.blk 1 rfl,_,rfl,b,1,_,_,rfl,h3.blk,by simp,by omega,by omega,by omega,by omega,fun w4 dP vG w5 eE=>?_⟩;rw[gD (by omega) (by omega)]at vG;have h4:Rd F G ts w4 b l sn (i+1) 0 0 (d:Int):=h3.nu dP vG hn;rw[Nf];refine⟨((dx.weaken (bs':=[b]) fun _ h=>(by cases h)).trans dP fun x hx=>.inl hx).new eE (by omega),_,rfl,.leaf ..,h4.own eE (by simp;omega)⟩
 refine(Bx h2).mono ?_;rintro _ w6 ⟨rfl,ez⟩;have z6:=ez.size;have h6:=h2.only ez;refine⟨_,rfl,sm0 (by omega) ez,fun hc=>(by simp at hc),fun _=>?_⟩;obtain⟨s8,w8,k8,gn,hc8⟩:=is2 h6;have z8:=gn.size;refine⟨s8,w8,k8,sm0 (by omega) gn,hc8.mono ?_⟩;rintro _ w9 ⟨rfl,gv⟩;have z9:=gv.size;have sH:=ez.cz (gn.cz gv);have h9:=h2.only sH;rw[show((0:Int)==0)=true from rfl,cY];have ZI:=pf.cz sH;refine⟨_,rfl,sm0 (by omega) gv,fun hc dI eH=>?_,fun hc=>?_⟩
 ·rw[if_pos hc]at hR;have gz:(tk ts i).k≠5:=by
   rcases cp _ _▸hc with e | e<;>exact Db e
  have hn:=h.en.next h.lt gz;have key:∀op:Int,op=(if(tk ts i).t=[33]then 15 else 14)->∀dJ,aA [] w dJ->w2.heap.size<=dJ.heap.size->_:=fun op Ec dJ dT ZJ=>FA hd (h.only dT) hn (g:=274) (z1:=[ai (some ⟨b,0,none⟩)]) (z2:=[]) (fF (by kernel_rfl)) ⟨.func (.func 274) #[ai (some ⟨b,0,none⟩)] #[],rfl⟩ rfl (r:=MR (i+1)) fun ZK w1 _ h1=>alv ZK w1 (i+1) h1;refine⟨fun k n s op sl a w'=>k=4/\n=0/\s=T []/\op=(if(tk ts i).t=[33]then 15 else 14)/\sl=Sl.nil/\a=(tk ts i).a/\aA [] w w'/\w2.heap.size<=w'.heap.size,?_,?_,?_⟩
  ·rintro _ _ _ _ _ _ dJ ⟨rfl,rfl,rfl,Ec,rfl,rfl,dT,ZJ⟩;refine(key _ Ec dJ dT ZJ).mono ?_;rintro _ fg ⟨v,rfl,hD⟩;obtain⟨vk,vn,vs,vo,vl,va,rfl⟩:=hD.Ao;have z12:=hD.1.size;obtain⟨fC,wJ,Ay,eS⟩:=Ph fg [qU vk vn vs vo vl va] (by simp) (by simp) (by simp) (parts:=#[(0,aj (qU vk vn vs vo vl va).toArray)]) rfl;refine⟨_,_,_,_,_,_,rfl,sm ZJ hD.1,⟨some ⟨fg.heap.size,0,none⟩,1,1⟩,fC,wJ,sm0 (by omega) eS,fun fT dU=>?_⟩;have SE:=eS.size;have ZL:=dU.size;have hOf:aA [b] w fT:=(((dT.weaken (bs':=[b]) fun _ h=>(by cases h)).trans hD.1 fun x hx=>.inl hx).cz eS).trans dU fun x hx=>.inr (by simp only[aR,bf,bU]at hx;omega);have hob:∀x,x∈[k1,k3]->b<x:=by simp;omega
   have hoo:∀x,x∈[k1,k3]->x<dJ.heap.size:=by simp;omega
   refine⟨hOf,?_⟩;obtain⟨_,hD⟩:=hD;rw[<-hR];cases hN:qT d (tk ts i).a (MR (i+1))with
   | error e=>
    rw[hN]at hD;obtain⟨a1,a2,j,a3⟩:=hD;exact⟨a1,⟨_,_,_,_,_,_,rfl⟩,j,(a3.only eS).own dU hob⟩
   | ok q=>
    obtain⟨x,j⟩:=q;rw[hN]at hD;obtain⟨cs,a1,a2,a3⟩:=hD;refine⟨_,rfl,?_,(a3.only eS).own dU hob⟩;have pe:(qU vk vn vs vo vl va)=cs:=bm Array.toList (Value.agg.inj a1);rw[Ec];have alx:RX fT dJ.heap.size fg.heap.size x cs:=(a2.only eS (by simp)).only dU fun k hk=>.inl (hoo k hk);have GY:aH fT fg.heap.size 64 cs:=by
     have:=dU.blk Ay fun hm=>by have:=hoo _ hm;omega
     rw[dj,List.flatten_nil,bR]at this;rw[<-pe];exact this
    exact .one w.heap.size fg.heap.size fg.heap.size _ _ _ _ _ _ x cs (alx.wide (by omega) (aY _)) (by omega) (aY _) (by have:=Ay.lt;omega) id GY
  ·rw[show(ar #[33])=T [33]from rfl,mf];intro he iJ iu;have he:=aP he;exact⟨rfl,rfl,rfl,by rw[if_pos he],rfl,rfl,(ZI.new eH (by omega)).new iu (by omega),by have:=iu.size;have:=eH.size;omega⟩
  ·rw[show(ar #[33])=T [33]from rfl,mf];intro he;have he:=aW he;exact⟨rfl,rfl,rfl,by rw[if_neg he],rfl,rfl,ZI.new eH (by omega),by have:=eH.size;omega⟩
 ·rw[if_neg (by rw[hc];decide)]at hR;obtain⟨M9,iX,Cm,ig,aly⟩:=is1 h9 [40];have z16:=ig.size;refine⟨M9,iX,Cm,sm0 (by omega) ig,aly.mono ?_⟩;rintro _ fR ⟨rfl,iY⟩;have z17:=iY.size;have LJ:=ZI.cz (ig.cz iY);have NT:=h.only LJ;have IQ:aA [b] w fR:=LJ.weaken fun _ h=>(by cases h)
  rw[show((0:Int)==0)=true from rfl,cY];refine⟨_,rfl,sm0 (by omega) iY,fun hp hB _ _ _=>?_,fun hp=>?_⟩
  ·rw[if_pos hp]at hR;have hn:=h.en.next h.lt (Db hp);subst hR;refine(FA hd NT hn (g:=291) (z1:=[]) (z2:=[ai (some ⟨k0,0,none⟩)]) (fF (by kernel_rfl)) ⟨.func (.func 291) #[] #[ai (some ⟨k0,0,none⟩)],rfl⟩ rfl (r:=AY ts (E0 (i+1))) fun ZK w1 cF h1=>adI h1 (by omega) (cF.blk hB (by simp;omega)) fun w1' ZM=>hE ZK w1' (i+1) (h1.only ZM)).mono ?_;rintro _ jA ⟨v,rfl,hD⟩;obtain⟨vk,vn,vs,vo,vl,va,rfl⟩:=hD.Ao;have z18:=hD.1.size;refine⟨_,_,_,_,_,_,rfl,hD.1.same (by simp;omega),_,hD.1.blk hB (by simp;omega),fun jO kU _=>?_⟩;exact hD.Q6 IQ kU (by simp;omega)
  rw[if_neg (by rw[hp];decide)]at hR;have hp':(tk ts i).k≠5->i+1<ts.length:=h.en.next h.lt;refine⟨fun hi jm mL _ _ _ _ _ gz=>⟨fun k=>k=k2,rfl,fun e=>gz e.symm,fun e=>gz e.symm,fun kV ku=>?_⟩,fun hi=>⟨fun hv oS Az _ _ _ _ _ gz=>⟨fun k=>k=k2,rfl,fun e=>gz e.symm,fun e=>gz e.symm,fun nH jX=>?_⟩,fun hv=>⟨fun hw=>?_,fun hw=>?_⟩⟩⟩
  ·have hi:(tk ts i).k=3:=by simpa using hi
   rw[if_pos hi]at hR;exact⟨rfl,(LJ.cz mL).new ku (by omega),by rw[hi];decide,[],rfl,rfl,hR.symm⟩
  ·have hi:¬(tk ts i).k=3:=by simpa using hi
   have hv:(tk ts i).k=1:=by simpa using hv
   rw[if_neg hi,if_pos hv]at hR;exact⟨rfl,(LJ.cz Az).new jX (by omega),by rw[hv];decide,_,rfl,rfl,hR.symm⟩
  ·have hi:¬(tk ts i).k=3:=by simpa using hi
   have hv:¬(tk ts i).k=1:=by simpa using hv
   rw[show(ar #[105,110])=T [105,110]from rfl,mf]at hw;have hw:(tk ts i).k=2/\(tk ts i).t=[105,110]:=by simpa using hw
   rw[if_neg hi,if_neg hv,if_pos hw]at hR;have hn:=hp' (by rw[hw.1];decide);refine⟨(i:Int),Blk.dZ NT.blk 1 rfl,b,1,_,_,rfl,NT.blk,by simp,by omega,by omega,by omega,by omega,fun ot A6 ae8=>?_⟩;rw[gD (by omega) (by omega)]at ae8;have h24:Rd F G ts ot b l sn (i+1) 0 0 (d:Int):=NT.nu A6 ae8 hn;have z24:=A6.size;refine(zv h24 [40]).mono ?_;rintro _ nB ⟨rfl,vH,U5⟩;have z25:=vH.size;refine⟨rfl,sm (by omega) vH,?_⟩;have WN:aA [b] w nB:=(IQ.trans A6 fun x hx=>.inl hx).trans vH fun x hx=>.inl hx;have bad:∀{j:Nat} {c a:Int},Rd F G ts nB b l sn j c a (d:Int)->c≠0->aB au 293 #[ai (some ⟨b,0,none⟩)] nB fun e w'=>e=aq (ah (T []))/\aA [b] nB w'/\Rd F G ts w' b l sn j c a (d:Int):=fun{j c a} U6 hc=>by
    refine(JN U6).mono ?_;rintro e rb ⟨jy,hh⟩;rw[if_neg (fun hh=>hc hh.1),if_neg hc,if_neg hc]at hh;exact⟨hh.1,jy,hh.2⟩
   have afa:∀{rb uy:ay} {j:Nat} {c a:Int},aA [b] nB rb->aA [k3] rb uy->Rd F G ts rb b l sn j c a (d:Int)->c≠0->R=.error (c,a)->∀s6:aM,aB au 292 #[ai (some (Addr.add ⟨b,0,none⟩ 0)),ah (ar #[41])] uy fun e8 Aw=>e8=(aq (ak #[]))/\ci [k0,k1,k2,k3] uy Aw/\∀A5:ay,aA [k1] Aw A5->nQ F G ts w A5 b l sn d R (aj #[O ae 3,O ae 0,ah s6,O ae 0,Sl.nil.v,O ae (tk ts i).a]):=fun{rb uy j c a} jy sI h26 hc Nf s6=>by
    have z26:=jy.size;have z27:=sI.size;refine(zv (h26.own sI (by simp;omega)) [41]).mono ?_;rintro _ Aw ⟨rfl,wO,IR⟩;rw[if_neg (by simp[hc]),if_neg hc,if_neg hc]at IR;refine⟨rfl,sm (by omega) wO,fun A5 sH=>?_⟩;rw[Nf];refine⟨((((WN.trans jy fun x hx=>.inl hx).new sI (by omega)).trans wO fun x hx=>.inl hx).new sH (by omega)),hc,⟨3,0,s6.data.toList,0,Sl.nil,_,by unfold qU;rw[<-xB]⟩,j,IR.own sH (by simp;omega)⟩
   by_cases h1:sg ts (i+1) [40]=true
   ·rw[if_pos (by simp[h1])]at U5;rw[TC,if_pos h1]at hR;refine(JN U5).mono ?_;rintro _ rb ⟨jy,hh⟩;have z26:=jy.size;by_cases h2:(tk ts (i+2)).k=1
    ·rw[if_pos ⟨rfl,h2⟩]at hh;obtain⟨rfl,Ry⟩:=hh;rw[if_pos h2]at hR;refine⟨_,rfl,sm (by omega) jy,fun uy sI=>?_⟩;have z27:=sI.size;have h27:=Ry.own sI (by simp;omega);refine(zv h27 [41]).mono ?_;rintro _ Aw ⟨rfl,wO,IR⟩;refine⟨rfl,sm (by omega) wO,fun A5 sH=>?_⟩;have hOf:aA [b] w A5:=(((WN.trans jy fun x hx=>.inl hx).new sI (by omega)).trans wO fun x hx=>.inl hx).new sH (by omega);refine⟨hOf,?_⟩;by_cases h3:sg ts (i+3) [41]=true
     ·rw[if_pos (by simp[h3])]at IR;rw[if_pos h3]at hR;rw[<-hR];exact⟨_,rfl,.leaf ..,IR.own sH (by simp;omega)⟩
     ·rw[if_neg (by simp[h3]),if_pos rfl,if_pos rfl]at IR;rw[if_neg h3]at hR;rw[<-hR];exact⟨iC,⟨_,_,_,_,_,_,rfl⟩,_,IR.own sH (by simp;omega)⟩
    ·rw[if_neg (fun hh=>h2 hh.2),if_pos rfl,if_pos rfl]at hh;obtain⟨rfl,Ry⟩:=hh;rw[if_neg h2]at hR;exact⟨_,rfl,sm (by omega) jy,fun uy sI=>afa jy sI Ry iC hR.symm _⟩
   ·rw[if_neg (by simp[h1]),if_pos rfl,if_pos rfl]at U5;rw[TC,if_neg h1]at hR;refine(bad U5 iC).mono ?_;rintro _ rb ⟨rfl,jy,Ry⟩;exact⟨_,rfl,sm (by omega) jy,fun uy sI=>afa jy sI Ry iC hR.symm _⟩
  ·have hi:¬(tk ts i).k=3:=by simpa using hi
   have hv:¬(tk ts i).k=1:=by simpa using hv
   rw[show(ar #[105,110])=T [105,110]from rfl,mf]at hw;rw[if_neg hi,if_neg hv,if_neg (fun hh=>by rw[hh.1,hh.2]at hw;simp at hw)]at hR;refine(De NT).mono ?_;rintro _ NQ ⟨rfl,afd,afe⟩;rw[if_pos rfl,if_pos rfl]at afe;refine⟨rfl,sm (by omega) afd,fun SB Rz=>⟨(IQ.trans afd fun x hx=>.inl hx).new Rz (by omega),?_⟩⟩;rw[<-hR];exact⟨iC,⟨0,0,[],0,Sl.nil,_,rfl⟩,i,afe.own Rz (by simp;omega)⟩
end
section
variable {F G:aL} {ts:List Tk} {w w':ay} {b:Nat} {l sn:Sl} {i:Nat} {fc fa d:Int}
theorem Ml{E:Nat->Pr}{k:Int}{g:Nat}{x:Ex}{j:Nat}(h:zq ts k j=0):mU ts E k g x j=.ok (x,j):=by
 cases g with
 | zero=>rfl
 | succ g=>rw[mU,if_pos h]
def At5(F G:aL)(ts:List Tk)(w:ay)(b:Nat)(l sn:Sl)(d:Nat)(N:aL)(E:Nat->Pr)(k:Int)(R:Pr)(nv:Nat)(op:Int)(cs:aK)(w':ay):Prop:=aA [b] w w'/\
 ((∃(c a:Int) (j:Nat),op=0/\c≠0/\R=.error (c,a)/\Rd F G ts w' b l sn j c a (d:Int))∨
  (∃(x:Ex) (j:Nat),op=zq ts k j/\RXN w' N w.heap.size w'.heap.size x cs/\Rd F G ts w' b l sn j 0 0 (d:Int)/\R=mU ts E k nv x j/\ts.length-j<=nv))
theorem Mm{f k d:Nat}(hk6:k<6)(h:Rd F G ts w b l sn i 0 0 (d:Int))
  (hE:∀w i,Rd F G ts w b l sn i 0 0 (d:Int)->aB au 257 #[ai (some ⟨b,0,none⟩),O ae ((k+1:Nat):Int)] w fun e w'=>∃v,e=aq v/\nQ F G ts w w' b l sn d (fK ts f (k+1) d i) v):
  aB au 257 #[ai (some ⟨b,0,none⟩),O ae (k:Int)] w fun e w'=>∃v,e=aq v/\nQ F G ts w w' b l sn d (fK ts (f+1) k d i) v:=by
 have eR:fK ts (f+1) k d i=Mi (fK ts f (k+1) d i) fun x j=>mU ts (fK ts f (k+1) d) (k:Int) (ts.length-j) x j:=by rw[fK,if_neg (by omega)]
 rw[eR];have LK:∀i x j,fK ts f (k+1) d i=.ok (x,j)->i<j:=fun i x j h=>lD f _ _ i h;generalize hgE:fK ts f (k+1) d=E at*
 generalize hR:(Mi (E i) fun x j=>mU ts E (k:Int) (ts.length-j) x j)=R;refine ac9 ⟨b,0,none⟩ _ (fun v w'=>nQ F G ts w w' b l sn d R v) w ?_;have ek:av ae ((k:Int)+1)=((k+1:Nat):Int):=by rw[gD (by omega) (by omega)];rfl
 refine⟨fun hc=>absurd (by simpa using hc) (by omega:¬(k:Int)=6),fun _ k1 w3 ke jH dx=>?_⟩;have hb:=h.lb;rw[ek];refine(hE w3 i (h.only dx)).mono ?_;rintro _ w4 ⟨v,rfl,hD⟩;obtain⟨vk,vn,vs,vo,vl,va,rfl⟩:=hD.Ao;have z3:=dx.size;have z4:=hD.1.size;refine⟨_,_,_,_,_,_,rfl,hD.1.same (by simp;omega),fun k2 w5 tF wM eE=>?_⟩;have z5:=eE.size;have ZN:aA [b] w w5:=((dx.weaken (bs':=[b]) fun _ h=>(by cases h)).trans hD.1 fun x hx=>.inl hx).cz eE;have sm:∀{u u':ay},w5.heap.size<=u.heap.size->aA [b] u u'->ci [k1,k2] u u':=fun hu hO=>hO.same (by intro x hx;simp only[aR,bf,bU]at hx⊢;omega);have IP:=h.big;have nA:∃(j:Nat) (c a:Int),Rd F G ts w4 b l sn j c a (d:Int)/\∀w6,aA [] w4 w6->∃nv,At5 F G ts w b l sn d (fun q=>q=k1∨q=k2) E (k:Int) R nv (if c=0 then zq ts (k:Int) j else 0) (qU vk vn vs vo vl va) w6:=by
  obtain⟨dP,U7⟩:=hD;have Eb:aA [b] w w4:=(dx.weaken (bs':=[b]) fun _ h=>(by cases h)).trans dP fun x hx=>.inl hx;cases Rf:E i with
  | error e=>
   rw[Rf]at U7 hR;obtain⟨c,a⟩:=e;obtain⟨a1,a2,j,a3⟩:=U7;exact⟨j,c,a,a3,fun w6 ez=>⟨0,Eb.cz ez,.inl ⟨c,a,j,if_neg a1,a1,hR.symm,a3.only ez⟩⟩⟩
  | ok q=>
   obtain⟨x,j⟩:=q;rw[Rf]at U7 hR;obtain⟨cs,a1,a2,a3⟩:=U7;have pe:(qU vk vn vs vo vl va)=cs:=bm Array.toList (Value.agg.inj a1);rw[pe];exact⟨j,0,0,a3,fun w6 ez=>⟨ts.length-j,Eb.cz ez,.inr ⟨x,j,if_pos rfl,((a2.only ez (by simp)).Q5 fun q h1 h2 _=>(by omega)).wide z3 ez.size,a3.only ez,hR.symm,aY _⟩⟩⟩
 obtain⟨j0,c0,a0,hR4,nA⟩:=nA;refine(zw (hR4.only eE) (k:Int)).mono ?_;rintro _ w6 ⟨rfl,ez⟩;have z6:=ez.size;obtain⟨nv0,hA0⟩:=nA w6 (eE.cz ez);refine⟨_,rfl,ez.same (by simp;omega),fun nv op i10 i11 s2 i12 l2 i13 w'=>w5.heap.size<=w'.heap.size/\At5 F G ts w b l sn d (fun q=>q=k1∨q=k2) E (k:Int) R nv op [O ae i10,O ae i11,ah s2,O ae i12,l2.v,O ae i13] w',nv0,⟨z6,hA0⟩,?_⟩;rintro nv op i10 i11 s2 i12 l2 i13 w7 ⟨z7,fI,hA⟩;refine⟨fun Ec=>?_,fun Ec fT dU=>?_⟩
 ·have Ec:op≠0:=by simpa using Ec
  rcases hA with⟨_,_,_,e,_⟩ | ⟨x,j,rfl,hX,Rk,Nf,hnv⟩
  ·exact absurd e Ec
  have hn:=Rk.en.next Rk.lt (wc _ _ Ec);obtain⟨g,rfl⟩:∃g,nv=g+1:=⟨nv-1,by omega⟩
  rw[mU,if_neg Ec]at Nf;refine⟨(j:Int),Blk.dZ Rk.blk 1 rfl,b,1,_,_,rfl,Rk.blk,by simp,by omega,by omega,fun w8 gn uz=>?_⟩;rw[gD (by omega) (by omega)]at uz;have h8:Rd F G ts w8 b l sn (j+1) 0 0 (d:Int):=Rk.nu gn uz hn;have z8:=gn.size;refine(hE w8 (j+1) h8).mono ?_;rintro _ w9 ⟨v,rfl,hD9⟩;obtain⟨yk,yn,ys,yo,yl,ya,rfl⟩:=hD9.Ao;have z9:=hD9.1.size;refine⟨_,_,_,_,_,_,rfl,sm (by omega) hD9.1,fun k8 dI hk8 ZH eH=>?_⟩;have NP:=eH.size;obtain⟨dJ,qR,GZ,dT⟩:=Ph dI [[O ae i10,O ae i11,ah s2,O ae i12,l2.v,O ae i13],qU yk yn ys yo yl ya] (by simp) (by simp) (by simp) (parts:=#[(0,aj #[O ae i10,O ae i11,ah s2,O ae i12,l2.v,O ae i13]),(1,aj (qU yk yn ys yo yl ya).toArray)]) rfl;have Co:=dT.size;refine⟨⟨some ⟨dI.heap.size,0,none⟩,2,2⟩,dJ,qR,dT.same (by simp;omega),fun fg fj=>?_⟩;have z12:=fj.size;have WO:aA [b] w fg:=((((fI.trans gn fun x hx=>.inl hx).trans hD9.1 fun x hx=>.inl hx).cz eH).cz dT).new fj (by omega);have G0:aA [k2] w9 fg:=((eH.cz dT).weaken (bs':=[k2]) fun _ h=>(by cases h)).trans fj fun x hx=>.inl hx;have ZO:∃(j':Nat) (c a:Int),Rd F G ts w9 b l sn j' c a (d:Int)/\∀fC,aA [] fg fC->∃nv,nv<g+1/\At5 F G ts w b l sn d (fun q=>q=k1∨q=k2) E (k:Int) R nv (if c=0 then zq ts (k:Int) j' else 0) (qU 5 0 [] (zq ts (k:Int) j) ⟨some ⟨dI.heap.size,0,none⟩,2,2⟩ i13) fC:=by
   obtain⟨gv,U7⟩:=hD9;cases Rf:E (j+1)with
   | error e=>
    rw[Rf]at U7 Nf;obtain⟨c,a⟩:=e;obtain⟨a1,a2,j',a3⟩:=U7;exact⟨j',c,a,a3,fun fC eS=>⟨0,by omega,WO.cz eS,.inl ⟨c,a,j',if_neg a1,a1,Nf,(a3.own G0 (by simp;omega)).only eS⟩⟩⟩
   | ok q=>
    obtain⟨y,j'⟩:=q;rw[Rf]at U7 Nf;obtain⟨cs,a1,a2,a3⟩:=U7;have pe:(qU yk yn ys yo yl ya)=cs:=bm Array.toList (Value.agg.inj a1);have hjj:=LK _ _ _ Rf;obtain⟨xl,IG,_⟩:=hX.cells;have hxa:i13=x.a:=by
     simp only[qU,rr,Value.int.injEq]at IG;exact IG.2.2.2.2.2.1.2
    refine⟨j',0,0,a3,fun fC eS=>⟨g,by omega,WO.cz eS,.inr ⟨.mk 5 0 [] (zq ts (k:Int) j) [x,y] x.a,j',if_pos rfl,?_,(a3.own G0 (by simp;omega)).only eS,Nf,?_⟩⟩⟩
    ·have SE:=eS.size;have afg:aA [b,k2] w7 fC:=(((((gn.weaken (bs':=[b,k2]) fun x hx=>.inl (by simp only[aO]at hx;simp[hx])).trans gv fun x hx=>.inl (by simp only[aO]at hx;simp[hx])).trans G0 fun x hx=>.inl (by simp only[aO]at hx;simp[hx])).cz eS))
     have afh:aA [k2] w9 fC:=G0.cz eS;have Ay:aH fC dI.heap.size 64 ([O ae i10,O ae i11,ah s2,O ae i12,l2.v,O ae i13]++cs):=by
      have:=eS.blk (fj.blk GZ (by simp;omega)) (by simp);rw[<-pe];simpa using this
     have alA:RXN fC (fun q=>q=k1∨q=k2) w.heap.size w7.heap.size x [O ae i10,O ae i11,ah s2,O ae i12,l2.v,O ae i13]:=by
      exact hX.only afg fun q hq=>by
       simp only[aR,bf,bU]at hq;rcases hq with rfl | rfl
       ·exact .inl hb
       ·exact .inr (.inr (.inr rfl))
     have alB:RXN fC (fun q=>q=k1∨q=k2) w8.heap.size w9.heap.size y cs:=(a2.only afh fun q hq=>.inl (by simp only[aO]at hq;omega)).Q5 fun q h1 h2 _=>(by omega)
     rw[hxa];exact .two w.heap.size w7.heap.size w8.heap.size w9.heap.size dI.heap.size _ _ _ _ _ _ x y _ cs alA z8 alB (by omega) (by omega) (by omega) (by omega) (by have:=Ay.lt;omega) (by omega) Ay
    ·omega
  obtain⟨j',c',a',hR9,ZO⟩:=ZO;refine(zw (hR9.own G0 (by simp;omega)) (k:Int)).mono ?_;rintro _ fC ⟨rfl,eS⟩;obtain⟨nv',alC,hA'⟩:=ZO fC eS;exact⟨_,rfl,eS.same (by simp;omega),nv',alC,by have:=eS.size;omega,hA'⟩
 ·have Ec:op=0:=by simpa using Ec
  refine⟨fI.new dU (by omega),?_⟩;rcases hA with⟨c,a,j,_,hc,Nf,Rk⟩ | ⟨x,j,Wz,hX,Rk,Nf,hnv⟩
  ·rw[Nf];exact⟨hc,⟨i10,i11,s2.data.toList,i12,l2,i13,by unfold qU;rw[<-xB]⟩,j,Rk.own dU (by simp;omega)⟩
  ·rw[Nf,Ml (by rw[<-Wz,Ec])];exact⟨_,rfl,((hX.only dU fun q hq=>.inr (.inr (.inl (by simpa using hq)))).Q5 fun _ _ _ _ h=>h).wide (aY _) dU.size,Rk.own dU (by simp;omega)⟩
theorem FB : ∀ f : Nat, (∀ (k d i : Nat) (w : ay), k <= 6 -> d <= 20 -> kH k d <= f -> Rd F G ts w b l sn i 0 0 (d : Int) ->
      aB au 257 #[ai (some ⟨b, 0, none⟩), O ae (k : Int)] w fun e w' => ∃ v, e = aq v /\ nQ F G ts w w' b l sn d (fK ts f k d i) v) /\
    (∀ (d i : Nat) (w : ay), d <= 20 -> kH 6 d <= f -> Rd F G ts w b l sn i 0 0 (d : Int) ->
      aB au 274 #[ai (some ⟨b, 0, none⟩)] w fun e w' => ∃ v, e = aq v /\ nQ F G ts w w' b l sn d (fK ts f 6 d i) v)
  | 0 => ⟨fun k d i w hk hd hn => by unfold kH at hn; omega, fun d i w hd hn => by unfold kH at hn; omega⟩
  | f + 1 => by
    obtain ⟨NR, SD⟩ := FB f
    have one : ∀ (d i : Nat) (w : ay), d <= 20 -> kH 6 d <= f + 1 -> Rd F G ts w b l sn i 0 0 (d : Int) ->
      aB au 274 #[ai (some ⟨b, 0, none⟩)] w fun e w' => ∃ v, e = aq v /\ nQ F G ts w w' b l sn d (fK ts (f + 1) 6 d i) v := fun d i w hd hn h => by
      unfold kH at hn
      exact XW hd h (fun ZP w i h => NR 0 (d + 1) i w (by omega) (by omega) (by unfold kH; omega) h) (fun ZP w i h => SD (d + 1) i w (by omega) (by unfold kH; omega) h)
    refine ⟨fun k d i w hk hd hn h => ?_, one⟩
    by_cases h6 : k = 6
    · subst h6
      refine ac9 ⟨b, 0, none⟩ _ (fun v w' => nQ F G ts w w' b l sn d (fK ts (f + 1) 6 d i) v) w ?_
      refine ⟨fun _ k0 w0 gU fi cK => ?_, fun hc => absurd hc (by decide)⟩
      refine (one d i w0 hd hn (h.only cK)).mono ?_
      rintro _ w1 ⟨v, rfl, hD⟩
      obtain ⟨vk, vn, vs, vo, vl, va, rfl⟩ := hD.Ao
      have hb := h.lb
      exact ⟨_, _, _, _, _, _, rfl, hD.1.same (by simp; omega), fun w2 dh => hD.Q6 (cK.weaken fun _ h => (by cases h)) dh (by simp; omega)⟩
    · unfold kH at hn
      exact Mm (by omega) h fun w i h => NR (k + 1) d i w (by omega) hd (by unfold kH; omega) h
end
theorem Mn(w:ay):∃(s:Sl) (w':ay),(aw 31 16 #[.mk 1 (ah (ar #[43])),.mk 2 (ah (ar #[45])),.mk 3 (ah (ar #[42])),.mk 4 (ah (ar #[47])),.mk 5 (ah (ar #[37])),.mk 6 (ah (ar #[60])),.mk 7 (ah (ar #[60,61])),.mk 8 (ah (ar #[62])),.mk 9 (ah (ar #[62,61])),.mk 10 (ah (ar #[61,61])),.mk 11 (ah (ar #[33,61])),.mk 12 (ah (ar #[38,38])),.mk 13 (ah (ar #[124,124])),.mk 14 (ah (ar #[45])),.mk 15 (ah (ar #[33]))]).run au w=.ok (Sl.v s) w'/\
  aD kz 1 w' (fun k=>w.heap.size<=k/\k<w'.heap.size) s AX/\aA [] w w':=by
 have uo:=run_buildSlice (P:=au) w 31 9 16 #[.mk 1 (ah (ar #[43])),.mk 2 (ah (ar #[45])),.mk 3 (ah (ar #[42])),.mk 4 (ah (ar #[47])),.mk 5 (ah (ar #[37])),.mk 6 (ah (ar #[60])),.mk 7 (ah (ar #[60,61])),.mk 8 (ah (ar #[62])),.mk 9 (ah (ar #[62,61])),.mk 10 (ah (ar #[61,61])),.mk 11 (ah (ar #[33,61])),.mk 12 (ah (ar #[38,38])),.mk 13 (ah (ar #[124,124])),.mk 14 (ah (ar #[45])),.mk 15 (ah (ar #[33]))]
  (AX.map fun x=>Value.string (T x)).toArray Tryz.t9 _ (by kernel_rfl) (by kernel_rfl) rfl (by decide) (by decide) (by kernel_rfl)
 refine⟨⟨some ⟨w.heap.size,0,none⟩,16,16⟩,_,uo,⟨rfl,aY _,fun h=>(by cases h),(by decide:(16:Nat)<=9223372036854775807),fun j x hx=>?_⟩,Only.alloc _ _⟩;have hB:=Blk.alloc w 9 (AX.map fun x=>Value.string (T x));have bX:=hB.lt;refine⟨⟨w.heap.size,0,none⟩,[ah (T x)],rfl,⟨aY _,bX⟩,rfl,?_,rfl⟩;rw[jP];exact Blk.dZ hB j (by rw[bZ,hx];rfl)
theorem VU(w:ay):aB au 256 #[] w fun e w'=>∃s:Sl,e=aq s.v/\aD kz 1 w' (fun k=>w.heap.size<=k/\k<w'.heap.size) s AX/\aA [] w w':=by
 refine(aiP (fun v w'=>∃s:Sl,v=s.v/\aD kz 1 w' (fun k=>w.heap.size<=k/\k<w'.heap.size) s AX/\aA [] w w') w ?_).mono (by
  rintro e w' ⟨v,rfl,s,rfl,h⟩;exact⟨s,rfl,h⟩)
 obtain⟨s,w',h1,h2,h3⟩:=Mn w;exact⟨s,w',h1,s,rfl,h2,h3⟩
def mq(ts:List Tk):Nat:=(ts.takeWhile fun t=>t.k !=5).length
theorem JO(ts:List Tk):mq ts<=ts.length:=by
 unfold mq;exact(List.takeWhile_sublist _).length_le
theorem Bz{t:Tk}{ts:List Tk}{i:Nat}:tk (t::ts) (i+1)=tk ts i:=by unfold tk;rw[de]
theorem BA{t:Tk}{ts:List Tk}:tk (t::ts) 0=t:=rfl
theorem Df:∀(ts:List Tk) (i:Nat),i<mq ts->(tk ts i).k≠5
 | [],_,h=>by simp[mq]at h
 | t::ts,i,h=>by
  unfold mq at h;rw[eF]at h;split at h
  ·rename_i ht;cases i with
   | zero=>rw[BA];simpa using ht
   | succ i=>rw[Bz];exact Df ts i (by simpa[mq]using h)
  ·simp at h
theorem Dg:∀(ts:List Tk),mq ts<ts.length->(tk ts (mq ts)).k=5
 | [],h=>by simp at h
 | t::ts,h=>by
  unfold mq at h⊢;rw[eF]at h⊢;split
  ·rename_i ht;rw[if_pos ht]at h;rw[bp,Bz];exact Dg ts (by simpa[mq]using h)
  ·rename_i ht;rw[cO,BA];simpa using ht
theorem Pj{ts:List Tk}(h:mq ts+1=ts.length):wa ts:=fun i hi=>by
 constructor
 ·intro hk;refine cq fun hn=>Df ts i (by omega) hk
 ·intro hn;have:i=mq ts:=by omega
  rw[this];exact Dg ts (by omega)
theorem TD(w:ay)(t:Tk):aB au 255 #[t.v] w fun e w'=>e=aq (ao (t.k==5))/\aA [] w w':=by
 refine ret (v3w t.k (T t.t) t.n t.a (fun v w'=>v=ao (t.k==5)/\aA [] w w') w ?_);exact fun k0 w0 _ _ hO=>⟨rfl,hO⟩
theorem Pk{w:ay}{F:aL}{l:Sl}{ts:List Tk}(h:aD JF 4 w F l ts):aB au 254 #[l.v,.func (.func 255) #[] #[]] w fun e w'=>e=aq (O ae (if mq ts<ts.length then(mq ts:Int)else -1))/\aA [] w w':=by
 refine ret (ac8 l ⟨.func (.func 255) #[] #[],rfl⟩ (fun v w'=>v=O ae (if mq ts<ts.length then(mq ts:Int)else -1)/\aA [] w w') w ?_);have fu:=h.len;have rl:=h.big;have mJ:=h.cap;refine⟨fun nv i w'=>∃n:Nat,n<=mq ts/\i=(n:Int)/\nv=ts.length-n/\aA [] w w',ts.length,⟨0,bA _,rfl,rfl,Only.refl _ _⟩,?_⟩;rintro nv _ w0 ⟨n,hn,rfl,rfl,cK⟩;have ma:=JO ts;refine⟨fun hc=>?_,fun hc=>?_⟩
 ·have bX:(n:Int)<l.n:=aP hc;obtain⟨ad,x,cs,g1,g2,g3,g4,g5,g6⟩:=(SliceF.only ju (by decide) h cK (by simp)).get (bE n) bX;rw[aX,JK (by omega)]at g2;injection g2 with g2;subst g2;unfold JF at g6;subst g6;refine⟨ad,g1,_,_,_,_,g5,255,[],[],rfl,fF (by kernel_rfl),?_⟩;refine(TD w0 (tk ts n)).mono ?_;rintro _ w1 ⟨rfl,cF⟩;refine⟨_,rfl,fun hb=>⟨?_,cK.cz cF⟩,fun hb=>⟨ts.length-(n+1),by omega,n+1,?_,by rw[gD (by omega) (by omega)];rfl,rfl,cK.cz cF⟩⟩
  ·have hb:(tk ts n).k=5:=by simpa using hb
   have:n=mq ts:=by
    refine cq fun gz=>Df ts n (by omega) hb
   rw[if_pos (by omega),this]
  ·have hb:¬(tk ts n).k=5:=by simpa using hb
   refine cq fun gz=>hb ?_;have:n=mq ts:=by omega
   rw[this];exact Dg ts (by omega)
 ·have mz:¬(n:Int)<l.n:=aW hc;rw[if_neg (by omega)];exact⟨rfl,cK⟩
def FC:Ex:=.mk 0 0 [] 0 [] 0
def dC(ts:List Tk)(a:Int):Ex×Int×Int×Int:=
 if 0<=a/\a<ts.length/\mq ts+1=ts.length then(match HS ts a.toNat with
  | .error (c,p)=>(FC,0,c,p)
  | .ok (x,j)=>(x,(j:Int),0,0))
 else(FC,0,1, -1)
theorem rx0(w:ay)(lo hi:Nat):RX w lo hi FC [O ae 0,O ae 0,ah (ar #[]),O ae 0,Sl.nil.v,O ae 0]:=.leaf ..
theorem JP{w:ay}{F:aL}{l:Sl}{ts:List Tk}(h:aD JF 4 w F l ts)(a:Int)(ha:ry a):aB au 240 #[l.v,O ae a] w fun e w'=>
  ∃cs,e=aq (ak #[aj cs.toArray,O ae (dC ts a).2.1,aj #[O ae (dC ts a).2.2.1,O ae (dC ts a).2.2.2]])/\RX w' w.heap.size w'.heap.size (dC ts a).1 cs/\((dC ts a).2.2.1=0->0<=(dC ts a).2.1/\(dC ts a).2.1<ts.length)/\aA [] w w':=by
 refine(v4w l a (fun v w'=>∃cs,v=(ak #[aj cs.toArray,O ae (dC ts a).2.1,aj #[O ae (dC ts a).2.2.1,O ae (dC ts a).2.2.2]])/\RX w' w.heap.size w'.heap.size (dC ts a).1 cs/\((dC ts a).2.2.1=0->0<=(dC ts a).2.1/\(dC ts a).2.1<ts.length)/\aA [] w w') w ?_).mono (by
  rintro e w' ⟨v,rfl,cs,rfl,h⟩;exact⟨cs,rfl,h⟩)
 intro k0 k1 w0 gU fi ke jH cK;have fu:=h.len;have mJ:=h.cap;have rl:=h.big;have z0:=cK.size;have h:=(h.inHeap ju (by decide))
 refine(Pk (SliceF.only ju (by decide) h cK (by simp))).mono ?_;rintro _ w1 ⟨rfl,cF⟩;have z1:=cF.size;have jp:=cK.cz cF;have ma:=JO ts;have hcond:(((decide (a<0))||(decide (a>=(l.n:Int))))||((if mq ts<ts.length then(mq ts:Int)else -1) !=(av ae ((l.n:Int)-1))))=!decide (0<=a/\a<ts.length/\mq ts+1=ts.length):=by
  rw[gD (by omega) (by omega),fu];by_cases h1:mq ts<ts.length
  ·rw[if_pos h1,bT];simp;omega
  ·rw[if_neg h1,bT];simp;omega
 refine⟨_,rfl,cF.same (by simp;omega),?_⟩;dsimp only;rw[hcond];refine⟨fun hc w2 dh=>?_,fun hc=>?_⟩
 ·have hc:¬(0<=a/\a<ts.length/\mq ts+1=ts.length):=by
   rw[dy,dF]at hc;exact hc
  rw[dC,if_neg hc];exact⟨_,rfl,rx0 _ _ _,fun h=>(by cases h),(jp.weaken (bs':=[]) fun _ h=>(by cases h)).trans dh fun x hx=>.inr (by simp only[aR,bf,bU]at hx;omega)⟩
 ·have hc:0<=a/\a<ts.length/\mq ts+1=ts.length:=by
   rw[G6,bL]at hc;exact hc
  rw[dC,if_pos hc];obtain⟨i,rfl⟩:∃i:Nat,a=(i:Int):=⟨a.toNat,by omega⟩
  refine(VU w1).mono ?_;rintro _ w3 ⟨sn,rfl,Ss,dx⟩;have z3:=dx.size;refine⟨sn,rfl,dx.same (by simp;omega),fun b w4 hb kc dP vG=>?_⟩;have z4:=dP.size;have Ax:=jp.cz dx;have hR:Rd (fun k=>F k/\k<w.heap.size) (fun k=>w1.heap.size<=k/\k<w3.heap.size) ts w4 b l sn i 0 0 ((0:Nat):Int):=
   ⟨vG,SliceF.only ju (by decide) h (Ax.cz dP) (by simp),SliceF.only dD (by decide) Ss dP (by simp),fun k hk=>by have:=hk.2;omega,fun k hk=>by have:=hk.2;omega,Pj hc.2.2,by omega⟩
  refine((FB (kH 0 0)).1 0 0 i w4 (by decide) (by decide) (aY _) hR).mono ?_;rintro _ w5 ⟨v,rfl,hD⟩;obtain⟨vk,vn,vs,vo,vl,va,rfl⟩:=hD.Ao;have z5:=hD.1.size;obtain⟨eE,hD⟩:=hD;rw[aX];have hpr:HS ts i=fK ts (kH 0 0) 0 0 i:=rfl;rw[hpr];have fin:∀{j:Nat} {c p:Int},Rd (fun k=>F k/\k<w.heap.size) (fun k=>w1.heap.size<=k/\k<w3.heap.size) ts w5 b l sn j c p ((0:Nat):Int)->∀w8,aA [] w5 w8->∀w9,aA [k1,k0] w8 w9->aA [] w w9:=fun hR w8 gn w9 gv=>(((Ax.cz dP).trans eE fun x hx=>.inr (by simp only[aO]at hx;omega)).cz gn).trans gv fun x hx=>.inr (by simp only[aR,bf,bU]at hx;omega);refine⟨_,_,_,_,_,_,rfl,eE.same (by simp;omega),?_⟩;cases hE:fK ts (kH 0 0) 0 0 i with
  | error e=>
   rw[hE]at hD;obtain⟨c,p⟩:=e;obtain⟨a1,a2,j,a3⟩:=hD;refine⟨_,_,_,_,_,_,a3.blk,fun k3 w6 yx wN ez SF=>?_⟩;have z6:=ez.size;refine(Bx (a3.only ez)).mono ?_;rintro _ w7 ⟨rfl,fI⟩;have h7:=(a3.only ez).only fI;have gz:(c !=0)=true:=by simpa using a1
   refine⟨_,rfl,fI.same (by simp;omega),_,_,_,_,_,_,h7.blk,fun _ w8 gn uz n1 n2 n3 n4 n5 n6=>⟨fun k=>k=b,rfl,fun e=>n2 e,fun e=>n4 e,fun w9 gv _=>⟨_,rfl,rx0 _ _ _,fun h=>absurd h a1,fin a3 w8 (ez.cz (fI.cz gn)) w9 gv⟩⟩,fun hc=>by rw[gz]at hc;cases hc⟩
  | ok q=>
   rw[hE]at hD;obtain⟨x,j⟩:=q;obtain⟨cs,a1,a2,a3⟩:=hD;refine⟨_,_,_,_,_,_,a3.blk,fun k3 w6 yx wN ez SF=>?_⟩;have z6:=ez.size;refine(Bx (a3.only ez)).mono ?_;rintro _ w7 ⟨rfl,fI⟩;have z7:=fI.size;have h7:=(a3.only ez).only fI;refine⟨_,rfl,fI.same (by simp;omega),_,_,_,_,_,_,h7.blk,fun hc=>(by simp at hc),fun _ dI eH tE n1 n2 n3 n4 n5 n6=>⟨fun k=>k=b,rfl,fun e=>n2 e,fun e=>n4 e,fun dJ dT _=>?_⟩⟩;have NP:=eH.size;have Co:=dT.size;have pe:(qU vk vn vs vo vl va)=cs:=bm Array.toList (Value.agg.inj a1);refine⟨qU vk vn vs vo vl va,rfl,?_,fun _=>⟨bE j,by have:=a3.lt;dsimp only;omega⟩,fin a3 dI (ez.cz (fI.cz eH)) dJ dT⟩;rw[pe];exact((a2.only (ez.cz (fI.cz eH)) (by simp)).only dT fun q hq=>.inl (by simp only[aR,bf,bU]at hq;omega)).wide (by omega) (by omega)
def oI(l:aJ):Ex×Int×Int:=
 if(dq l).2.1≠0 then(FC,(dq l).2.1,(dq l).2.2)
 else if(dC (dq l).1 0).2.2.1≠0 then(FC,(dC (dq l).1 0).2.2.1,(dC (dq l).1 0).2.2.2)
 else if(tk (dq l).1 (dC (dq l).1 0).2.1.toNat).k≠5 then(FC,4,(tk (dq l).1 (dC (dq l).1 0).2.1.toNat).a)
 else((dC (dq l).1 0).1,0,(dC (dq l).1 0).2.2.2)
theorem XX{w:ay}(l:aJ)(hE:Er w):aB au 266 #[ah (T l)] w fun e w'=>
  ∃cs,e=aq (ak #[aj cs.toArray,aj #[O ae (oI l).2.1,O ae (oI l).2.2]])/\RX w' w.heap.size w'.heap.size (oI l).1 cs/\aA [] w w':=by
 refine(v5w (T l) (fun v w'=>∃cs,v=(ak #[aj cs.toArray,aj #[O ae (oI l).2.1,O ae (oI l).2.2]])/\RX w' w.heap.size w'.heap.size (oI l).1 cs/\aA [] w w') w ?_).mono (by
  rintro e w' ⟨v,rfl,cs,rfl,h⟩;exact⟨cs,rfl,h⟩)
 intro k0 k1 w0 gU fi ke jH cK;have z0:=cK.size;refine(Fx l (hE.only cK)).mono ?_;rintro _ w1 ⟨l0,rfl,hT,cF⟩;have z1:=cF.size;have jp:=cK.cz cF;generalize og:dq l=tm at*
 obtain⟨ts,c,p⟩:=tm;dsimp only at hT⊢;have hra:oI l=if c≠0 then(FC,c,p)else if(dC ts 0).2.2.1≠0 then(FC,(dC ts 0).2.2.1,(dC ts 0).2.2.2)else if(tk ts (dC ts 0).2.1.toNat).k≠5 then(FC,4,(tk ts (dC ts 0).2.1.toNat).a)else((dC ts 0).1,0,(dC ts 0).2.2.2):=by
  unfold oI;rw[og]
 refine⟨l0,_,_,rfl,cF.same (by simp;omega),fun hc k2 w2 tF wM dh n1 n2 n3=>⟨fun k=>k=k2,rfl,fun e=>n2 e,fun e=>n3 e,fun w3 dx=>?_⟩,fun hc k3 w4 yx wN dP=>?_⟩
 ·have hc:c≠0:=by simpa using hc
  rw[hra,if_pos hc];exact⟨_,rfl,rx0 _ _ _,((jp.cz dh).trans dx fun x hx=>.inr (by simp only[aR,bf,bU]at hx;omega))⟩
 ·have hc:c=0:=by simpa using hc
  rw[if_neg (by simp[hc])]at hra;have z4:=dP.size;refine(JP (hT.only dP).sl 0 ⟨by decide,by decide⟩).mono ?_;rintro _ w5 ⟨cs,rfl,hX,hj,eE⟩;have z5:=eE.size;generalize U3:dC ts 0=pa at*
  obtain⟨x,j,c',p'⟩:=pa;dsimp only at hX hj hra⊢;obtain⟨xl,rfl,_⟩:=hX.cells;refine⟨_,_,_,_,_,_,_,_,_,rfl,eE.same (by simp;omega),fun k4 w6 yy A7 ez=>?_⟩;have z6:=ez.size;have h6:=((hT.only (dP.cz eE)).keep (w':=w6) fun k hk bX=>ez.block k bX (by
   have:=hT.blk hk.2;simp only[aO];dsimp only at this;omega))
  have hl6:=h6.len;have alD:aA [] w w6:=((jp.cz dP).cz eE).new ez (by omega);have fin:∀{w8 w9:ay},aA [k3] w6 w8->aA [k1,k0] w8 w9->aA [] w w9:=fun h8 h9=>(alD.new h8 (by omega)).trans h9 fun x hx=>.inr (by simp only[aR,bf,bU]at hx;omega);refine⟨fun i9 i10 w7=>aA [k3] w6 w7/\((c'≠0/\i9=c'/\i10=p')∨(c'=0/\(tk ts j.toNat).k≠5/\i9=4/\i10=(tk ts j.toNat).a)∨(c'=0/\(tk ts j.toNat).k=5/\i9=0/\i10=p')),?_,?_⟩
  ·rintro i9 i10 w7 ⟨fI,WQ⟩;have z7:=fI.size;refine⟨fun hi w8 gn n1 n2 n3 n4 n5 n6=>⟨fun k=>k=k3,rfl,?_,?_,fun w9 gv=>?_⟩,fun hi dI eH n1 n2 n3 n4 n5 n6=>⟨fun k=>k=k3,rfl,?_,?_,fun dJ dT=>?_⟩⟩
   ·intro e;omega
   ·intro e;omega
   ·have hi:i9≠0:=by simpa using hi
    have hr:oI l=(FC,i9,i10):=by
     rw[hra];rcases WQ with⟨a1,rfl,rfl⟩ | ⟨a1,a2,rfl,rfl⟩ | ⟨a1,a2,rfl,rfl⟩
     ·rw[if_pos a1]
     ·rw[if_neg (by simp[a1]),if_pos a2]
     ·exact absurd rfl hi
    rw[hr];exact⟨_,rfl,rx0 _ _ _,fin (fI.cz gn) gv⟩
   ·intro e;omega
   ·intro e;omega
   ·have hi:i9=0:=by simpa using hi
    have hr:oI l=(x,i9,i10):=by
     rw[hra];rcases WQ with⟨a1,rfl,rfl⟩ | ⟨a1,a2,rfl,rfl⟩ | ⟨a1,a2,rfl,rfl⟩
     ·exact absurd hi a1
     ·exact absurd hi (by decide)
     ·rw[if_neg (by simp[a1]),if_neg (by simp[a2])]
    rw[hr];have xS:aA [k3,k1,k0] w5 dJ:=(((ez.trans fI fun x hx=>.inl hx).cz eH).weaken (bs':=[k3,k1,k0]) fun x hx=>.inl (by simp only[aO]at hx;simp[hx])).trans dT fun x hx=>.inl (by simp only[aR,bf,bU]at hx⊢;omega);have Co:=xS.size;exact⟨_,rfl,(hX.only xS fun q hq=>.inl (by simp only[aR,bf,bU]at hq;omega)).wide (by omega) Co,fin (fI.cz eH) dT⟩
  ·by_cases qg:c'=0
   ·obtain⟨hj0,NG⟩:=hj qg;obtain⟨n,rfl⟩:∃n:Nat,j=(n:Int):=⟨j.toNat,by omega⟩
    obtain⟨ad,t,cs,g1,g2,g3,g4,g5,g6⟩:=h6.sl.get hj0 (by omega);rw[aX,JK (by omega)]at g2;injection g2 with g2;subst g2;unfold JF at g6;subst g6;rw[aX];refine⟨ad,fun _=>g1,(tk ts n).k,fun _=>g5.dZ 0 _ rfl,fun hh=>⟨ad,g1,(tk ts n).a,g5.dZ 3 _ rfl,fun fg fj=>⟨fj,.inr (.inl ⟨qg,?_,rfl,rfl⟩)⟩⟩,fun hh=>⟨Only.refl _ _,.inr (.inr ⟨qg,?_,qg,rfl⟩)⟩⟩
    ·simpa[qg]using hh
    ·simpa[qg]using hh
   ·have hb:(c'==0)=false:=by simpa using qg
    refine⟨⟨0,0,none⟩,fun hh=>(by rw[hb]at hh;cases hh),0,fun hh=>(by rw[hb]at hh;cases hh),fun hh=>(by rw[hb]at hh;cases hh),fun _=>⟨Only.refl _ _,.inl ⟨qg,rfl,rfl⟩⟩⟩
def BB:Nat->Rp Ex
 | 0=>fun _ _ _ _=>False
 | d+1=>fun w F x cs=>∃sl:Sl,cs=qU x.k x.n x.s x.op sl x.a/\aD (BB d) 6 w F sl x.fW
theorem oU:∀d,(BB d).Ok
 | 0=>⟨fun h _=>h.elim,fun h=>h.elim,fun h _=>h.elim,fun h=>h.elim⟩
 | d+1=>⟨fun⟨sl,h1,h2⟩ hk=>⟨sl,h1,SliceF.keep (oU d) h2 (by decide) hk⟩,fun⟨sl,h1,h2⟩=>⟨sl,h1,SliceF.inHeap (oU d) h2 (by decide)⟩,fun⟨sl,h1,h2⟩ hk=>⟨sl,h1,SliceF.mono (oU d) h2 hk⟩,fun⟨sl,h1,h2⟩=>by
  subst h1;intro v hv;simp only[aR,bf,bU]at hv;rcases hv with rfl | rfl | rfl | rfl | rfl | rfl<;>rfl⟩
theorem JQ{α:Type}{r q:Rp α}{size:Nat}{w:ay}{F:aL}{s:Sl}{xs:List α}(h:aD r size w F s xs)(hi:∀x cs,x∈xs->r w F x cs->q w F x cs):aD q size w F s xs:=
 ⟨h.len,h.cap,h.nil0,h.big,fun j x hx=>by
  obtain⟨base,cs,h1,h2,h3,h4,h5⟩:=h.at_ j x hx;exact⟨base,cs,h1,h2,h3,h4,hi x cs (bD hx) h5⟩⟩
section
variable {w w':ay} {F:aL} {x y:Ex} {cs ds:aK}
theorem kJ{d:Nat}(h:BB d w F x cs)(hO:aA [] w w'):BB d w' F x cs:=(oU d).only h hO (by simp)
end
theorem mf(l m:aJ):((T l).toList==(T m).toList)=decide (l=m):=Vw l m
theorem sV{d:Nat}{w:ay}{F:aL}{x:Ex}{cs:aK}(h:BB d w F x cs):∃sl:Sl,cs=qU x.k x.n x.s x.op sl x.a:=by
 cases d with
 | zero=>exact h.elim
 | succ d=>obtain⟨l,pe,_⟩:=h;exact⟨l,pe⟩
def zx:Nat->Ex->Prop
 | 0,_=>True
 | d+1,x=>x.s.length<4611686018427387903/\∀y,y∈x.fW->zx d y
def tu(f:Ex->Nat):List Ex->Nat
 | []=>0
 | x::xs=>f x+tu f xs
def oV:Nat->Ex->Nat
 | 0,_=>0
 | d+1,x=>1+tu (oV d) x.fW
def qV:Nat->Ex->Prop
 | 0,_=>True
 | d+1,x=>ry x.n/\∀y,y∈x.fW->qV d y
def eK(l:aJ):Bool:=decide (l≠[]/\l.length<=24)&&(match l with
 | c::_=>qF c
 | []=>false)&&decide (l.takeWhile iB=l)&&!rN.contains l
theorem Pm{w:ay}(l:aJ)(hl:l.length<9223372036854775807):
  aB au 205 #[ah (T l)] w fun e w'=>e=aq (ao (eK l))/\aA [] w w':=by
 refine ret (adk _ _ _ ?_);intro k0 w0 gU fi cK;have e0:(ar #[])=T []:=rfl;rw[dH,e0,mf];refine⟨fun b s i w'=>b=eK l/\aA [] w w',fun b s i w' h=>⟨by rw[h.1],h.2⟩,fun hc=>?_,fun hc=>⟨?_,cK⟩⟩
 ·simp only[aQ,dy,dF,bL]at hc;obtain⟨h1,h2⟩:=hc;have h2:l.length<=24:=by omega
  obtain⟨c,r,rfl⟩:∃c r,l=c::r:=by
   cases l with
   | nil=>exact absurd rfl h1
   | cons c r=>exact⟨c,r,rfl⟩
  have hn:eK (c::r)=(qF c&&decide ((c::r).takeWhile iB=c::r)&&!rN.contains (c::r)):=by
   unfold eK;rw[bK ⟨h1,h2⟩,cY]
  refine⟨c,⟨nJ _,by rw[wV];rfl⟩,(zh w0 c).mono ?_⟩;rintro _ w2 ⟨rfl,dh⟩;have pf:=cK.cz dh;refine⟨_,rfl,dh.same (by simp;omega),fun hb hB=>?_,fun hb=>⟨by rw[hn,hb];rfl,pf⟩⟩;refine(O8 (i:=0) (r:=[]) hB (bA _) hl).mono ?_;rintro _ w3 ⟨rfl,dx⟩;rw[fY];have xy:aH w3 k0 223 [ah (T (c::r)),O ae 0]:=(dx.block k0 hB.lt (by simp)).trans hB;refine⟨_,rfl,T (c::r),0,xy,?_⟩;rw[mf];refine⟨fun he=>(JG w3).mono ?_,fun he=>⟨?_,pf.cz dx⟩⟩
  ·rintro _ w4 ⟨s,rfl,hs,dP⟩;have vG:aH w4 k0 223 [ah (T (c::r)),O ae 0]:=(dP.block k0 xy.lt (by simp)).trans xy;refine⟨s,rfl,T (c::r),0,vG,(rM (uT hs) (c::r)).mono ?_⟩;rintro _ w5 ⟨rfl,eE⟩;have wL:aH w5 k0 223 [ah (T (c::r)),O ae 0]:=(eE.block k0 vG.lt (by simp)).trans vG;exact⟨_,rfl,_,_,wL,by rw[hn,hb,he];rfl,pf.cz (dx.cz (dP.cz eE))⟩
  ·rw[hn,hb,he];rfl
 ·unfold eK;rw[bG]
  ·rfl
  ·rintro⟨h1,h2⟩;rw[bG h1,bK (by omega)]at hc;cases hc
def gW(x:Ex):Int:=if x.k=5 then kG x.op else 6
theorem oJ{w:ay}{F:aL}{x:Ex}{cs:aK}{d:Nat}(h:BB d w F x cs):aB au 284 #[aj cs.toArray] w fun e w'=>e=aq (O ae (gW x))/\aA [] w w':=by
 cases d with
 | zero=>exact h.elim
 | succ d=>
  obtain⟨sl,rfl,h⟩:=h;refine ret (aja _ _ _ _ _ _ _ _ ?_);refine⟨fun hc k0 w0 _ _ hO=>?_,fun hc k1 w1 hk iv hO=>(HT w1 x.op).mono ?_⟩
  ·have hc:x.k≠5:=by simpa using hc
   rw[gW,if_neg hc];exact⟨rfl,hO⟩
  ·rintro _ w2 ⟨rfl,rfl⟩;have hc:x.k=5:=by simpa using hc
   rw[gW,if_pos hc];exact⟨_,rfl,fun _ _=>rfl,rfl,hO⟩
def XY(n:Int)(s:aJ)(op len:Int)(x:Ex):Bool:=((((x.n==n)&&decide (x.s=s))&&(x.op==op))&&((x.fW.length:Int)==len))
def lg(x:Ex):Bool:=
 if x.k=1 then XY (if 0>x.n then 0 else x.n) [] 0 0 x
 else if x.k=2∨x.k=3 then eK x.s&&XY 0 x.s 0 0 x
 else if x.k=4 then XY 0 [] (if x.op=15 then 15 else 14) 1 x
 else if x.k=5 then !(kG x.op==6)&&XY 0 [] x.op 2 x
 else false
def ol(f:Ex->Bool):List Ex->Bool
 | []=>true
 | x::xs=>f x&&ol f xs
def eL:Nat->Ex->Bool
 | 0,_=>false
 | d+1,x=>lg x&&ol (eL d) x.fW
theorem Mo{f:Ex->Bool}{xs:List Ex}{n:Nat}{x:Ex}(hx:xs[n]? =some x):ol f (xs.drop n)=(f x&&ol f (xs.drop (n+1))):=by
 rw[gx (aZ.1 hx).1,(aZ.1 hx).2,ol]
abbrev ShD(d:Nat):Prop:=∀{w:ay} {F:aL} {x:Ex} {cs:aK},zx d x->BB d w F x cs->aB au 264 #[aj cs.toArray] w fun e w'=>e=aq (ao (eL d x))/\aA [] w w'
theorem Pn{d:Nat}(hS:ShD d){w:ay}{F:aL}{x:Ex}{cs:aK}(hl:zx d x)(h:BB d w F x cs):aB au 282 #[aj cs.toArray] w fun e w'=>e=aq (ao (!eL d x))/\aA [] w w':=by
 obtain⟨sl,rfl⟩:=sV h;refine ret (ai8 _ _ _ _ _ _ _ _ ?_);intro k0 w0 hk iv hO;refine(hS hl (kJ h hO)).mono ?_;rintro _ w1 ⟨rfl,cF⟩;exact⟨_,rfl,cF.same (by simp;omega),rfl,hO.cz cF⟩
theorem Po{d:Nat}(hS:ShD d){w:ay}{F:aL}{l:Sl}{xs:List Ex}(hl:∀y,y∈xs->zx d y)(h:aD (BB d) 6 w F l xs):aB au 296 #[l.v,.func (.func 282) #[] #[]] w fun e w'=>∃i:Int,e=aq (O ae i)/\decide (i>=0)=!ol (eL d) xs/\aA [] w w':=by
 refine(adr l ⟨.func (.func 282) #[] #[],rfl⟩ (fun v w'=>∃i:Int,v=O ae i/\decide (i>=0)=!ol (eL d) xs/\aA [] w w') w ?_).mono (by
  rintro e w' ⟨v,rfl,i,rfl,h⟩;exact⟨i,rfl,h⟩)
 have fu:=h.len;have rl:=h.big;have mJ:=h.cap;refine⟨fun nv i w'=>∃n:Nat,n<=xs.length/\i=(n:Int)/\nv=xs.length-n/\ol (eL d) xs=ol (eL d) (xs.drop n)/\aA [] w w',xs.length,⟨0,bA _,rfl,rfl,rfl,Only.refl _ _⟩,?_⟩;rintro nv _ w0 ⟨n,hn,rfl,rfl,jw,cK⟩;refine⟨fun hc=>?_,fun hc=>?_⟩
 ·have bX:(n:Int)<l.n:=aP hc;obtain⟨ad,x,cs,g1,g2,g3,g4,g5,g6⟩:=(SliceF.only (oU d) (by decide) h cK (by simp)).get (bE n) bX;rw[aX]at g2;obtain⟨sl,rfl⟩:=sV g6;refine⟨ad,g1,_,_,_,_,_,_,g5,282,[],[],rfl,fF (by kernel_rfl),?_⟩;refine(Pn hS (hl x (bD g2)) g6).mono ?_;rintro _ w1 ⟨rfl,cF⟩;have nA:=Mo (f:=eL d) g2;refine⟨_,rfl,fun hb=>⟨_,rfl,?_,cK.cz cF⟩,fun hb=>⟨xs.length-(n+1),by omega,n+1,by omega,by rw[gD (by omega) (by omega)];rfl,rfl,?_,cK.cz cF⟩⟩
  ·have hb:eL d x=false:=by simpa using hb
   rw[jw,nA,hb,eu,Bool.not_false];exact bK (bE n)
  ·have hb:eL d x=true:=by simpa using hb
   rw[jw,nA,hb,cY]
 ·have mz:¬(n:Int)<l.n:=aW hc;refine⟨_,rfl,?_,cK⟩;rw[jw,j5 (by omega)];rfl
theorem FD{d:Nat}(hS:ShD d){w:ay}{F:aL}{l:Sl}{xs:List Ex}(hl:∀y,y∈xs->zx d y)(h:aD (BB d) 6 w F l xs):aB au 281 #[l.v,.func (.func 282) #[] #[]] w fun e w'=>e=aq (ao (!ol (eL d) xs))/\aA [] w w':=by
 refine ret (adq l ⟨.func (.func 282) #[] #[],rfl⟩ (fun v w'=>v=ao (!ol (eL d) xs)/\aA [] w w') w ?_);refine(Po hS hl h).mono ?_;rintro _ w0 ⟨i,rfl,h1,h2⟩;exact⟨_,rfl,by rw[h1],h2⟩
theorem JR:∀d,ShD d
 | 0,_,_,_,_,_,h=>h.elim
 | d+1,w,F,x,cs,⟨hl0,hl⟩,⟨sl,h1,h2⟩=>by
  subst h1;refine ret (ai7 _ _ _ _ _ _ _ _ ?_);intro k0 k1 w0 gU fi ke jH cK;have z0:=cK.size;have hn:=h2.len;have hs:∀{b:Bool},lg x=b->eL (d+1) x=(b&&ol (eL d) x.fW):=fun e=>by rw[eL,e]
  have own:∀{w1 w2:ay},aA [] w w1->aA [k1] w1 w2->aA [] w w2:=fun h1 h2=>h1.new h2 ke;refine⟨fun i0 i1 i2 s0 i3 l0 i4 w1=>∃s,s0=T s/\lg x=XY i2 s i3 i0 x/\aA [] w w1/\w0.heap.size<=w1.heap.size,?_,fun hk w4 dP=>⟨[],rfl,?_,own cK dP,dP.size⟩,fun hk=>?_⟩
  ·rintro i0 i1 i2 _ i3 l0 i4 w1 ⟨s,rfl,he,cF,z1⟩;have hc:((((x.n==i2)&&((T x.s).toList==(T s).toList))&&(x.op==i3))&&((sl.n:Int)==i0))=lg x:=by
    rw[he,mf,hn];rfl
   rw[hc];refine⟨fun b w'=>b=eL (d+1) x/\aA [] w w',?_,fun hh=>(FD (JR d) hl (SliceF.only (oU d) (by decide) h2 cF (by simp))).mono ?_,fun hh=>⟨by rw[hs hh,eu],cF⟩⟩
   ·rintro _ w2 ⟨rfl,h⟩;exact⟨rfl,h⟩
   ·rintro _ w3 ⟨rfl,dx⟩;exact⟨_,rfl,dx.same (by simp;omega),by rw[hs hh,cY,j7],cF.cz dx⟩
  ·have hk:x.k=1:=by simpa using hk
   rw[lg,if_pos hk]
  ·have ke:x.k≠1:=by simpa using hk
   refine⟨fun b w'=>b=decide (x.k=2∨x.k=3)/\w'=w0,?_,fun tF=>⟨?_,rfl⟩,fun tF=>⟨?_,rfl⟩⟩
   ·rintro _ _ ⟨rfl,rfl⟩;refine⟨fun hk=>(Pm x.s (by omega)).mono ?_,fun hk=>⟨fun yy=>⟨fun ho w8 gn=>⟨[],rfl,?_,own cK gn,gn.size⟩,fun ho w9 gv=>⟨[],rfl,?_,own cK gv,gv.size⟩⟩,fun yy=>⟨fun Cp=>(HT _ x.op).mono ?_,fun Cp=>⟨?_,cK⟩⟩⟩⟩
    ·rintro _ w6 ⟨rfl,ez⟩;have z6:=ez.size;have hk:=aP hk;refine⟨_,rfl,ez.same (by simp;omega),fun hb=>⟨?_,cK.cz ez⟩,fun hb w7 fI=>⟨x.s,rfl,?_,own (cK.cz ez) fI,by have:=fI.size;omega⟩⟩
     ·have hb:eK x.s=false:=by simpa using hb
      rw[hs (b:=false) (by rw[lg,if_neg ke,if_pos hk,hb,eu]),eu]
     ·have hb:eK x.s=true:=by simpa using hb
      rw[lg,if_neg ke,if_pos hk,hb,cY]
    ·have hk:=aW hk;have yy:x.k=4:=by simpa using yy
     have ho:x.op=15:=by simpa using ho
     rw[lg,if_neg ke,if_neg hk,if_pos yy,if_pos ho]
    ·have hk:=aW hk;have yy:x.k=4:=by simpa using yy
     have ho:x.op≠15:=by simpa using ho
     rw[lg,if_neg ke,if_neg hk,if_pos yy,if_neg ho]
    ·rintro _ dI ⟨rfl,rfl⟩;have hk:=aW hk;have yy:x.k≠4:=by simpa using yy
     have Cp:x.k=5:=by simpa using Cp
     refine⟨_,rfl,fun _ _=>rfl,fun hb=>⟨?_,cK⟩,fun hb dJ dT=>⟨[],rfl,?_,own cK dT,dT.size⟩⟩
     ·rw[hs (b:=false) (by rw[lg,if_neg ke,if_neg hk,if_neg yy,if_pos Cp,hb,Bool.not_true,eu]),eu]
     ·rw[lg,if_neg ke,if_neg hk,if_neg yy,if_pos Cp,hb,Bool.not_false,cY]
    ·have hk:=aW hk;have yy:x.k≠4:=by simpa using yy
     have Cp:x.k≠5:=by simpa using Cp
     rw[hs (b:=false) (by rw[lg,if_neg ke,if_neg hk,if_neg yy,if_neg Cp]),eu]
   ·have tF:x.k=2:=by simpa using tF
    rw[tF];rfl
   ·have tF:x.k≠2:=by simpa using tF
    rw[bT];simp[tF]
def Tb(w:ay):Prop:=Lib.TabIs au w "internal/strconv.uint64pow10" .u64 Lib.pow10Tab
theorem tb_num:Tryz.prog.globalNamed "internal/strconv.uint64pow10" =some 2:=by kernel_rfl
theorem Tb.keep{w w':ay}(h:Tb w)(hk:2<w.heap.size->w'.heap[2]? =w.heap[2]?):Tb w':=by
 unfold Tb Lib.TabIs World.var? at h⊢;rw[tb_num]at h⊢;simp only[lP]at h⊢;rw[hk]
 ·exact h
 ·refine cq fun hn=>?_;rw[eW (by omega)]at h;cases h
theorem Tb.lt{w:ay}(h:Tb w):2<w.heap.size:=by
 unfold Tb Lib.TabIs World.var? at h;rw[tb_num]at h;simp only[lP]at h;refine cq fun hn=>?_;rw[eW (by omega)]at h;cases h
theorem Tb.only{w w':ay}(h:Tb w)(hO:aA [] w w'):Tb w':=h.keep fun bX=>hO.block _ bX (by simp)
theorem Only.grown(w:ay)(k:Nat)(os:Array Obj):aA [] w (Go.Sort.grow (w.drewN k) os):=⟨rfl,rfl,rfl,by simp[Go.Sort.grow],fun q hq _=>by
 simp only[Go.Sort.grow,World.heap_drewN];rw[Array.getElem?_append_left hq]⟩
theorem yi{w:ay}(n:Int)(hn:ry n)(hT:Tb w):aB au 172 #[O ae n] w fun e w'=>e=aq (ah (T (Lib.itoa n)))/\aA [] w w':=by
 refine ret (v1w _ _ _ ?_);refine(Tryz.strconv_Itoa n hn.1 hn.2 w hT).mono ?_;rintro _ w0 ⟨rfl,k,os,rfl⟩;exact⟨_,rfl,rfl,Only.grown _ _ _⟩
end Go.Proofs.YtbkjcdocjfknfaaGreatDoor.Con
