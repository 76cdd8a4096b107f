import Derived.Test.YtmhoiicofhlgbaaGreatDoorQf3
set_option linter.unusedSectionVars false
namespace Go.Proofs.YtmhoiicofhlgbaaGreatDoor.Con
open Go.Value renaming int->O,string->ab,pointer->ae,agg->ah,tuple->ai,bool->aj
open Go.IntKind renaming i64->U,wrap->ar
open Go.Ending renaming returned->ak
open _root_.ByteArray renaming mk->ao
open _root_.Go.Proofs.Tryz renaming prog->aq
open Go.Instr renaming buildSlice->au
open Go renaming World->av,Value->aw,Calls->az
open Go.Kt renaming Only->ay,SliceF->aA,Cells->aB,OnlyP->aD,Blk->aF
open Go Go.RowKit Go.Kt Go.Kt.V Go.Proofs.YtmhoiicofhlgbaaGreatDoor.Vc
set_option linter.unusedSimpArgs false
set_option linter.unusedVariables false
set_option maxHeartbeats 4000000
theorem qH(w:av)(l:aH){n:Nat}{parts:Array (Nat×aw)}(hp:parts=(((l.map fW).zipIdx 0).map fun x=>(x.2,x.1)).toArray)(hn:l.length=n)(h0:0<n)(tT:n*1<=16777216):
  ∃s w',(au 68 n parts).run aq w=.ok (Sl.v s) w'/\Own ki 1 5 w.heap.size w' (fun _=>True) s l/\ay [] w w'/\s.a=some ⟨w.heap.size,0,none⟩:=by
 obtain⟨s,w',h1,h2,h3,h4,_⟩:=lf (P:=aq) (t:=68) (e:=5) (i:=Tryz.t5) (w:=w) (F:=fun _=>True) (r:=ki) (size:=1) (vs:=l.map fW) (xs:=l) (len:=n) (by kernel_rfl) (by kernel_rfl) rfl rfl (by decide) hp (by rw[bZ];exact hn) h0 tT pJ (by
  clear hp hn
  induction l with
  | nil=>exact trivial
  | cons a l ih=>exact⟨⟨rfl,rfl⟩,ih⟩)
 exact⟨s,w',h1,h2,h3,h4⟩
theorem Sf(l:List (aH))(w:av):n9 jB 1 w (fun _=>True) l ((l.map fun x=>Value.string (T x)).map fun v=>v.cells.toList):=by
 induction l with
 | nil=>exact trivial
 | cons a l ih=>exact⟨⟨rfl,rfl⟩,ih⟩
theorem jd(w:av)(l:List (aH)){n:Nat}{parts:Array (Nat×aw)}(hp:parts=(((l.map fun x=>Value.string (T x)).zipIdx 0).map fun x=>(x.2,x.1)).toArray)(hn:l.length=n)(h0:0<n)(tT:n*1<=16777216):
  ∃s w',(au 52 n parts).run aq w=.ok (Sl.v s) w'/\Own jB 1 9 w.heap.size w' (fun _=>True) s l/\ay [] w w':=by
 obtain⟨s,w',h1,h2,h3,_⟩:=lf (P:=aq) (t:=52) (e:=9) (i:=Tryz.t9) (w:=w) (F:=fun _=>True) (r:=jB) (size:=1) (vs:=l.map fun x=>Value.string (T x)) (xs:=l) (len:=n) (by kernel_rfl) (by kernel_rfl) rfl rfl (by decide) hp (by rw[bZ];exact hn) h0 tT cZ (Sf l w);exact⟨s,w',h1,h2,h3⟩
theorem I0{α:Type}{r:Rp α}{size:Nat}{e:TypeId}{B:Nat}{w:av}{F:aJ}{s:Sl}{xs:List α}(hr:r.Ok)(hf:∀w F G x cs,r w F x cs->r w G x cs)(h:Own r size e B w F s xs):aA r size w (fun k=>B<=k/\s.a=some ⟨k,0,none⟩) s xs:=by
 rcases h with⟨rfl,rfl⟩ | ⟨g,css,tail,a1,a2,a4,a5,a6,a7,a9,a8⟩
 ·exact SliceF.nil _ _ _ _
 ·have h':Own r size e B w (fun _=>False) s xs:=.inr ⟨g,css,tail,a1,a2,a4,a5,a6,a7,a9,gq.imp (fun _ _ h=>⟨h.1,hf _ _ _ _ _ h.2⟩) a8⟩;exact(h'.slice hr).mono hr fun k hk=>hk.elim False.elim id
theorem vj{e:TypeId}{B:Nat}{w:av}{F:aJ}{s:Sl}{xs:aH}(h:Own ki 1 e B w F s xs):aA ki 1 w (fun k=>B<=k/\s.a=some ⟨k,0,none⟩) s xs:=I0 pJ (fun _ _ _ _ _ h=>h) h
theorem qY{e:TypeId}{B:Nat}{w:av}{F:aJ}{s:Sl}{xs:List (aH)}(h:Own jB 1 e B w F s xs):aA jB 1 w (fun k=>B<=k/\s.a=some ⟨k,0,none⟩) s xs:=I0 cZ (fun _ _ _ _ _ h=>h) h
def jq:Bool->aH->Nat
 | _,[]=>0
 | true,c::r=>1+jq (c !=10) r
 | false,c::r=>if mZ c then 1+jq false r else if c==47&&r.head? ==some 47 then 1+jq true r else 0
theorem CI:∀{b:Bool} {l:aH},jq b l<=l.length
 | b,[]=>by simp[jq]
 | true,c::r=>by
  rw[jq,aR];have:=CI (b:=c !=10) (l:=r);omega
 | false,c::r=>by
  rw[jq,aR];have h1:=CI (b:=false) (l:=r);have h2:=CI (b:=true) (l:=r);split
  ·omega
  ·split<;>omega
theorem EU:∀(l:aH),jq true l=(l.takeWhile (· !=10)).length+jq false (l.drop (l.takeWhile (· !=10)).length)
 | []=>rfl
 | c::r=>by
  by_cases hc:c=10
  ·subst hc;rw[jq];simp[jq,mZ]
  ·have h:(c !=10)=true:=by simpa using hc
   rw[jq,h,EU r,da,if_pos h,aR,mM];omega
theorem Bi{l:aH}(h:l.take 2=[47,47]):jq false l=(l.takeWhile (· !=10)).length+jq false (l.drop (l.takeWhile (· !=10)).length):=by
 match l,h with
 | a::b::r,h=>
  simp only[fC,dr,rB,and_true]at h;obtain⟨rfl,rfl⟩:=h;have e:jq false (47::47::r)=1+jq true (47::r):=by
   conv=>lhs;rw[jq]
   rw[if_neg (by decide),if_pos (by simp)]
  have e2:=EU (47::r);have e3:(47::47::r:aH).takeWhile (· !=10)=47::(47::r:aH).takeWhile (· !=10):=by
   rw[da,if_pos (by decide)]
  rw[e,e2,e3,aR,mM];omega
theorem mf{l:aH}{j:Nat}{x:UInt8}(h:l[j]? =some x):l.drop j=x::l.drop (j+1):=by
 obtain⟨h1,h2⟩:=bc.1 h;rw[gF h1,h2]
theorem NF{w:av}{b:Nat}{t:TypeId}{l:aH}{i:Nat}{r:aI}(h:Se w b t l i r)(hi:i<=l.length)(hl:l.length<9223372036854775807):
  az aq 134 #[ae (some ⟨b,0,none⟩)] w fun e w'=>e=ak (ai #[])/\ay [b] w w'/\Se w' b t l (i+jq false (l.drop i)) r:=by
 refine ret (aap _ _ _ ?_);refine⟨fun nv w'=>∃j:Nat,j<=l.length/\nv=l.length-j/\i+jq false (l.drop i)=j+jq false (l.drop j)/\ay [b] w w'/\Se w' b t l j r,l.length-i,⟨i,hi,rfl,rfl,Only.refl _ _,h⟩,?_⟩;rintro nv w0 ⟨j,hj,rfl,Tp,ch,h0⟩;have kp:∀{u u':av} {n:Nat},ay [] u u'->Se u b t l n r->Se u' b t l n r:=fun hO hC=>(hO.block b hC.lt (by simp)).trans hC;refine(Ue h0).mono ?_;rintro _ w1 ⟨rfl,cn⟩;have h1:=kp cn h0;refine⟨_,rfl,fun hc=>?_,fun hc=>⟨rfl,ch.trans cn (by simp),?_⟩⟩
 ·have bQ:j<l.length:=by simpa using hc
  have hx:l[j]? =some l[j]:=bG bQ;generalize l[j]=x at hx;have hd:=mf hx;refine⟨T l,Blk.ec h1 0 rfl,j,Blk.ec h1 1 rfl,x,⟨ba j,by rw[lq,aX,hx]⟩,fun w2 cG=>?_⟩;obtain⟨s,w3,k1,k2,k3,_⟩:=qH w2 [9,10,13,32] (n:=4) (parts:=#[(0,.int .u8 9),(1,.int .u8 10),(2,.int .u8 13),(3,.int .u8 32)]) rfl rfl (by decide) (by decide);refine⟨s,w3,k1,(ES (vj k2) x).mono ?_⟩;rintro _ w4 ⟨rfl,dI⟩;have eV:=cG.cd (k3.cd dI);have h4:=kp eV h1;have pr:ay [b] w w4:=ch.trans (cn.cd eV) (by simp);refine⟨_,rfl,fun hb=>⟨j,Blk.ec h4 1 rfl,b,1,_,t,by rw[fZ],h4,by simp,fun w5 eh tX=>⟨l.length-(j+1),by omega,j+1,by omega,rfl,?_,pr.trans eh (by simp),?_⟩⟩,fun hb=>(zu h4 hj).mono ?_⟩
  ·have e:mZ x=true:=hb;rw[Tp,hd,jq,if_pos e];omega
  ·rw[fH (by omega) (by omega)]at tX;exact tX
  rintro _ w6 ⟨rfl,dR⟩;have h6:=kp dR h4;have hlr:(l.drop j).length<=l.length:=by rw[bX];omega
  refine⟨_,rfl,(ET w6 (l.drop j) [47,47] (by omega) (by decide)).mono ?_⟩;rintro _ w7 ⟨rfl,fN⟩;have h7:=kp fN h6;refine⟨_,rfl,fun hs=>(zu h7 hj).mono ?_,fun hs=>⟨rfl,pr.trans (dR.cd fN) (by simp),?_⟩⟩
  ·rintro _ w8 ⟨rfl,fj⟩;have h8:=kp fj h7;refine⟨_,rfl,(abv w8 (l.drop j) 10 (by omega)).mono ?_⟩;rintro _ w9 ⟨s9,b9,rfl,fT⟩;have h9:=kp fT h8;have BZ:(l.drop j).take 2=[47,47]:=aQ hs;have hk:=Bi BZ;have ey:((l.drop j).takeWhile (· !=10)).length<=(l.drop j).length:=by
    rw[me,cP];exact Nat.min_le_right _ _
   have Ts:0<((l.drop j).takeWhile (· !=10)).length:=by
    match hq:l.drop j,BZ with
    | a::r',BZ=>
     have:a=47:=by
      match r',BZ with
      | b'::r'',BZ=>simp at BZ;exact BZ.1
     subst this;simp
   have hld:(l.drop j).length=l.length-j:=bX;generalize hn:((l.drop j).takeWhile (· !=10)).length=n at*
   refine⟨_,s9,b9,rfl,j,Blk.ec h9 1 rfl,b,1,_,t,by rw[fZ],h9,by simp,fun dw dM nr=>⟨l.length-(j+n),by omega,j+n,by omega,rfl,?_,(pr.trans (dR.cd (fN.cd (fj.cd fT))) (by simp)).trans dM (by simp),?_⟩⟩
   ·rw[Tp,hk,jc];omega
   ·rw[bW,hn,fH (by omega) (by omega)]at nr;exact nr
  ·have hs:¬(l.drop j).take 2=[47,47]:=aU hs;have hb:mZ x=false:=hb;have hz:jq false (l.drop j)=0:=by
    rw[hd,jq,if_neg (by simp[hb]),if_neg];intro hh;apply hs;rw[hd];simp only[aP,dz]at hh;obtain⟨rfl,hh⟩:=hh;cases hr:l.drop (j+1)with
    | nil=>rw[hr]at hh;simp at hh
    | cons y z=>
     rw[hr]at hh;simp only[gx,aV]at hh;rw[hh];rfl
   rw[Tp,hz];exact h7
 ·have lR:l.length<=j:=by simpa using hc
  have hz:l.drop j=[]:=dy lR;rw[Tp,hz];exact h1
def Er(w:av):Prop:=∃tp p,w.var? aq "strconv.ErrRange" =some #[.iface tp p]
theorem er_num:Tryz.prog.globalNamed "strconv.ErrRange" =some 7:=by kernel_rfl
theorem Er.keep{w w':av}(h:Er w)(hk:7<w.heap.size->w'.heap[7]? =w.heap[7]?):Er w':=by
 obtain⟨tp,p,h⟩:=h;refine⟨tp,p,?_⟩;unfold World.var? at h⊢;rw[er_num]at h⊢;simp only[mz]at h⊢;rw[hk]
 ·exact h
 ·refine bC fun hn=>?_;rw[ft (by omega)]at h;cases h
theorem Er.lt{w:av}(h:Er w):7<w.heap.size:=by
 obtain⟨tp,p,h⟩:=h;unfold World.var? at h;rw[er_num]at h;simp only[mz]at h;refine bC fun hn=>?_;rw[ft (by omega)]at h;cases h
theorem Er.only{w w':av}(h:Er w)(hO:ay [] w w'):Er w':=h.keep fun bQ=>hO.block _ bQ (by simp)
def jU(a:Nat)(ds:aH):Nat:=ds.foldl (fun a c=>a*10+(c.toNat-48)) a
theorem CJ:∀(ds:aH) (a:Nat),a<=jU a ds
 | [],a=>aW _
 | c::r,a=>by
  have:=CJ r (a*10+(c.toNat-48));show a<=jU (a*10+(c.toNat-48)) r;omega
theorem pum:∀(ds:aH) (a:Nat),(∀c,c∈ds->cN c=true)->a<=18446744073709551615->
  Lib.parseUintM 18446744073709551615 a ds=if jU a ds<=18446744073709551615 then .ok (jU a ds)else .range
 | [],a,_,h=>by rw[Lib.parseUintM];exact(if_pos h).symm
 | c::r,a,hd,h=>by
  have hc:=hd c (by simp);simp only[cN,aP,bA]at hc;have e:jU a (c::r)=jU (a*10+(c.toNat-48)) r:=rfl;have lR:=CJ r (a*10+(c.toNat-48));rw[Lib.parseUintM,if_pos hc,e];split
  ·rw[if_neg (by omega)]
  ·split
   ·rw[if_neg (by omega)]
   ·rw[pum r _ (fun x hx=>hd x (by simp[hx])) (by omega)]
theorem pib{ds:aH}(hd:∀c,c∈ds->cN c=true)(gC:ds≠[]):Lib.parseIntB 64 ds=if jU 0 ds<9223372036854775808 then .ok (jU 0 ds:Int)else .range:=by
 match ds,gC with
 | c::r,_=>
  have hc:=hd c (by simp);simp only[cN,aP,bA]at hc;have h1:¬(c.toNat=43∨c.toNat=45):=by omega
  have h2:¬c.toNat=45:=by omega
  have h3:Lib.parseUintB 64 (c::r)=Lib.parseUintM 18446744073709551615 0 (c::r):=by
   rw[Lib.parseUintB,if_neg (by simp)]
  unfold Lib.parseIntB;dsimp only;rw[if_neg h1,h3,pum _ _ hd (by decide)];by_cases hv:jU 0 (c::r)<=18446744073709551615
  ·rw[if_pos hv];by_cases hw:jU 0 (c::r)<9223372036854775808
   ·rw[if_pos hw];simp[h2];omega
   ·rw[if_neg hw];simp[h2];omega
  ·rw[if_neg hv,if_neg (by omega)]
def eY(l:aH):Nat×Nat×Int:=
 if l=[]then(0,0,3)else if l.takeWhile cN=[]∨(1<(l.takeWhile cN).length/\l.head? =some 48)then(0,0,4)
 else if jU 0 (l.takeWhile cN)<9223372036854775808 then(jU 0 (l.takeWhile cN),(l.takeWhile cN).length,0)else(0,0,20)
theorem wA{p:UInt8->Bool}{l:aH}:∀c,c∈l.takeWhile p->p c=true:=by
 have:=List.all_takeWhile (p:=p) (l:=l);rwa[dT]at this
theorem NG{w:av}{l:aH}(hE:Er w)(hl:l.length<281474976710656):
  az aq 252 #[ab (T l)] w fun e w'=>e=ak (ai #[O U (eY l).1,O U (eY l).2.1,O U (eY l).2.2])/\ay [] w w':=by
 refine ret (v0w _ _ _ ?_);refine⟨fun nv j w'=>∃n:Nat,n<=l.length/\j=(n:Int)/\nv=l.length-n/\(∀x,x∈l.take n->cN x=true)/\ay [] w w',l.length,⟨0,bd _,rfl,rfl,by simp,Only.refl _ _⟩,?_⟩;rintro nv _ w0 ⟨n,hn,rfl,rfl,hp,ch⟩;rw[bW];refine⟨fun b w'=>(b=true->∃x,l[n]? =some x/\cN x=true)/\(b=false->∀x,l[n]? =some x->cN x=false)/\ay [] w w',?_,fun hc=>?_,fun hc=>⟨fun e=>(by cases e),fun _ x hx=>?_,ch⟩⟩
 ·rintro b w1 ⟨h1,h2,cn⟩;refine⟨fun hb=>?_,fun hb=>?_⟩
  ·obtain⟨x,hx,hw⟩:=h1 hb;have bQ:=(bc.1 hx).1;refine⟨l.length-(n+1),by omega,n+1,by omega,by rw[fH (by omega) (by omega)];rfl,rfl,fun y hy=>?_,cn⟩;rw[bB,hx]at hy;simp only[fi,cH,aO]at hy;rcases hy with hy | rfl
   ·exact hp y hy
   ·exact hw
  have LX:=kU hn hp (h2 hb);have wi:(l.takeWhile cN).length=n:=by rw[LX,cP];omega
  have e0:(ao #[])=T []:=rfl;rw[e0,iO];refine⟨fun h0=>⟨?_,cn⟩,fun h0=>?_⟩
  ·have h0:l=[]:=aQ h0;rw[eY,if_pos h0];rfl
  have h0:¬l=[]:=aU h0;refine⟨fun b w'=>b=decide (l.takeWhile cN=[]∨(1<(l.takeWhile cN).length/\l.head? =some 48))/\ay [] w w',?_,fun hz=>?_,fun hz=>?_⟩
  ·rintro b w2 ⟨rfl,cG⟩;refine⟨fun hb=>⟨?_,cG⟩,fun hb=>⟨n,⟨rfl,hn⟩,?_⟩⟩
   ·rw[eY,if_neg h0,if_pos (aQ hb)];rfl
   have hb:=aU hb;have hx:(T l).extract 0 n=T (l.takeWhile cN):=by rw[rI,fK,sQ,LX]
   rw[hx];have gC:l.takeWhile cN≠[]:=fun e=>hb (.inl e);have hpi:=pib (wA (p:=cN) (l:=l)) gC;have hsz:(T (l.takeWhile cN)).size<=281474976710656:=by rw[bW];omega
   by_cases hv:jU 0 (l.takeWhile cN)<9223372036854775808
   ·rw[if_pos hv]at hpi;refine(Tryz.strconv_ParseInt_10_at64_ok (T (l.takeWhile cN)) (bh hsz (by decide)) _ hpi w2).mono ?_;rintro _ w3 ⟨rfl,hw⟩;have dh:ay [] w2 w3:=by
     rcases hw with rfl | ⟨s,rfl⟩
     ·exact Only.refl _ _
     ·exact Only.vS (Lib.bytesWorld_below _ _ _)
    refine⟨_,⟨.nilIface,rfl⟩,rfl,.inl rfl,fun e=>(by cases e),fun _=>⟨?_,cG.cd dh⟩⟩;rw[eY,if_neg h0,if_neg hb,if_pos hv,wi]
   ·rw[if_neg hv]at hpi;obtain⟨tp,p,Xm⟩:=hE.only cG;refine(Tryz.strconv_ParseInt_10_at64_range_var (T (l.takeWhile cN)) hsz hpi tp p w2 Xm).mono ?_;rintro _ w3 ⟨N,rfl,_,_,hw⟩;refine⟨_,⟨.iface _ _,rfl⟩,rfl,.inr ⟨_,_,rfl⟩,fun _=>⟨?_,cG.cd (Only.vS hw)⟩,fun e=>(by cases e)⟩;rw[eY,if_neg h0,if_neg hb,if_neg hv];rfl
  ·have hz:n=0:=by simpa using hz
   subst hz;refine⟨?_,cn⟩;symm;rw[bF (.inl (bp wi))];rfl
  ·have hz:n≠0:=by simpa using hz
   obtain⟨x,r,rfl⟩:∃x r,l=x::r:=by
    cases l with
    | nil=>exact absurd rfl h0
    | cons x r=>exact⟨x,r,rfl⟩
   refine⟨x,fun _=>⟨iM _,by rw[lq];rfl⟩,?_,cn⟩;have gC:(x::r).takeWhile cN≠[]:=fun e=>by rw[e]at wi;exact hz wi.symm
   rw[wi,bI];simp only[aP,bA,dz,gx,aV];constructor
   ·rintro⟨h1,h2⟩;exact .inr ⟨by omega,QS.1 (by show x.toNat=48;omega)⟩
   ·rintro(h | ⟨h1,rfl⟩)
    ·exact absurd h gC
    ·exact⟨by omega,rfl⟩
 ·have bQ:(n:Int)<l.length:=aQ hc;have hx:l[n]? =some (l[n]'(by omega)):=bG (by omega);generalize l[n]'(by omega)=x at hx;refine⟨x,⟨ba n,by rw[lq,aX,hx]⟩,(NB w0 x).mono ?_⟩;rintro _ w3 ⟨rfl,dh⟩;refine⟨_,rfl,fun hb=>⟨x,hx,hb⟩,fun hd y hy=>?_,ch.cd dh⟩;rw[hx]at hy;injection hy with hy;subst hy;exact hd
 ·have lR:¬(n:Int)<l.length:=aU hc;have:=(bc.1 hx).1;omega
structure Tk where
 k:Int
 t:aH
 n:Int
 a:Int
deriving DecidableEq
def Tk.v(x:Tk):aw:=ah #[O U x.k,ab (T x.t),O U x.n,O U x.a]
def Bj:Rp Tk:=fun _ _ x cs=>cs=[O U x.k,ab (T x.t),O U x.n,O U x.a]
theorem gI:Bj.Ok where
 keep h _:=h
 inHeap h:=h
 mono h _:=h
 one:=by
  rintro w F x cs h v hv;unfold Bj at h;subst h;simp only[aY,bf,cb]at hv;rcases hv with rfl | rfl | rfl | rfl<;>rfl
abbrev kX(B:Nat)(w:av)(s:Sl)(xs:List Tk):Prop:=Own Bj 4 141 B w (fun _=>True) s xs
theorem kX.of{B:Nat}{w:av}{F:aJ}{s:Sl}{xs:List Tk}(h:Own Bj 4 141 B w F s xs):kX B w s xs:=h.mono gI fun _ _=>trivial
theorem kX.sl{B:Nat}{w:av}{s:Sl}{xs:List Tk}(h:kX B w s xs):aA Bj 4 w (fun k=>B<=k/\s.a=some ⟨k,0,none⟩) s xs:=I0 gI (fun _ _ _ _ _ h=>h) h
theorem kX.flat{B:Nat}{w:av}{s:Sl}{xs:List Tk}(h:kX B w s xs):Own Bj 4 141 B w (fun _=>False) s xs:=by
 rcases h with h | ⟨g,css,tail,a1,a2,a4,a5,a6,a7,a9,a8⟩
 ·exact .inl h
 ·exact .inr ⟨g,css,tail,a1,a2,a4,a5,a6,a7,a9,gq.imp (fun _ _ h=>h) a8⟩
theorem kX.keep{B:Nat}{w w':av}{s:Sl}{xs:List Tk}(h:kX B w s xs)(hk:∀k,B<=k/\s.a=some ⟨k,0,none⟩->k<w.heap.size->w'.heap[k]? =w.heap[k]?):kX B w' s xs:=
 kX.of (h.flat.keep gI fun k hF bQ=>hk k (hF.elim False.elim id) bQ)
theorem kX.only{B:Nat}{w w':av}{s:Sl}{xs:List Tk}(h:kX B w s xs)(hO:ay [] w w'):kX B w' s xs:=h.keep fun k _ bQ=>hO.block k bQ (by simp)
theorem kX.p{B:Nat}{w w':av}{s:Sl}{xs:List Tk}{D:aJ}(h:kX B w s xs)(hO:aD D w w')(hD:∀k,B<=k->s.a=some ⟨k,0,none⟩->¬D k):kX B w' s xs:=h.keep fun k hk bQ=>hO.block k bQ (hD k hk.1 hk.2)
theorem NH{w:av}{B:Nat}{s:Sl}{xs:List Tk}(t:Tk)(hs:kX B w s xs)(hB:B<=w.heap.size)(hm:(xs.length+1)*40<=140737488355328):
  ∃y w1,(au 124 1 #[(0,t.v)]).run aq w=.ok (Sl.v y) w1/\ay [] w w1/\∃s' w2,(Builtin.append_ #[124,124] 124 #[Sl.v s,Sl.v y]).run aq w1=.ok (Sl.v s') w2/\kX B w2 s' (xs++[t])/\aD (fun k=>B<=k/\s.a=some ⟨k,0,none⟩) w1 w2:=by
 obtain⟨y,w1,k1,k2,s',w2,k3,k4,⟨gs,k5,k6⟩,_⟩:=nG (P:=aq) (t:=124) (ty:=124) (e:=141) (i:=Tryz.t141) (bytes:=40) (size:=4) (v:=t.v) (x:=t) (G:=fun _=>False) (by kernel_rfl) (by kernel_rfl) rfl rfl rfl rfl (by decide) (by decide) (by decide) gI hs hB rfl rfl (fun k hk _=>hk.elim) hm;exact⟨y,w1,k1,k2,s',w2,k3,kX.of k4,k5.p fun g hg=>.inl ⟨(k6 g hg).2.1,(k6 g hg).1⟩⟩
def iA:List (aH):=[[97,102,116,101,114],[97,108,119,97,121,115],[99,104,97,114,116],[100,101,101,112],[101,109,105,116],[101,110,116,101,114],[104,105,115,116,111,114,121],[105,110],[105,110,105,116,105,97,108],[108,101,97,118,101],[111,110],[112,97,114,97,108,108,101,108],[114,97,105,115,101],[115,101,116],[115,116,97,116,101],[118,97,114]]
theorem I1(w:av):az aq 133 #[] w fun e w'=>∃s:Sl,e=ak s.v/\Own jB 1 9 w.heap.size w' (fun _=>True) s iA/\ay [] w w':=by
 refine(aao (fun v w'=>∃s:Sl,v=s.v/\Own jB 1 9 w.heap.size w' (fun _=>True) s iA/\ay [] w w') w ?_).mono (by
  rintro e w' ⟨v,rfl,s,rfl,h⟩;exact⟨s,rfl,h⟩)
 obtain⟨s,w',h1,h2,h3⟩:=jd w iA (n:=16) rfl rfl (by decide) (by decide);exact⟨s,w',h1,s,rfl,h2,h3⟩
structure Cut (w:av) (b:Nat) (l:aH) (i:Nat) (rs:Sl) (acc:List Tk):Prop where
 blk:∃ws:Sl,aF w b 198 [ab (T l),O U (i:Int),ws.v,rs.v]/\aA jB 1 w (fun k=>k<b) ws iA
 own:kX (b+1) w rs acc
 er:Er w
 gb:7<b
 il:i<=l.length
 ll:l.length<=16384
theorem Cut.lt{w:av}{b:Nat}{l:aH}{i:Nat}{rs:Sl}{acc:List Tk}(h:Cut w b l i rs acc):b<w.heap.size:=by
 obtain⟨ws,h1,_⟩:=h.blk;exact h1.lt
theorem Cut.only{w w':av}{b:Nat}{l:aH}{i:Nat}{rs:Sl}{acc:List Tk}(h:Cut w b l i rs acc)(hO:ay [] w w'):Cut w' b l i rs acc:=by
 obtain⟨ws,h1,h2⟩:=h.blk;exact⟨⟨ws,(hO.block b h1.lt (by simp)).trans h1,SliceF.only cZ (by decide) h2 hO (by simp)⟩,h.own.only hO,h.er.only hO,h.gb,h.il,h.ll⟩
theorem Cut.move{w w':av}{b:Nat}{l:aH}{i j:Nat}{rs:Sl}{acc:List Tk}(h:Cut w b l i rs acc)(hO:ay [b] w w')(hj:j<=l.length)(hB:∀ws:Sl,aF w b 198 [ab (T l),O U (i:Int),ws.v,rs.v]->aF w' b 198 [ab (T l),O U (j:Int),ws.v,rs.v]):Cut w' b l j rs acc:=by
 obtain⟨ws,h1,h2⟩:=h.blk;exact⟨⟨ws,hB ws h1,SliceF.only cZ (by decide) h2 hO (by intro k hk _;simp only[aO];omega)⟩,h.own.keep fun k hk bQ=>hO.block k bQ (by simp only[aO];omega),h.er.keep fun bQ=>hO.block _ bQ (by simp only[aO];have:=h.gb;omega),h.gb,hj,h.ll⟩
theorem I2{w:av}{b:Nat}{l:aH}{i:Nat}{rs:Sl}{acc:List Tk}(h:Cut w b l i rs acc)(k:Int)(t:aH)(nn a0:Int)(n:Nat)(hn:i+n<=l.length)(ha:acc.length<=16384):
  az aq 137 #[ae (some ⟨b,0,none⟩),ah #[O U k,ab (T t),O U nn,O U a0],O U (n:Int)] w fun e w'=>e=ak (ai #[])/\aD (fun k=>b<=k) w w'/\∃Tt,Cut w' b l (i+n) Tt (acc++[⟨k,t,nn,i⟩]):=by
 refine ret (aaD _ _ _ _ _ _ _ _ ?_);intro k0 w0 gD dQ ch;have HU:=h.lt;have DX:=h.ll;have h0:=h.only ch;obtain⟨ws,DA,hw0⟩:=h0.blk;refine⟨i,Blk.ec DA 1 rfl,fun w1 cn=>?_⟩;have zb0:=DA.lt;have xP:aF w1 b 198 _:=(cn.block b zb0 (by simp only[aO];omega)).trans DA;have P0:kX (b+1) w1 rs acc:=h0.own.keep fun q hq bQ=>by
  refine cn.block q bQ ?_;simp only[aO];rintro rfl;have:=(h.own.blk hq.2).2;dsimp only at this;omega
 have z1:=cn.size;obtain⟨y,w2,c1,c2,s',w3,c3,c4,c5⟩:=NH ⟨k,t,nn,i⟩ P0 (by omega) (bh (dU 40 (show acc.length+1<=16385 by omega)) (by decide));have z2:=c2.size;have z3:=c5.size;have aiC:∀q,rs.a=some ⟨q,0,none⟩->q≠k0:=fun q hq=>by
  have:=(h.own.blk hq).2;dsimp only at this;omega
 refine⟨fun q=>q=b,rfl,rs,Blk.ec xP 3 rfl,y,w2,c1,c2.same (by simp;omega),bO.only c2,s',w3,c3,?_,?_,?_⟩
 ·exact c5.same (by intro x hx;simp only[aO]at hx;subst hx;exact⟨by omega,fun e=>aiC _ e.2 rfl⟩)
 ·intro q hq bQ;exact c5.block q bQ (by omega)
 have Xn:aF w3 b 198 [ab (T l),O U (i:Int),ws.v,rs.v]:=(c5.block b (by omega) (by omega)).trans ((c2.block b (by omega) (by simp)).trans xP);refine⟨b,3,_,198,by rw[fZ],Xn,by simp,by omega,fun w4 dI U1=>?_⟩;have U1:aF w4 b 198 [ab (T l),O U (i:Int),ws.v,s'.v]:=U1;refine⟨i,Blk.ec U1 1 rfl,b,1,_,198,by rw[Bc,fZ],U1,by simp,by omega,fun w5 eh LS=>⟨rfl,?_,s',?_⟩⟩
 ·have e1:aD (fun k=>b<=k) w w1:=ch.p0.trans (cn.p (F:=fun q=>q=k0) fun b hb=>.inl (by simpa using hb)) fun q hq=>by omega
  have e2:aD (fun k=>b<=k) w w3:=(e1.cd c2).trans c5 fun q hq=>.inl (by omega);have e3:aD (fun k=>b<=k) w w4:=e2.trans (dI.p (F:=fun q=>q=b) fun b hb=>.inl (by simpa using hb)) fun q hq=>.inl (by omega);exact e3.trans (eh.p (F:=fun q=>q=b) fun b hb=>.inl (by simpa using hb)) fun q hq=>.inl (by omega)
 ·have z4:=dI.size;have LS:aF w5 b 198 [ab (T l),O U (IntKind.i64.wrap ((i:Int)+n)),ws.v,s'.v]:=LS;rw[fH (by omega) (by omega)]at LS;have up:aD (fun k=>b<=k) w w5:=by
   have e1:aD (fun k=>b<=k) w w1:=ch.p0.trans (cn.p (F:=fun q=>q=k0) fun b hb=>.inl (by simpa using hb)) fun q hq=>by omega
   have e2:aD (fun k=>b<=k) w w3:=(e1.cd c2).trans c5 fun q hq=>.inl (by omega);have e3:aD (fun k=>b<=k) w w4:=e2.trans (dI.p (F:=fun q=>q=b) fun b hb=>.inl (by simpa using hb)) fun q hq=>.inl (by omega);exact e3.trans (eh.p (F:=fun q=>q=b) fun b hb=>.inl (by simpa using hb)) fun q hq=>.inl (by omega)
  have hgb:=h.gb;obtain⟨LY,nC,YY⟩:=h.blk;have hwe:LY=ws:=by
   have:aF w0 b 198 [ab (T l),O U (i:Int),LY.v,rs.v]:=(ch.block b HU (by simp)).trans nC;unfold aF at this DA;rw[this]at DA;simp[Sl.v]at DA;cases ws;cases LY;simp_all
  subst hwe;refine⟨⟨LY,LS,SliceF.rc cZ (by decide) YY up fun q hq _ hd=>by omega⟩,?_,h.er.keep fun bQ=>up.block _ bQ (by omega),hgb,hn,DX⟩;have e4:kX (b+1) w4 s' _:=c4.keep fun q hq bQ=>dI.block q bQ (by simp only[aO];omega);exact e4.keep fun q hq bQ=>eh.block q bQ (by simp only[aO];omega)
abbrev Tq:=Int×aH×Int×Nat
def ly(m:aH):Except Int Tq:=
 if 24<(m.takeWhile dV).length then .error 2 else .ok (if iA.contains (m.takeWhile dV)then 2 else 1,m.takeWhile dV,0,(m.takeWhile dV).length)
def qI(m:aH):Except Int Tq:=
 if(eY m).2.2≠0 then .error (eY m).2.2 else if(eY m).2.1<(m.takeWhile dV).length then .error 4 else .ok (3,[],(eY m).1,(eY m).2.1)
def nc:aH:=[123,125,40,41,91,93,59,44,61,43,45,42,47,37,60,62,33]
def pS(m:aH):Bool:=match m with
 | c::d::_=>(d==61&&[60,62,61,33].contains c)||(d==c&&[38,124].contains c)||(c==45&&d==62)
 | _=>false
def iq(m:aH):Nat:=if pS m then 2 else match m with
 | c::_=>if nc.contains c then 1 else 0
 | []=>0
def mQ(m:aH):Except Int Tq:=if iq m=0 then .error 4 else .ok (4,m.take (iq m),0,iq m)
def kY(m:aH):Except Int Tq:=match m with
 | []=>.error 4
 | c::_=>if eG c then ly m else if cN c then qI m else mQ m
def Mj(w':av)(b:Nat)(l:aH)(i:Nat)(acc:List Tk)(r:Except Int Tq)(v:aw):Prop:=match r with
 | .error e=>v=O U e/\∃rs,Cut w' b l i rs acc
 | .ok q=>v=O U 0/\∃rs,Cut w' b l (i+q.2.2.2) rs (acc++[⟨q.1,q.2.1,q.2.2.1,i⟩])
theorem pT{p:UInt8->Bool}{l:aH}:(l.takeWhile p).length<=l.length:=by
 rw[me,cP];exact Nat.min_le_right _ _
theorem VQ{w:av}{b:Nat}{l:aH}{i:Nat}{rs:Sl}{acc:List Tk}(h:Cut w b l i rs acc)(ha:acc.length<=16384):
  az aq 203 #[ae (some ⟨b,0,none⟩)] w fun e w'=>∃v,e=ak v/\aD (fun k=>b<=k) w w'/\Mj w' b l i acc (ly (l.drop i)) v:=by
 refine aaz ⟨b,0,none⟩ (fun v w'=>aD (fun k=>b<=k) w w'/\Mj w' b l i acc (ly (l.drop i)) v) w ?_;obtain⟨ws,hb,hw⟩:=h.blk;have DX:=h.ll;refine(NE hb h.il (by omega)).mono ?_;rintro _ w0 ⟨rfl,ch⟩;have Zf:((l.drop i).takeWhile dV).length<=l.length-i:=by
  have:=pT (p:=dV) (l:=l.drop i);rwa[bX]at this
 have hil:=h.il;refine⟨_,rfl,fun hc=>⟨ch.p0,?_⟩,fun hc=>?_⟩
 ·rw[bW]at hc;rw[ly,if_pos (by have:=aQ hc;omega)];exact⟨rfl,rs,h.only ch⟩
 rw[bW]at hc;have hc:¬24<((l.drop i).takeWhile dV).length:=by have:=aU hc;omega
 rw[ly,if_neg hc];generalize hm:(l.drop i).takeWhile dV=m at*
 have h0:=h.only ch;obtain⟨LY,nC,YY⟩:=h0.blk;refine⟨fun k w'=>k=(if iA.contains m then 2 else 1)/\ay [] w w',?_,LY,Blk.ec nC 2 rfl,(rS YY m).mono ?_⟩
 ·rintro _ w1 ⟨rfl,cn⟩;refine(ret (T9 (T m) (fun v w'=>v=ab (T m)/\ay [] w1 w') w1 ?_)).mono ?_
  ·refine(Tryz.stringslite_Clone (T m) w1 (by rw[bW];omega)).mono ?_;rintro _ w2 ⟨rfl,hw⟩;exact⟨_,rfl,rfl,Only.vS hw⟩
  rintro _ w2 ⟨rfl,cG⟩;rw[bW];refine⟨_,rfl,(I2 (h.only (cn.cd cG)) _ m 0 0 m.length (by omega) ha).mono ?_⟩;rintro _ w3 ⟨rfl,dh,Tt,hC⟩;exact⟨rfl,(cn.cd cG).wT dh,rfl,Tt,hC⟩
 ·rintro _ w4 ⟨rfl,dI⟩;refine⟨_,rfl,fun hb=>⟨by rw[if_pos hb],ch.cd dI⟩,fun hb=>⟨by rw[hb];rfl,ch.cd dI⟩⟩
theorem NI{w:av}{b:Nat}{l:aH}{i:Nat}{rs:Sl}{acc:List Tk}(h:Cut w b l i rs acc)(ha:acc.length<=16384):
  az aq 205 #[ae (some ⟨b,0,none⟩)] w fun e w'=>∃v,e=ak v/\aD (fun k=>b<=k) w w'/\Mj w' b l i acc (qI (l.drop i)) v:=by
 refine aaE ⟨b,0,none⟩ (fun v w'=>aD (fun k=>b<=k) w w'/\Mj w' b l i acc (qI (l.drop i)) v) w ?_;obtain⟨ws,hb,hw⟩:=h.blk;have DX:=h.ll;have hil:=h.il;refine(zu hb h.il).mono ?_;rintro _ w0 ⟨rfl,ch⟩;have wi:(l.drop i).length=l.length-i:=bX;refine⟨_,rfl,(NG (h.er.only ch) (by omega)).mono ?_⟩;rintro _ w1 ⟨rfl,cn⟩;have fG:=ch.cd cn;refine⟨_,_,_,rfl,fun he=>⟨fG.p0,?_⟩,fun he=>?_⟩
 ·rw[qI,if_pos (by simpa using he)];exact⟨rfl,rs,h.only fG⟩
 have he:¬(eY (l.drop i)).2.2≠0:=by simpa using he
 have hk:(eY (l.drop i)).2.1<=(l.drop i).length:=by
  have:=pT (p:=cN) (l:=l.drop i);unfold eY;split
  ·exact bd _
  ·split
   ·exact bd _
   ·split
    ·exact this
    ·exact bd _
 obtain⟨LY,nC,YY⟩:=(h.only fG).blk;refine(NE nC h.il (by omega)).mono ?_;rintro _ w2 ⟨rfl,cG⟩;have js:=fG.cd cG;refine⟨_,rfl,?_⟩;dsimp only;rw[bW];refine⟨fun hc=>⟨js.p0,?_⟩,fun hc=>?_⟩
 ·rw[qI,if_neg he,if_pos (by have:=aQ hc;omega)];exact⟨rfl,rs,h.only js⟩
 ·rw[qI,if_neg he,if_neg (by have:=aU hc;omega)];refine(I2 (h.only js) 3 [] _ 0 (eY (l.drop i)).2.1 (by omega) ha).mono ?_;rintro _ w3 ⟨rfl,dh,Tt,hC⟩;exact⟨rfl,js.wT dh,rfl,Tt,hC⟩
theorem rT(w:av)(p:Addr)(n:Nat)(a:Addr):(w.freeze p n).cell? a=w.cell? a:=by
 unfold World.freeze;split
 ·rfl
 ·unfold World.cell?;simp only[AD];by_cases Tu:p.block=a.block
  ·rw[if_pos Tu];cases h:w.heap[a.block]? with
   | none=>rfl
   | some o=>
    cases o with
    | cells c e f=>obtain⟨lo,hi⟩:=f;rfl
    | _=>rfl
  ·rw[if_neg Tu]
theorem rU(w:av)(p:Addr)(n:Nat):aD (fun k=>k=p.block) w (w.freeze p n):=by
 unfold World.freeze;split
 ·exact OnlyP.refl _ _
 ·exact⟨rfl,rfl,rfl,by simp,fun k hk hn=>by
   simp only[AD];rw[if_neg fun e=>hn e.symm]⟩
theorem VR{w:av}{F:aJ}{s:Sl}{g B:Nat}{l:aH}(ha:s.a=some ⟨g,0,none⟩)(h:Own ki 1 5 B w F s l)(bQ:g<w.heap.size):
  ∃w',(convert 68 68 (Sl.v s)).run aq w=.ok (Sl.v s) w'/\aA ki 1 w' (fun _=>True) s l/\aD (fun k=>k=g) w w':=by
 have hs:=vj h;obtain⟨g',css,tail,a1,a2,a4,_⟩:=h.resolve_left (fun e=>by rw[e.1]at ha;cases ha);rw[ha]at a1;injection a1 with a1;injection a1 with a1;subst a1;have ri:w.shape? g=some (5,(css.flatten++tail).toArray.size):=by
  unfold World.shape?;unfold aF at a4;rw[a4]
 have hu:Tryz.prog.underlying 68=some (.slice 5):=by kernel_rfl
 have W2:Tryz.prog.underlying 5=some (.int .u8):=by kernel_rfl
 refine⟨w.freeze ⟨g,(css.flatten++tail).toArray.size,none⟩ 1,?_,⟨hs.len,hs.cap,hs.nil0,hs.big,fun j x hj=>?_⟩,rU w ⟨g,(css.flatten++tail).toArray.size,none⟩ 1⟩
 ·unfold Sl.v;rw[ha];simp[convert,run_underlying hu,run_underlying W2,markStringish,ri,Result.andThen]
 ·obtain⟨base,cs,g1,g2,g3,g4,g5⟩:=hs.at_ j x hj;exact⟨base,cs,g1,trivial,g3,fun q v hq=>by rw[rT];exact g4 q v hq,g5⟩
theorem I3{c d:UInt8}:((c.toNat:Int)==(d.toNat:Int))=(c==d):=by
 rw[bI];simp only[dz];constructor
 ·intro h;exact QS.1 (by omega)
 ·rintro rfl;rfl
theorem K0{m:aH}(h:pS m=true):2<=m.length:=by
 match m,h with
 | _::_::_,_=>simp
theorem vm{m:aH}:iq m<=m.length:=by
 unfold iq;split
 ·exact K0 (by assumption)
 ·split
  ·split
   ·simp
   ·exact bd _
  ·exact bd _
theorem VS{w:av}{b:Nat}{l:aH}{i:Nat}{rs:Sl}{acc:List Tk}(h:Cut w b l i rs acc)(ha:acc.length<=16384)(gC:i<l.length):
  az aq 206 #[ae (some ⟨b,0,none⟩)] w fun e w'=>∃v,e=ak v/\aD (fun k=>b<=k) w w'/\Mj w' b l i acc (mQ (l.drop i)) v:=by
 refine aaF ⟨b,0,none⟩ (fun v w'=>aD (fun k=>b<=k) w w'/\Mj w' b l i acc (mQ (l.drop i)) v) w ?_;obtain⟨ws,hb,hw⟩:=h.blk;have DX:=h.ll;have hil:=h.il;refine(zu hb h.il).mono ?_;rintro _ w0 ⟨rfl,ch⟩;have wi:(l.drop i).length=l.length-i:=bX;generalize hm:l.drop i=m at*
 obtain⟨c,r,rfl⟩:∃c r,m=c::r:=by
  cases m with
  | nil=>simp at wi;omega
  | cons c r=>exact⟨c,r,rfl⟩
 have g0:(0:Int)<=0/\(T (c::r))[0]? =some c:=⟨iM _,by rw[lq];rfl⟩
 refine⟨T (c::r),rfl,fun i0 w'=>i0=(if nc.contains c then 1 else 0:Int)/\ay [] w w',?_,c,g0,?_⟩
 ·rintro _ w1 ⟨rfl,cn⟩;refine⟨fun i1 w'=>i1=(iq (c::r):Int)/\ay [] w w',?_,fun b w'=>b=pS (c::r)/\ay [] w w',?_,?_,?_⟩
  ·rintro _ w2 ⟨rfl,cG⟩;refine⟨fun hz=>⟨cG.p0,?_⟩,fun hz=>⟨iq (c::r),⟨rfl,by rw[bW];exact vm⟩,?_⟩⟩
   ·rw[mQ,if_pos (by have:(iq (c::r):Int)=0:=(by simpa using hz);omega)];exact⟨rfl,rs,h.only cG⟩
   have hz:¬iq (c::r)=0:=by
    intro e;rw[e]at hz;simp at hz
   rw[mQ,if_neg hz,rI,fK,sQ];have hn:=vm (m:=c::r);refine(ret (T9 (T _) (fun v w'=>v=ab (T ((c::r).take (iq (c::r))))/\ay [] w2 w') w2 ?_)).mono ?_
   ·refine(Tryz.stringslite_Clone (T _) w2 (by rw[bW,cP];omega)).mono ?_;rintro _ w3 ⟨rfl,hw⟩;exact⟨_,rfl,rfl,Only.vS hw⟩
   rintro _ w3 ⟨rfl,dh⟩;refine⟨_,rfl,(I2 (h.only (cG.cd dh)) 4 _ 0 0 (iq (c::r)) (by omega) ha).mono ?_⟩;rintro _ w4 ⟨rfl,dI,Tt,hC⟩;exact⟨rfl,(cG.cd dh).wT dI,rfl,Tt,hC⟩
  ·rintro _ w5 ⟨rfl,eh⟩;refine⟨fun hs=>⟨by rw[iq,if_pos hs];rfl,eh⟩,fun hs=>⟨?_,eh⟩⟩;have e:iq (c::r)=if nc.contains c then 1 else 0:=by rw[iq,if_neg (by rw[hs];decide)]
   rw[e];split<;>rfl
  ·intro hc;rw[bW]at hc;obtain⟨d,r,rfl⟩:∃d r',r=d::r':=by
    cases r with
    | nil=>simp at hc
    | cons d r=>exact⟨d,r,rfl⟩
   have g1:(0:Int)<=1/\(T (c::d::r))[1]? =some d:=⟨by decide,by rw[lq];rfl⟩
   have ex:(T (c::d::r)).extract 0 2=T [c,d]:=by rw[rI];rfl
   have sz:2<=(T (c::d::r)).size:=by rw[bW];simp
   have lit:(ao #[45,62])=T [45,62]:=rfl;have eqx:((T [c,d]).toList==(T [45,62]).toList)=(c==45&&d==62):=by
    rw[iO,bI];simp
   have e61:((d.toNat:Int)==61)=(d==61):=I3 (d:=61);have L0:pS (c::d::r)=((d==61&&[60,62,61,33].contains c)||(d==c&&[38,124].contains c)||(c==45&&d==62)):=rfl;rw[L0];generalize W1:([60,62,61,33]:aH).contains c=p1;generalize P1:([38,124]:aH).contains c=p2;have Rc:((((T (c::d::r)).extract 0 2).toList)==((ao #[45,62]).toList))=(c==45&&d==62):=by rw[ex,lit,eqx]
   refine⟨d,g1,fun Kx=>⟨c,g0,fun w6 dR=>?_⟩,fun Kx=>⟨d,g1,c,g0,fun L1=>⟨c,g0,fun dJ dY=>?_⟩,fun L1=>⟨sz,fun fM eV=>⟨?_,cn.cd eV⟩⟩⟩⟩
   ·rw[e61]at Kx;obtain⟨s,w7,k1,k2,k3,_⟩:=qH w6 [60,62,61,33] (n:=4) (parts:=#[(0,.int .u8 60),(1,.int .u8 62),(2,.int .u8 61),(3,.int .u8 33)]) rfl rfl (by decide) (by decide);refine⟨s,w7,k1,(ES (vj k2) c).mono ?_⟩;rintro _ w8 ⟨rfl,fj⟩;have kb:=cn.cd (dR.cd (k3.cd fj));rw[W1];refine⟨_,rfl,fun hb=>⟨by rw[Kx,hb];rfl,kb⟩,fun hb=>⟨d,g1,c,g0,fun L1=>⟨c,g0,?_⟩,fun L1=>⟨sz,?_,kb⟩⟩⟩
    ·rw[I3]at L1;obtain⟨s,w9,k1,k2,k3,_⟩:=qH w8 [38,124] (n:=2) (parts:=#[(0,.int .u8 38),(1,.int .u8 124)]) rfl rfl (by decide) (by decide);refine⟨s,w9,k1,(ES (vj k2) c).mono ?_⟩;rintro _ dw ⟨rfl,dM⟩;have hO:=kb.cd (k3.cd dM);rw[P1];exact⟨_,rfl,fun wW=>⟨by rw[Kx,hb,L1,wW];rfl,hO⟩,fun wW=>⟨sz,by rw[Rc,Kx,hb,L1,wW];rfl,hO⟩⟩
    ·rw[I3]at L1;rw[Rc,Kx,hb,L1];rfl
   ·rw[e61]at Kx;rw[I3]at L1;obtain⟨s,eM,k1,k2,k3,_⟩:=qH dJ [38,124] (n:=2) (parts:=#[(0,.int .u8 38),(1,.int .u8 124)]) rfl rfl (by decide) (by decide);refine⟨s,eM,k1,(ES (vj k2) c).mono ?_⟩;rintro _ eU ⟨rfl,dL⟩;have hO:=cn.cd (dY.cd (k3.cd dL));rw[P1];exact⟨_,rfl,fun wW=>⟨by rw[Kx,L1,wW];rfl,hO⟩,fun wW=>⟨sz,by rw[Rc,Kx,L1,wW];rfl,hO⟩⟩
   ·rw[e61]at Kx;rw[I3]at L1;rw[Rc,Kx,L1];rfl
  ·intro hc iy kB;rw[bW]at hc;have hr:r=[]:=by
    cases r with
    | nil=>rfl
    | cons d r=>exact absurd (aU hc) (by simp only[aR];omega)
   subst hr;exact⟨rfl,cn.cd kB⟩
 ·obtain⟨s,jK,k1,k2,k3,k4⟩:=qH w0 nc (n:=17) (parts:=#[(0,.int .u8 123),(1,.int .u8 125),(2,.int .u8 40),(3,.int .u8 41),(4,.int .u8 91),(5,.int .u8 93),(6,.int .u8 59),(7,.int .u8 44),(8,.int .u8 61),(9,.int .u8 43),(10,.int .u8 45),(11,.int .u8 42),(12,.int .u8 47),(13,.int .u8 37),(14,.int .u8 60),(15,.int .u8 62),(16,.int .u8 33)]) rfl rfl (by decide) (by decide);obtain⟨iZ,c1,c2,c3⟩:=VR k4 k2 (k2.blk k4).2;have jt:ay [] w0 iZ:=((k3.p0 (F:=fun k=>w0.heap.size<=k)).trans c3 fun k hk=>.inl (by omega)).only fun k hk=>hk;refine⟨s,jK,k1,s,iZ,c1,(ES c2 c).mono ?_⟩;rintro _ jM ⟨rfl,kb⟩;have hO:=ch.cd (jt.cd kb);exact⟨_,rfl,fun hb=>⟨by rw[if_pos hb],hO⟩,fun hb=>⟨by rw[hb];rfl,hO⟩⟩
theorem Mj.int{w':av}{b:Nat}{l:aH}{i:Nat}{acc:List Tk}{r:Except Int Tq}{v:aw}(h:Mj w' b l i acc r v):∃k:Int,v=O U k:=by
 unfold Mj at h;split at h
 ·exact⟨_,h.1⟩
 ·exact⟨_,h.1⟩
theorem Sg{w:av}{b:Nat}{l:aH}{i:Nat}{rs:Sl}{acc:List Tk}(h:Cut w b l i rs acc)(ha:acc.length<=16384)(gC:i<l.length):
  az aq 136 #[ae (some ⟨b,0,none⟩)] w fun e w'=>∃v,e=ak v/\aD (fun k=>b<=k) w w'/\Mj w' b l i acc (kY (l.drop i)) v:=by
 refine aax ⟨b,0,none⟩ (fun v w'=>aD (fun k=>b<=k) w w'/\Mj w' b l i acc (kY (l.drop i)) v) w ?_;obtain⟨ws,hb,hw⟩:=h.blk;have hx:l[i]? =some l[i]:=bG gC;generalize l[i]=x at hx;have ht:kY (l.drop i)=if eG x then ly (l.drop i)else if cN x then qI (l.drop i)else mQ (l.drop i):=by
  rw[mf hx];rfl
 rw[ht];refine⟨T l,Blk.ec hb 0 rfl,i,Blk.ec hb 1 rfl,x,⟨ba i,by rw[lq,aX,hx]⟩,fun w0 ch=>(zr w0 x).mono ?_⟩;rintro _ w1 ⟨rfl,cn⟩;have fG:=ch.cd cn;refine⟨_,rfl,fun hl=>?_,fun hl=>(IZ w1 x).mono ?_⟩
 ·rw[if_pos hl];refine(VQ (h.only fG) ha).mono ?_;rintro _ w2 ⟨v,rfl,cG,hd⟩;obtain⟨k,rfl⟩:=hd.int;exact⟨k,rfl,fG.wT cG,hd⟩
 rintro _ w3 ⟨rfl,dh⟩;have mw:=fG.cd dh;rw[if_neg (by rw[hl];decide)];refine⟨_,rfl,fun hd=>?_,fun hd=>?_⟩
 ·rw[if_pos hd];refine(NI (h.only mw) ha).mono ?_;rintro _ w2 ⟨v,rfl,cG,hd⟩;obtain⟨k,rfl⟩:=hd.int;exact⟨k,rfl,mw.wT cG,hd⟩
 ·rw[if_neg (by rw[hd];decide)];refine(VS (h.only mw) ha gC).mono ?_;rintro _ w2 ⟨v,rfl,cG,hd⟩;obtain⟨k,rfl⟩:=hd.int;exact⟨k,rfl,mw.wT cG,hd⟩
theorem sZ{m:aH}{q:Tq}(h:kY m=.ok q):1<=q.2.2.2:=by
 cases m with
 | nil=>cases h
 | cons c r=>
  simp only[kY]at h;split at h
  ·rename_i hc;unfold ly at h;split at h
   ·cases h
   ·injection h with h;subst h;have:dV c=true:=by unfold dV;rw[hc];rfl
    dsimp only;rw[da,if_pos this,aR];omega
  ·split at h
   ·rename_i hc;unfold qI at h;split at h
    ·cases h
    ·split at h
     ·cases h
     ·rename_i h1 h2;injection h with h;subst h;dsimp only;rw[da,if_pos (by unfold dV;rw[hc,mA]),aR]at h2;omega
   ·unfold mQ at h;split at h
    ·cases h
    ·injection h with h;subst h;dsimp only;omega
theorem CK{m:aH}{e:Int}(h:kY m=.error e):e≠0:=by
 cases m with
 | nil=>injection h with h;omega
 | cons c r=>
  simp only[kY]at h;split at h
  ·unfold ly at h;split at h
   ·injection h with h;omega
   ·cases h
  ·split at h
   ·unfold qI at h;split at h
    ·injection h with h;omega
    ·split at h
     ·injection h with h;omega
     ·cases h
   ·unfold mQ at h;split at h
    ·injection h with h;omega
    ·cases h
def zw(l:aH):Nat->Nat->Except (Int×Nat) (List Tk)
 | 0,_=>.ok []
 | f+1,i=>
  if l.length<=i+jq false (l.drop i)then .ok [⟨5,[],0,(i+jq false (l.drop i):Nat)⟩]
  else match kY (l.drop (i+jq false (l.drop i)))with
   | .error e=>.error (e,i+jq false (l.drop i))
   | .ok q=>match zw l f (i+jq false (l.drop i)+q.2.2.2)with
    | .error x=>.error x
    | .ok r=>.ok (⟨q.1,q.2.1,q.2.2.1,(i+jq false (l.drop i):Nat)⟩::r)
theorem NJ{l:aH}:(eY l).2.1<=l.length:=by
 have:=pT (p:=cN) (l:=l);unfold eY;split
 ·exact bd _
 ·split
  ·exact bd _
  ·split
   ·exact this
   ·exact bd _
theorem zx{m:aH}{q:Tq}(h:kY m=.ok q):q.2.2.2<=m.length:=by
 cases m with
 | nil=>cases h
 | cons c r=>
  simp only[kY]at h;split at h
  ·unfold ly at h;split at h
   ·cases h
   ·injection h with h;subst h;exact pT
  ·split at h
   ·unfold qI at h;split at h
    ·cases h
    ·split at h
     ·cases h
     ·injection h with h;subst h;exact NJ
   ·unfold mQ at h;split at h
    ·cases h
    ·injection h with h;subst h;exact vm
theorem EV{l:aH}{i:Nat}(hi:i<=l.length):i+jq false (l.drop i)<=l.length:=by
 have:=CI (b:=false) (l:=l.drop i);rw[bX]at this;omega
theorem EW(l:aH):∀(f g i:Nat),i<=l.length->l.length<i+f->l.length<i+g->zw l f i=zw l g i
 | 0,_,i,hi,h,_=>by omega
 | _,0,i,hi,_,h=>by omega
 | f+1,g+1,i,hi,h1,h2=>by
  rw[zw,zw];split
  ·rfl
  ·split
   ·rfl
   ·rename_i q hq;have h3:=sZ hq;have h4:=zx hq;rw[bX]at h4;rw[EW l f g _ (by omega) (by omega) (by omega)]
def jC(l:aH)(i:Nat):Except (Int×Nat) (List Tk):=zw l (l.length+1) i
theorem jx{l:aH}{i:Nat}(hi:i<=l.length):jC l i=if l.length<=i+jq false (l.drop i)then .ok [⟨5,[],0,(i+jq false (l.drop i):Nat)⟩]
  else match kY (l.drop (i+jq false (l.drop i)))with
   | .error e=>.error (e,i+jq false (l.drop i))
   | .ok q=>match jC l (i+jq false (l.drop i)+q.2.2.2)with
    | .error x=>.error x
    | .ok r=>.ok (⟨q.1,q.2.1,q.2.2.1,(i+jq false (l.drop i):Nat)⟩::r):=by
 unfold jC;rw[zw];split
 ·rfl
 ·split
  ·rfl
  ·rename_i q hq;have h3:=sZ hq;have h4:=zx hq;rw[bX]at h4;rw[EW l l.length (l.length+1) _ (by omega) (by omega) (by omega)]
def cA(l:aH):List Tk×Int×Int:=if 16384<l.length then([],2, -1)else match jC l 0 with
 | .error x=>([],x.1,(x.2:Nat))
 | .ok r=>(r,0,0)
def je(acc:List Tk):Except (Int×Nat) (List Tk)->Except (Int×Nat) (List Tk)
 | .error x=>.error x
 | .ok r=>.ok (acc++r)
theorem oK(b:Bool):∀(l:aH),jq false (l.drop (jq b l))=0
 | []=>by simp[jq]
 | c::r=>by
  cases b with
  | true=>
   rw[jq,jH,mM];exact oK _ r
  | false=>
   rw[jq];split
   ·rw[jH,mM];exact oK _ r
   ·split
    ·rw[jH,mM];exact oK _ r
    ·rename_i h1 h2;rw[fK,jq,if_neg h1,if_neg h2]
theorem mg{l:aH}{i:Nat}(hi:i<=l.length):jC l i=jC l (i+jq false (l.drop i)):=by
 have h1:=EV hi;have h2:jq false (l.drop (i+jq false (l.drop i)))=0:=by
  rw[<-jc];exact oK false (l.drop i)
 rw[jx hi,jx h1,h2,fp]
theorem I4{a b:List Tk}{x:Except (Int×Nat) (List Tk)}:je a (je b x)=je (a++b) x:=by
 cases x with
 | error _=>rfl
 | ok r=>simp[je]
theorem EX{w:av}(l:aH)(hE:Er w):
  az aq 72 #[ab (T l)] w fun e w'=>∃rs:Sl,e=ak (ai #[rs.v,ah #[O U (cA l).2.1,O U (cA l).2.2]])/\kX w.heap.size w' rs (cA l).1/\ay [] w w':=by
 refine(aan (T l) (fun v w'=>∃rs:Sl,v=(ai #[rs.v,ah #[O U (cA l).2.1,O U (cA l).2.2]])/\kX w.heap.size w' rs (cA l).1/\ay [] w w') w ?_).mono (by
  rintro e w' ⟨v,rfl,rs,rfl,h⟩;exact⟨rs,rfl,h⟩)
 rw[bW];refine⟨fun hc k0 w0 _ _ hO=>⟨Sl.nil,?_,?_,hO⟩,fun hc k1 w1 kg ju cn=>(I1 w1).mono ?_⟩
 ·rw[cA,if_pos (by have:=aQ hc;omega)]
 ·rw[cA,if_pos (by have:=aQ hc;omega)];exact Own.nil _ _ _ _ _ _
 have DX:l.length<=16384:=by have:=aU hc;omega
 have Xo:cA l=match jC l 0 with
  | .error x=>([],x.1,(x.2:Nat))
  | .ok r=>(r,0,0):=by rw[cA,if_neg (by omega)]
 rintro _ w2 ⟨ws,rfl,hws,cG⟩;refine⟨ws,rfl,cG.same (by simp;omega),fun b w3 hb nC dh P2=>?_⟩;have dL:=cn.cd (cG.cd dh);have z1:=cn.size;have z2:=cG.size;have z3:=dh.size;have hC0:Cut w3 b l 0 Sl.nil []:=⟨⟨ws,P2,(SliceF.only cZ (by decide) ((qY hws).inHeap cZ (by decide)) dh (by simp)).mono cZ fun k hk=>by omega⟩,Own.nil _ _ _ _ _ _,hE.only dL,by have:=hE.lt;omega,bd _,DX⟩
 have sm:∀{u u':av},w2.heap.size<=u.heap.size->aD (fun k=>b<=k) u u'->bS [k1] u u':=fun hu hO=>hO.same (by intro x hx;simp only[aO]at hx;subst hx;omega);refine(NF P2 (bd _) (by omega)).mono ?_;rintro _ w4 ⟨rfl,dI,U1⟩;have p4:aD (fun k=>b<=k) w3 w4:=dI.p fun x hx=>.inl (by simp only[aO]at hx;omega);have hC4:Cut w4 b l (0+jq false (l.drop 0)) Sl.nil []:=hC0.move dI (EV (bd _)) fun LY h'=>by
  have:LY=ws:=by
   unfold aF at h' P2;rw[h']at P2;simp[Sl.v]at P2;cases ws;cases LY;simp_all
  subst this;exact U1
 refine⟨rfl,sm (by omega) p4,T l,_,ws,Sl.nil,U1,fun nv e1 e2 s0 i0 l1 l2 w'=>e1=0/\e2=0/\s0=T l/\∃(i:Nat) (acc:List Tk),i0=(i:Int)/\Cut w' b l i l2 acc/\acc.length<=i/\jq false (l.drop i)=0/\jC l 0=je acc (jC l i)/\nv=l.length-i/\aD (fun k=>b<=k) w3 w'/\aF w' b 198 [ab (T l),O U (i:Int),l1.v,l2.v],l.length-(0+jq false (l.drop 0)),?_,?_⟩
 ·refine⟨rfl,rfl,rfl,_,[],rfl,hC4,bd _,?_,?_,rfl,p4,U1⟩
  ·rw[<-jc];exact oK false (l.drop 0)
  ·rw[<-mg (bd _)];cases jC l 0<;>rfl
 rintro nv _ _ _ _ l1 rs w5 ⟨rfl,rfl,rfl,i,acc,rfl,hC,ey,Zg,nZ,rfl,eh,LS⟩;have z5:=eh.size;have hil:=hC.il;refine(Ue LS).mono ?_;rintro _ w6 ⟨rfl,dR⟩;have hC6:=hC.only dR;have hb6:aF w6 b 198 [ab (T l),O U (i:Int),l1.v,rs.v]:=(dR.block b LS.lt (by simp)).trans LS;have z6:=dR.size;have lj:=jx hC.il;rw[Zg,fp]at lj;refine⟨_,rfl,dR.same (by simp;omega),T l,i,l1,rs,hb6,fun hc=>?_,fun hc=>?_⟩
 ·have bQ:i<l.length:=by simpa using hc
  rw[if_neg (by omega)]at lj;refine(Sg hC6 (by omega) bQ).mono ?_;rintro _ w7 ⟨v,rfl,fN,hd⟩;have p7:aD (fun k=>b<=k) w3 w7:=(eh.cd dR).trans fN fun k hk=>.inl hk;have z7:=fN.size;unfold Mj at hd;cases hq:kY (l.drop i)with
  | error e=>
   rw[hq]at hd lj;obtain⟨rfl,rs7,hC7⟩:=hd;obtain⟨Zh,Xp,_⟩:=hC7.blk;refine⟨e,rfl,sm (by omega) fN,T l,i,Zh,rs7,Xp,fun _ w8 fj _=>⟨Sl.nil,?_,?_,?_⟩,fun he=>absurd (CK hq) (by simpa using he)⟩
   ·rw[Xo,nZ,lj];rfl
   ·rw[Xo,nZ,lj];exact Own.nil _ _ _ _ _ _
   ·exact(((dL.p0 (F:=fun k=>w.heap.size<=k)).trans p7 fun k hk=>.inl (by omega)).trans (fj.p (F:=fun k=>k=k1) fun x hx=>.inl (by simpa using hx)) fun k hk=>.inl (by omega)).only fun k hk=>hk
  | ok q=>
   rw[hq]at hd lj;obtain⟨rfl,rs7,hC7⟩:=hd;obtain⟨Zh,Xp,_⟩:=hC7.blk;have hq1:=sZ hq;have h7l:=hC7.il;refine⟨0,rfl,sm (by omega) fN,T l,(i+q.2.2.2:Nat),Zh,rs7,Xp,fun he=>(by simp at he),fun _=>(NF Xp h7l (by omega)).mono ?_⟩;rintro _ w9 ⟨rfl,fT,Zj⟩;have p9:aD (fun k=>b<=k) w7 w9:=fT.p fun x hx=>.inl (by simp only[aO]at hx;omega);have hC9:=hC7.move fT (EV h7l) fun LY h'=>by
    have:LY=Zh:=by
     unfold aF at h' Xp;rw[h']at Xp;simp[Sl.v]at Xp;cases Zh;cases LY;simp_all
    subst this;exact Zj
   refine⟨rfl,sm (by omega) p9,T l,_,Zh,rs7,Zj,l.length-(i+q.2.2.2+jq false (l.drop (i+q.2.2.2))),by omega,rfl,rfl,rfl,_,_,rfl,hC9,?_,?_,?_,rfl,p7.trans p9 fun k hk=>.inl hk,Zj⟩
   ·rw[aN,bg];omega
   ·rw[<-jc];exact oK false _
   ·rw[nZ,lj,<-mg h7l,<-I4];dsimp only;cases jC l (i+q.2.2.2)<;>rfl
 ·have lR:l.length<=i:=by simpa using hc
  rw[if_pos lR]at lj;refine(I2 hC6 5 [] 0 0 0 (by omega) (by omega)).mono ?_;rintro _ dw ⟨rfl,dM,Xq,adj⟩;obtain⟨aiH,aiI,_⟩:=adj.blk;have p10:aD (fun k=>b<=k) w3 dw:=(eh.cd dR).trans dM fun k hk=>.inl hk;have htt:cA l=(acc++[⟨5,[],0,(i:Nat)⟩],0,0):=by
   rw[Xo,nZ,lj];rfl
  refine⟨rfl,sm (by omega) dM,T l,_,aiH,Xq,aiI,fun dJ dY _=>⟨Xq,?_,?_,?_⟩⟩
  ·rw[htt]
  ·rw[htt];have:kX (b+1) dJ Xq _:=adj.own.keep fun k hk bQ=>dY.block k bQ (by simp only[aO];omega);exact Own.low this (by omega)
  ·exact(((dL.p0 (F:=fun k=>w.heap.size<=k)).trans p10 fun k hk=>.inl (by omega)).trans (dY.p (F:=fun k=>k=k1) fun x hx=>.inl (by simpa using hx)) fun k hk=>.inl (by omega)).only fun k hk=>hk
inductive Ex where
 | mk (k n:Int) (s:aH) (op:Int) (subs:List Ex) (a:Int)
def Ex.k:Ex->Int | .mk k _ _ _ _ _=>k
def Ex.n:Ex->Int | .mk _ n _ _ _ _=>n
def Ex.s:Ex->aH | .mk _ _ s _ _ _=>s
def Ex.op:Ex->Int | .mk _ _ _ op _ _=>op
def Ex.dj:Ex->List Ex | .mk _ _ _ _ l _=>l
def Ex.a:Ex->Int | .mk _ _ _ _ _ a=>a
def tk0:Tk:=⟨5,[],0, -1⟩
def tk(ts:List Tk)(i:Nat):Tk:=(ts[i]?).getD tk0
def sg(ts:List Tk)(i:Nat)(s:aH):Bool:=(tk ts i).k==4&&decide ((tk ts i).t=s)
def fh(ts:List Tk)(i:Nat):Int×Int:=(if(tk ts i).k=5 then 3 else 4,(tk ts i).a)
theorem zy{ts:List Tk}{i:Nat}(h:i<ts.length):ts[i]? =some (tk ts i):=by
 unfold tk;rw[bG h];rfl
def pb(ts:List Tk):Prop:=∀i,i<ts.length->((tk ts i).k=5↔i+1=ts.length)
theorem pb.next{ts:List Tk}(h:pb ts){i:Nat}(hi:i<ts.length)(hk:(tk ts i).k≠5):i+1<ts.length:=by
 have h2:¬(i+1=ts.length):=fun e=>hk ((h i hi).2 e);omega
theorem tK{ts:List Tk}{i:Nat}{s:aH}(h:sg ts i s=true):(tk ts i).k≠5:=by
 simp only[sg,aP,dz]at h;rw[h.1];decide
def tL:List (aH):=[[],[43],[45],[42],[47],[37],[60],[60,61],[62],[62,61],[61,61],[33,61],[38,38],[124,124],[45],[33]]
def eL(op:Int):Int:=if 3<=op/\op<=5 then 5 else if op=1∨op=2 then 4 else if 6<=op/\op<=9 then 3 else if op=10∨op=11 then 2 else if op=12 then 1 else if op=13 then 0 else 6
def dD(op:Nat):aH:=(tL[op]?).getD []
def iQ(ts:List Tk)(k:Int)(i:Nat):Nat->Nat->Int
 | 0,_=>0
 | f+1,op=>if eL (op:Int)=k/\sg ts i (dD op)=true then(op:Int)else iQ ts k i f (op+1)
def jf(ts:List Tk)(k:Int)(i:Nat):Int:=iQ ts k i 13 1
theorem nX{ts:List Tk}{k:Int}{i:Nat}:∀(f op:Nat),iQ ts k i f op≠0->(tk ts i).k≠5
 | 0,_,h=>absurd rfl h
 | f+1,op,h=>by
  rw[iQ]at h;split at h
  ·rename_i hc;exact tK hc.2
  ·exact nX f _ h
abbrev Pr:=Except (Int×Int) (Ex×Nat)
def EY(g:Ex->Ex):Pr->Pr
 | .error e=>.error e
 | .ok (x,j)=>.ok (g x,j)
def zA:Pr->(Ex->Nat->Pr)->Pr
 | .error e,_=>.error e
 | .ok (x,j),g=>g x j
def qJ(ts:List Tk):Pr->Pr
 | .error e=>.error e
 | .ok (x,j)=>if sg ts j [41]then .ok (x,j+1)else .error (fh ts j)
def iC(d:Nat)(a:Int)(r:Pr):Pr:=if d=20 then .error (21,a)else r
def zC(ts:List Tk)(i:Nat):Pr:=
 if sg ts (i+1) [40]then
  (if(tk ts (i+2)).k=1 then
   (if sg ts (i+3) [41]then .ok (.mk 3 0 (tk ts (i+2)).t 0 [] (tk ts i).a,i+4)else .error (fh ts (i+3)))
  else .error (fh ts (i+2)))
 else .error (fh ts (i+1))
def nL(ts:List Tk)(E0 One:Nat->Pr)(d i:Nat):Pr:=
 if(sg ts i [45]||sg ts i [33])=true then EY (fun x=>.mk 4 0 [] (if(tk ts i).t=[33]then 15 else 14) [x] (tk ts i).a) (iC d (tk ts i).a (One (i+1)))
 else if sg ts i [40]=true then iC d (tk ts i).a (qJ ts (E0 (i+1)))
 else if(tk ts i).k=3 then .ok (.mk 1 (tk ts i).n [] 0 [] (tk ts i).a,i+1)
 else if(tk ts i).k=1 then .ok (.mk 2 0 (tk ts i).t 0 [] (tk ts i).a,i+1)
 else if(tk ts i).k=2/\(tk ts i).t=[105,110]then zC ts i
 else .error (fh ts i)
def ir(ts:List Tk)(E:Nat->Pr)(k:Int):Nat->Ex->Nat->Pr
 | 0,x,j=>.ok (x,j)
 | g+1,x,j=>if jf ts k j=0 then .ok (x,j)else zA (E (j+1)) fun y j'=>ir ts E k g (.mk 5 0 [] (jf ts k j) [x,y] x.a) j'
def cQ(ts:List Tk):Nat->Nat->Nat->Nat->Pr
 | 0,_,_,_=>.error (1,0)
 | f+1,k,d,i=>if k=6 then nL ts (cQ ts f 0 (d+1)) (cQ ts f 6 (d+1)) d i else zA (cQ ts f (k+1) d i) fun x j=>ir ts (cQ ts f (k+1) d) (k:Int) (ts.length-j) x j
theorem yi{g:Ex->Ex}{r:Pr}{x:Ex}{j:Nat}(h:EY g r=.ok (x,j)):∃y,r=.ok (y,j)/\x=g y:=by
 cases r with
 | error e=>cases h
 | ok q=>
  obtain⟨y,j'⟩:=q;simp only[EY,dG,dk]at h;obtain⟨rfl,rfl⟩:=h;exact⟨y,rfl,rfl⟩
theorem pU{d:Nat}{a:Int}{r:Pr}{q:Ex×Nat}(h:iC d a r=.ok q):r=.ok q/\d≠20:=by
 unfold iC at h;split at h
 ·cases h
 ·exact⟨h,by assumption⟩
theorem yj{ts:List Tk}{r:Pr}{x:Ex}{j:Nat}(h:qJ ts r=.ok (x,j)):∃j',r=.ok (x,j')/\sg ts j' [41]=true/\j=j'+1:=by
 cases r with
 | error e=>cases h
 | ok q=>
  obtain⟨y,j'⟩:=q;simp only[qJ]at h;split at h
  ·simp only[dG,dk]at h;obtain⟨rfl,rfl⟩:=h;exact⟨j',rfl,by assumption,rfl⟩
  ·cases h
theorem vp{r:Pr}{g:Ex->Nat->Pr}{q:Ex×Nat}(h:zA r g=.ok q):∃x j,r=.ok (x,j)/\g x j=.ok q:=by
 cases r with
 | error e=>cases h
 | ok p=>exact⟨p.1,p.2,rfl,h⟩
theorem Hc{ts:List Tk}{i:Nat}{x:Ex}{j:Nat}(h:zC ts i=.ok (x,j)):j=i+4/\x=.mk 3 0 (tk ts (i+2)).t 0 [] (tk ts i).a:=by
 unfold zC at h;split at h
 ·split at h
  ·split at h
   ·simp only[dG,dk]at h;exact⟨h.2.symm,h.1.symm⟩
   ·cases h
  ·cases h
 ·cases h
theorem K4{ts:List Tk}{E0 One:Nat->Pr}{d i:Nat}{x:Ex}{j:Nat}(hE:∀i x j,E0 i=.ok (x,j)->i<j)(hO:∀i x j,One i=.ok (x,j)->i<j)(h:nL ts E0 One d i=.ok (x,j)):i<j:=by
 unfold nL at h;split at h
 ·obtain⟨y,h1,_⟩:=yi h;have:=hO _ _ _ (pU h1).1;omega
 ·split at h
  ·obtain⟨j',h1,_,rfl⟩:=yj (pU h).1;have:=hE _ _ _ h1;omega
  ·split at h
   ·simp only[dG,dk]at h;omega
   ·split at h
    ·simp only[dG,dk]at h;omega
    ·split at h
     ·have:=(Hc h).1;omega
     ·cases h
theorem zD{ts:List Tk}{E:Nat->Pr}{k:Int}(hE:∀i x j,E i=.ok (x,j)->i<j):∀(g:Nat) (x:Ex) (j:Nat) {x':Ex} {j':Nat},ir ts E k g x j=.ok (x',j')->j<=j'
 | 0,x,j,x',j',h=>by
  simp only[ir,dG,dk]at h;omega
 | g+1,x,j,x',j',h=>by
  rw[ir]at h;split at h
  ·simp only[dG,dk]at h;omega
  ·obtain⟨y,m,h1,h2⟩:=vp h;have:=hE _ _ _ h1;have:=zD hE g _ _ h2;omega
theorem jO{ts:List Tk}:∀(f k d i:Nat) {x:Ex} {j:Nat},cQ ts f k d i=.ok (x,j)->i<j
 | 0,_,_,_,_,_,h=>by cases h
 | f+1,k,d,i,x,j,h=>by
  rw[cQ]at h;split at h
  ·exact K4 (fun i x j h=>jO f _ _ i h) (fun i x j h=>jO f _ _ i h) h
  ·obtain⟨y,m,h1,h2⟩:=vp h;have:=jO f _ _ _ h1;have:=zD (fun i x j h=>jO f _ _ i h) _ _ _ h2;omega
def fx(k d:Nat):Nat:=(20-d)*8+(7-k)
def pc(ts:List Tk)(i:Nat):Pr:=cQ ts (fx 0 0) 0 0 i
structure Rd (F G:aJ) (ts:List Tk) (w:av) (b:Nat) (l sn:Sl) (i:Nat) (fc fa d:Int):Prop where
 blk:aF w b 331 [l.v,O U (i:Int),O U fc,O U fa,O U d,sn.v]
 tok:aA Bj 4 w F l ts
 sig:aA jB 1 w G sn tL
 hF:∀k,F k->k<b
 hG:∀k,G k->k<b
 en:pb ts
 lt:i<ts.length
section
variable {F G:aJ} {ts:List Tk} {w w':av} {b:Nat} {l sn:Sl} {i:Nat} {fc fa d:Int}
theorem Rd.only(h:Rd F G ts w b l sn i fc fa d)(hO:ay [] w w'):Rd F G ts w' b l sn i fc fa d:=
 ⟨hO.blk h.blk (by simp),SliceF.only gI (by decide) h.tok hO (by simp),SliceF.only cZ (by decide) h.sig hO (by simp),h.hF,h.hG,h.en,h.lt⟩
theorem Rd.kz(h:Rd F G ts w b l sn i fc fa d)(hO:ay [b] w w'){i':Nat}{fc' fa' d':Int}(hB:aF w' b 331 [l.v,O U (i':Int),O U fc',O U fa',O U d',sn.v])(hi:i'<ts.length):Rd F G ts w' b l sn i' fc' fa' d':=
 ⟨hB,SliceF.only gI (by decide) h.tok hO fun k hk _ hm=>by have:=h.hF k hk;simp only[aO]at hm;omega,SliceF.only cZ (by decide) h.sig hO fun k hk _ hm=>by have:=h.hG k hk;simp only[aO]at hm;omega,h.hF,h.hG,h.en,hi⟩
theorem Rd.own(h:Rd F G ts w b l sn i fc fa d){bs:List Nat}(hO:ay bs w w')(hb:∀x,x∈bs->b<x):Rd F G ts w' b l sn i fc fa d:=
 ⟨hO.blk h.blk fun hm=>by have:=hb b hm;omega,SliceF.only gI (by decide) h.tok hO fun k hk _ hm=>(by have:=h.hF k hk;have:=hb k hm;omega),SliceF.only cZ (by decide) h.sig hO fun k hk _ hm=>(by have:=h.hG k hk;have:=hb k hm;omega),h.hF,h.hG,h.en,h.lt⟩
theorem Rd.lb(h:Rd F G ts w b l sn i fc fa d):b<w.heap.size:=h.blk.lt
theorem Rd.big(h:Rd F G ts w b l sn i fc fa d):ts.length<=9223372036854775807:=by
 have h1:=h.tok.len;have h2:=h.tok.cap;have h3:=h.tok.big;omega
theorem Rd.now(h:Rd F G ts w b l sn i fc fa d):∃ad,dl l (i:Int) 4 ad/\aB w ad [O U (tk ts i).k,ab (T (tk ts i).t),O U (tk ts i).n,O U (tk ts i).a]:=by
 have hl:=h.tok.len;have bQ:=h.lt;obtain⟨ad,x,cs,g1,g2,g3,g4,g5,g6⟩:=h.tok.get (ba i) (by omega);rw[aX,zy h.lt]at g2;injection g2 with g2;subst g2;unfold Bj at g6;subst g6;exact⟨ad,g1,g5⟩
theorem EZ(h:Rd F G ts w b l sn i fc fa d):az aq 328 #[ae (some ⟨b,0,none⟩)] w fun e w'=>e=ak (tk ts i).v/\ay [] w w':=by
 refine ret (aga _ _ _ ?_);intro k0 w0 hk um hO;have h0:=h.only hO;obtain⟨ad,g1,g2⟩:=h0.now;exact⟨l,Blk.ec h0.blk 0 rfl,_,Blk.ec h0.blk 1 rfl,ad,g1,_,_,_,_,g2,fun w1 cn=>⟨rfl,hO.new cn hk⟩⟩
theorem Bk(h:Rd F G ts w b l sn i fc fa d):az aq 307 #[ae (some ⟨b,0,none⟩)] w fun e w'=>e=ak (aj (fc !=0))/\ay [] w w':=by
 refine ret (v7w _ _ _ ?_);exact⟨fc,Blk.ec h.blk 2 rfl,rfl,Only.refl _ _⟩
theorem CL(h:Rd F G ts w b l sn i fc fa d)(c:Int):az aq 336 #[ae (some ⟨b,0,none⟩),O U c] w fun e w'=>e=ak (ai #[])/\ay [b] w w'/\
  Rd F G ts w' b l sn i (if fc=0 then c else fc) (if fc=0 then(tk ts i).a else fa) d:=by
 refine ret (agc _ _ _ _ ?_);refine(Bk h).mono ?_;rintro _ w0 ⟨rfl,ch⟩;have h0:=h.only ch;refine⟨_,rfl,fun hc=>(EZ h0).mono ?_,fun hc=>?_⟩
 ·have hc:fc=0:=by simpa using hc
  subst hc;rintro _ w1 ⟨rfl,cn⟩;have h1:=h0.only cn;refine⟨_,_,_,_,rfl,b,2,_,_,rfl,h1.blk,by simp,fun w2 cG lm=>⟨rfl,(ch.cd cn).weaken (fun _ h=>(by cases h)) |>.trans cG (fun x hx=>.inl hx),?_⟩⟩;rw[if_pos rfl,if_pos rfl];exact h1.kz cG lm h.lt
 ·have hc:fc≠0:=by simpa using hc
  rw[if_neg hc,if_neg hc];exact⟨rfl,ch.weaken fun _ h=>(by cases h),h0⟩
theorem CM(h:Rd F G ts w b l sn i fc fa d):az aq 334 #[ae (some ⟨b,0,none⟩)] w fun e w'=>e=ak (ai #[])/\ay [b] w w'/\
  Rd F G ts w' b l sn i (if fc=0 then(fh ts i).1 else fc) (if fc=0 then(fh ts i).2 else fa) d:=by
 refine ret (age _ _ _ ?_);refine⟨fun w'=>ay [b] w w'/\((tk ts i).k=5->Rd F G ts w' b l sn i (if fc=0 then 3 else fc) (if fc=0 then(tk ts i).a else fa) d)/\((tk ts i).k≠5->Rd F G ts w' b l sn i fc fa d),?_,(EZ h).mono ?_⟩
 ·rintro w0 ⟨ch,h1,h2⟩;by_cases hk:(tk ts i).k=5
  ·refine(CL (h1 hk) 4).mono ?_;rintro _ w1 ⟨rfl,cn,hR⟩;refine⟨rfl,rfl,ch.trans cn (fun x hx=>.inl hx),?_⟩;unfold fh;rw[if_pos hk];by_cases hc:fc=0
   ·rw[if_pos hc,if_pos hc,if_neg (by decide),if_neg (by decide)]at hR;rw[if_pos hc,if_pos hc];exact hR
   ·rw[if_neg hc,if_neg hc,if_neg hc,if_neg hc]at hR;rw[if_neg hc,if_neg hc];exact hR
  ·refine(CL (h2 hk) 4).mono ?_;rintro _ w1 ⟨rfl,cn,hR⟩;refine⟨rfl,rfl,ch.trans cn (fun x hx=>.inl hx),?_⟩;unfold fh;rw[if_neg hk];exact hR
 ·rintro _ w2 ⟨rfl,cG⟩;have h2:=h.only cG;refine⟨_,_,_,_,rfl,fun hc=>(CL h2 3).mono ?_,fun hc=>⟨cG.weaken fun _ h=>(by cases h),fun e=>?_,fun _=>h2⟩⟩
  ·rintro _ w3 ⟨rfl,dh,hR⟩;exact⟨rfl,cG.weaken (fun _ h=>(by cases h)) |>.trans dh (fun x hx=>.inl hx),fun _=>hR,fun e=>absurd (by simpa using hc) e⟩
  ·rw[e]at hc;simp at hc
theorem abw(h:Rd F G ts w b l sn i fc fa d){H:aJ}{s:Sl}{ss:List (aH)}(hs:aA jB 1 w H s ss):az aq 329 #[ae (some ⟨b,0,none⟩),s.v] w fun e w'=>
  e=ak (aj (fc==0&&(tk ts i).k==4&&ss.contains (tk ts i).t))/\ay [] w w':=by
 refine ret (v8w _ _ _ _ ?_);refine(EZ h).mono ?_;rintro _ w0 ⟨rfl,ch⟩;refine⟨_,_,_,_,rfl,fun k0 w1 hk um cn=>⟨fun c w'=>c=(fc==0&&(tk ts i).k==4&&ss.contains (tk ts i).t)/\ay [] w w',fun c w2 h2=>⟨by rw[h2.1],h2.2⟩,?_⟩⟩;have fG:=ch.cd cn;refine(Bk (h.only fG)).mono ?_;rintro _ w3 ⟨rfl,dh⟩;have e:(!(fc !=0))=(fc==0):=by cases h:(fc==0)<;>simp[bne,h]
 refine⟨_,rfl,dh.same (by simp;omega),fun hc=>(rS (SliceF.only cZ (by decide) hs (fG.cd dh) (by simp)) _).mono ?_,fun hc=>⟨?_,fG.cd dh⟩⟩
 ·rintro _ w4 ⟨rfl,dI⟩;rw[e]at hc;have hl:=h.lb;have z3:=dh.size;exact⟨_,rfl,dI.same (by simp;omega),by rw[hc,bT],fG.cd (dh.cd dI)⟩
 ·rw[e]at hc;rw[hc,du]
theorem is1(h:Rd F G ts w b l sn i fc fa d)(s:aH):∃(s0:Sl) (w0:av),(au 52 1 #[.mk 0 (ab (T s))]).run aq w=.ok s0.v w0/\ay [] w w0/\
  az aq 329 #[ae (some ⟨b,0,none⟩),s0.v] w0 fun e w'=>e=ak (aj (fc==0&&sg ts i s))/\ay [] w0 w':=by
 obtain⟨s0,w0,k1,k2,k3⟩:=jd w [s] (n:=1) (parts:=#[(0,ab (T s))]) rfl rfl (by decide) (by decide);refine⟨s0,w0,k1,k3,(abw (h.only k3) (qY k2)).mono ?_⟩;rintro _ w1 ⟨rfl,cn⟩;have e:[s].contains (tk ts i).t=decide ((tk ts i).t=s):=by
  by_cases e:(tk ts i).t=s
  ·rw[bF e,e];simp
  ·rw[bn e];simp[e]
 refine⟨?_,cn⟩;unfold sg;rw[ub,e]
theorem is2(h:Rd F G ts w b l sn i fc fa d):∃(s0:Sl) (w0:av),(au 52 2 #[.mk 0 (ab (ao #[45])),.mk 1 (ab (ao #[33]))]).run aq w=.ok s0.v w0/\ay [] w w0/\
  az aq 329 #[ae (some ⟨b,0,none⟩),s0.v] w0 fun e w'=>e=ak (aj (fc==0&&(sg ts i [45]||sg ts i [33])))/\ay [] w0 w':=by
 obtain⟨s0,w0,k1,k2,k3⟩:=jd w [[45],[33]] (n:=2) (parts:=#[(0,ab (T [45])),(1,ab (T [33]))]) rfl rfl (by decide) (by decide);refine⟨s0,w0,k1,k3,(abw (h.only k3) (qY k2)).mono ?_⟩;rintro _ w1 ⟨rfl,cn⟩;have e:[[45],[33]].contains (tk ts i).t=(decide ((tk ts i).t=[45])||decide ((tk ts i).t=[33])):=by
  rw[bI];simp
 refine⟨?_,cn⟩;unfold sg;rw[ub,<-Bool.and_or_distrib_left,e]
theorem zE(h:Rd F G ts w b l sn i fc fa d)(s:aH):az aq 332 #[ae (some ⟨b,0,none⟩),ab (T s)] w fun e w'=>e=ak (ai #[])/\ay [b] w w'/\
  (if fc==0&&sg ts i s then Rd F G ts w' b l sn (i+1) fc fa d else Rd F G ts w' b l sn i (if fc=0 then(fh ts i).1 else fc) (if fc=0 then(fh ts i).2 else fa) d):=by
 refine ret (v9w _ _ _ _ ?_);obtain⟨s0,w0,k1,k2,k3⟩:=is1 h s;refine⟨s0,w0,k1,k3.mono ?_⟩;rintro _ w1 ⟨rfl,cn⟩;have h1:=h.only (k2.cd cn);have fG:ay [b] w w1:=(k2.cd cn).weaken fun _ h=>(by cases h)
 refine⟨_,rfl,fun hc=>(CM h1).mono ?_,fun hc=>?_⟩
 ·rintro _ w2 ⟨rfl,cG,hR⟩;have hc:(fc==0&&sg ts i s)=false:=by rwa[cx]at hc
  rw[hc];exact⟨rfl,rfl,fG.trans cG (fun x hx=>.inl hx),hR⟩
 ·have hc:(fc==0&&sg ts i s)=true:=by rwa[gP]at hc
  rw[hc];simp only[aP]at hc;have hn:=h.en.next h.lt (tK hc.2);have hb:=h.big;refine⟨(i:Int),Blk.ec h1.blk 1 rfl,b,1,_,_,rfl,h1.blk,by simp,fun w3 dh ru=>⟨rfl,fG.trans dh (fun x hx=>.inl hx),h1.kz dh ?_ hn⟩⟩;rw[fH (by omega) (by omega)]at ru;exact ru
theorem I5(h:Rd F G ts w b l sn i fc fa d):az aq 333 #[ae (some ⟨b,0,none⟩)] w fun e w'=>ay [b] w w'/\
  (if fc=0/\(tk ts i).k=1 then e=ak (ab (T (tk ts i).t))/\Rd F G ts w' b l sn (i+1) fc fa d else e=ak (ab (T []))/\Rd F G ts w' b l sn i (if fc=0 then(fh ts i).1 else fc) (if fc=0 then(fh ts i).2 else fa) d):=by
 refine(agf ⟨b,0,none⟩ (fun v w'=>ay [b] w w'/\(if fc=0/\(tk ts i).k=1 then v=(ab (T (tk ts i).t))/\Rd F G ts w' b l sn (i+1) fc fa d else v=(ab (T []))/\Rd F G ts w' b l sn i (if fc=0 then(fh ts i).1 else fc) (if fc=0 then(fh ts i).2 else fa) d)) w ?_).mono (by
  rintro e w' ⟨v,rfl,hO,hv⟩;refine⟨hO,?_⟩;split at hv
  ·rename_i hc;rw[if_pos hc];exact⟨by rw[hv.1],hv.2⟩
  ·rename_i hc;rw[if_neg hc];exact⟨by rw[hv.1],hv.2⟩)
 refine(EZ h).mono ?_;rintro _ w0 ⟨rfl,ch⟩;refine⟨_,_,_,_,rfl,fun k0 w1 hk um cn=>?_⟩;have fG:=ch.cd cn;have z0:=ch.size;have hl:=h.lb;refine(Bk (h.only fG)).mono ?_;rintro _ w2 ⟨rfl,cG⟩;have z2:=cG.size;have h2:=h.only (fG.cd cG);have js:ay [b] w w2:=(fG.cd cG).weaken fun _ h=>(by cases h)
 refine⟨_,rfl,cG.same (by simp;omega),fun hc=>(CM h2).mono ?_,fun hc=>?_⟩
 ·rintro _ w3 ⟨rfl,dh,hR⟩;refine⟨rfl,dh.same (by simp;omega),js.trans dh (fun x hx=>.inl hx),?_⟩;rw[if_neg (fun hh=>by rw[hh.1,hh.2]at hc;simp at hc)];exact⟨rfl,hR⟩
 ·have hc:fc=0/\(tk ts i).k=1:=by simpa using hc
  have hn:=h.en.next h.lt (by rw[hc.2];decide);have hb:=h.big;refine⟨(i:Int),Blk.ec h2.blk 1 rfl,b,1,_,_,rfl,h2.blk,by simp,by omega,fun w3 dh ru=>⟨js.trans dh (fun x hx=>.inl hx),?_⟩⟩;rw[if_pos hc];refine⟨rfl,h2.kz dh ?_ hn⟩;rw[fH (by omega) (by omega)]at ru;exact ru
end
theorem Hd(w:av)(op:Int):az aq 293 #[O U op] w fun e w'=>e=ak (O U (eL op))/\w'=w:=by
 refine ret (agi _ _ _ ?_);have fin:∀{k:Int} {w1:av},eL op=k->(Value.int U k=O U (eL op)/\w1=w1):=fun e=>⟨by rw[e],rfl⟩
 refine⟨fun h=>fin ?_,fun h=>⟨fun b w'=>b=decide (op=1∨op=2)/\w'=w,?_,fun h1=>⟨?_,rfl⟩,fun h1=>⟨?_,rfl⟩⟩⟩
 ·simp only[aP,bA]at h;unfold eL;rw[if_pos (by omega)]
 ·rintro _ w1 ⟨rfl,rfl⟩;have h:¬(3<=op/\op<=5):=fun hh=>by rw[bF hh.1,bF hh.2]at h;cases h
  refine⟨fun h1=>fin ?_,fun h1=>⟨fun h2=>fin ?_,fun h2=>⟨fun b w2=>b=decide (op=10∨op=11)/\w2=w1,?_,fun h3=>⟨?_,rfl⟩,fun h3=>⟨?_,rfl⟩⟩⟩⟩
  ·have h1:=aQ h1;unfold eL;rw[if_neg h,if_pos h1]
  ·have h1:=aU h1;simp only[aP,bA]at h2;unfold eL;rw[if_neg h,if_neg h1,if_pos (by omega)]
  ·rintro _ _ ⟨rfl,rfl⟩;have h1:=aU h1;have h2:¬(6<=op/\op<=9):=fun hh=>by rw[bF hh.1,bF hh.2]at h2;cases h2
   refine⟨fun h3=>fin ?_,fun h3=>⟨fun h4=>fin ?_,fun h4=>⟨fun h5=>fin ?_,fun h5=>fin ?_⟩⟩⟩
   ·have h3:=aQ h3;unfold eL;rw[if_neg h,if_neg h1,if_neg h2,if_pos h3]
   ·have h3:=aU h3;have h4:op=12:=by simpa using h4
    unfold eL;rw[if_neg h,if_neg h1,if_neg h2,if_neg h3,if_pos h4]
   ·have h3:=aU h3;have h4:¬op=12:=by simpa using h4
    have h5:op=13:=by simpa using h5
    unfold eL;rw[if_neg h,if_neg h1,if_neg h2,if_neg h3,if_neg h4,if_pos h5]
   ·have h3:=aU h3;have h4:¬op=12:=by simpa using h4
    have h5:¬op=13:=by simpa using h5
    unfold eL;rw[if_neg h,if_neg h1,if_neg h2,if_neg h3,if_neg h4,if_neg h5]
  ·have h3:op=10:=by simpa using h3
   rw[h3];rfl
  ·have h3:¬op=10:=by simpa using h3
   rw[bI];simp[h3]
 ·have h1:op=1:=by simpa using h1
  rw[h1];rfl
 ·have h1:¬op=1:=by simpa using h1
  rw[bI];simp[h1]
section
variable {F G:aJ} {ts:List Tk} {w w':av} {b:Nat} {l sn:Sl} {i:Nat} {fc fa d:Int}
theorem zF(h:Rd F G ts w b l sn i fc fa d)(k:Int):az aq 319 #[ae (some ⟨b,0,none⟩),O U k] w fun e w'=>e=ak (O U (if fc=0 then jf ts k i else 0))/\ay [] w w':=by
 refine ret (agh _ _ _ _ ?_);refine⟨fun nv i0 w'=>∃op:Nat,1<=op/\op<=14/\i0=(op:Int)/\nv=14-op/\(if fc=0 then jf ts k i else 0)=(if fc=0 then iQ ts k i (14-op) op else 0)/\ay [] w w',13,⟨1,by decide,by decide,rfl,rfl,rfl,Only.refl _ _⟩,?_⟩;rintro nv _ w0 ⟨op,h1,h2,rfl,rfl,hV,ch⟩;refine⟨fun hc=>?_,fun hc=>?_⟩
 ·have hc:(op:Int)<=13:=aQ hc;obtain⟨m,hm⟩:∃m,14-op=m+1:=⟨13-op,by omega⟩
  rw[hm,iQ]at hV;refine⟨fun c w'=>c=(decide (eL (op:Int)=k)&&(fc==0&&sg ts i (dD op)))/\ay [] w w',?_,fun w2 cG=>(Hd w2 _).mono ?_⟩
  ·rintro _ w1 ⟨rfl,cn⟩;refine⟨fun hb=>⟨?_,cn⟩,fun hb=>⟨m,by omega,op+1,by omega,by omega,by rw[fH (by omega) (by omega)];rfl,by omega,?_,cn⟩⟩
   ·simp only[aP,bA,dz]at hb;rw[hV,if_pos hb.2.1,if_pos ⟨hb.1,hb.2.2⟩]
   ·rw[hV,show 14-(op+1)=m by omega];by_cases h0:fc=0
    ·rw[if_pos h0,if_pos h0,if_neg];rintro⟨e1,e2⟩;rw[bF e1,e2,h0]at hb;simp at hb
    ·rw[if_neg h0,if_neg h0]
  ·rintro _ w3 ⟨rfl,rfl⟩;have h3:=h.only (ch.cd cG);refine⟨_,rfl,fun hk=>?_,fun hk=>?_⟩
   ·have hk:eL (op:Int)=k:=by simpa using hk
    have hn:=h3.sig.len;have hol:tL.length=16:=rfl;obtain⟨ad,x,cs,g1,g2,g3,g4,g5,g6⟩:=h3.sig.get (i:=(op:Int)) (by omega) (by omega);unfold jB at g6;subst g6;rw[aX]at g2;have hx:dD op=x:=by unfold dD;rw[g2];rfl
    subst hx;obtain⟨s0,w4,k1,k2,k3⟩:=is1 h3 (dD op);refine⟨sn,Blk.ec h3.blk 5 rfl,ad,g1,_,g5,s0,w4,k1,k3.mono ?_⟩;rintro _ w5 ⟨rfl,eh⟩;exact⟨_,rfl,by rw[bF hk,bT],ch.cd (cG.cd (k2.cd eh))⟩
   ·have hk:¬eL (op:Int)=k:=by simpa using hk
    exact⟨by rw[bn hk,du],ch.cd cG⟩
 ·have hc:¬(op:Int)<=13:=aU hc;have:op=14:=by omega
  subst this;rw[hV];refine⟨?_,ch⟩;split<;>rfl
end
abbrev j6(k n:Int)(s:aH)(op:Int)(sl:Sl)(a:Int):aI:=[O U k,O U n,ab (T s),O U op,sl.v,O U a]
inductive RXN (w:av) (N:aJ):Nat->Nat->Ex->aI->Prop
 | leaf (lo hi:Nat) (k n:Int) (s:aH) (op a:Int):RXN w N lo hi (.mk k n s op [] a) (j6 k n s op Sl.nil a)
 | one (lo m g hi:Nat) (k n:Int) (s:aH) (op a:Int) (x:Ex) (cs:aI):RXN w N lo m x cs->lo<=g->m<=g->g<hi->¬N g->aF w g 51 cs->RXN w N lo hi (.mk k n s op [x] a) (j6 k n s op ⟨some ⟨g,0,none⟩,1,1⟩ a)
 | two (lo m m' m2 g hi:Nat) (k n:Int) (s:aH) (op a:Int) (x y:Ex) (cs ds:aI):RXN w N lo m x cs->m<=m'->RXN w N m' m2 y ds->lo<=m'->m<=g->m'<=g->m2<=g->g<hi->¬N g->aF w g 51 (cs++ds)->RXN w N lo hi (.mk k n s op [x,y] a) (j6 k n s op ⟨some ⟨g,0,none⟩,2,2⟩ a)
abbrev RX(w:av):Nat->Nat->Ex->aI->Prop:=RXN w fun _=>False
section
variable {w w':av} {N N':aJ} {lo hi:Nat} {x:Ex} {cs:aI}
theorem RXN.keep(h:RXN w N lo hi x cs):(∀k,lo<=k->k<hi->¬N k->k<w.heap.size->w'.heap[k]? =w.heap[k]?)->RXN w' N lo hi x cs:=by
 induction h with
 | leaf lo hi k n s op a=>exact fun _=>.leaf ..
 | one lo m g hi k n s op a x cs h1 h2 h3 h4 hn h5 ih=>
  intro hk;exact .one lo m g hi k n s op a x cs (ih fun j h6 h7 h8=>hk j h6 (by omega) h8) h2 h3 h4 hn ((hk g h2 h4 hn h5.lt).trans h5)
 | two lo m m' m2 g hi k n s op a x y cs ds h1 h2 h3 h4 h5 h6 h7 h8 hn h9 A0 DY=>
  intro hk;exact .two lo m m' m2 g hi k n s op a x y cs ds (A0 fun j a1 a2 a3=>hk j a1 (by omega) a3) h2 (DY fun j a1 a2 a3=>hk j (by omega) (by omega) a3) h4 h5 h6 h7 h8 hn ((hk g (by omega) h8 hn h9.lt).trans h9)
theorem RXN.wide(h:RXN w N lo hi x cs):∀{Zk xD:Nat},Zk<=lo->hi<=xD->RXN w N Zk xD x cs:=by
 induction h with
 | leaf lo hi k n s op a=>exact fun _ _=>.leaf ..
 | one lo m g hi k n s op a x cs h1 h2 h3 h4 hn h5 ih=>
  intro Zk xD a1 a2;exact .one Zk m g xD k n s op a x cs (ih a1 (aW _)) (by omega) h3 (by omega) hn h5
 | two lo m m' m2 g hi k n s op a x y cs ds h1 h2 h3 h4 h5 h6 h7 h8 hn h9 A0 DY=>
  intro Zk xD a1 a2;exact .two Zk m m' m2 g xD k n s op a x y cs ds (A0 a1 (aW _)) h2 h3 (by omega) h5 h6 h7 (by omega) hn h9
theorem RXN.BS(h:RXN w N lo hi x cs):(∀k,lo<=k->k<hi->¬N k->¬N' k)->RXN w N' lo hi x cs:=by
 induction h with
 | leaf lo hi k n s op a=>exact fun _=>.leaf ..
 | one lo m g hi k n s op a x cs h1 h2 h3 h4 hn h5 ih=>
  intro hk;exact .one lo m g hi k n s op a x cs (ih fun j h6 h7=>hk j h6 (by omega)) h2 h3 h4 (hk g h2 h4 hn) h5
 | two lo m m' m2 g hi k n s op a x y cs ds h1 h2 h3 h4 h5 h6 h7 h8 hn h9 A0 DY=>
  intro hk;exact .two lo m m' m2 g hi k n s op a x y cs ds (A0 fun j a1 a2=>hk j a1 (by omega)) h2 (DY fun j a1 a2=>hk j (by omega) (by omega)) h4 h5 h6 h7 h8 (hk g (by omega) h8 hn) h9
theorem RXN.cells(h:RXN w N lo hi x cs):∃sl:Sl,cs=j6 x.k x.n x.s x.op sl x.a/\(sl.n=x.dj.length):=by
 cases h with
 | leaf=>exact⟨_,rfl,rfl⟩
 | one=>exact⟨_,rfl,rfl⟩
 | two=>exact⟨_,rfl,rfl⟩
theorem RXN.only(h:RXN w N lo hi x cs){bs:List Nat}(hO:ay bs w w')(hb:∀k,k∈bs->k<lo∨hi<=k∨N k):RXN w' N lo hi x cs:=
 h.keep fun k h1 h2 hn h3=>hO.block k h3 fun hm=>by
  rcases hb k hm with e | e | e
  ·omega
  ·omega
  ·exact hn e
end
theorem zG(w:av)(vs:List (aI))(hv:∀v,v∈vs->v.length=6)(h0:0<vs.length)(hm:vs.length<=100){parts:Array (Nat×aw)}(hp:parts=(((vs.map fun v=>Value.agg v.toArray).zipIdx 0).map fun x=>(x.2,x.1)).toArray):
  ∃w',(au 49 vs.length parts).run aq w=.ok (Sl.v ⟨some ⟨w.heap.size,0,none⟩,vs.length,vs.length⟩) w'/\aF w' w.heap.size 51 vs.flatten/\ay [] w w':=by
 have hc:((vs.map fun v=>Value.agg v.toArray).flatMap fun v=>v.cells.toList)=vs.flatten:=by
  clear hv h0 hm hp
  induction vs with
  | nil=>rfl
  | cons v vs ih=>rw[bE,List.flatMap_cons,ih,cJ];rfl
 have hs:Tryz.t51.size=6:=rfl;have sJ:=run_buildSlice (P:=aq) w 49 51 vs.length parts ((vs.map fun v=>Value.agg v.toArray).flatMap fun v=>v.cells.toList).toArray Tryz.t51 _ (by kernel_rfl) (by kernel_rfl) rfl (by rw[hs];omega) (by rw[hs];omega)
  (by
   subst hp;rw[fD,hs];refine Go.Great.fill_whole (s:=6) (by decide) (vs.map fun v=>Value.agg v.toArray) _ (fun v hm=>?_) ?_
   ·obtain⟨x,hx,rfl⟩:=kF.1 hm;have:=hv x hx;simpa[Value.cells]using this
   ·simp)
 rw[hc]at sJ;exact⟨_,sJ,Blk.alloc w _ _,Only.alloc _ _⟩
def exT(v:aw):Prop:=∃(k n:Int) (s:aH) (op:Int) (sl:Sl) (a:Int),v=ah (j6 k n s op sl a).toArray
def og(F G:aJ)(ts:List Tk)(w w':av)(b:Nat)(l sn:Sl)(d:Nat)(r:Pr)(v:aw):Prop:=ay [b] w w'/\match r with
 | .ok (x,j)=>∃cs,v=ah cs.toArray/\RX w' w.heap.size w'.heap.size x cs/\Rd F G ts w' b l sn j 0 0 (d:Int)
 | .error e=>e.1≠0/\exT v/\∃j,Rd F G ts w' b l sn j e.1 e.2 (d:Int)
section
variable {F G:aJ} {ts:List Tk} {w w':av} {b:Nat} {l sn:Sl} {i:Nat} {fc fa d:Int}
theorem fk:(fh ts i).1≠0:=by
 unfold fh;dsimp only;split<;>decide
theorem E1{d:Nat}(hd:d<=20)(h:Rd F G ts w b l sn i 0 0 (d:Int))(hi:i+1<ts.length){g:Nat}{z1 z2:aI}(hg:∀(x:Array aw) (w:av),(callFunc g x).run aq w=.ok (.enter g x) w)(f:OV)(hf:f.v=.func (.func g) z1.toArray z2.toArray){r:Pr}
  (hr:d≠20->∀w1,ay [b] w w1->Rd F G ts w1 b l sn (i+1) 0 0 ((d+1:Nat):Int)->az aq g (z1++z2).toArray w1 fun e w'=>∃v,e=ak v/\og F G ts w1 w' b l sn (d+1) r v):
  az aq 330 #[ae (some ⟨b,0,none⟩),f.v] w fun e w'=>∃v,e=ak v/\og F G ts w w' b l sn d (iC d (tk ts i).a r) v:=by
 refine agb ⟨b,0,none⟩ f (fun v w'=>og F G ts w w' b l sn d (iC d (tk ts i).a r) v) w ?_;intro k0 w0 hk um ch;have hb:=h.lb;have h0:=h.only ch;refine⟨(d:Int),Blk.ec h0.blk 4 rfl,fun hc=>(CL h0 21).mono ?_,fun hc=>?_⟩
 ·have hc:d=20:=by have:(d:Int)=20:=(by simpa using hc);omega
  rintro _ w1 ⟨rfl,cn,hR⟩;rw[if_pos rfl,if_pos rfl]at hR;have z1:=cn.size;refine⟨rfl,cn.same (by simp;omega),fun w2 cG=>⟨?_,?_⟩⟩
  ·exact((ch.weaken (bs':=[b]) fun _ h=>(by cases h)).trans cn fun x hx=>.inl hx).new cG hk
  ·rw[iC,if_pos hc];exact⟨(by decide:(21:Int)≠0),⟨0,0,[],0,Sl.nil,0,rfl⟩,i,hR.own cG (by simp;omega)⟩
 ·have hc:d≠20:=fun e=>by subst e;simp at hc
  have P3:=h.big;refine⟨(i:Int),Blk.ec h0.blk 1 rfl,b,1,_,_,rfl,h0.blk,by simp,by omega,fun w3 dh ru=>?_⟩;rw[fH (by omega) (by omega)]at ru;have h3:Rd F G ts w3 b l sn (i+1) 0 0 (d:Int):=h0.kz dh ru hi;have z3:=dh.size;refine⟨(d:Int),Blk.ec h3.blk 4 rfl,b,4,_,_,rfl,h3.blk,by simp,by omega,fun w4 dI qs=>?_⟩;rw[fH (by omega) (by omega)]at qs;have h4:Rd F G ts w4 b l sn (i+1) 0 0 ((d+1:Nat):Int):=h3.kz dI qs hi;have z4:=dI.size;have pr:ay [b] w w4:=((ch.weaken (bs':=[b]) fun _ h=>(by cases h)).trans dh fun x hx=>.inl hx).trans dI fun x hx=>.inl hx;refine⟨g,z1,z2,hf,hg,?_⟩;have e:zi (zi z1 []) z2=z1++z2:=by unfold zi;rw[bL]
  rw[e];refine(hr hc w4 pr h4).mono ?_;rintro _ w6 ⟨v,rfl,dR,hd⟩;have z6:=dR.size;rw[iC,if_neg hc];have hv:∃(k n:Int) (s:aH) (op:Int) (sl:Sl) (a:Int),v=ah (j6 k n s op sl a).toArray:=by
   cases r with
   | error e=>exact hd.2.1
   | ok q=>
    obtain⟨cs,rfl,hx,_⟩:=hd;obtain⟨sl,rfl,_⟩:=hx.cells;exact⟨_,_,_,_,_,_,rfl⟩
  obtain⟨vk,vn,vs,vo,vsl,va,rfl⟩:=hv;refine⟨_,_,_,_,_,_,rfl,dR.same (by simp;omega),fun k8 w7 hk8 Tv fN=>?_⟩;have z7:=fN.size;have key:∀{j:Nat} {fc fa:Int},Rd F G ts w6 b l sn j fc fa ((d+1:Nat):Int)->∃i7:Int,aB w7 (Addr.add ⟨b,0,none⟩ 4) [O U i7]/\∃k9 rr:Nat,∃z4:aI,∃pE:Nat,(Addr.add ⟨b,0,none⟩ 4)=⟨k9,rr,none⟩/\aF w7 k9 pE z4/\(rr+1)<=z4.length/\k0≠k9/\k8≠k9/\
    ∀w8:av,ay [k9] w7 w8->aF w8 k9 pE (ca z4 rr [O U (ar U (i7-1))])->∀w9:av,ay [k0] w8 w9->ay [b] w w9/\ay [b,k0] w6 w9/\Rd F G ts w9 b l sn j fc fa (d:Int):=fun{j fc fa} h6=>by
   have h7:=h6.only fN;refine⟨((d+1:Nat):Int),Blk.ec h7.blk 4 rfl,b,4,_,_,rfl,h7.blk,by simp,by omega,by omega,fun w8 fj uR w9 fT=>?_⟩;have ed:((d+1:Nat):Int)-1=d:=by omega
   rw[ed,fH (by omega) (by omega)]at uR;have h8:Rd F G ts w8 b l sn j fc fa (d:Int):=h7.kz fj uR h7.lt;have adn:ay [b,k0] w6 w9:=((fN.weaken (bs':=[b,k0]) fun _ h=>(by cases h)).trans fj fun x hx=>.inl (by simp only[aO]at hx;simp[hx])).trans fT fun x hx=>.inl (by simp only[aO]at hx;simp[hx]);exact⟨(pr.trans dR fun x hx=>.inl hx).trans adn (fun x hx=>by
    simp only[aY,bf,cb]at hx;rcases hx with rfl | rfl
    ·exact .inl (by simp)
    ·exact .inr hk),adn,h8.own fT (by simp;omega)⟩
  have Zl:=hd;cases r with
  | error e=>
   obtain⟨h1,h2,j,h3⟩:=Zl;obtain⟨i7,k1,k9,rr,z,pE,k2,k3,k4,k5,k6,k7⟩:=key h3;refine⟨i7,k1,k9,rr,z,pE,k2,k3,k4,k5,k6,fun w8 fj uR w9 fT=>?_⟩;obtain⟨a1,a2,a3⟩:=k7 w8 fj uR w9 fT;exact⟨a1,h1,h2,j,a3⟩
  | ok q=>
   obtain⟨x,j⟩:=q;obtain⟨cs,h1,h2,h3⟩:=Zl;obtain⟨i7,k1,k9,rr,z,pE,k2,k3,k4,k5,k6,k7⟩:=key h3;refine⟨i7,k1,k9,rr,z,pE,k2,k3,k4,k5,k6,fun w8 fj uR w9 fT=>?_⟩;obtain⟨a1,a2,a3⟩:=k7 w8 fj uR w9 fT;have z9:=a2.size;exact⟨a1,cs,h1,(h2.only a2 fun k hk=>.inl (by simp only[aY,bf,cb]at hk;omega)).wide (by omega) z9,a3⟩
end
section
variable {F G:aJ} {ts:List Tk} {w w':av} {b:Nat} {l sn:Sl} {i:Nat} {fc fa d:Int}
theorem og.oy{w w':av}{d:Nat}{r:Pr}{v:aw}(h:og F G ts w w' b l sn d r v):exT v:=by
 obtain⟨_,h⟩:=h;cases r with
 | error e=>exact h.2.1
 | ok q=>
  obtain⟨cs,rfl,hx,_⟩:=h;obtain⟨sl,rfl,_⟩:=hx.cells;exact⟨_,_,_,_,_,_,rfl⟩
theorem og.Ar{w0 w1 w2 w3:av}{d:Nat}{r:Pr}{v:aw}(h:og F G ts w1 w2 b l sn d r v)(ch:ay [b] w0 w1){bs:List Nat}(cG:ay bs w2 w3)(hb:∀x,x∈bs->b<x/\w0.heap.size<=x/\x<w1.heap.size):og F G ts w0 w3 b l sn d r v:=by
 obtain⟨hO,h⟩:=h;have z0:=ch.size;have z1:=hO.size;have z2:=cG.size;refine⟨(ch.trans hO fun x hx=>.inl hx).trans cG fun x hx=>.inr (hb x hx).2.1,?_⟩;cases r with
 | error e=>
  obtain⟨h1,h2,j,h3⟩:=h;exact⟨h1,h2,j,h3.own cG fun x hx=>(hb x hx).1⟩
 | ok q=>
  obtain⟨cs,h1,h2,h3⟩:=h;exact⟨cs,h1,(h2.only cG fun x hx=>.inl (hb x hx).2.2).wide z0 z2,h3.own cG fun x hx=>(hb x hx).1⟩
theorem aby{d:Nat}{r:Pr}{k0:Nat}(h:Rd F G ts w b l sn i 0 0 (d:Int))(hk:b<k0)(hB:aF w k0 327 [ae (some ⟨b,0,none⟩)])
  (hE:∀w1,ay [] w w1->az aq 306 #[ae (some ⟨b,0,none⟩),O U 0] w1 fun e w'=>∃v,e=ak v/\og F G ts w1 w' b l sn d r v):
  az aq 331 #[ae (some ⟨k0,0,none⟩)] w fun e w'=>∃v,e=ak v/\og F G ts w w' b l sn d (qJ ts r) v:=by
 refine agd ⟨k0,0,none⟩ (fun v w'=>og F G ts w w' b l sn d (qJ ts r) v) w ?_;intro k1 w0 kg ju ch;have hb:=h.lb;have Ax:aF w0 k0 327 [ae (some ⟨b,0,none⟩)]:=ch.blk hB (by simp);have L2:=hB.lt;refine⟨_,Blk.ec Ax 0 rfl,(hE w0 ch).mono ?_⟩;rintro _ w1 ⟨v,rfl,hd⟩;obtain⟨k,n,s,op,sl,a,rfl⟩:=hd.oy;have z1:=hd.1.size;refine⟨_,_,_,_,_,_,rfl,hd.1.same (by simp;omega),fun k2 w2 oY oG cG=>?_⟩;have z2:=cG.size;have lm:aF w2 k0 327 [ae (some ⟨b,0,none⟩)]:=cG.blk (hd.1.blk Ax (by simp;omega)) (by simp);refine⟨_,Blk.ec lm 0 rfl,_,rfl,?_⟩;obtain⟨cn,hd⟩:=hd;have js:ay [b] w w2:=((ch.weaken fun _ h=>(by cases h)).trans cn fun x hx=>.inl hx).cd cG;cases r with
 | error e=>
  obtain⟨h1,h2,j,h3⟩:=hd;have h3:=h3.only cG;refine(zE h3 [41]).mono ?_;rintro _ w3 ⟨rfl,dh,hR⟩;rw[if_neg (by simp[h1]),if_neg h1,if_neg h1]at hR;refine⟨rfl,dh.same (by simp;omega),fun w4 dI=>⟨((js.trans dh fun x hx=>.inl hx).new dI kg),h1,⟨_,_,_,_,_,_,rfl⟩,j,hR.own dI (by simp;omega)⟩⟩
 | ok q=>
  obtain⟨x,j⟩:=q;obtain⟨cs,h1,h2,h3⟩:=hd;have h3:=h3.only cG;refine(zE h3 [41]).mono ?_;rintro _ w3 ⟨rfl,dh,hR⟩;have z3:=dh.size;refine⟨rfl,dh.same (by simp;omega),fun w4 dI=>⟨((js.trans dh fun x hx=>.inl hx).new dI kg),?_⟩⟩;have z4:=dI.size;by_cases hs:sg ts j [41]=true
  ·rw[if_pos (by simp[hs])]at hR;simp only[qJ,hs,if_true];exact⟨cs,h1,(((h2.only cG (by simp)).only dh fun k hk=>.inl (by simp only[aO]at hk;omega)).only dI fun k hk=>.inl (by simp only[aO]at hk;omega)).wide (by omega) (by omega),hR.own dI (by simp;omega)⟩
  ·rw[if_neg (by simp[hs]),if_pos rfl,if_pos rfl]at hR;simp only[qJ,hs,jb];exact⟨fk,⟨_,_,_,_,_,_,rfl⟩,j,hR.own dI (by simp;omega)⟩
theorem VT{f d:Nat}(hd:d<=20)(h:Rd F G ts w b l sn i 0 0 (d:Int))
  (hE:d≠20->∀w i,Rd F G ts w b l sn i 0 0 ((d+1:Nat):Int)->az aq 306 #[ae (some ⟨b,0,none⟩),O U 0] w fun e w'=>∃v,e=ak v/\og F G ts w w' b l sn (d+1) (cQ ts f 0 (d+1) i) v)
  (Xr:d≠20->∀w i,Rd F G ts w b l sn i 0 0 ((d+1:Nat):Int)->az aq 318 #[ae (some ⟨b,0,none⟩)] w fun e w'=>∃v,e=ak v/\og F G ts w w' b l sn (d+1) (cQ ts f 6 (d+1) i) v):
  az aq 318 #[ae (some ⟨b,0,none⟩)] w fun e w'=>∃v,e=ak v/\og F G ts w w' b l sn d (cQ ts (f+1) 6 d i) v:=by
 have eR:cQ ts (f+1) 6 d i=nL ts (cQ ts f 0 (d+1)) (cQ ts f 6 (d+1)) d i:=by rw[cQ,if_pos rfl]
 rw[eR];generalize hgE:cQ ts f 0 (d+1)=E0 at*
 generalize hgO:cQ ts f 6 (d+1)=One at*
 generalize hR:nL ts E0 One d i=R;rw[nL]at hR;refine af9 ⟨b,0,none⟩ (fun v w'=>og F G ts w w' b l sn d R v) w ?_;intro k0 k1 w0 gD dQ kg ju ch;have hb:=h.lb;refine(EZ (h.only ch)).mono ?_;rintro _ w1 ⟨rfl,cn⟩;have z1:=cn.size;have fG:=ch.cd cn;refine⟨_,_,_,_,rfl,cn.same (by simp;omega),fun k2 k3 w2 oY oG Ky Ay cG=>?_⟩;have z2:=cG.size;have z0:=ch.size;have js:=fG.cd cG;have h2:=h.only js;have P3:=h.big;have sm:∀{u u':av},w2.heap.size<=u.heap.size->ay [b] u u'->bS [k0,k1,k2,k3] u u':=fun hu hO=>hO.same (by intro x hx;simp only[aY,bf,cb]at hx⊢;omega);have Rh:∀{u u':av},w2.heap.size<=u.heap.size->ay [] u u'->bS [k0,k1,k2,k3] u u':=fun hu hO=>hO.same (by intro x hx;simp only[aY,bf,cb]at hx;exact⟨by omega,by simp⟩);refine⟨fun q _ _ _ _ _ _ vk vn vs vo vl va w'=>q=some ⟨b,0,none⟩/\ay [] w w'/\(tk ts i).k≠5/\∃t,vs=T t/\vl=Sl.nil/\R=.ok (.mk vk vn t vo [] va,i+1),?_,?_⟩
 ·rintro _ _ _ _ _ _ _ vk vn _ vo _ va w3 ⟨rfl,dh,gC,t,rfl,rfl,Az⟩;have h3:=h.only dh;have hn:=h.en.next h.lt gC;refine⟨_,rfl,(i:Int),Blk.ec h3.blk 1 rfl,_,rfl,b,1,_,_,rfl,h3.blk,by simp,by omega,by omega,by omega,by omega,fun w4 dI qs w5 eh=>?_⟩;rw[fH (by omega) (by omega)]at qs;have h4:Rd F G ts w4 b l sn (i+1) 0 0 (d:Int):=h3.kz dI qs hn;rw[Az];refine⟨((dh.weaken (bs':=[b]) fun _ h=>(by cases h)).trans dI fun x hx=>.inl hx).new eh (by omega),_,rfl,.leaf ..,h4.own eh (by simp;omega)⟩
 refine(Bk h2).mono ?_;rintro _ w6 ⟨rfl,dR⟩;have z6:=dR.size;have h6:=h2.only dR;refine⟨_,rfl,Rh (by omega) dR,fun hc=>(by simp at hc),fun _=>?_⟩;obtain⟨s8,w8,k8,fj,hc8⟩:=is2 h6;have z8:=fj.size;refine⟨s8,w8,k8,Rh (by omega) fj,hc8.mono ?_⟩;rintro _ w9 ⟨rfl,fT⟩;have z9:=fT.size;have sK:=dR.cd (fj.cd fT);have h9:=h2.only sK;rw[show((0:Int)==0)=true from rfl,bT];have P4:=js.cd sK;refine⟨_,rfl,Rh (by omega) fT,fun hc dw dM=>?_,fun hc=>?_⟩
 ·rw[if_pos hc]at hR;have gC:(tk ts i).k≠5:=by
   rcases cq _ _▸hc with e | e<;>exact tK e
  have hn:=h.en.next h.lt gC;have key:∀op:Int,op=(if(tk ts i).t=[33]then 15 else 14)->∀dJ,ay [] w dJ->w2.heap.size<=dJ.heap.size->_:=fun op oB dJ dY Xs=>E1 hd (h.only dY) hn (g:=318) (z1:=[ae (some ⟨b,0,none⟩)]) (z2:=[]) (kn (by kernel_rfl)) ⟨.func (.func 318) #[ae (some ⟨b,0,none⟩)] #[],rfl⟩ rfl (r:=One (i+1)) fun Xt w1 _ h1=>Xr Xt w1 (i+1) h1;refine⟨fun k n s op sl a w'=>k=4/\n=0/\s=T []/\op=(if(tk ts i).t=[33]then 15 else 14)/\sl=Sl.nil/\a=(tk ts i).a/\ay [] w w'/\w2.heap.size<=w'.heap.size,?_,?_,?_⟩
  ·rintro _ _ _ _ _ _ dJ ⟨rfl,rfl,rfl,oB,rfl,rfl,dY,Xs⟩;refine(key _ oB dJ dY Xs).mono ?_;rintro _ eM ⟨v,rfl,hD⟩;obtain⟨vk,vn,vs,vo,vl,va,rfl⟩:=hD.oy;have z12:=hD.1.size;obtain⟨eU,ul,sL,dL⟩:=zG eM [j6 vk vn vs vo vl va] (by simp) (by simp) (by simp) (parts:=#[(0,ah (j6 vk vn vs vo vl va).toArray)]) rfl;refine⟨_,_,_,_,_,_,rfl,sm Xs hD.1,⟨some ⟨eM.heap.size,0,none⟩,1,1⟩,eU,ul,Rh (by omega) dL,fun fM eV=>?_⟩;have Mz:=dL.size;have Xu:=eV.size;have hOf:ay [b] w fM:=(((dY.weaken (bs':=[b]) fun _ h=>(by cases h)).trans hD.1 fun x hx=>.inl hx).cd dL).trans eV fun x hx=>.inr (by simp only[aY,bf,cb]at hx;omega);have hob:∀x,x∈[k1,k3]->b<x:=by simp;omega
   have hoo:∀x,x∈[k1,k3]->x<dJ.heap.size:=by simp;omega
   refine⟨hOf,?_⟩;obtain⟨_,hD⟩:=hD;rw[<-hR];cases hN:iC d (tk ts i).a (One (i+1))with
   | error e=>
    rw[hN]at hD;obtain⟨a1,a2,j,a3⟩:=hD;exact⟨a1,⟨_,_,_,_,_,_,rfl⟩,j,(a3.only dL).own eV hob⟩
   | ok q=>
    obtain⟨x,j⟩:=q;rw[hN]at hD;obtain⟨cs,a1,a2,a3⟩:=hD;refine⟨_,rfl,?_,(a3.only dL).own eV hob⟩;have jY:(j6 vk vn vs vo vl va)=cs:=bK Array.toList (Value.agg.inj a1);rw[oB];have aiM:RX fM dJ.heap.size eM.heap.size x cs:=(a2.only dL (by simp)).only eV fun k hk=>.inl (hoo k hk);have Gc:aF fM eM.heap.size 51 cs:=by
     have:=eV.blk sL fun hm=>by have:=hoo _ hm;omega
     rw[cJ,Md,bL]at this;rw[<-jY];exact this
    exact .one w.heap.size eM.heap.size eM.heap.size _ _ _ _ _ _ x cs (aiM.wide (by omega) (aW _)) (by omega) (aW _) (by have:=sL.lt;omega) id Gc
  ·rw[show(ao #[33])=T [33]from rfl,iO];intro he iy kB;have he:=aQ he;exact⟨rfl,rfl,rfl,by rw[if_pos he],rfl,rfl,(P4.new dM (by omega)).new kB (by omega),by have:=kB.size;have:=dM.size;omega⟩
  ·rw[show(ao #[33])=T [33]from rfl,iO];intro he;have he:=aU he;exact⟨rfl,rfl,rfl,by rw[if_neg he],rfl,rfl,P4.new dM (by omega),by have:=dM.size;omega⟩
 ·rw[if_neg (by rw[hc];decide)]at hR;obtain⟨UY,jK,F7,kc,aiN⟩:=is1 h9 [40];have z16:=kc.size;refine⟨UY,jK,F7,Rh (by omega) kc,aiN.mono ?_⟩;rintro _ iZ ⟨rfl,jt⟩;have z17:=jt.size;have Kz:=P4.cd (kc.cd jt);have Ri:=h.only Kz;have H7:ay [b] w iZ:=Kz.weaken fun _ h=>(by cases h)
  rw[show((0:Int)==0)=true from rfl,bT];refine⟨_,rfl,Rh (by omega) jt,fun hp hB _ _ _=>?_,fun hp=>?_⟩
  ·rw[if_pos hp]at hR;have hn:=h.en.next h.lt (tK hp);subst hR;refine(E1 hd Ri hn (g:=331) (z1:=[]) (z2:=[ae (some ⟨k0,0,none⟩)]) (kn (by kernel_rfl)) ⟨.func (.func 331) #[] #[ae (some ⟨k0,0,none⟩)],rfl⟩ rfl (r:=qJ ts (E0 (i+1))) fun Xt w1 cn h1=>aby h1 (by omega) (cn.blk hB (by simp;omega)) fun w1' aiP=>hE Xt w1' (i+1) (h1.only aiP)).mono ?_;rintro _ jM ⟨v,rfl,hD⟩;obtain⟨vk,vn,vs,vo,vl,va,rfl⟩:=hD.oy;have z18:=hD.1.size;refine⟨_,_,_,_,_,_,rfl,hD.1.same (by simp;omega),_,hD.1.blk hB (by simp;omega),fun kf lO _=>?_⟩;exact hD.Ar H7 lO (by simp;omega)
  rw[if_neg (by rw[hp];decide)]at hR;have hp':(tk ts i).k≠5->i+1<ts.length:=h.en.next h.lt;refine⟨fun hi jL lJ _ _ _ _ _ gC=>⟨fun k=>k=k2,rfl,fun e=>gC e.symm,fun e=>gC e.symm,fun mX ja=>?_⟩,fun hi=>⟨fun hv qS ry _ _ _ _ _ gC=>⟨fun k=>k=k2,rfl,fun e=>gC e.symm,fun e=>gC e.symm,fun rh sM=>?_⟩,fun hv=>⟨fun hw=>?_,fun hw=>?_⟩⟩⟩
  ·have hi:(tk ts i).k=3:=by simpa using hi
   rw[if_pos hi]at hR;exact⟨rfl,(Kz.cd lJ).new ja (by omega),by rw[hi];decide,[],rfl,rfl,hR.symm⟩
  ·have hi:¬(tk ts i).k=3:=by simpa using hi
   have hv:(tk ts i).k=1:=by simpa using hv
   rw[if_neg hi,if_pos hv]at hR;exact⟨rfl,(Kz.cd ry).new sM (by omega),by rw[hv];decide,_,rfl,rfl,hR.symm⟩
  ·have hi:¬(tk ts i).k=3:=by simpa using hi
   have hv:¬(tk ts i).k=1:=by simpa using hv
   rw[show(ao #[105,110])=T [105,110]from rfl,iO]at hw;have hw:(tk ts i).k=2/\(tk ts i).t=[105,110]:=by simpa using hw
   rw[if_neg hi,if_neg hv,if_pos hw]at hR;have hn:=hp' (by rw[hw.1];decide);refine⟨(i:Int),Blk.ec Ri.blk 1 rfl,b,1,_,_,rfl,Ri.blk,by simp,by omega,by omega,by omega,by omega,fun tG A1 ado=>?_⟩;rw[fH (by omega) (by omega)]at ado;have h24:Rd F G ts tG b l sn (i+1) 0 0 (d:Int):=Ri.kz A1 ado hn;have z24:=A1.size;refine(zE h24 [40]).mono ?_;rintro _ po ⟨rfl,DE,Tw⟩;have z25:=DE.size;refine⟨rfl,sm (by omega) DE,?_⟩;have U2:ay [b] w po:=(H7.trans A1 fun x hx=>.inl hx).trans DE fun x hx=>.inl hx;have bad:∀{j:Nat} {c a:Int},Rd F G ts po b l sn j c a (d:Int)->c≠0->az aq 333 #[ae (some ⟨b,0,none⟩)] po fun e w'=>e=ak (ab (T []))/\ay [b] po w'/\Rd F G ts w' b l sn j c a (d:Int):=fun{j c a} Tx hc=>by
    refine(I5 Tx).mono ?_;rintro e qT ⟨jF,hh⟩;rw[if_neg (fun hh=>hc hh.1),if_neg hc,if_neg hc]at hh;exact⟨hh.1,jF,hh.2⟩
   have adq:∀{qT tW:av} {j:Nat} {c a:Int},ay [b] po qT->ay [k3] qT tW->Rd F G ts qT b l sn j c a (d:Int)->c≠0->R=.error (c,a)->∀s6:aK,az aq 332 #[ae (some (Addr.add ⟨b,0,none⟩ 0)),ab (ao #[41])] tW fun e8 wY=>e8=(ak (ai #[]))/\bS [k0,k1,k2,k3] tW wY/\∀AZ:av,ay [k1] wY AZ->og F G ts w AZ b l sn d R (ah #[O U 3,O U 0,ab s6,O U 0,Sl.nil.v,O U (tk ts i).a]):=fun{qT tW j c a} jF qm h26 hc Az s6=>by
    have z26:=jF.size;have z27:=qm.size;refine(zE (h26.own qm (by simp;omega)) [41]).mono ?_;rintro _ wY ⟨rfl,tY,H8⟩;rw[if_neg (by simp[hc]),if_neg hc,if_neg hc]at H8;refine⟨rfl,sm (by omega) tY,fun AZ sK=>?_⟩;rw[Az];refine⟨((((U2.trans jF fun x hx=>.inl hx).new qm (by omega)).trans tY fun x hx=>.inl hx).new sK (by omega)),hc,⟨3,0,s6.data.toList,0,Sl.nil,_,by unfold j6;rw[<-wl]⟩,j,H8.own sK (by simp;omega)⟩
   by_cases h1:sg ts (i+1) [40]=true
   ·rw[if_pos (by simp[h1])]at Tw;rw[zC,if_pos h1]at hR;refine(I5 Tw).mono ?_;rintro _ qT ⟨jF,hh⟩;have z26:=jF.size;by_cases h2:(tk ts (i+2)).k=1
    ·rw[if_pos ⟨rfl,h2⟩]at hh;obtain⟨rfl,P5⟩:=hh;rw[if_pos h2]at hR;refine⟨_,rfl,sm (by omega) jF,fun tW qm=>?_⟩;have z27:=qm.size;have h27:=P5.own qm (by simp;omega);refine(zE h27 [41]).mono ?_;rintro _ wY ⟨rfl,tY,H8⟩;refine⟨rfl,sm (by omega) tY,fun AZ sK=>?_⟩;have hOf:ay [b] w AZ:=(((U2.trans jF fun x hx=>.inl hx).new qm (by omega)).trans tY fun x hx=>.inl hx).new sK (by omega);refine⟨hOf,?_⟩;by_cases h3:sg ts (i+3) [41]=true
     ·rw[if_pos (by simp[h3])]at H8;rw[if_pos h3]at hR;rw[<-hR];exact⟨_,rfl,.leaf ..,H8.own sK (by simp;omega)⟩
     ·rw[if_neg (by simp[h3]),if_pos rfl,if_pos rfl]at H8;rw[if_neg h3]at hR;rw[<-hR];exact⟨fk,⟨_,_,_,_,_,_,rfl⟩,_,H8.own sK (by simp;omega)⟩
    ·rw[if_neg (fun hh=>h2 hh.2),if_pos rfl,if_pos rfl]at hh;obtain⟨rfl,P5⟩:=hh;rw[if_neg h2]at hR;exact⟨_,rfl,sm (by omega) jF,fun tW qm=>adq jF qm P5 fk hR.symm _⟩
   ·rw[if_neg (by simp[h1]),if_pos rfl,if_pos rfl]at Tw;rw[zC,if_neg h1]at hR;refine(bad Tw fk).mono ?_;rintro _ qT ⟨rfl,jF,P5⟩;exact⟨_,rfl,sm (by omega) jF,fun tW qm=>adq jF qm P5 fk hR.symm _⟩
  ·have hi:¬(tk ts i).k=3:=by simpa using hi
   have hv:¬(tk ts i).k=1:=by simpa using hv
   rw[show(ao #[105,110])=T [105,110]from rfl,iO]at hw;rw[if_neg hi,if_neg hv,if_neg (fun hh=>by rw[hh.1,hh.2]at hw;simp at hw)]at hR;refine(CM Ri).mono ?_;rintro _ Mu ⟨rfl,adt,adu⟩;rw[if_pos rfl,if_pos rfl]at adu;refine⟨rfl,sm (by omega) adt,fun Rg P6=>⟨(H7.trans adt fun x hx=>.inl hx).new P6 (by omega),?_⟩⟩;rw[<-hR];exact⟨fk,⟨0,0,[],0,Sl.nil,_,rfl⟩,i,adu.own P6 (by simp;omega)⟩
end
section
variable {F G:aJ} {ts:List Tk} {w w':av} {b:Nat} {l sn:Sl} {i:Nat} {fc fa d:Int}
theorem Bl{E:Nat->Pr}{k:Int}{g:Nat}{x:Ex}{j:Nat}(h:jf ts k j=0):ir ts E k g x j=.ok (x,j):=by
 cases g with
 | zero=>rfl
 | succ g=>rw[ir,if_pos h]
def At5(F G:aJ)(ts:List Tk)(w:av)(b:Nat)(l sn:Sl)(d:Nat)(N:aJ)(E:Nat->Pr)(k:Int)(R:Pr)(nv:Nat)(op:Int)(cs:aI)(w':av):Prop:=ay [b] w w'/\
 ((∃(c a:Int) (j:Nat),op=0/\c≠0/\R=.error (c,a)/\Rd F G ts w' b l sn j c a (d:Int))∨
  (∃(x:Ex) (j:Nat),op=jf ts k j/\RXN w' N w.heap.size w'.heap.size x cs/\Rd F G ts w' b l sn j 0 0 (d:Int)/\R=ir ts E k nv x j/\ts.length-j<=nv))
theorem K5{f k d:Nat}(U3:k<6)(h:Rd F G ts w b l sn i 0 0 (d:Int))
  (hE:∀w i,Rd F G ts w b l sn i 0 0 (d:Int)->az aq 306 #[ae (some ⟨b,0,none⟩),O U ((k+1:Nat):Int)] w fun e w'=>∃v,e=ak v/\og F G ts w w' b l sn d (cQ ts f (k+1) d i) v):
  az aq 306 #[ae (some ⟨b,0,none⟩),O U (k:Int)] w fun e w'=>∃v,e=ak v/\og F G ts w w' b l sn d (cQ ts (f+1) k d i) v:=by
 have eR:cQ ts (f+1) k d i=zA (cQ ts f (k+1) d i) fun x j=>ir ts (cQ ts f (k+1) d) (k:Int) (ts.length-j) x j:=by rw[cQ,if_neg (by omega)]
 rw[eR];have P7:∀i x j,cQ ts f (k+1) d i=.ok (x,j)->i<j:=fun i x j h=>jO f _ _ i h;generalize hgE:cQ ts f (k+1) d=E at*
 generalize hR:(zA (E i) fun x j=>ir ts E (k:Int) (ts.length-j) x j)=R;refine aaW ⟨b,0,none⟩ _ (fun v w'=>og F G ts w w' b l sn d R v) w ?_;have ek:ar U ((k:Int)+1)=((k+1:Nat):Int):=by rw[fH (by omega) (by omega)];rfl
 refine⟨fun hc=>absurd (by simpa using hc) (by omega:¬(k:Int)=6),fun _ k1 w3 kg ju dh=>?_⟩;have hb:=h.lb;rw[ek];refine(hE w3 i (h.only dh)).mono ?_;rintro _ w4 ⟨v,rfl,hD⟩;obtain⟨vk,vn,vs,vo,vl,va,rfl⟩:=hD.oy;have z3:=dh.size;have z4:=hD.1.size;refine⟨_,_,_,_,_,_,rfl,hD.1.same (by simp;omega),fun k2 w5 oY oG eh=>?_⟩;have z5:=eh.size;have AA:ay [b] w w5:=((dh.weaken (bs':=[b]) fun _ h=>(by cases h)).trans hD.1 fun x hx=>.inl hx).cd eh;have sm:∀{u u':av},w5.heap.size<=u.heap.size->ay [b] u u'->bS [k1,k2] u u':=fun hu hO=>hO.same (by intro x hx;simp only[aY,bf,cb]at hx⊢;omega);have P3:=h.big;have lj:∃(j:Nat) (c a:Int),Rd F G ts w4 b l sn j c a (d:Int)/\∀w6,ay [] w4 w6->∃nv,At5 F G ts w b l sn d (fun q=>q=k1∨q=k2) E (k:Int) R nv (if c=0 then jf ts (k:Int) j else 0) (j6 vk vn vs vo vl va) w6:=by
  obtain⟨dI,DF⟩:=hD;have pr:ay [b] w w4:=(dh.weaken (bs':=[b]) fun _ h=>(by cases h)).trans dI fun x hx=>.inl hx;cases BU:E i with
  | error e=>
   rw[BU]at DF hR;obtain⟨c,a⟩:=e;obtain⟨a1,a2,j,a3⟩:=DF;exact⟨j,c,a,a3,fun w6 dR=>⟨0,pr.cd dR,.inl ⟨c,a,j,if_neg a1,a1,hR.symm,a3.only dR⟩⟩⟩
  | ok q=>
   obtain⟨x,j⟩:=q;rw[BU]at DF hR;obtain⟨cs,a1,a2,a3⟩:=DF;have jY:(j6 vk vn vs vo vl va)=cs:=bK Array.toList (Value.agg.inj a1);rw[jY];exact⟨j,0,0,a3,fun w6 dR=>⟨ts.length-j,pr.cd dR,.inr ⟨x,j,if_pos rfl,((a2.only dR (by simp)).BS fun q h1 h2 _=>(by omega)).wide z3 dR.size,a3.only dR,hR.symm,aW _⟩⟩⟩
 obtain⟨j0,c0,a0,hR4,lj⟩:=lj;refine(zF (hR4.only eh) (k:Int)).mono ?_;rintro _ w6 ⟨rfl,dR⟩;have z6:=dR.size;obtain⟨nv0,hA0⟩:=lj w6 (eh.cd dR);refine⟨_,rfl,dR.same (by simp;omega),fun nv op i10 i11 s2 i12 l2 i13 w'=>w5.heap.size<=w'.heap.size/\At5 F G ts w b l sn d (fun q=>q=k1∨q=k2) E (k:Int) R nv op [O U i10,O U i11,ab s2,O U i12,l2.v,O U i13] w',nv0,⟨z6,hA0⟩,?_⟩;rintro nv op i10 i11 s2 i12 l2 i13 w7 ⟨z7,fN,hA⟩;refine⟨fun oB=>?_,fun oB fM eV=>?_⟩
 ·have oB:op≠0:=by simpa using oB
  rcases hA with⟨_,_,_,e,_⟩ | ⟨x,j,rfl,hX,AY,Az,hnv⟩
  ·exact absurd e oB
  have hn:=AY.en.next AY.lt (nX _ _ oB);obtain⟨g,rfl⟩:∃g,nv=g+1:=⟨nv-1,by omega⟩
  rw[ir,if_neg oB]at Az;refine⟨(j:Int),Blk.ec AY.blk 1 rfl,b,1,_,_,rfl,AY.blk,by simp,by omega,by omega,fun w8 fj uR=>?_⟩;rw[fH (by omega) (by omega)]at uR;have h8:Rd F G ts w8 b l sn (j+1) 0 0 (d:Int):=AY.kz fj uR hn;have z8:=fj.size;refine(hE w8 (j+1) h8).mono ?_;rintro _ w9 ⟨v,rfl,P8⟩;obtain⟨yk,yn,ys,yo,yl,ya,rfl⟩:=P8.oy;have z9:=P8.1.size;refine⟨_,_,_,_,_,_,rfl,sm (by omega) P8.1,fun k8 dw hk8 Tv dM=>?_⟩;have H0:=dM.size;obtain⟨dJ,pE,A2,dY⟩:=zG dw [[O U i10,O U i11,ab s2,O U i12,l2.v,O U i13],j6 yk yn ys yo yl ya] (by simp) (by simp) (by simp) (parts:=#[(0,ah #[O U i10,O U i11,ab s2,O U i12,l2.v,O U i13]),(1,ah (j6 yk yn ys yo yl ya).toArray)]) rfl;have Gd:=dY.size;refine⟨⟨some ⟨dw.heap.size,0,none⟩,2,2⟩,dJ,pE,dY.same (by simp;omega),fun eM fb=>?_⟩;have z12:=fb.size;have Gf:ay [b] w eM:=((((fN.trans fj fun x hx=>.inl hx).trans P8.1 fun x hx=>.inl hx).cd dM).cd dY).new fb (by omega);have sO:ay [k2] w9 eM:=((dM.cd dY).weaken (bs':=[k2]) fun _ h=>(by cases h)).trans fb fun x hx=>.inl hx;have H9:∃(j':Nat) (c a:Int),Rd F G ts w9 b l sn j' c a (d:Int)/\∀eU,ay [] eM eU->∃nv,nv<g+1/\At5 F G ts w b l sn d (fun q=>q=k1∨q=k2) E (k:Int) R nv (if c=0 then jf ts (k:Int) j' else 0) (j6 5 0 [] (jf ts (k:Int) j) ⟨some ⟨dw.heap.size,0,none⟩,2,2⟩ i13) eU:=by
   obtain⟨fT,DF⟩:=P8;cases BU:E (j+1)with
   | error e=>
    rw[BU]at DF Az;obtain⟨c,a⟩:=e;obtain⟨a1,a2,j',a3⟩:=DF;exact⟨j',c,a,a3,fun eU dL=>⟨0,by omega,Gf.cd dL,.inl ⟨c,a,j',if_neg a1,a1,Az,(a3.own sO (by simp;omega)).only dL⟩⟩⟩
   | ok q=>
    obtain⟨y,j'⟩:=q;rw[BU]at DF Az;obtain⟨cs,a1,a2,a3⟩:=DF;have jY:(j6 yk yn ys yo yl ya)=cs:=bK Array.toList (Value.agg.inj a1);have Zm:=P7 _ _ _ BU;obtain⟨xl,HT,_⟩:=hX.cells;have hxa:i13=x.a:=by
     simp only[j6,rB,Value.int.injEq]at HT;exact HT.2.2.2.2.2.1.2
    refine⟨j',0,0,a3,fun eU dL=>⟨g,by omega,Gf.cd dL,.inr ⟨.mk 5 0 [] (jf ts (k:Int) j) [x,y] x.a,j',if_pos rfl,?_,(a3.own sO (by simp;omega)).only dL,Az,?_⟩⟩⟩
    ·have Mz:=dL.size;have P9:ay [b,k2] w7 eU:=(((((fj.weaken (bs':=[b,k2]) fun x hx=>.inl (by simp only[aO]at hx;simp[hx])).trans fT fun x hx=>.inl (by simp only[aO]at hx;simp[hx])).trans sO fun x hx=>.inl (by simp only[aO]at hx;simp[hx])).cd dL))
     have Qa:ay [k2] w9 eU:=sO.cd dL;have sL:aF eU dw.heap.size 51 ([O U i10,O U i11,ab s2,O U i12,l2.v,O U i13]++cs):=by
      have:=dL.blk (fb.blk A2 (by simp;omega)) (by simp);rw[<-jY];simpa using this
     have Qb:RXN eU (fun q=>q=k1∨q=k2) w.heap.size w7.heap.size x [O U i10,O U i11,ab s2,O U i12,l2.v,O U i13]:=by
      exact hX.only P9 fun q hq=>by
       simp only[aY,bf,cb]at hq;rcases hq with rfl | rfl
       ·exact .inl hb
       ·exact .inr (.inr (.inr rfl))
     have Xv:RXN eU (fun q=>q=k1∨q=k2) w8.heap.size w9.heap.size y cs:=(a2.only Qa fun q hq=>.inl (by simp only[aO]at hq;omega)).BS fun q h1 h2 _=>(by omega)
     rw[hxa];exact .two w.heap.size w7.heap.size w8.heap.size w9.heap.size dw.heap.size _ _ _ _ _ _ x y _ cs Qb z8 Xv (by omega) (by omega) (by omega) (by omega) (by have:=sL.lt;omega) (by omega) sL
    ·omega
  obtain⟨j',c',a',hR9,H9⟩:=H9;refine(zF (hR9.own sO (by simp;omega)) (k:Int)).mono ?_;rintro _ eU ⟨rfl,dL⟩;obtain⟨nv',Xw,Zn⟩:=H9 eU dL;exact⟨_,rfl,dL.same (by simp;omega),nv',Xw,by have:=dL.size;omega,Zn⟩
 ·have oB:op=0:=by simpa using oB
  refine⟨fN.new eV (by omega),?_⟩;rcases hA with⟨c,a,j,_,hc,Az,AY⟩ | ⟨x,j,Q6,hX,AY,Az,hnv⟩
  ·rw[Az];exact⟨hc,⟨i10,i11,s2.data.toList,i12,l2,i13,by unfold j6;rw[<-wl]⟩,j,AY.own eV (by simp;omega)⟩
  ·rw[Az,Bl (by rw[<-Q6,oB])];exact⟨_,rfl,((hX.only eV fun q hq=>.inr (.inr (.inl (by simpa using hq)))).BS fun _ _ _ _ h=>h).wide (aW _) eV.size,AY.own eV (by simp;omega)⟩
theorem E2 : ∀ f : Nat, (∀ (k d i : Nat) (w : av), k <= 6 -> d <= 20 -> fx k d <= f -> Rd F G ts w b l sn i 0 0 (d : Int) ->
      az aq 306 #[ae (some ⟨b, 0, none⟩), O U (k : Int)] w fun e w' => ∃ v, e = ak v /\ og F G ts w w' b l sn d (cQ ts f k d i) v) /\
    (∀ (d i : Nat) (w : av), d <= 20 -> fx 6 d <= f -> Rd F G ts w b l sn i 0 0 (d : Int) ->
      az aq 318 #[ae (some ⟨b, 0, none⟩)] w fun e w' => ∃ v, e = ak v /\ og F G ts w w' b l sn d (cQ ts f 6 d i) v)
  | 0 => ⟨fun k d i w hk hd hn => by unfold fx at hn; omega, fun d i w hd hn => by unfold fx at hn; omega⟩
  | f + 1 => by
    obtain ⟨A0, DY⟩ := E2 f
    have one : ∀ (d i : Nat) (w : av), d <= 20 -> fx 6 d <= f + 1 -> Rd F G ts w b l sn i 0 0 (d : Int) ->
      az aq 318 #[ae (some ⟨b, 0, none⟩)] w fun e w' => ∃ v, e = ak v /\ og F G ts w w' b l sn d (cQ ts (f + 1) 6 d i) v := fun d i w hd hn h => by
      unfold fx at hn
      exact VT hd h (fun yF w i h => A0 0 (d + 1) i w (by omega) (by omega) (by unfold fx; omega) h) (fun yF w i h => DY (d + 1) i w (by omega) (by unfold fx; omega) h)
    refine ⟨fun k d i w hk hd hn h => ?_, one⟩
    by_cases h6 : k = 6
    · subst h6
      refine aaW ⟨b, 0, none⟩ _ (fun v w' => og F G ts w w' b l sn d (cQ ts (f + 1) 6 d i) v) w ?_
      refine ⟨fun _ k0 w0 gD dQ ch => ?_, fun hc => absurd hc (by decide)⟩
      refine (one d i w0 hd hn (h.only ch)).mono ?_
      rintro _ w1 ⟨v, rfl, hD⟩
      obtain ⟨vk, vn, vs, vo, vl, va, rfl⟩ := hD.oy
      have hb := h.lb
      exact ⟨_, _, _, _, _, _, rfl, hD.1.same (by simp; omega), fun w2 cG => hD.Ar (ch.weaken fun _ h => (by cases h)) cG (by simp; omega)⟩
    · unfold fx at hn
      exact K5 (by omega) h fun w i h => A0 (k + 1) d i w (by omega) hd (by unfold fx; omega) h
end
theorem K6(w:av):∃(s:Sl) (w':av),(au 52 16 #[.mk 1 (ab (ao #[43])),.mk 2 (ab (ao #[45])),.mk 3 (ab (ao #[42])),.mk 4 (ab (ao #[47])),.mk 5 (ab (ao #[37])),.mk 6 (ab (ao #[60])),.mk 7 (ab (ao #[60,61])),.mk 8 (ab (ao #[62])),.mk 9 (ab (ao #[62,61])),.mk 10 (ab (ao #[61,61])),.mk 11 (ab (ao #[33,61])),.mk 12 (ab (ao #[38,38])),.mk 13 (ab (ao #[124,124])),.mk 14 (ab (ao #[45])),.mk 15 (ab (ao #[33]))]).run aq w=.ok (Sl.v s) w'/\
  aA jB 1 w' (fun k=>w.heap.size<=k/\k<w'.heap.size) s tL/\ay [] w w':=by
 have sJ:=run_buildSlice (P:=aq) w 52 9 16 #[.mk 1 (ab (ao #[43])),.mk 2 (ab (ao #[45])),.mk 3 (ab (ao #[42])),.mk 4 (ab (ao #[47])),.mk 5 (ab (ao #[37])),.mk 6 (ab (ao #[60])),.mk 7 (ab (ao #[60,61])),.mk 8 (ab (ao #[62])),.mk 9 (ab (ao #[62,61])),.mk 10 (ab (ao #[61,61])),.mk 11 (ab (ao #[33,61])),.mk 12 (ab (ao #[38,38])),.mk 13 (ab (ao #[124,124])),.mk 14 (ab (ao #[45])),.mk 15 (ab (ao #[33]))]
  (tL.map fun x=>Value.string (T x)).toArray Tryz.t9 _ (by kernel_rfl) (by kernel_rfl) rfl (by decide) (by decide) (by kernel_rfl)
 refine⟨⟨some ⟨w.heap.size,0,none⟩,16,16⟩,_,sJ,⟨rfl,aW _,fun h=>(by cases h),(by decide:(16:Nat)<=9223372036854775807),fun j x hx=>?_⟩,Only.alloc _ _⟩;have hB:=Blk.alloc w 9 (tL.map fun x=>Value.string (T x));have bQ:=hB.lt;refine⟨⟨w.heap.size,0,none⟩,[ab (T x)],rfl,⟨aW _,bQ⟩,rfl,?_,rfl⟩;rw[uT];exact Blk.ec hB j (by rw[cX,hx];rfl)
theorem Uf(w:av):az aq 263 #[] w fun e w'=>∃s:Sl,e=ak s.v/\aA jB 1 w' (fun k=>w.heap.size<=k/\k<w'.heap.size) s tL/\ay [] w w':=by
 refine(af8 (fun v w'=>∃s:Sl,v=s.v/\aA jB 1 w' (fun k=>w.heap.size<=k/\k<w'.heap.size) s tL/\ay [] w w') w ?_).mono (by
  rintro e w' ⟨v,rfl,s,rfl,h⟩;exact⟨s,rfl,h⟩)
 obtain⟨s,w',h1,h2,h3⟩:=K6 w;exact⟨s,w',h1,s,rfl,h2,h3⟩
def jP(ts:List Tk):Nat:=(ts.takeWhile fun t=>t.k !=5).length
theorem yp(ts:List Tk):jP ts<=ts.length:=by
 unfold jP;exact(List.takeWhile_sublist _).length_le
theorem Bm{t:Tk}{ts:List Tk}{i:Nat}:tk (t::ts) (i+1)=tk ts i:=by unfold tk;rw[cW]
theorem Bn{t:Tk}{ts:List Tk}:tk (t::ts) 0=t:=rfl
theorem vq:∀(ts:List Tk) (i:Nat),i<jP ts->(tk ts i).k≠5
 | [],_,h=>by simp[jP]at h
 | t::ts,i,h=>by
  unfold jP at h;rw[da]at h;split at h
  ·rename_i ht;cases i with
   | zero=>rw[Bn];simpa using ht
   | succ i=>rw[Bm];exact vq ts i (by simpa[jP]using h)
  ·simp at h
theorem vu:∀(ts:List Tk),jP ts<ts.length->(tk ts (jP ts)).k=5
 | [],h=>by simp at h
 | t::ts,h=>by
  unfold jP at h⊢;rw[da]at h⊢;split
  ·rename_i ht;rw[if_pos ht]at h;rw[aR,Bm];exact vu ts (by simpa[jP]using h)
  ·rename_i ht;rw[aZ,Bn];simpa using ht
theorem E3{ts:List Tk}(h:jP ts+1=ts.length):pb ts:=fun i hi=>by
 constructor
 ·intro hk;refine bC fun hn=>vq ts i (by omega) hk
 ·intro hn;have:i=jP ts:=by omega
  rw[this];exact vu ts (by omega)
theorem NK{ts:List Tk}(h:pb ts)(h0:0<ts.length):jP ts+1=ts.length:=by
 have h1:=yp ts;rcases kC (jP ts) ts.length with hl | hl
 ·exact(h _ hl).1 (vu ts hl)
 ·have:=vq ts (ts.length-1) (by omega);exact absurd ((h (ts.length-1) (by omega)).2 (by omega)) this
theorem Sh(w:av)(t:Tk):az aq 305 #[t.v] w fun e w'=>e=ak (aj (t.k==5))/\ay [] w w':=by
 refine ret (v3w t.k (T t.t) t.n t.a (fun v w'=>v=aj (t.k==5)/\ay [] w w') w ?_);exact fun k0 w0 _ _ hO=>⟨rfl,hO⟩
theorem NL{w:av}{F:aJ}{l:Sl}{ts:List Tk}(h:aA Bj 4 w F l ts):az aq 304 #[l.v,.func (.func 305) #[] #[]] w fun e w'=>e=ak (O U (if jP ts<ts.length then(jP ts:Int)else -1))/\ay [] w w':=by
 refine ret (aaV l ⟨.func (.func 305) #[] #[],rfl⟩ (fun v w'=>v=O U (if jP ts<ts.length then(jP ts:Int)else -1)/\ay [] w w') w ?_);have ey:=h.len;have pq:=h.big;have nS:=h.cap;refine⟨fun nv i w'=>∃n:Nat,n<=jP ts/\i=(n:Int)/\nv=ts.length-n/\ay [] w w',ts.length,⟨0,bd _,rfl,rfl,Only.refl _ _⟩,?_⟩;rintro nv _ w0 ⟨n,hn,rfl,rfl,ch⟩;have AX:=yp ts;refine⟨fun hc=>?_,fun hc=>?_⟩
 ·have bQ:(n:Int)<l.n:=aQ hc;obtain⟨ad,x,cs,g1,g2,g3,g4,g5,g6⟩:=(SliceF.only gI (by decide) h ch (by simp)).get (ba n) bQ;rw[aX,zy (by omega)]at g2;injection g2 with g2;subst g2;unfold Bj at g6;subst g6;refine⟨ad,g1,_,_,_,_,g5,305,[],[],rfl,kn (by kernel_rfl),?_⟩;refine(Sh w0 (tk ts n)).mono ?_;rintro _ w1 ⟨rfl,cn⟩;refine⟨_,rfl,fun hb=>⟨?_,ch.cd cn⟩,fun hb=>⟨ts.length-(n+1),by omega,n+1,?_,by rw[fH (by omega) (by omega)];rfl,rfl,ch.cd cn⟩⟩
  ·have hb:(tk ts n).k=5:=by simpa using hb
   have:n=jP ts:=by
    refine bC fun gC=>vq ts n (by omega) hb
   rw[if_pos (by omega),this]
  ·have hb:¬(tk ts n).k=5:=by simpa using hb
   refine bC fun gC=>hb ?_;have:n=jP ts:=by omega
   rw[this];exact vu ts (by omega)
 ·have lR:¬(n:Int)<l.n:=aU hc;rw[if_neg (by omega)];exact⟨rfl,ch⟩
def uN:Ex:=.mk 0 0 [] 0 [] 0
def bU(ts:List Tk)(a:Int):Ex×Int×Int×Int:=
 if 0<=a/\a<ts.length/\jP ts+1=ts.length then(match pc ts a.toNat with
  | .error (c,p)=>(uN,0,c,p)
  | .ok (x,j)=>(x,(j:Int),0,0))
 else(uN,0,1, -1)
theorem Si(w:av)(lo hi:Nat):RX w lo hi uN [O U 0,O U 0,ab (ao #[]),O U 0,Sl.nil.v,O U 0]:=.leaf ..
theorem I6{w:av}{F:aJ}{l:Sl}{ts:List Tk}(h:aA Bj 4 w F l ts)(a:Int)(ha:wa a):az aq 288 #[l.v,O U a] w fun e w'=>
  ∃cs,e=ak (ai #[ah cs.toArray,O U (bU ts a).2.1,ah #[O U (bU ts a).2.2.1,O U (bU ts a).2.2.2]])/\RX w' w.heap.size w'.heap.size (bU ts a).1 cs/\((bU ts a).2.2.1=0->0<=(bU ts a).2.1/\(bU ts a).2.1<ts.length)/\ay [] w w':=by
 refine(v4w l a (fun v w'=>∃cs,v=(ai #[ah cs.toArray,O U (bU ts a).2.1,ah #[O U (bU ts a).2.2.1,O U (bU ts a).2.2.2]])/\RX w' w.heap.size w'.heap.size (bU ts a).1 cs/\((bU ts a).2.2.1=0->0<=(bU ts a).2.1/\(bU ts a).2.1<ts.length)/\ay [] w w') w ?_).mono (by
  rintro e w' ⟨v,rfl,cs,rfl,h⟩;exact⟨cs,rfl,h⟩)
 intro k0 k1 w0 gD dQ kg ju ch;have ey:=h.len;have nS:=h.cap;have pq:=h.big;have z0:=ch.size;have h:=(h.inHeap gI (by decide))
 refine(NL (SliceF.only gI (by decide) h ch (by simp))).mono ?_;rintro _ w1 ⟨rfl,cn⟩;have z1:=cn.size;have fG:=ch.cd cn;have AX:=yp ts;have hcond:(((decide (a<0))||(decide (a>=(l.n:Int))))||((if jP ts<ts.length then(jP ts:Int)else -1) !=(ar U ((l.n:Int)-1))))=!decide (0<=a/\a<ts.length/\jP ts+1=ts.length):=by
  rw[fH (by omega) (by omega),ey];by_cases h1:jP ts<ts.length
  ·rw[if_pos h1,bI];simp;omega
  ·rw[if_neg h1,bI];simp;omega
 refine⟨_,rfl,cn.same (by simp;omega),?_⟩;dsimp only;rw[hcond];refine⟨fun hc w2 cG=>?_,fun hc=>?_⟩
 ·have hc:¬(0<=a/\a<ts.length/\jP ts+1=ts.length):=by
   rw[cx,fU]at hc;exact hc
  rw[bU,if_neg hc];exact⟨_,rfl,Si _ _ _,fun h=>(by cases h),(fG.weaken (bs':=[]) fun _ h=>(by cases h)).trans cG fun x hx=>.inr (by simp only[aY,bf,cb]at hx;omega)⟩
 ·have hc:0<=a/\a<ts.length/\jP ts+1=ts.length:=by
   rw[gP,bA]at hc;exact hc
  rw[bU,if_pos hc];obtain⟨i,rfl⟩:∃i:Nat,a=(i:Int):=⟨a.toNat,by omega⟩
  refine(Uf w1).mono ?_;rintro _ w3 ⟨sn,rfl,Th,dh⟩;have z3:=dh.size;refine⟨sn,rfl,dh.same (by simp;omega),fun b w4 hb nC dI qs=>?_⟩;have z4:=dI.size;have mw:=fG.cd dh;have hR:Rd (fun k=>F k/\k<w.heap.size) (fun k=>w1.heap.size<=k/\k<w3.heap.size) ts w4 b l sn i 0 0 ((0:Nat):Int):=
   ⟨qs,SliceF.only gI (by decide) h (mw.cd dI) (by simp),SliceF.only cZ (by decide) Th dI (by simp),fun k hk=>by have:=hk.2;omega,fun k hk=>by have:=hk.2;omega,E3 hc.2.2,by omega⟩
  refine((E2 (fx 0 0)).1 0 0 i w4 (by decide) (by decide) (aW _) hR).mono ?_;rintro _ w5 ⟨v,rfl,hD⟩;obtain⟨vk,vn,vs,vo,vl,va,rfl⟩:=hD.oy;have z5:=hD.1.size;obtain⟨eh,hD⟩:=hD;rw[aX];have W4:pc ts i=cQ ts (fx 0 0) 0 0 i:=rfl;rw[W4];have fin:∀{j:Nat} {c p:Int},Rd (fun k=>F k/\k<w.heap.size) (fun k=>w1.heap.size<=k/\k<w3.heap.size) ts w5 b l sn j c p ((0:Nat):Int)->∀w8,ay [] w5 w8->∀w9,ay [k1,k0] w8 w9->ay [] w w9:=fun hR w8 fj w9 fT=>(((mw.cd dI).trans eh fun x hx=>.inr (by simp only[aO]at hx;omega)).cd fj).trans fT fun x hx=>.inr (by simp only[aY,bf,cb]at hx;omega);refine⟨_,_,_,_,_,_,rfl,eh.same (by simp;omega),?_⟩;cases hE:cQ ts (fx 0 0) 0 0 i with
  | error e=>
   rw[hE]at hD;obtain⟨c,p⟩:=e;obtain⟨a1,a2,j,a3⟩:=hD;refine⟨_,_,_,_,_,_,a3.blk,fun k3 w6 Ky Ay dR MA=>?_⟩;have z6:=dR.size;refine(Bk (a3.only dR)).mono ?_;rintro _ w7 ⟨rfl,fN⟩;have h7:=(a3.only dR).only fN;have gC:(c !=0)=true:=by simpa using a1
   refine⟨_,rfl,fN.same (by simp;omega),_,_,_,_,_,_,h7.blk,fun _ w8 fj uR n1 n2 n3 n4 n5 n6=>⟨fun k=>k=b,rfl,fun e=>n2 e,fun e=>n4 e,fun w9 fT _=>⟨_,rfl,Si _ _ _,fun h=>absurd h a1,fin a3 w8 (dR.cd (fN.cd fj)) w9 fT⟩⟩,fun hc=>by rw[gC]at hc;cases hc⟩
  | ok q=>
   rw[hE]at hD;obtain⟨x,j⟩:=q;obtain⟨cs,a1,a2,a3⟩:=hD;refine⟨_,_,_,_,_,_,a3.blk,fun k3 w6 Ky Ay dR MA=>?_⟩;have z6:=dR.size;refine(Bk (a3.only dR)).mono ?_;rintro _ w7 ⟨rfl,fN⟩;have z7:=fN.size;have h7:=(a3.only dR).only fN;refine⟨_,rfl,fN.same (by simp;omega),_,_,_,_,_,_,h7.blk,fun hc=>(by simp at hc),fun _ dw dM nr n1 n2 n3 n4 n5 n6=>⟨fun k=>k=b,rfl,fun e=>n2 e,fun e=>n4 e,fun dJ dY _=>?_⟩⟩;have H0:=dM.size;have Gd:=dY.size;have jY:(j6 vk vn vs vo vl va)=cs:=bK Array.toList (Value.agg.inj a1);refine⟨j6 vk vn vs vo vl va,rfl,?_,fun _=>⟨ba j,by have:=a3.lt;dsimp only;omega⟩,fin a3 dw (dR.cd (fN.cd dM)) dJ dY⟩;rw[jY];exact((a2.only (dR.cd (fN.cd dM)) (by simp)).only dY fun q hq=>.inl (by simp only[aY,bf,cb]at hq;omega)).wide (by omega) (by omega)
def fz(l:aH):Ex×Int×Int:=
 if(cA l).2.1≠0 then(uN,(cA l).2.1,(cA l).2.2)
 else if(bU (cA l).1 0).2.2.1≠0 then(uN,(bU (cA l).1 0).2.2.1,(bU (cA l).1 0).2.2.2)
 else if(tk (cA l).1 (bU (cA l).1 0).2.1.toNat).k≠5 then(uN,4,(tk (cA l).1 (bU (cA l).1 0).2.1.toNat).a)
 else((bU (cA l).1 0).1,0,(bU (cA l).1 0).2.2.2)
theorem VU{w:av}(l:aH)(hE:Er w):az aq 265 #[ab (T l)] w fun e w'=>
  ∃cs,e=ak (ai #[ah cs.toArray,ah #[O U (fz l).2.1,O U (fz l).2.2]])/\RX w' w.heap.size w'.heap.size (fz l).1 cs/\ay [] w w':=by
 refine(v5w (T l) (fun v w'=>∃cs,v=(ai #[ah cs.toArray,ah #[O U (fz l).2.1,O U (fz l).2.2]])/\RX w' w.heap.size w'.heap.size (fz l).1 cs/\ay [] w w') w ?_).mono (by
  rintro e w' ⟨v,rfl,cs,rfl,h⟩;exact⟨cs,rfl,h⟩)
 intro k0 k1 w0 gD dQ kg ju ch;have z0:=ch.size;refine(EX l (hE.only ch)).mono ?_;rintro _ w1 ⟨l0,rfl,hT,cn⟩;have z1:=cn.size;have fG:=ch.cd cn;generalize nZ:cA l=tm at*
 obtain⟨ts,c,p⟩:=tm;dsimp only at hT⊢;have KA:fz l=if c≠0 then(uN,c,p)else if(bU ts 0).2.2.1≠0 then(uN,(bU ts 0).2.2.1,(bU ts 0).2.2.2)else if(tk ts (bU ts 0).2.1.toNat).k≠5 then(uN,4,(tk ts (bU ts 0).2.1.toNat).a)else((bU ts 0).1,0,(bU ts 0).2.2.2):=by
  unfold fz;rw[nZ]
 refine⟨l0,_,_,rfl,cn.same (by simp;omega),fun hc k2 w2 oY oG cG n1 n2 n3=>⟨fun k=>k=k2,rfl,fun e=>n2 e,fun e=>n3 e,fun w3 dh=>?_⟩,fun hc k3 w4 Ky Ay dI=>?_⟩
 ·have hc:c≠0:=by simpa using hc
  rw[KA,if_pos hc];exact⟨_,rfl,Si _ _ _,((fG.cd cG).trans dh fun x hx=>.inr (by simp only[aY,bf,cb]at hx;omega))⟩
 ·have hc:c=0:=by simpa using hc
  rw[if_neg (by simp[hc])]at KA;have z4:=dI.size;refine(I6 (hT.only dI).sl 0 ⟨by decide,by decide⟩).mono ?_;rintro _ w5 ⟨cs,rfl,hX,hj,eh⟩;have z5:=eh.size;generalize Tu:bU ts 0=pa at*
  obtain⟨x,j,c',p'⟩:=pa;dsimp only at hX hj KA⊢;obtain⟨xl,rfl,_⟩:=hX.cells;refine⟨_,_,_,_,_,_,_,_,_,rfl,eh.same (by simp;omega),fun k4 w6 tZ Gh dR=>?_⟩;have z6:=dR.size;have h6:=((hT.only (dI.cd eh)).keep (w':=w6) fun k hk bQ=>dR.block k bQ (by
   have:=hT.blk hk.2;simp only[aO];dsimp only at this;omega))
  have Zo:=h6.len;have A3:ay [] w w6:=((fG.cd dI).cd eh).new dR (by omega);have fin:∀{w8 w9:av},ay [k3] w6 w8->ay [k1,k0] w8 w9->ay [] w w9:=fun h8 h9=>(A3.new h8 (by omega)).trans h9 fun x hx=>.inr (by simp only[aY,bf,cb]at hx;omega);refine⟨fun i9 i10 w7=>ay [k3] w6 w7/\((c'≠0/\i9=c'/\i10=p')∨(c'=0/\(tk ts j.toNat).k≠5/\i9=4/\i10=(tk ts j.toNat).a)∨(c'=0/\(tk ts j.toNat).k=5/\i9=0/\i10=p')),?_,?_⟩
  ·rintro i9 i10 w7 ⟨fN,U4⟩;have z7:=fN.size;refine⟨fun hi w8 fj n1 n2 n3 n4 n5 n6=>⟨fun k=>k=k3,rfl,?_,?_,fun w9 fT=>?_⟩,fun hi dw dM n1 n2 n3 n4 n5 n6=>⟨fun k=>k=k3,rfl,?_,?_,fun dJ dY=>?_⟩⟩
   ·intro e;omega
   ·intro e;omega
   ·have hi:i9≠0:=by simpa using hi
    have hr:fz l=(uN,i9,i10):=by
     rw[KA];rcases U4 with⟨a1,rfl,rfl⟩ | ⟨a1,a2,rfl,rfl⟩ | ⟨a1,a2,rfl,rfl⟩
     ·rw[if_pos a1]
     ·rw[if_neg (by simp[a1]),if_pos a2]
     ·exact absurd rfl hi
    rw[hr];exact⟨_,rfl,Si _ _ _,fin (fN.cd fj) fT⟩
   ·intro e;omega
   ·intro e;omega
   ·have hi:i9=0:=by simpa using hi
    have hr:fz l=(x,i9,i10):=by
     rw[KA];rcases U4 with⟨a1,rfl,rfl⟩ | ⟨a1,a2,rfl,rfl⟩ | ⟨a1,a2,rfl,rfl⟩
     ·exact absurd hi a1
     ·exact absurd hi (by decide)
     ·rw[if_neg (by simp[a1]),if_neg (by simp[a2])]
    rw[hr];have xU:ay [k3,k1,k0] w5 dJ:=(((dR.trans fN fun x hx=>.inl hx).cd dM).weaken (bs':=[k3,k1,k0]) fun x hx=>.inl (by simp only[aO]at hx;simp[hx])).trans dY fun x hx=>.inl (by simp only[aY,bf,cb]at hx⊢;omega);have Gd:=xU.size;exact⟨_,rfl,(hX.only xU fun q hq=>.inl (by simp only[aY,bf,cb]at hq;omega)).wide (by omega) Gd,fin (fN.cd dM) dY⟩
  ·by_cases vV:c'=0
   ·obtain⟨MB,Gx⟩:=hj vV;obtain⟨n,rfl⟩:∃n:Nat,j=(n:Int):=⟨j.toNat,by omega⟩
    obtain⟨ad,t,cs,g1,g2,g3,g4,g5,g6⟩:=h6.sl.get MB (by omega);rw[aX,zy (by omega)]at g2;injection g2 with g2;subst g2;unfold Bj at g6;subst g6;rw[aX];refine⟨ad,fun _=>g1,(tk ts n).k,fun _=>g5.ec 0 _ rfl,fun hh=>⟨ad,g1,(tk ts n).a,g5.ec 3 _ rfl,fun eM fb=>⟨fb,.inr (.inl ⟨vV,?_,rfl,rfl⟩)⟩⟩,fun hh=>⟨Only.refl _ _,.inr (.inr ⟨vV,?_,vV,rfl⟩)⟩⟩
    ·simpa[vV]using hh
    ·simpa[vV]using hh
   ·have hb:(c'==0)=false:=by simpa using vV
    refine⟨⟨0,0,none⟩,fun hh=>(by rw[hb]at hh;cases hh),0,fun hh=>(by rw[hb]at hh;cases hh),fun hh=>(by rw[hb]at hh;cases hh),fun _=>⟨Only.refl _ _,.inl ⟨vV,rfl,rfl⟩⟩⟩
theorem Sj{ts:List Tk}{i:Nat}{e:Int×Int}(h:zC ts i=.error e):e.1≠0:=by
 unfold zC at h;split at h
 ·split at h
  ·split at h
   ·cases h
   ·injection h with h;subst h;exact fk
  ·injection h with h;subst h;exact fk
 ·injection h with h;subst h;exact fk
theorem E4{r:Pr}{g:Ex->Nat->Pr}{e:Int×Int}(h:zA r g=.error e):r=.error e∨∃x j,r=.ok (x,j)/\g x j=.error e:=by
 cases r with
 | error e'=>exact .inl h
 | ok p=>exact .inr ⟨p.1,p.2,rfl,h⟩
theorem Bo{d:Nat}{a:Int}{r:Pr}{e:Int×Int}(h:iC d a r=.error e):r=.error e∨e.1=21:=by
 unfold iC at h;split at h
 ·injection h with h;subst h;exact .inr rfl
 ·exact .inl h
theorem Bp{ts:List Tk}{E:Nat->Pr}{k:Int}{e:Int×Int}(hE:∀i,E i=.error e->e.1≠0):∀(g:Nat) (x:Ex) (j:Nat),ir ts E k g x j=.error e->e.1≠0
 | 0,x,j,h=>by cases h
 | g+1,x,j,h=>by
  rw[ir]at h;split at h
  ·cases h
  ·rcases E4 h with h1 | ⟨y,m,h1,h2⟩
   ·exact hE _ h1
   ·exact Bp hE g _ _ h2
theorem mh{ts:List Tk}{e:Int×Int}:∀(f k d i:Nat),cQ ts f k d i=.error e->e.1≠0
 | 0,k,d,i,h=>by
  rw[cQ]at h;injection h with h;subst h;decide
 | f+1,k,d,i,h=>by
  rw[cQ]at h;split at h
  ·unfold nL at h;split at h
   ·generalize hn:iC d (tk ts i).a (cQ ts f 6 (d+1) (i+1))=r at h;cases r with
    | ok q=>cases h
    | error e'=>
     simp only[EY]at h;injection h with h;subst h;rcases Bo hn with h1 | h1
     ·exact mh f _ _ _ h1
     ·rw[h1];decide
   ·split at h
    ·rcases Bo h with h1 | h1
     ·cases hr:cQ ts f 0 (d+1) (i+1)with
      | error e'=>
       rw[hr]at h1;simp only[qJ]at h1;injection h1 with h1;subst h1;exact mh f _ _ _ hr
      | ok q=>
       rw[hr]at h1;simp only[qJ]at h1;split at h1
       ·cases h1
       ·injection h1 with h1;subst h1;exact fk
     ·rw[h1];decide
    ·split at h
     ·cases h
     ·split at h
      ·cases h
      ·split at h
       ·exact Sj h
       ·injection h with h;subst h;exact fk
  ·rcases E4 h with h1 | ⟨y,m,h1,h2⟩
   ·exact mh f _ _ _ h1
   ·exact Bp (fun i hi=>mh f _ _ _ hi) _ _ _ h2
structure Ac where
 k:Int
 n:aH
 x:Ex
 a:Int
structure Mv where
 k:Int
 ev:aH
 wt:Int
 gd:Bool
 g:Ex
 acts:List Ac
 tg:List (aH)
 a:Int
structure Nb where
 k:Int
 nm:aH
 ini:aH
 dft:aH
 en:List Ac
 lv:List Ac
 mv:List Mv
 a:Int
inductive Nd where
 | mk (b:Nb) (kids:List Nd)
def Nd.b:Nd->Nb | .mk b _=>b
def Nd.kids:Nd->List Nd | .mk _ l=>l
structure Vr where
 n:aH
 v:Int
 a:Int
structure Ch where
 vars:List Vr
 root:Nd
def Ug:Nb:=⟨0,[],[],[],[],[],[],0⟩
def K7:Nd:=.mk Ug []
def ch0:Ch:=⟨[],K7⟩
def ac0:Ac:=⟨0,[],uN,0⟩
def tkZ:Tk:=⟨0,[],0,0⟩
structure Sx where
 i:Nat
 fc:Int
 fa:Int
 v:Int
 n:Int
 d:Int
 m:Int
 a:Int
section
variable (ts:List Tk)
def gY(s:Sx)(c:Int):Sx:=if s.fc=0 then{s with fc:=c,fa:=(tk ts s.i).a}else s
def jD(s:Sx):Sx:=if(tk ts s.i).k=5 then gY ts (gY ts s 3) 4 else gY ts s 4
def wc(c:aH):List (aH)->Nat
 | []=>0
 | x::l=>if c=x then 0 else wc c l+1
def cu(s:Sx)(l:List (aH)):Nat:=
 if s.fc≠0∨((tk ts s.i).k≠2/\(tk ts s.i).k≠4)then 0 else if wc (tk ts s.i).t l<l.length then wc (tk ts s.i).t l+1 else 0
def db(s:Sx):Sx:={s with i:=s.i+1}
def dS(s:Sx)(x:aH):Sx:=if cu ts s [x]=0 then jD ts s else db s
def fA(s:Sx)(k:Int):Tk×Sx:=if s.fc≠0∨(tk ts s.i).k≠k then(tkZ,jD ts s)else(tk ts s.i,db s)
def gZ(s:Sx):aH×Sx:=((fA ts s 1).1.t,(fA ts s 1).2)
def mR(s:Sx):Ex×Sx:=
 if s.fc≠0 then(uN,s)
 else if(bU ts s.i).2.2.1≠0 then((bU ts s.i).1,{s with fc:=(bU ts s.i).2.2.1,fa:=(bU ts s.i).2.2.2})
 else((bU ts s.i).1,{s with i:=(bU ts s.i).2.1.toNat})
def we(x:Int):Int:=ar U (x-1)
def VV(x:Int):Int:=ar U (x+1)
def rV(s:Sx):Sx:=if s.a=0 then{gY ts s 2 with a:=we s.a}else{s with a:=we s.a}
def qK(s:Sx):Sx:=if s.m=0 then{gY ts s 2 with m:=we s.m}else{s with m:=we s.m}
def AR(s:Sx):Sx:=if s.n=0 then{gY ts s 2 with n:=we s.n}else{s with n:=we s.n}
def AU(s:Sx):Sx:=if s.v=0 then{gY ts s 2 with v:=we s.v}else{s with v:=we s.v}
def oC:aH:=[115,101,116]
def iR:aH:=[114,97,105,115,101]
def j7:aH:=[101,109,105,116]
def xL:aH:=[111,110]
def fX:aH:=[97,108,119,97,121,115]
def gJ:aH:=[97,102,116,101,114]
def dX:aH:=[105,110,105,116,105,97,108]
def gf:aH:=[101,110,116,101,114]
def gj:aH:=[108,101,97,118,101]
def zH:aH:=[115,116,97,116,101]
def pV:aH:=[112,97,114,97,108,108,101,108]
def rW:aH:=[104,105,115,116,111,114,121]
def E5:aH:=[100,101,101,112]
def eS:aH:=[99,104,97,114,116]
def tM:aH:=[118,97,114]
def He(s:Sx)(k:Nat)(n:aH)(a:Int):Ac×Sx:=
 if k=2 then(⟨k,n,uN,a⟩,dS ts s [59])
 else(⟨k,n,(mR ts (dS ts s [61])).1,a⟩,dS ts (mR ts (dS ts s [61])).2 [59])
def oh(s:Sx):Ac×Sx:=
 if cu ts s [oC,iR,j7]=0 then(⟨0,[],uN,(tk ts s.i).a⟩,jD ts s)
 else if(rV ts s).fc≠0 then(⟨(cu ts s [oC,iR,j7]:Nat),[],uN,(tk ts s.i).a⟩,rV ts s)
 else He ts (gZ ts (db (rV ts s))).2 (cu ts s [oC,iR,j7]) (gZ ts (db (rV ts s))).1 (tk ts s.i).a
def oL:Nat->List Ac->Sx->List Ac×Sx
 | 0,acc,s=>(acc,s)
 | f+1,acc,s=>if s.fc≠0 then(acc,s)else if cu ts s [[125]]≠0 then(acc,db s)else oL f (acc++[(oh ts s).1]) (oh ts s).2
def gK(s:Sx):List Ac×Sx:=oL ts (ts.length+1) [] (dS ts s [123])
def pW:Nat->aH->List (aH)->Sx->List (aH)×Sx
 | 0,_,acc,s=>(acc,s)
 | f+1,x,acc,s=>if cu ts s [x]=0 then(acc,s)else pW f [44] (acc++[(gZ ts (db s)).1]) (gZ ts (db s)).2
def zI(m:Mv)(s:Sx):Mv×Sx:=
 ({m with tg:=(pW ts (ts.length+1) [45,62] [] s).1},dS ts (pW ts (ts.length+1) [45,62] [] s).2 [59])
def xq(m:Mv)(s:Sx):Mv×Sx:=
 if cu ts s [[123]]=0 then zI ts m s else zI ts {m with acts:=(gK ts s).1} (gK ts s).2
def ol(m:Mv)(s:Sx):Mv×Sx:=
 if cu ts s [[91]]=0 then xq ts m s else xq ts {m with gd:=true,g:=(mR ts (db s)).1} (dS ts (mR ts (db s)).2 [93])
def NM(k a:Int):Mv:=⟨k,[],0,false,uN,[],[],a⟩
def lP(k:Int)(s:Sx):Mv×Sx:=
 if(qK ts s).fc≠0 then(NM k (tk ts s.i).a,qK ts s)
 else if k=1 then ol ts {NM k (tk ts s.i).a with ev:=(gZ ts (db (qK ts s))).1} (gZ ts (db (qK ts s))).2
 else if k=3 then ol ts {NM k (tk ts s.i).a with wt:=(fA ts (db (qK ts s)) 3).1.n} (fA ts (db (qK ts s)) 3).2
 else ol ts (NM k (tk ts s.i).a) (db (qK ts s))
structure xV where
 i:Bool
 e:Bool
 l:Bool
def dA(n:Nb)(h:xV)(s:Sx):Bool×Nb×xV×Sx:=
 if cu ts s [xL,fX,gJ]≠0 then(true,{n with mv:=n.mv++[(lP ts (cu ts s [xL,fX,gJ]:Nat) s).1]},h,(lP ts (cu ts s [xL,fX,gJ]:Nat) s).2)
 else match cu ts s [dX,gf,gj]with
  | 0=>(false,n,h,s)
  | 1=>if h.i then(false,n,h,jD ts s)else(true,{n with ini:=(gZ ts (db s)).1},{h with i:=true},dS ts (gZ ts (db s)).2 [59])
  | 2=>if h.e then(false,n,h,jD ts s)else(true,{n with en:=(gK ts (db s)).1},{h with e:=true},(gK ts (db s)).2)
  | _=>if h.l then(false,n,h,jD ts s)else(true,{n with lv:=(gK ts (db s)).1},{h with l:=true},(gK ts (db s)).2)
def fO:Nat->Nb->xV->Sx->Nb×Sx
 | 0,n,_,s=>(n,s)
 | f+1,n,h,s=>if s.fc≠0 then(n,s)
  else if(dA ts n h s).1 then fO f (dA ts n h s).2.1 (dA ts n h s).2.2.1 (dA ts n h s).2.2.2 else((dA ts n h s).2.1,(dA ts n h s).2.2.2)
def om:List (aH):=[zH,pV,rW,E5]
def qZ(N:Int->Sx->Nd×Sx):Nat->List Nd->Sx->List Nd×Sx
 | 0,acc,s=>(acc,s)
 | f+1,acc,s=>if cu ts s om=0 then(acc,s)else qZ N f (acc++[(N (cu ts s om:Nat) (db s)).1]) (N (cu ts s om:Nat) (db s)).2
def oM(N:Int->Sx->Nd×Sx)(n:Nb)(s:Sx):Nd×Sx:=
 let c:=fO ts (ts.length+1) n ⟨false,false,false⟩ {s with d:=we s.d}
 let k:=qZ ts N (ts.length+1) [] c.2
 (.mk c.1 k.1,dS ts {k.2 with d:=VV k.2.d} [125])
def oO(s:Sx):Sx:=if(tk ts s.i).k=1 then(if(AR ts s).d=0 then gY ts (AR ts s) 21 else AR ts s)else s
def eE(k:Int)(s:Sx):Nb×Sx:=({Ug with k:=k,nm:=(fA ts (oO ts s) 1).1.t,a:=(fA ts (oO ts s) 1).1.a},(fA ts (oO ts s) 1).2)
def jJ:Nat->Int->Sx->Nd×Sx
 | 0,_,s=>(K7,s)
 | f+1,k,s=>
  if 3<=k then(.mk {(eE ts k s).1 with dft:=(gZ ts (dS ts (eE ts k s).2 [45,62])).1} [],dS ts (gZ ts (dS ts (eE ts k s).2 [45,62])).2 [59])
  else oM ts (jJ f) (eE ts k s).1 (dS ts (eE ts k s).2 [123])
def rX(s:Sx):Vr×Sx:=
 let s1:=if(tk ts s.i).k=1 then AU ts s else s
 let t:=fA ts s1 1
 let s2:=dS ts t.2 [61]
 let g:=cu ts s2 [[45]]
 let q:=fA ts (if g=0 then s2 else db s2) 3
 (⟨t.1.t,if g=0 then q.1.n else ar U (-q.1.n),t.1.a⟩,dS ts q.2 [59])
def rY:Nat->List Vr->Sx->List Vr×Sx
 | 0,acc,s=>(acc,s)
 | f+1,acc,s=>if cu ts s [tM]=0 then(acc,s)else rY f (acc++[(rX ts (db s)).1]) (rX ts (db s)).2
def uf:Sx:=⟨0,0,0,16,64,12,200,400⟩
def Hf(s:Sx):Sx:=if s.fc=0/\(tk ts s.i).k≠5 then jD ts s else s
def rZ:Ch×Sx:=
 let n:=eE ts 1 (dS ts uf eS)
 let v:=rY ts (ts.length+1) [] (dS ts n.2 [123])
 let b:=oM ts (jJ ts 14) n.1 v.2
 (⟨v.1,b.1⟩,Hf ts b.2)
end
def ia(l:aH):Ch×Int×Int:=
 if(cA l).2.1≠0 then(ch0,(cA l).2.1,(cA l).2.2)
 else if(rZ (cA l).1).2.fc≠0 then(ch0,(rZ (cA l).1).2.fc,(rZ (cA l).1).2.fa)
 else((rZ (cA l).1).1,0,0)
def mu(ts:List Tk)(s:Sx):Nat:=if s.fc=0 then ts.length-s.i else 0
structure On0 (ts:List Tk) (s s':Sx):Prop where
 lt:s.i<ts.length->s'.i<ts.length
 le:s'.fc=0->s.fc=0/\s.i<=s'.i
structure On (ts:List Tk) (s s':Sx):Prop extends On0 ts s s' where
 d:s'.d=s.d
section
variable {ts:List Tk} {s s' Xx:Sx}
theorem On0.refl(ts:List Tk)(s:Sx):On0 ts s s:=⟨id,fun h=>⟨h,aW _⟩⟩
theorem On.refl(ts:List Tk)(s:Sx):On ts s s:=⟨On0.refl ts s,rfl⟩
theorem On0.trans(h:On0 ts s s')(k:On0 ts s' Xx):On0 ts s Xx:=⟨fun x=>k.lt (h.lt x),fun e=>by
 obtain⟨a,b⟩:=k.le e;obtain⟨c,d⟩:=h.le a;exact⟨c,bh d b⟩⟩
theorem On.trans(h:On ts s s')(k:On ts s' Xx):On ts s Xx:=⟨h.toOn0.trans k.toOn0,k.d.trans h.d⟩
theorem On0.mu(h:On0 ts s s'):mu ts s'<=mu ts s:=by
 unfold Con.mu;by_cases e:s'.fc=0
 ·obtain⟨a,b⟩:=h.le e;rw[if_pos e,if_pos a];omega
 ·rw[if_neg e];exact bd _
theorem oP(c:Int):On ts s (gY ts s c):=by
 unfold gY;by_cases e:s.fc=0
 ·rw[if_pos e];exact⟨⟨id,fun _=>⟨e,aW _⟩⟩,rfl⟩
 ·rw[if_neg e];exact On.refl _ _
theorem I7{c:Int}(hc:c≠0):(gY ts s c).fc≠0:=by
 unfold gY;by_cases e:s.fc=0
 ·rw[if_pos e];exact hc
 ·rw[if_neg e];exact e
theorem CN(c:Int):(gY ts s c).i=s.i:=by
 unfold gY;split<;>rfl
theorem pX:(jD ts s).fc≠0:=by
 unfold jD;split<;>exact I7 (by decide)
theorem pY:On ts s (jD ts s):=by
 unfold jD;split
 ·exact(oP 3).trans (oP 4)
 ·exact oP 4
theorem E6(l:List (aH)):cu ts s l<=l.length:=by
 unfold cu;split
 ·exact bd _
 ·split<;>omega
theorem dm{l:List (aH)}(h:cu ts s l≠0):s.fc=0/\(tk ts s.i).k≠5:=by
 unfold cu at h;split at h
 ·exact absurd rfl h
 ·rename_i hc;by_cases e:s.fc=0
  ·refine⟨e,fun e5=>hc (.inr ?_)⟩;rw[e5];exact⟨by decide,by decide⟩
  ·exact absurd (.inl e) hc
theorem lz(hE:pb ts)(h0:s.fc=0)(hk:(tk ts s.i).k≠5):On ts s (db s):=⟨⟨fun h=>hE.next h hk,fun _=>⟨h0,iL _⟩⟩,rfl⟩
theorem iu(hE:pb ts)(x:aH):On ts s (dS ts s x):=by
 unfold dS;by_cases h:cu ts s [x]=0
 ·rw[if_pos h];exact pY
 ·rw[if_neg h];exact lz hE (dm h).1 (dm h).2
theorem vw(hE:pb ts){k:Int}(hk:k≠5):On ts s (fA ts s k).2:=by
 unfold fA;by_cases h:s.fc≠0∨(tk ts s.i).k≠k
 ·rw[if_pos h];exact pY
 ·rw[if_neg h];simp only[not_or,uU]at h;exact lz hE h.1 (by rw[h.2];exact hk)
theorem oQ(hE:pb ts):On ts s (gZ ts s).2:=vw hE (by decide)
end
section
variable {ts:List Tk} (hE:pb ts)
include hE
theorem VW{i:Nat}{x:Ex}{j:Nat}(hi:i<ts.length)(hk:(tk ts i).k≠5)(h:zC ts i=.ok (x,j)):j<ts.length:=by
 unfold zC at h;split at h
 ·rename_i h1;have l1:=hE.next hi hk;have l2:=hE.next l1 (tK h1);split at h
  ·rename_i h2;have l3:=hE.next l2 (by rw[h2];decide);split at h
   ·rename_i h3;have l4:=hE.next l3 (tK h3);simp only[dG,dk]at h;omega
   ·cases h
  ·cases h
 ·cases h
theorem Sk{E0 One:Nat->Pr}{d i:Nat}{x:Ex}{j:Nat}(hE0:∀i x j,i<ts.length->E0 i=.ok (x,j)->j<ts.length)(hO:∀i x j,i<ts.length->One i=.ok (x,j)->j<ts.length)(hi:i<ts.length)(h:nL ts E0 One d i=.ok (x,j)):j<ts.length:=by
 unfold nL at h;split at h
 ·rename_i hs;obtain⟨y,h1,_⟩:=yi h;refine hO _ _ _ (hE.next hi ?_) (pU h1).1;rcases cq _ _▸hs with hs | hs<;>exact tK hs
 ·split at h
  ·rename_i hs;obtain⟨j',h1,h2,rfl⟩:=yj (pU h).1;exact hE.next (hE0 _ _ _ (hE.next hi (tK hs)) h1) (tK h2)
  ·split at h
   ·rename_i hk;simp only[dG,dk]at h;have:=hE.next hi (by rw[hk];decide);omega
   ·split at h
    ·rename_i hk;simp only[dG,dk]at h;have:=hE.next hi (by rw[hk];decide);omega
    ·split at h
     ·rename_i hk;exact VW hE hi (by rw[hk.1];decide) h
     ·cases h
theorem E7{E:Nat->Pr}{k:Int}(UT:∀i x j,i<ts.length->E i=.ok (x,j)->j<ts.length):∀(g:Nat) (x:Ex) (j:Nat) {x':Ex} {j':Nat},j<ts.length->ir ts E k g x j=.ok (x',j')->j'<ts.length
 | 0,x,j,x',j',hj,h=>by
  simp only[ir,dG,dk]at h;omega
 | g+1,x,j,x',j',hj,h=>by
  rw[ir]at h;split at h
  ·simp only[dG,dk]at h;omega
  ·rename_i ho;obtain⟨y,m,h1,h2⟩:=vp h;exact E7 UT g _ _ (UT _ _ _ (hE.next hj (nX _ _ ho)) h1) h2
theorem sd:∀(f k d i:Nat) {x:Ex} {j:Nat},i<ts.length->cQ ts f k d i=.ok (x,j)->j<ts.length
 | 0,_,_,_,_,_,_,h=>by cases h
 | f+1,k,d,i,x,j,hi,h=>by
  rw[cQ]at h;split at h
  ·exact Sk hE (fun i x j hi h=>sd f _ _ i hi h) (fun i x j hi h=>sd f _ _ i hi h) hi h
  ·obtain⟨y,m,h1,h2⟩:=vp h;exact E7 hE (fun i x j hi h=>sd f _ _ i hi h) _ _ _ (sd f _ _ _ hi h1) h2
theorem K8{i:Nat}(h0:(bU ts i).2.2.1=0):∃j:Nat,(bU ts i).2.1=(j:Int)/\i<j/\j<ts.length:=by
 unfold bU at h0⊢;split at h0
 ·rename_i hc;rw[if_pos hc];have hi:i<ts.length:=by have:=hc.2.1;omega
  rw[aX]at h0⊢;unfold pc at h0⊢;cases he:cQ ts (fx 0 0) 0 0 i with
  | error e=>
   rw[he]at h0;obtain⟨c,p⟩:=e;exact absurd h0 (mh _ _ _ _ he)
  | ok q=>
   obtain⟨x,j⟩:=q;exact⟨j,rfl,jO _ _ _ _ he,sd hE _ _ _ _ hi he⟩
 ·cases h0
theorem oS{s s':Sx}(h0:s.fc=0)(hi:s.i<ts.length)(hk:(tk ts s.i).k≠5)(h:On0 ts (db s) s'):mu ts s'<mu ts s:=by
 have h1:=h.mu;have h2:=hE.next hi hk;have e1:mu ts s=ts.length-s.i:=by unfold mu;rw[if_pos h0]
 have e2:mu ts (db s)=ts.length-(s.i+1):=by unfold mu db;rw[if_pos h0]
 omega
set_option linter.unusedSectionVars false in
theorem wB {s s':Sx} (h0:s.fc=0) (hi:s.i<ts.length) (h:s'.fc≠0):mu ts s'<mu ts s:=by
 unfold mu;rw[if_neg h,if_pos h0];omega
theorem I8(s:Sx):On ts s (mR ts s).2:=by
 unfold mR;by_cases h0:s.fc≠0
 ·rw[if_pos h0];exact On.refl _ _
 ·rw[if_neg h0];by_cases h1:(bU ts s.i).2.2.1≠0
  ·rw[if_pos h1];exact⟨⟨id,fun h=>absurd h h1⟩,rfl⟩
  ·rw[if_neg h1];obtain⟨j,e,l1,l2⟩:=K8 hE (i:=s.i) (by simpa using h1);dsimp only;rw[e,aX];exact⟨⟨fun _=>l2,fun h=>⟨h,Nat.le_of_lt l1⟩⟩,rfl⟩
omit hE in
theorem CO (s:Sx):On ts s (rV ts s):=by
 unfold rV;split
 ·have h:=oP (ts:=ts) (s:=s) 2;exact⟨⟨h.lt,h.le⟩,h.d⟩
 ·exact⟨⟨id,fun h=>⟨h,aW _⟩⟩,rfl⟩
omit hE in
theorem CP (s:Sx):On ts s (qK ts s):=by
 unfold qK;split
 ·have h:=oP (ts:=ts) (s:=s) 2;exact⟨⟨h.lt,h.le⟩,h.d⟩
 ·exact⟨⟨id,fun h=>⟨h,aW _⟩⟩,rfl⟩
omit hE in
theorem CQ (s:Sx):On ts s (AR ts s):=by
 unfold AR;split
 ·have h:=oP (ts:=ts) (s:=s) 2;exact⟨⟨h.lt,h.le⟩,h.d⟩
 ·exact⟨⟨id,fun h=>⟨h,aW _⟩⟩,rfl⟩
omit hE in
theorem Sm (s:Sx):On ts s (AU ts s):=by
 unfold AU;split
 ·have h:=oP (ts:=ts) (s:=s) 2;exact⟨⟨h.lt,h.le⟩,h.d⟩
 ·exact⟨⟨id,fun h=>⟨h,aW _⟩⟩,rfl⟩
omit hE in
theorem CR (s:Sx):(rV ts s).i=s.i:=by
 unfold rV;split
 ·exact CN 2
 ·rfl
omit hE in
theorem CS (s:Sx):(qK ts s).i=s.i:=by
 unfold qK;split
 ·exact CN 2
 ·rfl
theorem I9(s:Sx)(k:Nat)(n:aH)(a:Int):On ts s (He ts s k n a).2:=by
 unfold He;split
 ·exact iu hE _
 ·exact((iu hE _).trans (I8 hE _)).trans (iu hE _)
theorem NN(s u:Sx)(hu:On ts s u)(hi:u.i=s.i)(h0:u.fc=0)(hk:(tk ts s.i).k≠5):On ts s (db u):=hu.trans (lz hE h0 (by rw[hi];exact hk))
theorem VX(s:Sx):On ts s (oh ts s).2:=by
 unfold oh;split
 ·exact pY
 ·rename_i h;split
  ·exact CO s
  ·rename_i h0;exact(NN hE s _ (CO s) (CR s) (by simpa using h0) (dm h).2).trans ((oQ hE).trans (I9 hE _ _ _ _))
theorem VY{s:Sx}(h0:s.fc=0)(hi:s.i<ts.length):mu ts (oh ts s).2<mu ts s:=by
 unfold oh;split
 ·exact wB hE h0 hi pX
 ·rename_i h;split
  ·rename_i h1;exact wB hE h0 hi h1
  ·rename_i h1;have e:=CR (ts:=ts) s;have hm:=(CO (ts:=ts) s).mu;exact cD (oS hE (by simpa using h1) (by rw[e];exact hi) (by rw[e];exact(dm h).2) ((oQ hE).trans (I9 hE _ _ _ _)).toOn0) hm
theorem Ja:∀(f:Nat) (acc:List Ac) (s:Sx),On ts s (oL ts f acc s).2
 | 0,_,s=>On.refl _ _
 | f+1,acc,s=>by
  rw[oL];split
  ·exact On.refl _ _
  ·split
   ·rename_i h;exact lz hE (dm h).1 (dm h).2
   ·exact(VX hE s).trans (Ja f _ _)
theorem se(s:Sx):On ts s (gK ts s).2:=(iu hE _).trans (Ja hE _ _ _)
theorem Jb:∀(f:Nat) (x:aH) (acc:List (aH)) (s:Sx),On ts s (pW ts f x acc s).2
 | 0,_,_,s=>On.refl _ _
 | f+1,x,acc,s=>by
  rw[pW];split
  ·exact On.refl _ _
  ·rename_i h;exact((lz hE (dm h).1 (dm h).2).trans (oQ hE)).trans (Jb f _ _ _)
theorem E8(m:Mv)(s:Sx):On ts s (zI ts m s).2:=(Jb hE _ _ _ _).trans (iu hE _)
theorem E9(m:Mv)(s:Sx):On ts s (xq ts m s).2:=by
 unfold xq;split
 ·exact E8 hE _ _
 ·exact(se hE _).trans (E8 hE _ _)
theorem zJ(m:Mv)(s:Sx):On ts s (ol ts m s).2:=by
 unfold ol;split
 ·exact E9 hE _ _
 ·rename_i h;exact(((lz hE (dm h).1 (dm h).2).trans (I8 hE _)).trans (iu hE _)).trans (E9 hE _ _)
theorem Fa(k:Int)(s u:Sx)(m:Mv):On ts u (if k=1 then ol ts {m with ev:=(gZ ts u).1} (gZ ts u).2 else if k=3 then ol ts {m with wt:=(fA ts u 3).1.n} (fA ts u 3).2 else ol ts m u).2:=by
 split
 ·exact(oQ hE).trans (zJ hE _ _)
 ·split
  ·exact(vw hE (by decide)).trans (zJ hE _ _)
  ·exact zJ hE _ _
theorem Sn(k:Int)(s:Sx)(hk:(tk ts s.i).k≠5):On ts s (lP ts k s).2:=by
 unfold lP;split
 ·exact CP s
 ·rename_i h1;exact(NN hE s _ (CP s) (CS s) (by simpa using h1) hk).trans (Fa hE k s _ _)
theorem So(k:Int){s:Sx}(h0:s.fc=0)(hi:s.i<ts.length)(hk:(tk ts s.i).k≠5):mu ts (lP ts k s).2<mu ts s:=by
 unfold lP;split
 ·rename_i h1;exact wB hE h0 hi h1
 ·rename_i h1;have e:=CS (ts:=ts) s;have hm:=(CP (ts:=ts) s).mu;exact cD (oS hE (by simpa using h1) (by rw[e];exact hi) (by rw[e];exact hk) (Fa hE k s _ _).toOn0) hm
theorem Bq(n:Nb)(h:xV)(s:Sx):On ts s (dA ts n h s).2.2.2:=by
 unfold dA;split
 ·rename_i hw;exact Sn hE _ s (dm hw).2
 ·split
  ·exact On.refl _ _
  ·rename_i hw;have hw:cu ts s [dX,gf,gj]≠0:=by rw[hw];decide
   split
   ·exact pY
   ·exact((lz hE (dm hw).1 (dm hw).2).trans (oQ hE)).trans (iu hE _)
  ·rename_i hw;have hw:cu ts s [dX,gf,gj]≠0:=by rw[hw];decide
   split
   ·exact pY
   ·exact(lz hE (dm hw).1 (dm hw).2).trans (se hE _)
  ·rename_i h0 h1 h2;have hw:cu ts s [dX,gf,gj]≠0:=h0;split
   ·exact pY
   ·exact(lz hE (dm hw).1 (dm hw).2).trans (se hE _)
theorem K9(n:Nb)(h:xV){s:Sx}(h0:s.fc=0)(hi:s.i<ts.length)(ht:(dA ts n h s).1=true):mu ts (dA ts n h s).2.2.2<mu ts s:=by
 unfold dA at ht⊢;split
 ·rename_i hw;exact So hE _ h0 hi (dm hw).2
 ·rename_i hw0;rw[if_neg hw0]at ht;split
  ·rename_i hw;rw[hw]at ht;cases ht
  ·rename_i hw;rw[hw]at ht;have hw:cu ts s [dX,gf,gj]≠0:=by rw[hw];decide
   split
   ·exact wB hE h0 hi pX
   ·exact oS hE h0 hi (dm hw).2 ((oQ hE).trans (iu hE _)).toOn0
  ·rename_i hw;have hw:cu ts s [dX,gf,gj]≠0:=by rw[hw];decide
   split
   ·exact wB hE h0 hi pX
   ·exact oS hE h0 hi (dm hw).2 (se hE _).toOn0
  ·rename_i h1 _ _;have hw:cu ts s [dX,gf,gj]≠0:=h1;split
   ·exact wB hE h0 hi pX
   ·exact oS hE h0 hi (dm hw).2 (se hE _).toOn0
theorem uA:∀(f:Nat) (n:Nb) (h:xV) (s:Sx),On ts s (fO ts f n h s).2
 | 0,_,_,s=>On.refl _ _
 | f+1,n,h,s=>by
  rw[fO];split
  ·exact On.refl _ _
  ·split
   ·exact(Bq hE n h s).trans (uA f _ _ _)
   ·exact Bq hE n h s
theorem Jc{N:Int->Sx->Nd×Sx}(d:Int)(hN:∀k s,s.d=d->s.fc=0->On ts s (N k s).2):∀(f:Nat) (acc:List Nd) (s:Sx),s.d=d->On ts s (qZ ts N f acc s).2
 | 0,_,s,_=>On.refl _ _
 | f+1,acc,s,hd=>by
  rw[qZ];split
  ·exact On.refl _ _
  ·rename_i h;have h1:=(lz hE (dm h).1 (dm h).2).trans (hN (cu ts s om:Nat) (db s) hd (dm h).1);exact h1.trans (Jc d hN f _ _ (h1.d.trans hd))
theorem Sp{N:Int->Sx->Nd×Sx}{n:Nb}{s:Sx}(hd:wa s.d)(hN:∀k u,u.d=we s.d->u.fc=0->On ts u (N k u).2):On ts s (oM ts N n s).2:=by
 unfold oM;dsimp only;have h1:=uA hE (ts.length+1) n ⟨false,false,false⟩ {s with d:=we s.d};have h2:=Jc hE (we s.d) hN (ts.length+1) [] _ h1.d;have h3:=h1.trans h2;have h4:=iu hE [125] (s:={(qZ ts N (ts.length+1) [] (fO ts (ts.length+1) n ⟨false,false,false⟩ {s with d:=we s.d}).2).2 with d:=VV (qZ ts N (ts.length+1) [] (fO ts (ts.length+1) n ⟨false,false,false⟩ {s with d:=we s.d}).2).2.d});refine⟨⟨fun h=>h4.lt (h3.lt h),fun e=>?_⟩,h4.d.trans ?_⟩
 ·obtain⟨a,b⟩:=h4.le e;obtain⟨c,d⟩:=h3.le a;exact⟨c,bh d b⟩
 ·dsimp only;rw[h3.d];dsimp only;unfold VV we;have:=hd.1;have:=hd.2;simp only[IntKind.wrap_i64];omega
omit hE in
theorem Sq (s:Sx):On ts s (oO ts s):=by
 unfold oO;split
 ·split
  ·exact(CQ s).trans (oP _)
  ·exact CQ s
 ·exact On.refl _ _
theorem zK(k:Int)(s:Sx):On ts s (eE ts k s).2:=(Sq s).trans (vw hE (by decide))
omit hE in
theorem Ss {k:Int} {s:Sx} (h:(eE ts k s).2.fc=0):s.d≠0:=fun e=>by
 revert h;unfold eE fA;dsimp only;by_cases h1:(tk ts s.i).k=1
 ·have hf:(oO ts s).fc≠0:=by
   unfold oO;rw[if_pos h1,if_pos ((CQ s).d.trans e)];exact I7 (by decide)
  rw[if_pos (.inl hf)];exact pX
 ·have e2:oO ts s=s:=by unfold oO;rw[if_neg h1]
  rw[e2,if_pos (.inr h1)];exact pX
theorem Jd:∀(f:Nat) (k:Int) (s:Sx),wa s.d->On ts s (jJ ts f k s).2
 | 0,_,s,_=>On.refl _ _
 | f+1,k,s,hd=>by
  rw[jJ];have h1:=zK hE k s;split
  ·exact((h1.trans (iu hE _)).trans (oQ hE)).trans (iu hE _)
  ·have h2:=h1.trans (iu hE [123]);refine h2.trans (Sp hE (by rw[h2.d];exact hd) fun k u hu _=>Jd f k u ?_);rw[hu];exact MS _
theorem NP(s:Sx):On ts s (rX ts s).2:=by
 unfold rX;dsimp only;have h1:On ts s (if(tk ts s.i).k=1 then AU ts s else s):=by
  split
  ·exact Sm s
  ·exact On.refl _ _
 have h2:∀u:Sx,On ts u (if cu ts u [[45]]=0 then u else db u):=fun u=>by
  split
  ·exact On.refl _ _
  ·rename_i h;exact lz hE (dm h).1 (dm h).2
 exact((((h1.trans (vw hE (by decide))).trans (iu hE _)).trans (h2 _)).trans (vw hE (by decide))).trans (iu hE _)
end
def nM:Nat->Rp Ex
 | 0=>fun _ _ _ _=>False
 | d+1=>fun w F x cs=>∃sl:Sl,cs=j6 x.k x.n x.s x.op sl x.a/\aA (nM d) 6 w F sl x.dj
theorem dW:∀d,(nM d).Ok
 | 0=>⟨fun h _=>h.elim,fun h=>h.elim,fun h _=>h.elim,fun h=>h.elim⟩
 | d+1=>⟨fun⟨sl,h1,h2⟩ hk=>⟨sl,h1,SliceF.keep (dW d) h2 (by decide) hk⟩,fun⟨sl,h1,h2⟩=>⟨sl,h1,SliceF.inHeap (dW d) h2 (by decide)⟩,fun⟨sl,h1,h2⟩ hk=>⟨sl,h1,SliceF.mono (dW d) h2 hk⟩,fun⟨sl,h1,h2⟩=>by
  subst h1;intro v hv;simp only[aY,bf,cb]at hv;rcases hv with rfl | rfl | rfl | rfl | rfl | rfl<;>rfl⟩
theorem zL{α:Type}{r q:Rp α}{size:Nat}{w:av}{F:aJ}{s:Sl}{xs:List α}(h:aA r size w F s xs)(hi:∀x cs,x∈xs->r w F x cs->q w F x cs):aA q size w F s xs:=
 ⟨h.len,h.cap,h.nil0,h.big,fun j x hx=>by
  obtain⟨base,cs,h1,h2,h3,h4,h5⟩:=h.at_ j x hx;exact⟨base,cs,h1,h2,h3,h4,hi x cs (br hx) h5⟩⟩
section
variable {w w':av} {F:aJ} {x y:Ex} {cs ds:aI}
theorem NQ:∀{d:Nat} {x:Ex} {cs:aI},nM d w F x cs->nM (d+1) w F x cs
 | 0,_,_,h=>h.elim
 | d+1,x,cs,⟨sl,h1,h2⟩=>⟨sl,h1,zL h2 fun x cs _ h=>NQ h⟩
theorem NR{d e:Nat}(h:d<=e)(hx:nM d w F x cs):nM e w F x cs:=by
 induction e with
 | zero=>have:d=0:=(by omega);subst this;exact hx
 | succ e ih=>
  by_cases he:d=e+1
  ·subst he;exact hx
  ·exact NQ (ih (by omega))
theorem fP{d:Nat}(h:nM d w F x cs)(hO:ay [] w w'):nM d w' F x cs:=(dW d).only h hO (by simp)
theorem RXN.ex{N:aJ}{lo hi:Nat}(h:RXN w N lo hi x cs):∃d,nM d w (fun k=>lo<=k/\k<hi) x cs:=by
 induction h with
 | leaf lo hi k n s op a=>exact⟨1,Sl.nil,rfl,SliceF.nil _ _ _ _⟩
 | one lo m g hi k n s op a x cs h1 h2 h3 h4 hn h5 ih=>
  obtain⟨d,ih⟩:=ih;obtain⟨sl,jY,_⟩:=h1.cells;refine⟨d+1,_,rfl,rfl,aW _,fun h=>(by cases h),(by decide:(1:Nat)<=9223372036854775807),fun j y hj=>?_⟩;have MB:j=0:=by
   have:=(bc.1 hj).1;simp only[Ex.dj,bg]at this;omega
  subst MB;simp only[Ex.dj,bP,aV]at hj;subst hj;exact⟨⟨g,0,none⟩,cs,rfl,⟨h2,h4⟩,by rw[jY];rfl,by rw[kD];exact h5.cells 0 cs fun j v hv=>by rw[bD];exact hv,(dW d).mono ih fun k hk=>⟨hk.1,by omega⟩⟩
 | two lo m m' m2 g hi k n s op a x y cs ds h1 h2 h3 h4 h5 h6 h7 h8 hn h9 A0 DY=>
  obtain⟨d1,A0⟩:=A0;obtain⟨d2,DY⟩:=DY;obtain⟨sl,jY,_⟩:=h1.cells;obtain⟨Qc,LX,_⟩:=h3.cells;have e1:cs.length=6:=by rw[jY];rfl
  have e2:ds.length=6:=by rw[LX];rfl
  refine⟨max d1 d2+1,_,rfl,rfl,aW _,fun h=>(by cases h),(by decide:(2:Nat)<=9223372036854775807),fun j y hj=>?_⟩;rcases j with _ | _ | j
  ·simp only[Ex.dj,bP,aV]at hj;subst hj;exact⟨⟨g,0,none⟩,cs,rfl,⟨by dsimp only;omega,h8⟩,e1,by rw[kD];exact h9.cells 0 cs fun j v hv=>by rw[bD,bJ (bc.1 hv).1];exact hv,(dW _).mono (NR (yG _ _) A0) fun k hk=>⟨hk.1,by omega⟩⟩
  ·simp only[Ex.dj,cW,bP,aV]at hj;subst hj;exact⟨⟨g,0,none⟩,ds,rfl,⟨by dsimp only;omega,h8⟩,e2,by
    rw[fZ];exact h9.cells 6 ds fun j v hv=>by rw[cf (by omega),e1,dE];exact hv,(dW _).mono (NR (xf _ _) DY) fun k hk=>⟨by omega,by omega⟩⟩
  ·simp[Ex.dj]at hj
end
def zM(f:Ex->Ex->Bool):List Ex->List Ex->Bool
 | x::xs,y::ys=>f x y&&zM f xs ys
 | _,_=>true
def zN(t:Bool)(x y:Ex):Bool:=(((((x.k !=y.k)||(x.n !=y.n))||(!decide (x.s=y.s)))||(x.op !=y.op))||(t&&(x.a !=y.a)))||((x.dj.length:Int) !=(y.dj.length:Int))
def lQ(t:Bool):Nat->Ex->Ex->Bool
 | 0,_,_=>true
 | d+1,x,y=>if zN t x y then false else zM (lQ t d) x.dj y.dj
theorem La{f:Ex->Ex->Bool}{xs ys:List Ex}{n:Nat}{x y:Ex}(hx:xs[n]? =some x)(hy:ys[n]? =some y):zM f (xs.drop n) (ys.drop n)=(f x y&&zM f (xs.drop (n+1)) (ys.drop (n+1))):=by
 have e:∀{l:List Ex} {z:Ex},l[n]? =some z->l.drop n=z::l.drop (n+1):=fun h=>by
  rw[gF (bc.1 h).1,(bc.1 h).2]
 rw[e hx,e hy,zM]
theorem iO(l m:aH):((T l).toList==(T m).toList)=decide (l=m):=TU l m
def Mk(w:av)(F:aJ)(e:TypeId)(size:Nat)(s:Sl):Prop:=s.n=0∨∃g cs,s.a=some ⟨g,0,none⟩/\F g/\aF w g e cs/\s.n*size<=cs.length
def jE{α:Type}(t:Bool)(r:Rp α)(size:Nat)(e:TypeId)(w:av)(F:aJ)(s:Sl)(xs:List α):Prop:=aA r size w F s xs/\(t=true->Mk w F e size s)
section
variable {α:Type} {t:Bool} {r q:Rp α} {size:Nat} {e:TypeId} {w w':av} {F G:aJ} {s:Sl} {xs:List α} {B:Nat}
theorem Mk.keep(h:Mk w F e size s)(hk:∀k,F k->k<w.heap.size->w'.heap[k]? =w.heap[k]?):Mk w' F e size s:=by
 rcases h with h | ⟨g,cs,h1,h2,h3,h4⟩
 ·exact .inl h
 ·exact .inr ⟨g,cs,h1,h2,(hk g h2 h3.lt).trans h3,h4⟩
theorem Mk.mono(h:Mk w F e size s)(hk:∀k,F k->k<w.heap.size->G k):Mk w G e size s:=by
 rcases h with h | ⟨g,cs,h1,h2,h3,h4⟩
 ·exact .inl h
 ·exact .inr ⟨g,cs,h1,hk g h2 h3.lt,h3,h4⟩
theorem jE.keep(hr:r.Ok)(h:jE t r size e w F s xs)(hs:0<size)(hk:∀k,F k->k<w.heap.size->w'.heap[k]? =w.heap[k]?):jE t r size e w' F s xs:=⟨h.1.keep hr hs hk,fun x=>(h.2 x).keep hk⟩
theorem jE.inHeap(hr:r.Ok)(h:jE t r size e w F s xs)(hs:0<size):jE t r size e w (fun k=>F k/\k<w.heap.size) s xs:=⟨h.1.inHeap hr hs,fun x=>(h.2 x).mono fun k a b=>⟨a,b⟩⟩
theorem jE.mono(hr:r.Ok)(h:jE t r size e w F s xs)(hk:∀k,F k->G k):jE t r size e w G s xs:=⟨h.1.mono hr hk,fun x=>(h.2 x).mono fun k a _=>hk k a⟩
theorem jE.nil(t:Bool)(r:Rp α)(size:Nat)(e:TypeId)(w:av)(F:aJ):jE t r size e w F Sl.nil []:=⟨SliceF.nil _ _ _ _,fun _=>.inl rfl⟩
theorem jE.imp(h:jE t r size e w F s xs)(hi:∀x cs,x∈xs->r w F x cs->q w F x cs):jE t q size e w F s xs:=⟨zL h.1 hi,h.2⟩
theorem jE.off(h:jE t r size e w F s xs)(hi:∀x cs,x∈xs->r w F x cs->q w F x cs):jE false q size e w F s xs:=⟨zL h.1 hi,fun h=>(by cases h)⟩
theorem _root_.Go.Kt.Own.sl(hr:r.Ok)(h:Own r size e B w F s xs)(hF:∀k,B<=k->F k):jE true r size e w F s xs:=by
 refine⟨(h.slice hr).mono hr fun k hk=>hk.elim id fun x=>hF k x.1,fun _=>?_⟩;rcases h with⟨rfl,rfl⟩ | ⟨g,css,tail,h1,h2,h4,h5,h6,h7,h9,h8⟩
 ·exact .inl rfl
 ·exact .inr ⟨g,_,h1,hF g h2,h4,by rw[aN,n9.HP h8,<-h6];omega⟩
end
def Ml(t:Bool):Nat->Rp Ex
 | 0=>fun _ _ _ _=>False
 | d+1=>fun w F x cs=>∃sl:Sl,cs=j6 x.k x.n x.s x.op sl x.a/\jE t (Ml t d) 6 51 w F sl x.dj
theorem pd(t:Bool):∀d,(Ml t d).Ok
 | 0=>⟨fun h _=>h.elim,fun h=>h.elim,fun h _=>h.elim,fun h=>h.elim⟩
 | d+1=>⟨fun⟨sl,h1,h2⟩ hk=>⟨sl,h1,jE.keep (pd t d) h2 (by decide) hk⟩,fun⟨sl,h1,h2⟩=>⟨sl,h1,jE.inHeap (pd t d) h2 (by decide)⟩,fun⟨sl,h1,h2⟩ hk=>⟨sl,h1,jE.mono (pd t d) h2 hk⟩,fun⟨sl,h1,h2⟩=>by
  subst h1;intro v hv;simp only[aY,bf,cb]at hv;rcases hv with rfl | rfl | rfl | rfl | rfl | rfl<;>rfl⟩
theorem NS{t:Bool}{w:av}{F:aJ}:∀{d:Nat} {x:Ex} {cs:aI},Ml t d w F x cs->Ml t (d+1) w F x cs
 | 0,_,_,h=>h.elim
 | d+1,x,cs,⟨sl,h1,h2⟩=>⟨sl,h1,h2.imp fun x cs _ h=>NS h⟩
theorem Hg{t:Bool}{w:av}{F:aJ}{d e:Nat}{x:Ex}{cs:aI}(h:d<=e)(hx:Ml t d w F x cs):Ml t e w F x cs:=by
 induction e with
 | zero=>have:d=0:=(by omega);subst this;exact hx
 | succ e ih=>
  by_cases he:d=e+1
  ·subst he;exact hx
  ·exact NS (ih (by omega))
theorem uB{t:Bool}{w:av}{F:aJ}:∀{d:Nat} {x:Ex} {cs:aI},Ml t d w F x cs->nM d w F x cs
 | 0,_,_,h=>h.elim
 | d+1,x,cs,⟨sl,h1,h2⟩=>⟨sl,h1,zL h2.1 fun x cs _ h=>uB h⟩
theorem Hh{w:av}{F:aJ}:∀{d:Nat} {x:Ex} {cs:aI},nM d w F x cs->Ml false d w F x cs
 | 0,_,_,h=>h.elim
 | d+1,x,cs,⟨sl,h1,h2⟩=>⟨sl,h1,zL h2 fun x cs _ h=>Hh h,fun h=>(by cases h)⟩
theorem RXN.xg{w:av}{x:Ex}{cs:aI}{N:aJ}{lo hi:Nat}(h:RXN w N lo hi x cs):∃d,Ml true d w (fun k=>lo<=k/\k<hi) x cs:=by
 induction h with
 | leaf lo hi k n s op a=>exact⟨1,Sl.nil,rfl,jE.nil _ _ _ _ _ _⟩
 | one lo m g hi k n s op a x cs h1 h2 h3 h4 hn h5 ih=>
  obtain⟨d,ih⟩:=ih;obtain⟨sl,jY,_⟩:=h1.cells;refine⟨d+1,_,rfl,⟨rfl,aW _,fun h=>(by cases h),(by decide:(1:Nat)<=9223372036854775807),fun j y hj=>?_⟩,fun _=>.inr ⟨g,cs,rfl,⟨h2,h4⟩,h5,by rw[jY];exact aW _⟩⟩;have MB:j=0:=by
   have:=(bc.1 hj).1;simp only[Ex.dj,bg]at this;omega
  subst MB;simp only[Ex.dj,bP,aV]at hj;subst hj;exact⟨⟨g,0,none⟩,cs,rfl,⟨h2,h4⟩,by rw[jY];rfl,by rw[kD];exact h5.cells 0 cs fun j v hv=>by rw[bD];exact hv,(pd true d).mono ih fun k hk=>⟨hk.1,by omega⟩⟩
 | two lo m m' m2 g hi k n s op a x y cs ds h1 h2 h3 h4 h5 h6 h7 h8 hn h9 A0 DY=>
  obtain⟨d1,A0⟩:=A0;obtain⟨d2,DY⟩:=DY;obtain⟨sl,jY,_⟩:=h1.cells;obtain⟨Qc,LX,_⟩:=h3.cells;have e1:cs.length=6:=by rw[jY];rfl
  have e2:ds.length=6:=by rw[LX];rfl
  refine⟨max d1 d2+1,_,rfl,⟨rfl,aW _,fun h=>(by cases h),(by decide:(2:Nat)<=9223372036854775807),fun j y hj=>?_⟩,fun _=>.inr ⟨g,cs++ds,rfl,⟨by omega,h8⟩,h9,by rw[aN,e1,e2];exact aW _⟩⟩;rcases j with _ | _ | j
  ·simp only[Ex.dj,bP,aV]at hj;subst hj;exact⟨⟨g,0,none⟩,cs,rfl,⟨by dsimp only;omega,h8⟩,e1,by rw[kD];exact h9.cells 0 cs fun j v hv=>by rw[bD,bJ (bc.1 hv).1];exact hv,(pd true _).mono (Hg (yG _ _) A0) fun k hk=>⟨hk.1,by omega⟩⟩
  ·simp only[Ex.dj,cW,bP,aV]at hj;subst hj;exact⟨⟨g,0,none⟩,ds,rfl,⟨by dsimp only;omega,h8⟩,e2,by
    rw[fZ];exact h9.cells 6 ds fun j v hv=>by rw[cf (by omega),e1,dE];exact hv,(pd true _).mono (Hg (xf _ _) DY) fun k hk=>⟨by omega,by omega⟩⟩
  ·simp[Ex.dj]at hj
def rE(t:Bool):Rp Ex:=fun w F x cs=>∃d,Ml t d w F x cs
theorem gz(t:Bool):(rE t).Ok:=⟨fun⟨d,h⟩ hk=>⟨d,(pd t d).keep h hk⟩,fun⟨d,h⟩=>⟨d,(pd t d).inHeap h⟩,fun⟨d,h⟩ hk=>⟨d,(pd t d).mono h hk⟩,fun⟨d,h⟩=>(pd t d).one h⟩
theorem eH{t:Bool}{w:av}{F:aJ}{x:Ex}{cs:aI}(h:rE t w F x cs):∃sl,cs=j6 x.k x.n x.s x.op sl x.a:=by
 obtain⟨d,h⟩:=h;cases d with
 | zero=>exact h.elim
 | succ d=>obtain⟨sl,h,_⟩:=h;exact⟨sl,h⟩
theorem NT{t:Bool}{w:av}{F:aJ}{x:Ex}{cs:aI}(h:rE t w F x cs):rE false w F x cs:=by
 obtain⟨d,h⟩:=h;exact⟨d,Hh (uB h)⟩
theorem YQ(t:Bool)(w:av)(F:aJ):rE t w F uN (j6 0 0 [] 0 Sl.nil 0):=⟨1,Sl.nil,rfl,jE.nil _ _ _ _ _ _⟩
def Uh(k:Int)(n:aH)(xc:aI)(a:Int):aI:=O U k::ab (T n)::(xc++[O U a])
def pC(t:Bool):Rp Ac:=fun w F x cs=>∃xc,cs=Uh x.k x.n xc x.a/\rE t w F x.x xc
theorem cF(t:Bool):(pC t).Ok:=⟨fun⟨c,h1,h2⟩ hk=>⟨c,h1,(gz t).keep h2 hk⟩,fun⟨c,h1,h2⟩=>⟨c,h1,(gz t).inHeap h2⟩,fun⟨c,h1,h2⟩ hk=>⟨c,h1,(gz t).mono h2 hk⟩,fun⟨c,h1,h2⟩=>by
 subst h1;intro v hv;simp only[Uh,aY,cH,bf,cb]at hv;rcases hv with rfl | rfl | h | rfl
 ·rfl
 ·rfl
 ·exact(gz t).one h2 v h
 ·rfl⟩
def mvv(k:Int)(ev:aH)(wt:Int)(gd:Bool)(gc:aI)(qU tg:Sl)(a:Int):aI:=O U k::ab (T ev)::O U wt::aj gd::(gc++[qU.v,tg.v,O U a])
def yq(t:Bool):Rp Mv:=fun w F x cs=>∃gc qU tg,cs=mvv x.k x.ev x.wt x.gd gc qU tg x.a/\rE t w F x.g gc/\jE t (pC t) 9 116 w F qU x.acts/\jE t jB 1 9 w F tg x.tg
theorem gU(t:Bool):(yq t).Ok:=⟨fun⟨c,qU,tg,h1,h2,h3,h4⟩ hk=>⟨c,qU,tg,h1,(gz t).keep h2 hk,h3.keep (cF t) (by decide) hk,h4.keep cZ (by decide) hk⟩,
 fun⟨c,qU,tg,h1,h2,h3,h4⟩=>⟨c,qU,tg,h1,(gz t).inHeap h2,h3.inHeap (cF t) (by decide),h4.inHeap cZ (by decide)⟩,
 fun⟨c,qU,tg,h1,h2,h3,h4⟩ hk=>⟨c,qU,tg,h1,(gz t).mono h2 hk,h3.mono (cF t) hk,h4.mono cZ hk⟩,
 fun⟨c,qU,tg,h1,h2,h3,h4⟩=>by
  subst h1;intro v hv;simp only[mvv,aY,cH,bf,cb]at hv;rcases hv with rfl | rfl | rfl | rfl | h | rfl | rfl | rfl
  ·rfl
  ·rfl
  ·rfl
  ·rfl
  ·exact(gz t).one h2 v h
  ·rfl
  ·rfl
  ·rfl⟩
def yr:Rp Vr:=fun _ _ x cs=>cs=[ab (T x.n),O U x.v,O U x.a]
theorem eF:yr.Ok:=⟨fun h _=>h,fun h=>h,fun h _=>h,fun h=>by
 unfold yr at h;subst h;intro v hv;simp only[aY,bf,cb]at hv;rcases hv with rfl | rfl | rfl<;>rfl⟩
abbrev nf(k:Int)(nm ini dft:aH)(en lv mv kids:Sl)(a:Int):aI:=[O U k,ab (T nm),ab (T ini),ab (T dft),en.v,lv.v,mv.v,kids.v,O U a]
def CT(t:Bool)(w:av)(F:aJ)(x:Nb)(en lv mv:Sl):Prop:=jE t (pC t) 9 116 w F en x.en/\jE t (pC t) 9 116 w F lv x.lv/\jE t (yq t) 13 54 w F mv x.mv
def li(t:Bool):Nat->Rp Nd
 | 0=>fun _ _ _ _=>False
 | d+1=>fun w F x cs=>∃en lv mv kids:Sl,cs=nf x.b.k x.b.nm x.b.ini x.b.dft en lv mv kids x.b.a/\CT t w F x.b en lv mv/\jE t (li t d) 9 27 w F kids x.kids
section
variable {t:Bool} {w w':av} {F G:aJ} {x:Nb} {en lv mv:Sl}
theorem CT.keep(h:CT t w F x en lv mv)(hk:∀k,F k->k<w.heap.size->w'.heap[k]? =w.heap[k]?):CT t w' F x en lv mv:=⟨h.1.keep (cF t) (by decide) hk,h.2.1.keep (cF t) (by decide) hk,h.2.2.keep (gU t) (by decide) hk⟩
theorem CT.inHeap(h:CT t w F x en lv mv):CT t w (fun k=>F k/\k<w.heap.size) x en lv mv:=⟨h.1.inHeap (cF t) (by decide),h.2.1.inHeap (cF t) (by decide),h.2.2.inHeap (gU t) (by decide)⟩
theorem CT.mono(h:CT t w F x en lv mv)(hk:∀k,F k->G k):CT t w G x en lv mv:=⟨h.1.mono (cF t) hk,h.2.1.mono (cF t) hk,h.2.2.mono (gU t) hk⟩
end
theorem cj(t:Bool):∀d,(li t d).Ok
 | 0=>⟨fun h _=>h.elim,fun h=>h.elim,fun h _=>h.elim,fun h=>h.elim⟩
 | d+1=>⟨fun⟨en,lv,mv,kids,h1,h2,h3⟩ hk=>⟨en,lv,mv,kids,h1,h2.keep hk,jE.keep (cj t d) h3 (by decide) hk⟩,
  fun⟨en,lv,mv,kids,h1,h2,h3⟩=>⟨en,lv,mv,kids,h1,h2.inHeap,jE.inHeap (cj t d) h3 (by decide)⟩,
  fun⟨en,lv,mv,kids,h1,h2,h3⟩ hk=>⟨en,lv,mv,kids,h1,h2.mono hk,jE.mono (cj t d) h3 hk⟩,fun⟨en,lv,mv,kids,h1,h2,h3⟩=>by
  subst h1;intro v hv;simp only[aY,bf,cb]at hv;rcases hv with rfl | rfl | rfl | rfl | rfl | rfl | rfl | rfl | rfl<;>rfl⟩
theorem NU{t:Bool}{w:av}{F:aJ}:∀{d:Nat} {x:Nd} {cs:aI},li t d w F x cs->li t (d+1) w F x cs
 | 0,_,_,h=>h.elim
 | d+1,x,cs,⟨en,lv,mv,kids,h1,h2,h3⟩=>⟨en,lv,mv,kids,h1,h2,h3.imp fun x cs _ h=>NU h⟩
theorem VZ{t:Bool}{w:av}{F:aJ}{d e:Nat}{x:Nd}{cs:aI}(h:d<=e)(hx:li t d w F x cs):li t e w F x cs:=by
 induction e with
 | zero=>have:d=0:=(by omega);subst this;exact hx
 | succ e ih=>
  by_cases he:d=e+1
  ·subst he;exact hx
  ·exact NU (ih (by omega))
theorem CU{t:Bool}{w:av}{F:aJ}{x:Ac}{cs:aI}(h:pC t w F x cs):pC false w F x cs:=by
 obtain⟨c,h1,h2⟩:=h;exact⟨c,h1,NT h2⟩
theorem Su{t:Bool}{w:av}{F:aJ}{x:Mv}{cs:aI}(h:yq t w F x cs):yq false w F x cs:=by
 obtain⟨c,qU,tg,h1,h2,h3,h4⟩:=h;exact⟨c,qU,tg,h1,NT h2,h3.off fun _ _ _ h=>CU h,h4.off fun _ _ _ h=>h⟩
theorem CT.off{t:Bool}{w:av}{F:aJ}{x:Nb}{en lv mv:Sl}(h:CT t w F x en lv mv):CT false w F x en lv mv:=⟨h.1.off fun _ _ _ h=>CU h,h.2.1.off fun _ _ _ h=>CU h,h.2.2.off fun _ _ _ h=>Su h⟩
theorem Je{t:Bool}{w:av}{F:aJ}:∀{d:Nat} {x:Nd} {cs:aI},li t d w F x cs->li false d w F x cs
 | 0,_,_,h=>h.elim
 | d+1,x,cs,⟨en,lv,mv,kids,h1,h2,h3⟩=>⟨en,lv,mv,kids,h1,h2.off,h3.off fun x cs _ h=>Je h⟩
structure ChR (t:Bool) (d:Nat) (w:av) (F:aJ) (c:Ch) (vs:Sl) (cs:aI):Prop where
 vars:jE t yr 3 79 w F vs c.vars
 root:li t d w F c.root cs
abbrev Fr(B:Nat):aJ:=fun k=>B<=k
section
variable {α:Type} {r:Rp α} {size:Nat} {e:TypeId} {w w':av} {s:Sl} {xs:List α} {B:Nat}
theorem _root_.Go.Kt.Own.stay(hr:r.Ok)(h:Own r size e B w (Fr B) s xs){bs:List Nat}(hO:ay bs w w')(hb:∀x,x∈bs->x<B∨w.heap.size<=x):Own r size e B w' (Fr B) s xs:=by
 refine((h.inHeap hr).keep hr fun k hk bQ=>hO.block k bQ fun hm=>?_).mono hr fun k hk=>hk.1;have um:B<=k/\k<w.heap.size:=by
  rcases hk with hk | hk
  ·exact hk
  ·exact⟨hk.1,bQ⟩
 rcases hb k hm with h | h<;>omega
theorem _root_.Go.Kt.Own.new(h:Own r size e B w (Fr B) s xs){k:Nat}(hk:w.heap.size<=k):s.a≠some ⟨k,0,none⟩:=fun e=>by
 have:=(h.blk e).2;dsimp only at this;omega
end
theorem Hi(t:Bool):∀(d:Nat) {e:Nat} {w:av} {F G:aJ} {x y:Ex} {cs ds:aI},nM d w F x cs->nM e w G y ds->
  az aq 159 #[ah cs.toArray,ah ds.toArray,aj t] w fun r w'=>r=ak (aj (lQ t d x y))/\ay [] w w'
 | 0,_,_,_,_,_,_,_,_,h,_=>h.elim
 | d+1,0,_,_,_,_,_,_,_,_,h=>h.elim
 | d+1,e+1,w,F,G,x,y,cs,ds,⟨sl,h1,h2⟩,⟨gL,h3,h4⟩=>by
  subst h1 h3;refine ret (agr _ _ _ _ _ _ _ _ _ _ _ _ _ _ _ ?_);intro k0 k1 w0 gD dQ kg ju ch;have n1:=h2.len;have n2:=h4.len;have c1:=h2.cap;have b1:=h2.big;have hcond:((((((x.k !=y.k)||(x.n !=y.n))||(!((T x.s).toList==(T y.s).toList)))||(x.op !=y.op))||(t&&(x.a !=y.a)))||((sl.n:Int) !=(gL.n:Int)))=zN t x y:=by
   rw[iO,n1,n2];rfl
  rw[hcond];refine⟨fun hc=>⟨by rw[lQ,if_pos hc],ch⟩,fun hc=>?_⟩;have ey:x.dj.length=y.dj.length:=by
   unfold zN at hc;rw[eK]at hc;have:=hc.2;simp only[bne_eq_false_iff_eq]at this;omega
  rw[lQ,if_neg (by rw[hc];decide)];refine⟨fun nv i w'=>∃n:Nat,n<=x.dj.length/\i=(n:Int)/\nv=x.dj.length-n/\zM (lQ t d) x.dj y.dj=zM (lQ t d) (x.dj.drop n) (y.dj.drop n)/\ay [] w w'/\w0.heap.size<=w'.heap.size,x.dj.length,⟨0,bd _,rfl,rfl,rfl,ch,aW _⟩,?_⟩;rintro nv _ w1 ⟨n,hn,rfl,rfl,fy,cn,z1⟩;refine⟨fun bQ=>?_,fun lR=>?_⟩
  ·have bQ:(n:Int)<(sl.n:Int):=aQ bQ;obtain⟨p,x1,cs1,g1,g2,g3,g4,g5,g6⟩:=(SliceF.only (dW d) (by decide) h2 cn (by simp)).get (ba n) bQ;obtain⟨p',y1,ds1,m1,m2,m3,m4,m5,m6⟩:=(SliceF.only (dW e) (by decide) h4 cn (by simp)).get (i:=(n:Int)) (ba n) (by omega);rw[aX]at g2 m2;refine⟨p,g1,fun w2 cG=>?_⟩;have hOO:=cn.cd cG;have DG:=fP g6 cG;have m6':=fP m6 cG;have tc:∃(k n:Int) (s:aH) (o:Int) (l:Sl) (a:Int),cs1=j6 k n s o l a:=by
    cases d with
    | zero=>exact g6.elim
    | succ d=>obtain⟨l,jY,_⟩:=g6;exact⟨_,_,_,_,l,_,jY⟩
   have td:∃(k n:Int) (s:aH) (o:Int) (l:Sl) (a:Int),ds1=j6 k n s o l a:=by
    cases e with
    | zero=>exact m6.elim
    | succ e=>obtain⟨l,jY,_⟩:=m6;exact⟨_,_,_,_,l,_,jY⟩
   obtain⟨a1,a2,a3,a4,a5,a6,rfl⟩:=tc;obtain⟨b1,b2,b3,b4,b5,b6,rfl⟩:=td;have g5':=g5.keep (cG.block _ g5.lt (by simp));have m5':=m5.keep (cG.block _ m5.lt (by simp));refine⟨_,_,_,_,_,_,g5',p',m1,_,_,_,_,_,_,m5',(Hi t d DG m6').mono ?_⟩;rintro _ w3 ⟨rfl,dh⟩;have z2:=cG.size;have z3:=dh.size;have lj:=La (f:=lQ t d) g2 m2;refine⟨_,rfl,dh.same (by
    simp;omega),fun hb=>⟨?_,hOO.cd dh⟩,fun hb=>⟨x.dj.length-(n+1),by omega,n+1,by omega,by rw[fH (by omega) (by omega)];rfl,rfl,?_,hOO.cd dh,by omega⟩⟩
   ·rw[fy,lj];have hb:lQ t d x1 y1=false:=by simpa using hb
    rw[hb,du]
   ·have hb:lQ t d x1 y1=true:=by simpa using hb
    rw[fy,lj,hb,bT]
  ·have lR:¬(n:Int)<(sl.n:Int):=aU lR;have:n=x.dj.length:=by omega
   subst this;rw[fy,dy (aW _)];exact⟨rfl,cn⟩
theorem jV{d:Nat}{w:av}{F:aJ}{x:Ex}{cs:aI}(h:nM d w F x cs):∃sl:Sl,cs=j6 x.k x.n x.s x.op sl x.a:=by
 cases d with
 | zero=>exact h.elim
 | succ d=>obtain⟨l,jY,_⟩:=h;exact⟨l,jY⟩
def ug:Nat->Ex->Prop
 | 0,_=>True
 | d+1,x=>x.s.length<4611686018427387903/\∀y,y∈x.dj->ug d y
def nN(f:Ex->Nat):List Ex->Nat
 | []=>0
 | x::xs=>f x+nN f xs
def lA:Nat->Ex->Nat
 | 0,_=>0
 | d+1,x=>1+nN (lA d) x.dj
def jQ:Nat->Ex->Prop
 | 0,_=>True
 | d+1,x=>wa x.n/\∀y,y∈x.dj->jQ d y
theorem Jf{d:Nat}:∀{xs:List Ex},xs.length<=nN (lA (d+1)) xs
 | []=>aW _
 | x::xs=>by
  rw[nN,aR];have:=Jf (d:=d) (xs:=xs);rw[lA];omega
theorem NV{d:Nat}:∀{xs:List Ex} {x:Ex},x∈xs->lA d x<=nN (lA d) xs
 | [],_,h=>by simp at h
 | y::xs,x,h=>by
  rw[nN];rcases aY.1 h with rfl | h
  ·omega
  ·have:=NV (d:=d) h;omega
theorem Lb(t:Bool)(x:Ex):zN t x x=false:=by simp[zN]
theorem Bs(t:Bool):∀(d:Nat) (x:Ex),lQ t d x x=true
 | 0,_=>rfl
 | d+1,x=>by
  rw[lQ,if_neg (by rw[Lb];decide)];have:∀l:List Ex,zM (lQ t d) l l=true:=fun l=>by
   induction l with
   | nil=>rfl
   | cons y l ih=>rw[zM,Bs t d y,ih];rfl
  exact this _
theorem Sv{w:av}{F G:aJ}{s t:Sl}{l m:List (aH)}(h:aA jB 1 w F s l)(k:aA jB 1 w G t m):
  az aq 31 #[s.v,t.v] w fun e w'=>e=ak (aj (decide (l=m)))/\ay [] w w':=by
 refine ret (agt _ _ _ _ ?_);have h1:=h.len;have h2:=h.cap;have h3:=h.big;have k1:=k.len;refine⟨fun hc=>?_,fun hc=>?_⟩
 ·have hc:¬(s.n:Int)=(t.n:Int):=by simpa using hc
  rw[bn (fun e=>hc (by rw[h1,k1,e]))];exact⟨rfl,Only.refl _ _⟩
 ·have hc:(s.n:Int)=(t.n:Int):=by simpa using hc
  have hlm:l.length=m.length:=by omega
  refine⟨fun nv i w'=>∃n:Nat,n<=l.length/\i=(n:Int)/\nv=l.length-n/\l.take n=m.take n/\ay [] w w',l.length,⟨0,bd _,rfl,rfl,by simp,Only.refl _ _⟩,?_⟩;rintro nv _ w0 ⟨n,hn,rfl,rfl,he,hO⟩;refine⟨fun bQ=>?_,fun lR=>?_⟩
  ·have bQ:(n:Int)<(s.n:Int):=aQ bQ;obtain⟨p,x,cs,a1,a2,a3,a4,a5,a6⟩:=(SliceF.only cZ (by decide) h hO (by simp)).get (ba n) bQ;obtain⟨q,y,ds,b1,b2,b3,b4,b5,b6⟩:=(SliceF.only cZ (by decide) k hO (by simp)).get (i:=(n:Int)) (ba n) (by omega);rw[aX]at a2 b2;unfold jB at a6 b6;subst a6 b6;refine⟨p,a1,_,a5,q,b1,_,b5,?_⟩;dsimp only;rw[iO];refine⟨fun gC w1 cn=>?_,fun heq w2 cG=>⟨l.length-(n+1),by omega,n+1,by omega,by rw[fH (by omega) (by omega)];rfl,rfl,?_,hO.cd cG⟩⟩
   ·have gC:x≠y:=by simpa using gC
    rw[bn (fun e=>gC (by rw[e,b2]at a2;exact(Option.some.inj a2).symm))];exact⟨rfl,hO.cd cn⟩
   ·have heq:x=y:=by simpa using heq
    rw[bB,bB,he,a2,b2,heq]
  ·have lR:¬(n:Int)<(s.n:Int):=aU lR;rw[bH (by omega),bH (by omega)]at he;rw[bF he];exact⟨rfl,hO⟩
def iY{α:Type}(R:α->α->Prop)(xs ys:List α):Prop:=xs.length=ys.length/\∀(i:Nat) (x y:α),xs[i]? =some x->ys[i]? =some y->R x y
theorem iY.refl{α:Type}{R:α->α->Prop}{xs:List α}(h:∀x,x∈xs->R x x):iY R xs xs:=⟨rfl,fun i x y hx hy=>by
 rw[hx]at hy;injection hy with hy;subst hy;exact h x (br hx)⟩
def QX(t:Bool)(x y:Ex):Prop:=∀d,lQ t d x y=true
structure AcE (t:Bool) (x y:Ac):Prop where
 k:x.k=y.k
 n:x.n=y.n
 e:QX t x.x y.x
 a:t=true->x.a=y.a
structure MvE (t:Bool) (x y:Mv):Prop where
 k:x.k=y.k
 ev:x.ev=y.ev
 wt:x.wt=y.wt
 gd:x.gd=y.gd
 g:QX t x.g y.g
 acts:iY (AcE t) x.acts y.acts
 tg:x.tg=y.tg
 a:t=true->x.a=y.a
structure NbE (t:Bool) (x y:Nb):Prop where
 k:x.k=y.k
 nm:x.nm=y.nm
 ini:x.ini=y.ini
 dft:x.dft=y.dft
 en:iY (AcE t) x.en y.en
 lv:iY (AcE t) x.lv y.lv
 mv:iY (MvE t) x.mv y.mv
 a:t=true->x.a=y.a
def Ui(t:Bool):Nat->Nd->Nd->Prop
 | 0,_,_=>True
 | d+1,x,y=>NbE t x.b y.b/\iY (Ui t d) x.kids y.kids
structure VrE (t:Bool) (x y:Vr):Prop where
 n:x.n=y.n
 v:x.v=y.v
 a:t=true->x.a=y.a
structure ChE (t:Bool) (d:Nat) (x y:Ch):Prop where
 vars:iY (VrE t) x.vars y.vars
 root:Ui t d x.root y.root
theorem QX.refl(t:Bool)(x:Ex):QX t x x:=fun d=>Bs t d x
theorem AcE.refl(t:Bool)(x:Ac):AcE t x x:=⟨rfl,rfl,QX.refl t _,fun _=>rfl⟩
theorem MvE.refl(t:Bool)(x:Mv):MvE t x x:=⟨rfl,rfl,rfl,rfl,QX.refl t _,iY.refl fun y _=>AcE.refl t y,rfl,fun _=>rfl⟩
theorem NbE.refl(t:Bool)(x:Nb):NbE t x x:=⟨rfl,rfl,rfl,rfl,iY.refl fun y _=>AcE.refl t y,iY.refl fun y _=>AcE.refl t y,iY.refl fun y _=>MvE.refl t y,fun _=>rfl⟩
theorem Ui.refl(t:Bool):∀(d:Nat) (x:Nd),Ui t d x x
 | 0,_=>trivial
 | d+1,x=>⟨NbE.refl t _,iY.refl fun y _=>Ui.refl t d y⟩
theorem ChE.refl(t:Bool)(d:Nat)(x:Ch):ChE t d x x:=⟨iY.refl fun y _=>⟨rfl,rfl,fun _=>rfl⟩,Ui.refl t d _⟩
section
variable {w w':av} {F G:aJ} {t:Bool}
theorem Uj{x:Ex}{cs:aI}(h:rE false w F x cs):∃d,nM d w F x cs:=by
 obtain⟨d,h⟩:=h;exact⟨d,uB h⟩
theorem Jg{x y:Ex}{cs ds:aI}(hx:rE false w F x cs)(hy:rE false w G y ds)(hE:QX t x y):az aq 159 #[ah cs.toArray,ah ds.toArray,aj t] w fun r w'=>r=ak (aj true)/\ay [] w w':=by
 obtain⟨d,hx⟩:=Uj hx;obtain⟨e,hy⟩:=Uj hy;refine(Hi t d hx hy).mono ?_;rintro _ w1 ⟨rfl,hO⟩;rw[hE d];exact⟨rfl,hO⟩
theorem NW{k:Int}{n:aH}{xc:aI}{a:Int}{ad:Addr}(h:aB w ad (Uh k n xc a)):aB w (ad.add 2) xc:=h.sub 2 fun j v hj=>by
 have hl:=(bc.1 hj).1;rw[jH];show(Uh k n xc a)[j+2]? =_;unfold Uh;rw[cW,cW,bJ hl];exact hj
theorem Jh{k:Int}{n:aH}{k' n':Int}{s:aH}{op:Int}{sl:Sl}{a' a:Int}{ad:Addr}(h:aB w ad (Uh k n (j6 k' n' s op sl a') a)):aB w (ad.add 8) [O U a]:=h.ec 8 _ rfl
theorem uC{a b:Sl}{xs ys:List Ac}(ha:aA (pC false) 9 w F a xs)(hb:aA (pC false) 9 w G b ys)(hE:iY (AcE t) xs ys):az aq 92 #[a.v,b.v,aj t] w fun r w'=>r=ak (aj true)/\ay [] w w':=by
 refine ret (agq _ _ _ _ _ ?_);have l1:=ha.len;have l2:=hb.len;have l3:=hE.1;have c1:=ha.cap;have c2:=ha.big;refine⟨fun hc=>?_,fun hc=>?_⟩
 ·have:¬(a.n:Int)=(b.n:Int):=by simpa using hc
  omega
 refine⟨fun nv i w'=>∃n:Nat,i=(n:Int)/\n<=xs.length/\nv=xs.length-n/\ay [] w w',xs.length,⟨0,rfl,bd _,rfl,Only.refl _ _⟩,?_⟩;rintro nv _ w0 ⟨n,rfl,hn,rfl,ch⟩;refine⟨fun bQ=>?_,fun lR=>⟨rfl,ch⟩⟩;have bQ:n<a.n:=by have:=aQ bQ;omega
 obtain⟨p,x,cs,g1,g2,g3,g4,_,g6⟩:=ha.get (i:=(n:Int)) (by omega) (by omega);obtain⟨q,y,ds,k1,k2,k3,k4,_,k6⟩:=hb.get (i:=(n:Int)) (by omega) (by omega);rw[aX]at g2 k2;have hxy:=hE.2 n x y g2 k2;refine⟨p,g1,fun w1 cn=>?_⟩;have fG:=ch.cd cn;obtain⟨p',x',wU,q1,q2,_,_,g5,g6⟩:=(SliceF.only (cF false) (by decide) ha fG (by simp)).get (i:=(n:Int)) (by omega) (by omega);obtain⟨q',y',ds',q3,q4,_,_,k5,k6⟩:=(SliceF.only (cF false) (by decide) hb fG (by simp)).get (i:=(n:Int)) (by omega) (by omega);rw[aX]at q2 q4;rw[g2]at q2;rw[k2]at q4;injection q2 with q2;injection q4 with q4;subst q2 q4;obtain rfl:=g1.Aq q1;obtain rfl:=k1.Aq q3;obtain⟨xc,rfl,hx⟩:=g6;obtain⟨yc,rfl,hy⟩:=k6;have DH:=hx;have hy':=hy;obtain⟨sx,rfl⟩:=eH hx;obtain⟨sy,rfl⟩:=eH hy;refine⟨_,_,_,_,sx,_,NW g5,q,k1,_,_,_,_,sy,_,NW k5,(Jg DH hy' hxy.e).mono ?_⟩;rintro _ w2 ⟨rfl,cG⟩;have kp:∀{ad:Addr} {vs:aI} {v:aw} {vt:aI},vs=v::vt->aB w1 ad vs->aB w2 ad vs:=fun wV h=>by
  subst wV;exact h.keep (cG.block _ h.lt (by simp))
 have g5':=kp rfl g5;have k5':=kp rfl k5;have e:(((((!true)||(x.k !=y.k))||(!((T x.n).toList==(T y.n).toList)))||(t&&(x.a !=y.a))))=false:=by
  rw[iO,hxy.k,hxy.n];cases ht:t with
  | false=>simp
  | true=>rw[hxy.a ht];simp
 refine⟨true,rfl,p,fun _=>g1,x.k,fun _=>g5'.ec 0 _ rfl,q,fun _=>k1,y.k,fun _=>k5'.ec 0 _ rfl,p,fun _=>g1,_,fun _=>g5'.ec 1 _ rfl,q,fun _=>k1,_,fun _=>k5'.ec 1 _ rfl,p,fun _ _=>g1,_,fun _ _=>Jh g5',q,fun _ _=>k1,_,fun _ _=>Jh k5',fun hh=>?_,fun _ w4 dI=>⟨xs.length-(n+1),by omega,n+1,by rw[fH (by omega) (by omega)];rfl,by omega,rfl,(fG.cd cG).cd dI⟩⟩;rw[e]at hh;cases hh
theorem Hj{x y:Mv}{cs ds:aI}(hx:yq false w F x cs)(hy:yq false w G y ds)(hE:MvE t x y):az aq 93 #[ah cs.toArray,ah ds.toArray,aj t] w fun r w'=>r=ak (aj true)/\ay [] w w':=by
 obtain⟨gc,qU,tg,rfl,h1,h2,h3⟩:=hx;obtain⟨gc',Xy,tg',rfl,k1,k2,k3⟩:=hy;have YX:=h1;have k1':=k1;obtain⟨sx,rfl⟩:=eH h1;obtain⟨sy,rfl⟩:=eH k1;refine ret (ags _ _ _ _ _ _ _ _ _ _ _ _ _ _ _ _ _ _ _ _ _ _ _ _ _ _ _ _ _ ?_);intro k0 k1 w0 gD dQ kg ju ch;refine(Jg ((gz false).only YX ch (by simp)) ((gz false).only k1' ch (by simp)) hE.g).mono ?_;rintro _ w1 ⟨rfl,cn⟩;have z0:=ch.size;have z1:=cn.size;have fG:=ch.cd cn;refine⟨_,rfl,cn.same (by simp;omega),(uC (SliceF.only (cF false) (by decide) h2.1 fG (by simp)) (SliceF.only (cF false) (by decide) k2.1 fG (by simp)) hE.acts).mono ?_⟩;rintro _ w2 ⟨rfl,cG⟩;have z2:=cG.size;have js:=fG.cd cG;refine⟨_,rfl,cG.same (by simp;omega),(Sv (SliceF.only cZ (by decide) h3.1 js (by simp)) (SliceF.only cZ (by decide) k3.1 js (by simp))).mono ?_⟩;rintro _ w3 ⟨rfl,dh⟩;refine⟨_,rfl,dh.same (by simp;omega),?_,js.cd dh⟩;rw[iO,bF hE.tg,hE.k,hE.ev,hE.wt,hE.gd];cases ht:t with
 | false=>simp
 | true=>rw[hE.a ht];simp
theorem zO:∀(d:Nat) {w:av} {F G:aJ} {x y:Nd} {cs ds:aI},li false d w F x cs->li false d w G y ds->Ui t d x y->az aq 44 #[ah cs.toArray,ah ds.toArray,aj t] w fun r w'=>r=ak (aj true)/\ay [] w w'
 | 0,_,_,_,_,_,_,_,h,_,_=>h.elim
 | d+1,w,F,G,x,y,cs,ds,⟨en,lv,mv,kids,jY,h1,h2⟩,⟨uo,uq,pu,iX,LX,k1,k2⟩,hE=>by
  subst jY LX;obtain⟨hE,hK⟩:=hE;refine ret (agp _ _ _ _ _ _ _ _ _ _ _ _ _ _ _ _ _ _ _ _ _ ?_);intro k0 k1' w0 gD dQ kg ju ch;have z0:=ch.size;have m1:=h1.2.2.1.len;have m2:=k1.2.2.1.len;have m3:=hE.mv.1;have m4:=h1.2.2.1.cap;have m5:=h1.2.2.1.big;have n1:=h2.1.len;have n2:=k2.1.len;have n3:=hK.1;have n4:=h2.1.cap;have n5:=h2.1.big;have e:((((((((x.b.k !=y.b.k)||(!((T x.b.nm).toList==(T y.b.nm).toList)))||(!((T x.b.ini).toList==(T y.b.ini).toList)))||(!((T x.b.dft).toList==(T y.b.dft).toList)))||(t&&(x.b.a !=y.b.a)))||((mv.n:Int) !=(pu.n:Int)))||((kids.n:Int) !=(iX.n:Int))))=false:=by
   rw[iO,iO,iO,hE.k,hE.nm,hE.ini,hE.dft,show mv.n=pu.n by omega,show kids.n=iX.n by omega];cases ht:t with
   | false=>simp
   | true=>rw[hE.a ht];simp
  refine⟨fun hh=>(by rw[e]at hh;cases hh),fun _=>(uC (SliceF.only (cF false) (by decide) h1.1.1 ch (by simp)) (SliceF.only (cF false) (by decide) k1.1.1 ch (by simp)) hE.en).mono ?_⟩;rintro _ w1 ⟨rfl,cn⟩;have z1:=cn.size;have fG:=ch.cd cn;refine⟨_,rfl,cn.same (by simp;omega),(uC (SliceF.only (cF false) (by decide) h1.2.1.1 fG (by simp)) (SliceF.only (cF false) (by decide) k1.2.1.1 fG (by simp)) hE.lv).mono ?_⟩;rintro _ w2 ⟨rfl,cG⟩;have z2:=cG.size;have js:=fG.cd cG;refine⟨_,rfl,cG.same (by simp;omega),fun hh=>(by cases hh),fun _=>?_⟩;refine⟨fun nv i w'=>∃n:Nat,i=(n:Int)/\n<=mv.n/\nv=mv.n-n/\ay [] w w'/\w2.heap.size<=w'.heap.size,mv.n,⟨0,rfl,bd _,rfl,js,aW _⟩,?_⟩;rintro nv _ w3 ⟨n,rfl,hn,rfl,mw,z3⟩;refine⟨fun bQ=>?_,fun lR=>?_⟩
  ·have bQ:n<mv.n:=by have:=aQ bQ;omega
   obtain⟨p,xm,ms,g1,g2,_⟩:=h1.2.2.1.get (i:=(n:Int)) (by omega) (by omega);obtain⟨q,ym,ns,q1,q2,_⟩:=k1.2.2.1.get (i:=(n:Int)) (by omega) (by omega);rw[aX]at g2 q2;refine⟨p,g1,fun w4 dI=>?_⟩;have pr:=mw.cd dI;have z4:=dI.size;obtain⟨p',x',wU,a1,a2,_,_,a5,a6⟩:=(SliceF.only (gU false) (by decide) h1.2.2.1 pr (by simp)).get (i:=(n:Int)) (by omega) (by omega);obtain⟨q',y',ds',b1,b2,_,_,b5,b6⟩:=(SliceF.only (gU false) (by decide) k1.2.2.1 pr (by simp)).get (i:=(n:Int)) (by omega) (by omega);rw[aX,g2]at a2;rw[aX,q2]at b2;injection a2 with a2;injection b2 with b2;subst a2 b2;obtain rfl:=g1.Aq a1;obtain rfl:=q1.Aq b1;have Ty:=a6;have b6':=b6;obtain⟨gc,qU,tg,rfl,c1,_,_⟩:=a6;obtain⟨gc',Xy,tg',rfl,c2,_,_⟩:=b6;obtain⟨sx,rfl⟩:=eH c1;obtain⟨sy,rfl⟩:=eH c2;refine⟨_,_,_,_,_,_,_,_,sx,_,qU,tg,_,a5,q,q1,_,_,_,_,_,_,_,_,sy,_,Xy,tg',_,b5,(Hj Ty b6' (hE.mv.2 n _ _ g2 q2)).mono ?_⟩;rintro _ w5 ⟨rfl,eh⟩;exact⟨true,rfl,eh.same (by simp;omega),fun hh=>(by cases hh),fun _=>⟨mv.n-(n+1),by omega,n+1,by rw[fH (by omega) (by omega)];rfl,by omega,rfl,pr.cd eh,bh (by omega) eh.size⟩⟩
  ·refine⟨fun nv i w'=>∃n:Nat,i=(n:Int)/\n<=kids.n/\nv=kids.n-n/\ay [] w w'/\w2.heap.size<=w'.heap.size,kids.n,⟨0,rfl,bd _,rfl,mw,z3⟩,?_⟩;clear lR hn z3 mw;rintro nv _ w6 ⟨n,rfl,hn,rfl,A3,z6⟩;refine⟨fun bQ=>?_,fun _=>⟨rfl,A3⟩⟩;have bQ:n<kids.n:=by have:=aQ bQ;omega
   obtain⟨p,xm,ms,g1,g2,_⟩:=h2.1.get (i:=(n:Int)) (by omega) (by omega);obtain⟨q,ym,ns,q1,q2,_⟩:=k2.1.get (i:=(n:Int)) (by omega) (by omega);rw[aX]at g2 q2;refine⟨p,g1,fun w7 fN=>?_⟩;have Xz:=A3.cd fN;have z7:=fN.size;obtain⟨p',x',wU,a1,a2,_,_,a5,a6⟩:=(SliceF.only (cj false d) (by decide) h2.1 Xz (by simp)).get (i:=(n:Int)) (by omega) (by omega);obtain⟨q',y',ds',b1,b2,_,_,b5,b6⟩:=(SliceF.only (cj false d) (by decide) k2.1 Xz (by simp)).get (i:=(n:Int)) (by omega) (by omega);rw[aX,g2]at a2;rw[aX,q2]at b2;injection a2 with a2;injection b2 with b2;subst a2 b2;obtain rfl:=g1.Aq a1;obtain rfl:=q1.Aq b1;have UT:=hK.2 n _ _ g2 q2;cases d with
   | zero=>exact a6.elim
   | succ d=>
    have Ty:=a6;have b6':=b6;obtain⟨xe,xl,xm',xk,rfl,_⟩:=a6;obtain⟨ye,yl,ym',yk,rfl,_⟩:=b6;refine⟨_,_,_,_,xe,xl,xm',xk,_,a5,q,q1,_,_,_,_,ye,yl,ym',yk,_,b5,(zO (d+1) Ty b6' UT).mono ?_⟩;rintro _ w8 ⟨rfl,fj⟩;exact⟨true,rfl,fj.same (by simp;omega),fun hh=>(by cases hh),fun _=>⟨kids.n-(n+1),by omega,n+1,by rw[fH (by omega) (by omega)];rfl,by omega,rfl,Xz.cd fj,bh (by omega) fj.size⟩⟩
theorem NX{d:Nat}{x y:Ch}{vs KB:Sl}{cs ds:aI}(hx:ChR false d w F x vs cs)(hy:ChR false d w G y KB ds)(hE:ChE t d x y):az aq 15 #[ah (vs.v::cs).toArray,ah (KB.v::ds).toArray,aj t] w fun r w'=>r=ak (aj true)/\ay [] w w':=by
 have hr:=hx.root;have hr':=hy.root;cases d with
 | zero=>exact hr.elim
 | succ d=>
  obtain⟨en,lv,mv,kids,rfl,_⟩:=hx.root;obtain⟨uo,uq,pu,iX,rfl,_⟩:=hy.root;refine ret (ago _ _ _ _ _ _ _ _ _ _ _ _ _ _ _ _ _ _ _ _ _ _ _ ?_);have m1:=hx.vars.1.len;have m2:=hy.vars.1.len;have m3:=hE.vars.1;have m4:=hx.vars.1.cap;have m5:=hx.vars.1.big;refine⟨fun hc=>?_,fun _ k2 k3 w1 oY oG Ky Ay cn=>?_⟩
  ·have:¬(vs.n:Int)=(KB.n:Int):=by simpa using hc
   omega
  have z1:=cn.size;refine⟨fun nv i w'=>∃n:Nat,i=(n:Int)/\n<=vs.n/\nv=vs.n-n/\ay [] w w'/\w1.heap.size<=w'.heap.size,vs.n,⟨0,rfl,bd _,rfl,cn,aW _⟩,?_⟩;rintro nv _ w2 ⟨n,rfl,hn,rfl,cG,z2⟩;refine⟨fun bQ=>?_,fun _=>?_⟩
  ·have bQ:n<vs.n:=by have:=aQ bQ;omega
   obtain⟨p,a,ms,g1,g2,_,_,g5,g6⟩:=(SliceF.only eF (by decide) hx.vars.1 cG (by simp)).get (i:=(n:Int)) (by omega) (by omega);obtain⟨q,b,ns,q1,q2,_,_,q5,q6⟩:=(SliceF.only eF (by decide) hy.vars.1 cG (by simp)).get (i:=(n:Int)) (by omega) (by omega);rw[aX]at g2 q2;unfold yr at g6 q6;subst g6 q6;have hv:=hE.vars.2 n _ _ g2 q2;have e:((((!((T a.n).toList==(T b.n).toList))||(a.v !=b.v))||(t&&(a.a !=b.a))))=false:=by
    rw[iO,hv.n,hv.v];cases ht:t with
    | false=>simp
    | true=>rw[hv.a ht];simp
   refine⟨p,g1,_,g5.ec 0 _ rfl,q,q1,_,q5.ec 0 _ rfl,p,fun _=>g1,_,fun _=>g5.ec 1 _ rfl,q,fun _=>q1,_,fun _=>q5.ec 1 _ rfl,p,fun _ _=>g1,_,fun _ _=>g5.ec 2 _ rfl,q,fun _ _=>q1,_,fun _ _=>q5.ec 2 _ rfl,fun hh=>(by rw[e]at hh;cases hh),fun _ w4 dI=>⟨vs.n-(n+1),by omega,n+1,by rw[fH (by omega) (by omega)];rfl,by omega,rfl,cG.cd dI,bh z2 dI.size⟩⟩
  ·refine(zO (d+1) ((cj false _).only hr cG (by simp)) ((cj false _).only hr' cG (by simp)) hE.root).mono ?_;rintro _ w5 ⟨rfl,eh⟩;exact⟨true,rfl,eh.same (by simp;omega),rfl,cG.cd eh⟩
end
theorem Fb:∀(d:Nat) {w:av} {F:aJ} {sl:Sl} {xs:List Ex},aA (nM d) 6 w F sl xs->nN (lA d) xs<=1099511627776->
  az aq 144 #[sl.v] w fun e w'=>∃s:Sl,e=ak s.v/\aA (nM d) 6 w' (fun k=>w.heap.size<=k/\k<w'.heap.size) s xs/\ay [] w w':=by
 intro d
 induction d with
 | zero=>
  intro w F sl xs h hc;have hx:xs=[]:=by
   cases xs with
   | nil=>rfl
   | cons x xs=>
    obtain⟨base,cs,_,_,_,_,h5⟩:=h.at_ 0 x rfl;exact h5.elim
  subst hx;have hn:sl.n=0:=h.len;refine(abo sl (fun v w'=>∃s:Sl,v=s.v/\aA (nM 0) 6 w' (fun k=>w.heap.size<=k/\k<w'.heap.size) s []/\ay [] w w') w ?_).mono (by
   rintro e w' ⟨v,rfl,s,rfl,h⟩;exact⟨s,rfl,h⟩)
  refine⟨fun nv s i w'=>s=Sl.nil/\i=0/\w'=w,0,⟨rfl,rfl,rfl⟩,?_⟩;rintro nv _ _ _ ⟨rfl,rfl,rfl⟩;exact⟨fun bQ=>absurd (aQ bQ) (by omega),fun _=>⟨_,rfl,SliceF.nil _ _ _ _,Only.refl _ _⟩⟩
 | succ d ih=>
  intro w F sl xs h hc;have ey:=h.len;have nS:=h.cap;have pq:=h.big;have HT:=Jf (d:=d) (xs:=xs);refine(abo sl (fun v w'=>∃s:Sl,v=s.v/\aA (nM (d+1)) 6 w' (fun k=>w.heap.size<=k/\k<w'.heap.size) s xs/\ay [] w w') w ?_).mono (by
   rintro e w' ⟨v,rfl,s,rfl,h⟩;exact⟨s,rfl,h⟩)
  refine⟨fun nv s i w'=>∃n:Nat,n<=xs.length/\i=(n:Int)/\nv=xs.length-n/\Own (nM (d+1)) 6 51 w.heap.size w' (fun k=>w.heap.size<=k) s (xs.take n)/\ay [] w w',xs.length,⟨0,bd _,rfl,rfl,Own.nil _ _ _ _ _ _,Only.refl _ _⟩,?_⟩;rintro nv out _ w0 ⟨n,hn,rfl,rfl,nt,ch⟩;have z0:=ch.size;refine⟨fun bQ=>?_,fun lR=>?_⟩
  ·have bQ:(n:Int)<(sl.n:Int):=aQ bQ;obtain⟨p,x,cs,g1,g2,g3,g4,g5,sx,rfl,g6⟩:=(SliceF.only (dW (d+1)) (by decide) h ch (by simp)).get (ba n) bQ;rw[aX]at g2;have hcx:nN (lA d) x.dj<=1099511627776:=by
    have:=NV (d:=d+1) (br g2);rw[lA]at this;omega
   refine⟨p,g1,_,_,_,_,_,_,g5,fun k2 w1 oY oG cn=>(ih (SliceF.only (dW d) (by decide) g6 cn (by simp)) hcx).mono ?_⟩;rintro _ w2 ⟨l2,rfl,hL2,cG⟩;have z1:=cn.size;have z2:=cG.size;refine⟨l2,rfl,cG.same (by simp;omega),fun w3 dh=>?_⟩;have z3:=dh.size;obtain⟨w4,k4,qs,dI⟩:=zG w3 [j6 x.k x.n x.s x.op l2 x.a] (by simp) (by simp) (by simp) (parts:=#[(0,ah (j6 x.k x.n x.s x.op l2 x.a).toArray)]) rfl;rw[cJ,Md,bL]at qs;have z4:=dI.size;refine⟨⟨some ⟨w3.heap.size,0,none⟩,1,1⟩,w4,k4,dI.same (by simp;omega),?_⟩;have XA:=nt.inHeap (dW (d+1));have hg:∀g,out.a=some ⟨g,0,none⟩->g<w0.heap.size:=fun g e=>(nt.blk e).2;have adx:Own (nM (d+1)) 6 51 w.heap.size w4 (fun k=>w.heap.size<=k) out (xs.take n):=by
    refine(XA.keep (dW (d+1)) fun k hk bQ=>?_).mono (dW (d+1)) fun k hk=>hk.1;have gD:k<w0.heap.size:=by
     rcases hk with hk | hk
     ·exact hk.2
     ·exact hg k hk.2
    rw[dI.block k (by omega) (by simp),dh.block k (by omega) (by simp;omega),cG.block k (by omega) (by simp),cn.block k gD (by simp)]
   have hL4:aA (nM d) 6 w4 (fun k=>w1.heap.size<=k/\k<w2.heap.size) l2 x.dj:=SliceF.only (dW d) (by decide) (SliceF.only (dW d) (by decide) hL2 dh fun k hk _ hm=>by simp only[aO]at hm;omega) dI (by simp);have hy:aA (nM (d+1)) 6 w4 (fun k=>w.heap.size<=k/\out.a≠some ⟨k,0,none⟩) ⟨some ⟨w3.heap.size,0,none⟩,1,1⟩ [x]:=by
    refine⟨rfl,aW _,fun h=>(by cases h),(by decide:(1:Nat)<=9223372036854775807),fun j y hj=>?_⟩;have MB:j=0:=by
     have:=(bc.1 hj).1;simp only[bg]at this;omega
    subst MB;simp only[bP,aV]at hj;subst hj;refine⟨⟨w3.heap.size,0,none⟩,j6 x.k x.n x.s x.op l2 x.a,rfl,⟨by dsimp only;omega,fun e=>?_⟩,rfl,?_,l2,rfl,SliceF.mono (dW d) hL4 fun k hk=>⟨by omega,fun e=>?_⟩⟩
    ·have:=hg _ e;dsimp only at this;omega
    ·rw[kD];exact qs.cells 0 _ fun j v hv=>by rw[bD];exact hv
    ·have:=hg _ e;omega
   obtain⟨s',w5,m1,m2,gs,m3,m4,_⟩:=qx (P:=aq) (t:=49) (ty:=49) (e:=51) (i:=Tryz.t51) (bytes:=72) (size:=6) (r:=nM (d+1)) (by kernel_rfl) (by kernel_rfl) rfl rfl rfl rfl (dW (d+1)) adx hy (by omega) (by
    rw[cP,bg];have:min n xs.length<=1099511627776:=by omega
    omega) (by decide)
   refine⟨s',w5,m1,m3.same fun k hk=>?_,xs.length-(n+1),by omega,n+1,by omega,by rw[fH (by omega) (by omega)];rfl,rfl,?_,?_⟩
   ·simp only[aO]at hk;subst hk;refine⟨by omega,fun hm=>?_⟩;have:=hg _ (m4 _ hm).1;omega
   ·rw[bB,g2];exact m2
   ·refine((((ch.cd cn).cd cG).trans dh fun x hx=>.inr (by simp only[aO]at hx;omega)).cd dI).trans m3 fun x hx=>.inr (m4 x hx).2.1
  ·have lR:¬(n:Int)<(sl.n:Int):=aU lR;have:n=xs.length:=by omega
   subst this;rw[bH (aW _)]at nt;refine⟨out,rfl,(SliceF.inHeap (dW (d+1)) (nt.slice (dW (d+1))) (by decide)).mono (dW (d+1)) fun k hk=>⟨?_,hk.2⟩,ch⟩;rcases hk.1 with e | e
   ·exact e
   ·exact e.1
def cY(l:aH):Bool:=decide (l≠[]/\l.length<=24)&&(match l with
 | c::_=>eG c
 | []=>false)&&decide (l.takeWhile dV=l)&&!iA.contains l
theorem NY{w:av}(l:aH)(hl:l.length<9223372036854775807):
  az aq 85 #[ab (T l)] w fun e w'=>e=ak (aj (cY l))/\ay [] w w':=by
 refine ret (aa5 _ _ _ ?_);intro k0 w0 gD dQ ch;have e0:(ao #[])=T []:=rfl;rw[bW,e0,iO];refine⟨fun b s i w'=>b=cY l/\ay [] w w',fun b s i w' h=>⟨by rw[h.1],h.2⟩,fun hc=>?_,fun hc=>⟨?_,ch⟩⟩
 ·simp only[aP,cx,fU,bA]at hc;obtain⟨h1,h2⟩:=hc;have h2:l.length<=24:=by omega
  obtain⟨c,r,rfl⟩:∃c r,l=c::r:=by
   cases l with
   | nil=>exact absurd rfl h1
   | cons c r=>exact⟨c,r,rfl⟩
  have hn:cY (c::r)=(eG c&&decide ((c::r).takeWhile dV=c::r)&&!iA.contains (c::r)):=by
   unfold cY;rw[bF ⟨h1,h2⟩,bT]
  refine⟨c,⟨iM _,by rw[lq];rfl⟩,(zr w0 c).mono ?_⟩;rintro _ w2 ⟨rfl,cG⟩;have js:=ch.cd cG;refine⟨_,rfl,cG.same (by simp;omega),fun hb hB=>?_,fun hb=>⟨by rw[hn,hb];rfl,js⟩⟩;refine(NE (i:=0) (r:=[]) hB (bd _) hl).mono ?_;rintro _ w3 ⟨rfl,dh⟩;rw[fK];have ru:aF w3 k0 195 [ab (T (c::r)),O U 0]:=(dh.block k0 hB.lt (by simp)).trans hB;refine⟨_,rfl,T (c::r),0,ru,?_⟩;rw[iO];refine⟨fun he=>(I1 w3).mono ?_,fun he=>⟨?_,js.cd dh⟩⟩
  ·rintro _ w4 ⟨s,rfl,hs,dI⟩;have qs:aF w4 k0 195 [ab (T (c::r)),O U 0]:=(dI.block k0 ru.lt (by simp)).trans ru;refine⟨s,rfl,T (c::r),0,qs,(rS (qY hs) (c::r)).mono ?_⟩;rintro _ w5 ⟨rfl,eh⟩;have tX:aF w5 k0 195 [ab (T (c::r)),O U 0]:=(eh.block k0 qs.lt (by simp)).trans qs;exact⟨_,rfl,_,_,tX,by rw[hn,hb,he];rfl,js.cd (dh.cd (dI.cd eh))⟩
  ·rw[hn,hb,he];rfl
 ·unfold cY;rw[bn]
  ·rfl
  ·rintro⟨h1,h2⟩;rw[bn h1,bF (by omega)]at hc;cases hc
def bN(x:Ex):Int:=if x.k=5 then eL x.op else 6
theorem oT{w:av}{F:aJ}{x:Ex}{cs:aI}{d:Nat}(h:nM d w F x cs):az aq 297 #[ah cs.toArray] w fun e w'=>e=ak (O U (bN x))/\ay [] w w':=by
 cases d with
 | zero=>exact h.elim
 | succ d=>
  obtain⟨sl,rfl,h⟩:=h;refine ret (agn _ _ _ _ _ _ _ _ ?_);refine⟨fun hc k0 w0 _ _ hO=>?_,fun hc k1 w1 hk um hO=>(Hd w1 x.op).mono ?_⟩
  ·have hc:x.k≠5:=by simpa using hc
   rw[bN,if_neg hc];exact⟨rfl,hO⟩
  ·rintro _ w2 ⟨rfl,rfl⟩;have hc:x.k=5:=by simpa using hc
   rw[bN,if_pos hc];exact⟨_,rfl,fun _ _=>rfl,rfl,hO⟩
def Lc(n:Int)(s:aH)(op len:Int)(x:Ex):Bool:=((((x.n==n)&&decide (x.s=s))&&(x.op==op))&&((x.dj.length:Int)==len))
def gn(x:Ex):Bool:=
 if x.k=1 then Lc (if 0>x.n then 0 else x.n) [] 0 0 x
 else if x.k=2∨x.k=3 then cY x.s&&Lc 0 x.s 0 0 x
 else if x.k=4 then Lc 0 [] (if x.op=15 then 15 else 14) 1 x
 else if x.k=5 then !(eL x.op==6)&&Lc 0 [] x.op 2 x
 else false
def iT(f:Ex->Bool):List Ex->Bool
 | []=>true
 | x::xs=>f x&&iT f xs
def cw:Nat->Ex->Bool
 | 0,_=>false
 | d+1,x=>gn x&&iT (cw d) x.dj
theorem Bt{f:Ex->Bool}{xs:List Ex}{n:Nat}{x:Ex}(hx:xs[n]? =some x):iT f (xs.drop n)=(f x&&iT f (xs.drop (n+1))):=by
 rw[gF (bc.1 hx).1,(bc.1 hx).2,iT]
abbrev ShD(d:Nat):Prop:=∀{w:av} {F:aJ} {x:Ex} {cs:aI},ug d x->nM d w F x cs->az aq 262 #[ah cs.toArray] w fun e w'=>e=ak (aj (cw d x))/\ay [] w w'
theorem NZ{d:Nat}(hS:ShD d){w:av}{F:aJ}{x:Ex}{cs:aI}(hl:ug d x)(h:nM d w F x cs):az aq 295 #[ah cs.toArray] w fun e w'=>e=ak (aj (!cw d x))/\ay [] w w':=by
 obtain⟨sl,rfl⟩:=jV h;refine ret (agl _ _ _ _ _ _ _ _ ?_);intro k0 w0 hk um hO;refine(hS hl (fP h hO)).mono ?_;rintro _ w1 ⟨rfl,cn⟩;exact⟨_,rfl,cn.same (by simp;omega),rfl,hO.cd cn⟩
theorem N0{d:Nat}(hS:ShD d){w:av}{F:aJ}{l:Sl}{xs:List Ex}(hl:∀y,y∈xs->ug d y)(h:aA (nM d) 6 w F l xs):az aq 310 #[l.v,.func (.func 295) #[] #[]] w fun e w'=>∃i:Int,e=ak (O U i)/\decide (i>=0)=!iT (cw d) xs/\ay [] w w':=by
 refine(abj l ⟨.func (.func 295) #[] #[],rfl⟩ (fun v w'=>∃i:Int,v=O U i/\decide (i>=0)=!iT (cw d) xs/\ay [] w w') w ?_).mono (by
  rintro e w' ⟨v,rfl,i,rfl,h⟩;exact⟨i,rfl,h⟩)
 have ey:=h.len;have pq:=h.big;have nS:=h.cap;refine⟨fun nv i w'=>∃n:Nat,n<=xs.length/\i=(n:Int)/\nv=xs.length-n/\iT (cw d) xs=iT (cw d) (xs.drop n)/\ay [] w w',xs.length,⟨0,bd _,rfl,rfl,rfl,Only.refl _ _⟩,?_⟩;rintro nv _ w0 ⟨n,hn,rfl,rfl,fy,ch⟩;refine⟨fun hc=>?_,fun hc=>?_⟩
 ·have bQ:(n:Int)<l.n:=aQ hc;obtain⟨ad,x,cs,g1,g2,g3,g4,g5,g6⟩:=(SliceF.only (dW d) (by decide) h ch (by simp)).get (ba n) bQ;rw[aX]at g2;obtain⟨sl,rfl⟩:=jV g6;refine⟨ad,g1,_,_,_,_,_,_,g5,295,[],[],rfl,kn (by kernel_rfl),?_⟩;refine(NZ hS (hl x (br g2)) g6).mono ?_;rintro _ w1 ⟨rfl,cn⟩;have lj:=Bt (f:=cw d) g2;refine⟨_,rfl,fun hb=>⟨_,rfl,?_,ch.cd cn⟩,fun hb=>⟨xs.length-(n+1),by omega,n+1,by omega,by rw[fH (by omega) (by omega)];rfl,rfl,?_,ch.cd cn⟩⟩
  ·have hb:cw d x=false:=by simpa using hb
   rw[fy,lj,hb,du,A7];exact bF (ba n)
  ·have hb:cw d x=true:=by simpa using hb
   rw[fy,lj,hb,bT]
 ·have lR:¬(n:Int)<l.n:=aU hc;refine⟨_,rfl,?_,ch⟩;rw[fy,dy (by omega)];rfl
theorem Fc{d:Nat}(hS:ShD d){w:av}{F:aJ}{l:Sl}{xs:List Ex}(hl:∀y,y∈xs->ug d y)(h:aA (nM d) 6 w F l xs):az aq 294 #[l.v,.func (.func 295) #[] #[]] w fun e w'=>e=ak (aj (!iT (cw d) xs))/\ay [] w w':=by
 refine ret (abi l ⟨.func (.func 295) #[] #[],rfl⟩ (fun v w'=>v=aj (!iT (cw d) xs)/\ay [] w w') w ?_);refine(N0 hS hl h).mono ?_;rintro _ w0 ⟨i,rfl,h1,h2⟩;exact⟨_,rfl,by rw[h1],h2⟩
theorem Ji:∀d,ShD d
 | 0,_,_,_,_,_,h=>h.elim
 | d+1,w,F,x,cs,⟨hl0,hl⟩,⟨sl,h1,h2⟩=>by
  subst h1;refine ret (agk _ _ _ _ _ _ _ _ ?_);intro k0 k1 w0 gD dQ kg ju ch;have z0:=ch.size;have hn:=h2.len;have hs:∀{b:Bool},gn x=b->cw (d+1) x=(b&&iT (cw d) x.dj):=fun e=>by rw[cw,e]
  have own:∀{w1 w2:av},ay [] w w1->ay [k1] w1 w2->ay [] w w2:=fun h1 h2=>h1.new h2 kg;refine⟨fun i0 i1 i2 s0 i3 l0 i4 w1=>∃s,s0=T s/\gn x=Lc i2 s i3 i0 x/\ay [] w w1/\w0.heap.size<=w1.heap.size,?_,fun hk w4 dI=>⟨[],rfl,?_,own ch dI,dI.size⟩,fun hk=>?_⟩
  ·rintro i0 i1 i2 _ i3 l0 i4 w1 ⟨s,rfl,he,cn,z1⟩;have hc:((((x.n==i2)&&((T x.s).toList==(T s).toList))&&(x.op==i3))&&((sl.n:Int)==i0))=gn x:=by
    rw[he,iO,hn];rfl
   rw[hc];refine⟨fun b w'=>b=cw (d+1) x/\ay [] w w',?_,fun hh=>(Fc (Ji d) hl (SliceF.only (dW d) (by decide) h2 cn (by simp))).mono ?_,fun hh=>⟨by rw[hs hh,du],cn⟩⟩
   ·rintro _ w2 ⟨rfl,h⟩;exact⟨rfl,h⟩
   ·rintro _ w3 ⟨rfl,dh⟩;exact⟨_,rfl,dh.same (by simp;omega),by rw[hs hh,bT,Bool.not_not],cn.cd dh⟩
  ·have hk:x.k=1:=by simpa using hk
   rw[gn,if_pos hk]
  ·have kg:x.k≠1:=by simpa using hk
   refine⟨fun b w'=>b=decide (x.k=2∨x.k=3)/\w'=w0,?_,fun oY=>⟨?_,rfl⟩,fun oY=>⟨?_,rfl⟩⟩
   ·rintro _ _ ⟨rfl,rfl⟩;refine⟨fun hk=>(NY x.s (by omega)).mono ?_,fun hk=>⟨fun tZ=>⟨fun ho w8 fj=>⟨[],rfl,?_,own ch fj,fj.size⟩,fun ho w9 fT=>⟨[],rfl,?_,own ch fT,fT.size⟩⟩,fun tZ=>⟨fun pv=>(Hd _ x.op).mono ?_,fun pv=>⟨?_,ch⟩⟩⟩⟩
    ·rintro _ w6 ⟨rfl,dR⟩;have z6:=dR.size;have hk:=aQ hk;refine⟨_,rfl,dR.same (by simp;omega),fun hb=>⟨?_,ch.cd dR⟩,fun hb w7 fN=>⟨x.s,rfl,?_,own (ch.cd dR) fN,by have:=fN.size;omega⟩⟩
     ·have hb:cY x.s=false:=by simpa using hb
      rw[hs (b:=false) (by rw[gn,if_neg kg,if_pos hk,hb,du]),du]
     ·have hb:cY x.s=true:=by simpa using hb
      rw[gn,if_neg kg,if_pos hk,hb,bT]
    ·have hk:=aU hk;have tZ:x.k=4:=by simpa using tZ
     have ho:x.op=15:=by simpa using ho
     rw[gn,if_neg kg,if_neg hk,if_pos tZ,if_pos ho]
    ·have hk:=aU hk;have tZ:x.k=4:=by simpa using tZ
     have ho:x.op≠15:=by simpa using ho
     rw[gn,if_neg kg,if_neg hk,if_pos tZ,if_neg ho]
    ·rintro _ dw ⟨rfl,rfl⟩;have hk:=aU hk;have tZ:x.k≠4:=by simpa using tZ
     have pv:x.k=5:=by simpa using pv
     refine⟨_,rfl,fun _ _=>rfl,fun hb=>⟨?_,ch⟩,fun hb dJ dY=>⟨[],rfl,?_,own ch dY,dY.size⟩⟩
     ·rw[hs (b:=false) (by rw[gn,if_neg kg,if_neg hk,if_neg tZ,if_pos pv,hb,Bool.not_true,du]),du]
     ·rw[gn,if_neg kg,if_neg hk,if_neg tZ,if_pos pv,hb,A7,bT]
    ·have hk:=aU hk;have tZ:x.k≠4:=by simpa using tZ
     have pv:x.k≠5:=by simpa using pv
     rw[hs (b:=false) (by rw[gn,if_neg kg,if_neg hk,if_neg tZ,if_neg pv]),du]
   ·have oY:x.k=2:=by simpa using oY
    rw[oY];rfl
   ·have oY:x.k≠2:=by simpa using oY
    rw[bI];simp[oY]
def Tb(w:av):Prop:=Lib.TabIs aq w "internal/strconv.uint64pow10" .u64 Lib.pow10Tab
theorem tb_num:Tryz.prog.globalNamed "internal/strconv.uint64pow10" =some 3:=by kernel_rfl
theorem Tb.keep{w w':av}(h:Tb w)(hk:3<w.heap.size->w'.heap[3]? =w.heap[3]?):Tb w':=by
 unfold Tb Lib.TabIs World.var? at h⊢;rw[tb_num]at h⊢;simp only[mz]at h⊢;rw[hk]
 ·exact h
 ·refine bC fun hn=>?_;rw[ft (by omega)]at h;cases h
theorem Tb.lt{w:av}(h:Tb w):3<w.heap.size:=by
 unfold Tb Lib.TabIs World.var? at h;rw[tb_num]at h;simp only[mz]at h;refine bC fun hn=>?_;rw[ft (by omega)]at h;cases h
theorem Tb.only{w w':av}(h:Tb w)(hO:ay [] w w'):Tb w':=h.keep fun bQ=>hO.block _ bQ (by simp)
theorem Only.grown(w:av)(k:Nat)(os:Array Obj):ay [] w (Go.Sort.grow (w.drewN k) os):=⟨rfl,rfl,rfl,by simp[Go.Sort.grow],fun q hq _=>by
 simp only[Go.Sort.grow,World.heap_drewN];rw[Array.getElem?_append_left hq]⟩
theorem yt{w:av}(n:Int)(hn:wa n)(hT:Tb w):az aq 40 #[O U n] w fun e w'=>e=ak (ab (T (Lib.itoa n)))/\ay [] w w':=by
 refine ret (v1w _ _ _ ?_);refine(Tryz.strconv_Itoa n hn.1 hn.2 w hT).mono ?_;rintro _ w0 ⟨rfl,k,os,rfl⟩;exact⟨_,rfl,rfl,Only.grown _ _ _⟩
def Bf(w:av)(B:Nat)(s:Sl)(l:aH):Prop:=
 (s=Sl.nil/\l=[])∨∃g tail,s.a=some ⟨g,0,none⟩/\B<=g/\aF w g 5 (l.map fW++tail)/\tail.length=s.c-s.n/\s.n=l.length/\s.n<=s.c/\s.c<=9223372036854775807/\0<s.c
theorem Bf.len{w:av}{B:Nat}{s:Sl}{l:aH}(h:Bf w B s l):s.n=l.length:=by
 rcases h with⟨rfl,rfl⟩ | ⟨g,tail,_,_,_,_,h,_⟩
 ·rfl
 ·exact h
theorem Bf.lt{w:av}{B:Nat}{s:Sl}{l:aH}(h:Bf w B s l){g:Nat}(hg:s.a=some ⟨g,0,none⟩):B<=g/\g<w.heap.size:=by
 rcases h with⟨rfl,rfl⟩ | ⟨g',tail,h1,h2,h3,_⟩
 ·cases hg
 ·rw[hg]at h1;injection h1 with h1;injection h1 with h1;subst h1;exact⟨h2,h3.lt⟩
theorem Bf.keep{w w':av}{B:Nat}{s:Sl}{l:aH}(h:Bf w B s l)(hk:∀g,s.a=some ⟨g,0,none⟩->g<w.heap.size->w'.heap[g]? =w.heap[g]?):Bf w' B s l:=by
 rcases h with h | ⟨g,tail,h1,h2,h3,h4⟩
 ·exact .inl h
 ·exact .inr ⟨g,tail,h1,h2,(hk g h1 h3.lt).trans h3,h4⟩
theorem abz(l:aH):Lib.strCells (T l)=l.map fW:=rfl
theorem zP:Tryz.prog.underlying 68=some (.slice 5):=by kernel_rfl
theorem V0:Tryz.prog.underlying 9=some .string:=by kernel_rfl
theorem CV:Tryz.prog.info? 5=some Tryz.t5:=by kernel_rfl
theorem yu{w:av}{B:Nat}{s:Sl}{l:aH}(h:Bf w B s l)(m:aH)(hB:B<=w.heap.size)(hm:l.length+m.length<=140737488355328):
  ∃s' w',(Builtin.append_ #[68,9] 68 #[s.v,ab (T m)]).run aq w=.ok s'.v w'/\Bf w' B s' (l++m)/\aD (fun k=>s.a=some ⟨k,0,none⟩) w w'/\(s'.a=s.a∨s'.a=some ⟨w.heap.size,0,none⟩):=by
 have ht:=zP;have hu:=V0;have hi:=CV;have PN:Tryz.t5.size=1:=rfl;have xP:Tryz.t5.bytes=1:=rfl;have hz:Tryz.t5.zero=some (.int .u8 0):=rfl;have hsz:(T m).size=m.length:=bW m;have grown:∀(fx Kq:Nat),fx=l.length+m.length->0<l.length+m.length->∀cells:Array aw,cells=((l++m).map fW).toArray++Builtin.zeroCells (Value.int .u8 0).cells (grownCap w fx Kq 5-fx)->
   Bf (w.drew.alloc (.cells cells 5)) B ⟨some ⟨w.heap.size,0,none⟩,fx,grownCap w fx Kq 5⟩ (l++m)/\aD (fun k=>s.a=some ⟨k,0,none⟩) w (w.drew.alloc (.cells cells 5)):=by
  rintro fx Kq rfl h0 cells rfl;have hO:ay [] w (w.drew.alloc (.cells (((l++m).map fW).toArray++Builtin.zeroCells (Value.int .u8 0).cells (grownCap w (l.length+m.length) Kq 5-(l.length+m.length))) 5)):=(Only.drew w).cd (Only.alloc _ _);refine⟨.inr ⟨w.heap.size,(Builtin.zeroCells (Value.int .u8 0).cells (grownCap w (l.length+m.length) Kq 5-(l.length+m.length))).toList,rfl,hB,?_,?_,by simp,grownCap_ge _ _ _ _,grownCap_le_maxLen _ _ _ _ (by simp only[maxLen];omega),cD h0 (grownCap_ge _ _ _ _)⟩,hO.p0⟩
  ·have e:∀(x:aI) (z:Array aw),x.toArray++z=(x++z.toList).toArray:=fun x z=>by simp
   rw[e];exact Blk.alloc w.drew 5 _
  ·exact(Ec w _ (size:=1) rfl).trans (uT _)
 rcases h with⟨rfl,rfl⟩ | ⟨g,tail,h1,h2,h3,h4,h5,h6,h7,h8⟩
 ·cases m with
  | nil=>
   refine⟨Sl.nil,w,?_,.inl ⟨rfl,rfl⟩,OnlyP.refl _ _,.inl rfl⟩;have hf:=Lib.run_firstCells_string (P:=aq) w 1 (T []);have h0:(T []).size=0:=rfl;rw[h0]at hf;simp[Sl.nil,Sl.v,Builtin.append_,run_underlying ht,run_underlying hu,sizeOf,typeInfo,hi,PN,Builtin.lenOf,h0,hf]
  | cons c m=>
   have hr:=run_append_nil_string (P:=aq) w 68 9 68 5 Tryz.t5 (.int .u8 0) ht hu hi hz (T (c::m)) (by rw[hsz];simp) (by rw[hsz];omega) (by rw[hsz,xP];omega);rw[hsz]at hr;obtain⟨g1,g2⟩:=grown (c::m).length 0 (by simp) (by simp) _ rfl;have e1:(T (c::m)).data.map (fun b=>Value.int .u8 b.toNat)=(List.map fW ([]++c::m)).toArray:=by
    apply Mb.1;rw[Array.toList_map,fD];rfl
   rw[e1]at hr;exact⟨_,_,hr,g1,g2,.inr rfl⟩
 ·obtain⟨sa,sn,sc⟩:=s;dsimp only at h1 h4 h5 h6 h7 h8;subst h1;by_cases qk:sn+m.length<=sc
  ·have Xn:=h3;unfold aF at h3;have hr:=Lib.run_append_room_string (P:=aq) w 68 9 68 5 Tryz.t5 ht hu hi PN g sn sc _ h3 (T m) (by rw[hsz];exact qk) (by
    rw[hsz,lp,aN,bZ];omega)
   rw[hsz,abz]at hr;refine⟨⟨some ⟨g,0,none⟩,sn+m.length,sc⟩,_,hr,.inr ⟨g,tail.drop m.length,rfl,h2,?_,?_,by dsimp only;rw[aN];omega,qk,h7,h8⟩,(Only.setRow w g _).p fun x hx=>.inl (by simp only[aO]at hx;rw[hx]),.inl rfl⟩
   ·have:=Xn.setRow ((l++m).map fW++tail.drop m.length);have e:((l.map fW++tail).toArray.toList.take sn++m.map fW++(l.map fW++tail).toArray.toList.drop (sn+m.length))=(l++m).map fW++tail.drop m.length:=by
     rw[fD,MH (by rw[bZ];omega),bH (by rw[bZ];omega),List.drop_append,dy (by rw[bZ];omega),ci,bZ,dF,h5,dE]
    rw[e];exact this
   ·rw[bX];dsimp only;omega
  ·have Qd:∀j v,(l.map fW)[j]? =some v->w.cell? ((⟨g,0,none⟩:Addr).add j)=some v:=fun j v hj=>h3.cells 0 (l.map fW) (fun j v hj=>by rw[bD,bJ (bc.1 hj).1];exact hj) j v hj;have hr:=Lib.run_append_grow_string (P:=aq) w 68 9 68 5 Tryz.t5 (.int .u8 0) ht hu hi hz ⟨g,0,none⟩ sn sc (l.map fW) (by rw[PN,bZ];omega) Qd (T m) (by rw[hsz];omega) (by rw[hsz];omega) (growslice_fits (by rw[hsz];omega) (by rw[hsz,xP];omega));rw[hsz,abz]at hr;obtain⟨g1,g2⟩:=grown (sn+m.length) sc (by omega) (by omega) _ rfl;refine⟨_,_,hr.trans ?_,g1,g2,.inr rfl⟩;simp[dF]
theorem Uk(w:av)(F:aJ):∀l:aH,n9 ki 1 w F l (l.map fun b=>[fW b])
 | []=>trivial
 | c::l=>⟨⟨rfl,rfl⟩,Uk w F l⟩
theorem N1:∀l:aH,(l.map fun b=>[fW b]).flatten=l.map fW
 | []=>rfl
 | c::l=>by rw[bE,cJ,N1 l];rfl
theorem Fe{w:av}{F:aJ}:∀{l:aH} {css:List (aI)},n9 ki 1 w F l css->css.flatten=l.map fW
 | [],[],_=>rfl
 | c::l,d::css,h=>by
  obtain⟨⟨_,h1⟩,h2⟩:=h;unfold ki at h1;subst h1;rw[cJ,Fe h2];rfl
theorem Bf.own{w:av}{B:Nat}{s:Sl}{l:aH}(h:Bf w B s l)(F:aJ):Own ki 1 5 B w F s l:=by
 rcases h with h | ⟨g,tail,h1,h2,h3,h4,h5,h6,h7,_⟩
 ·exact .inl h
 ·exact .inr ⟨g,l.map fun b=>[fW b],tail,h1,h2,by rw[N1];exact h3,by rw[uT];exact h4,h5,h6,h7,Uk _ _ _⟩
theorem Bf.of{w:av}{B:Nat}{s:Sl}{l:aH}{F:aJ}(h:Own ki 1 5 B w F s l)(h0:0<l.length):Bf w B s l:=by
 rcases h with h | ⟨g,css,tail,h1,h2,h3,h4,h5,h6,h7,h8⟩
 ·exact .inl h
 ·exact .inr ⟨g,tail,h1,h2,by rw[<-Fe h8];exact h3,by rw[h4,uT],h5,h6,h7,by omega⟩
structure Pg (G:aJ) (w:av) (b:Nat) (sl sn:Sl) (l:aH):Prop where
 blk:∃q:Option Addr,(q=none∨q=some ⟨b,0,none⟩)/\aF w b 288 [ae q,sl.v,sn.v]
 buf:Bf w (b+1) sl l
 sig:aA jB 1 w G sn tL
 hG:∀k,G k->k<b
def ii(b:Nat)(sl:Sl)(w:av)(gL:Sl)(w':av):Prop:=aD (fun k=>k=b∨sl.a=some ⟨k,0,none⟩) w w'/\∀k,gL.a=some ⟨k,0,none⟩->sl.a=some ⟨k,0,none⟩∨w.heap.size<=k
theorem ii.refl(b:Nat)(sl:Sl)(w:av):ii b sl w sl w:=⟨OnlyP.refl _ _,fun _ h=>.inl h⟩
theorem ii.trans{b:Nat}{sl gL L3:Sl}{w w' rn:av}(h:ii b sl w gL w')(k:ii b gL w' L3 rn):ii b sl w L3 rn:=by
 have z:=h.1.size;refine⟨h.1.trans k.1 fun x hx=>?_,fun x hx=>?_⟩
 ·rcases hx with hx | hx
  ·exact .inl (.inl hx)
  ·rcases h.2 x hx with e | e
   ·exact .inl (.inr e)
   ·exact .inr e
 ·rcases k.2 x hx with e | e
  ·exact h.2 x e
  ·exact .inr (by omega)
theorem ii.only{b:Nat}{sl:Sl}{w w':av}(h:ay [] w w'):ii b sl w sl w':=⟨h.p0,fun _ h=>.inl h⟩
theorem ii.same{b:Nat}{sl gL:Sl}{w w':av}(h:ii b sl w gL w'){k:Nat}(hk:k≠b)(hs:sl.a≠some ⟨k,0,none⟩)(hl:k<w.heap.size):bS [k] w w':=h.1.same (by
 intro x hx;simp only[aO]at hx;subst hx;exact⟨hl,fun e=>e.elim hk hs⟩)
theorem Pg.only{G:aJ}{w w':av}{b:Nat}{sl sn:Sl}{l:aH}(h:Pg G w b sl sn l)(hO:ay [] w w'):Pg G w' b sl sn l:=by
 obtain⟨q,hq,hB⟩:=h.blk;exact⟨⟨q,hq,hO.blk hB (by simp)⟩,h.buf.keep fun g _ hl=>hO.block g hl (by simp),SliceF.only cZ (by decide) h.sig hO (by simp),h.hG⟩
theorem Pg.lb{G:aJ}{w:av}{b:Nat}{sl sn:Sl}{l:aH}(h:Pg G w b sl sn l):b<w.heap.size:=by
 obtain⟨q,hq,hB⟩:=h.blk;exact hB.lt
theorem Ul(v:aw)(w:av):(KV 211 #[v]).run aq w=.ok v w:=by
 unfold KV;rw[Sem.run_bind,run_callFunc_extern Tryz.func211 (by kernel_rfl) (by kernel_rfl) (by kernel_rfl) (e:=Extern.AbiNoEscape.same) (by kernel_rfl)];rw[Lib.run_noEscape];rfl
theorem Jj{w:av}{b:Nat}{q:Option Addr}{sl sn:Sl}(hq:q=none∨q=some ⟨b,0,none⟩)(h:aF w b 288 [ae q,sl.v,sn.v]):
  az aq 145 #[ae (some ⟨b,0,none⟩)] w fun e w'=>e=ak (ai #[])/\ay [b] w w'/\aF w' b 288 [ae (some ⟨b,0,none⟩),sl.v,sn.v]:=by
 refine ret (Uc _ _ _ ?_);have ri:w.shape? b=some (288,3):=by
  unfold World.shape?;unfold aF at h;rw[h];rfl
 refine⟨q,Blk.ec h 0 rfl,fun hn=>?_,fun hn=>⟨q,Blk.ec h 0 rfl,?_⟩⟩
 ·have hr1:=Lib.run_to_unsafe (P:=aq) (src:=67) (dst:=248) w ⟨b,0,none⟩ (t:=70) (j:=Tryz.t70) (by kernel_rfl) (by kernel_rfl) (by kernel_rfl) (by decide) ri (by decide:(0:Nat)<3);have hr2:=Lib.run_from_unsafe (P:=aq) (src:=248) (dst:=67) w ⟨b,0,none⟩ (u:=70) (j:=Tryz.t70) (by kernel_rfl) (by kernel_rfl) (by kernel_rfl) ri (by kernel_rfl);exact⟨⟨ae (some ⟨b,0,none⟩),rfl⟩,w,hr1,⟨ae (some ⟨b,0,none⟩),rfl⟩,w,Ul _ w,some ⟨b,0,none⟩,w,hr2,b,0,_,_,rfl,h,by simp,fun w3 hO hB=>⟨rfl,hO,hB⟩⟩
 ·rcases hq with rfl | rfl
  ·cases hn
  ·exact⟨false,w,Lib.run_neq_ptr_same w _ (te:=70) (j:=Tryz.t70) (by kernel_rfl) (by kernel_rfl),fun e=>(by cases e),fun _=>⟨rfl,Only.refl _ _,h⟩⟩
section
variable {G:aJ} {w:av} {b:Nat} {sl sn:Sl} {l:aH}
theorem V1(h:Pg G w b sl sn l):az aq 91 #[ae (some ⟨b,0,none⟩)] w fun e w'=>e=ak (O U (l.length:Int))/\w'=w:=by
 refine ret (Ua _ _ _ ?_);obtain⟨q,hq,hB⟩:=h.blk;exact⟨sl,Blk.ec hB 1 rfl,by rw[h.buf.len],rfl⟩
theorem pe(h:Pg G w b sl sn l)(m:aH)(hm:l.length+m.length<=140737488355328):az aq 82 #[ae (some ⟨b,0,none⟩),ab (T m)] w fun e w'=>
  ∃gL,e=ak (ai #[O U (m.length:Int),.nilIface])/\Pg G w' b gL sn (l++m)/\ii b sl w gL w':=by
 refine(Ub ⟨b,0,none⟩ (T m) (fun v w'=>∃gL,v=ai #[O U (m.length:Int),.nilIface]/\Pg G w' b gL sn (l++m)/\ii b sl w gL w') w ?_).mono (by
  rintro e w' ⟨v,rfl,s,rfl,h⟩;exact⟨s,rfl,h⟩)
 obtain⟨q,hq,hB⟩:=h.blk;refine(Jj hq hB).mono ?_;rintro _ w0 ⟨rfl,ch,Ax⟩;have z0:=ch.size;have hb:=hB.lt;have vX:Bf w0 (b+1) sl l:=h.buf.keep fun g hg hl=>ch.block g hl (by have:=(h.buf.lt hg).1;simp;omega);obtain⟨s',w1,k1,k2,k3,k4⟩:=yu vX m (by omega) hm;have z1:=k3.size;have pD:aF w1 b 288 [ae (some ⟨b,0,none⟩),sl.v,sn.v]:=k3.blk Ax fun e=>by have:=(vX.lt e).1;omega
 have BZ:∀g,s'.a=some ⟨g,0,none⟩->b<g:=fun g hg=>by
  rcases k4 with e | e
  ·rw[e]at hg;exact(vX.lt hg).1
  ·rw[e]at hg;injection hg with hg;injection hg with hg;omega
 refine⟨rfl,sl,Blk.ec Ax 1 rfl,s',w1,k1,b,1,_,_,rfl,pD,by simp,fun w2 cG lm=>⟨s',by rw[bW],⟨⟨_,.inr rfl,lm⟩,k2.keep fun g hg hl=>cG.block g hl (by have:=BZ g hg;simp;omega),?_,h.hG⟩,?_,?_⟩⟩
 ·have h0:=SliceF.only cZ (by decide) h.sig ch fun k hk _ hm=>by have:=h.hG k hk;simp only[aO]at hm;omega
  have h1:=SliceF.rc cZ (by decide) h0 k3 fun k hk _ hm=>by have:=h.hG k hk;have:=(vX.lt hm).1;omega
  exact SliceF.only cZ (by decide) h1 cG fun k hk _ hm=>by have:=h.hG k hk;simp only[aO]at hm;omega
 ·refine((ch.p (F:=fun k=>k=b∨sl.a=some ⟨k,0,none⟩) fun x hx=>.inl (.inl (by simpa using hx))).trans k3 fun k hk=>.inl (.inr hk)).trans (cG.p (F:=fun k=>k=b) fun x hx=>.inl (by simpa using hx)) fun k hk=>.inl (.inl hk)
 ·intro k hk;rcases k4 with e | e
  ·rw[e]at hk;exact .inl hk
  ·rw[e]at hk;injection hk with hk;injection hk with hk;exact .inr (by omega)
theorem Um(h:Pg G w b sl sn l)(c:UInt8)(hm:l.length+1<=140737488355328):IY ⟨b,0,none⟩ (c.toNat:Int) (fun v w'=>∃gL,v=.nilIface/\Pg G w' b gL sn (l++[c])/\ii b sl w gL w') w:=by
 unfold IY;obtain⟨q,hq,hB⟩:=h.blk;refine(Jj hq hB).mono ?_;rintro _ w0 ⟨rfl,ch,Ax⟩;have z0:=ch.size;have hb:=hB.lt;have vX:Bf w0 (b+1) sl l:=h.buf.keep fun g hg hl=>ch.block g hl (by have:=(h.buf.lt hg).1;simp;omega);obtain⟨y,w1,k1,k2,k3,_⟩:=qH w0 [c] (n:=1) (parts:=#[(0,.int .u8 (c.toNat:Int))]) rfl rfl (by decide) (by decide);have z1:=k3.size;have adA:Bf w1 (b+1) sl l:=vX.keep fun g hg hl=>k3.block g hl (by simp);obtain⟨s',w2,m1,m2,gs,m3,m4,m5⟩:=qx (P:=aq) (t:=68) (ty:=68) (e:=5) (i:=Tryz.t5) (bytes:=1) (size:=1) (r:=ki) zP CV rfl rfl rfl rfl pJ (adA.own fun _=>True) ((vj k2).mono pJ fun k hk=>⟨trivial,fun e=>by have:=(vX.lt e).2;have:=hk.1;omega⟩) (by omega) (by rw[bg];omega) (by decide);have z2:=m3.size;have cG:aD (fun k=>sl.a=some ⟨k,0,none⟩) w1 w2:=m3.p fun x hx=>.inl (m4 x hx).1;have lm:aF w2 b 288 [ae (some ⟨b,0,none⟩),sl.v,sn.v]:=cG.blk (k3.blk Ax (by simp)) fun e=>by have:=(vX.lt e).1;omega
 have BZ:∀g,s'.a=some ⟨g,0,none⟩->b<g:=fun g hg=>by
  rcases m5 with e | e
  ·rw[e]at hg;exact(vX.lt hg).1
  ·rw[e]at hg;injection hg with hg;injection hg with hg;omega
 refine⟨rfl,sl,Blk.ec Ax 1 rfl,y,w1,k1,s',w2,m1,b,1,_,_,rfl,lm,by simp,fun w3 dh ru=>⟨s',rfl,⟨⟨_,.inr rfl,ru⟩,(Bf.of m2 (by simp)).keep fun g hg hl=>dh.block g hl (by have:=BZ g hg;simp;omega),?_,h.hG⟩,?_,?_⟩⟩
 ·have h0:=SliceF.only cZ (by decide) h.sig (ch.cd k3) fun k hk _ hm=>by have:=h.hG k hk;simp only[aO]at hm;omega
  have h1:=SliceF.rc cZ (by decide) h0 cG fun k hk _ hm=>by have:=h.hG k hk;have:=(vX.lt hm).1;omega
  exact SliceF.only cZ (by decide) h1 dh fun k hk _ hm=>by have:=h.hG k hk;simp only[aO]at hm;omega
 ·refine(((ch.cd k3).p (F:=fun k=>k=b∨sl.a=some ⟨k,0,none⟩) fun x hx=>.inl (.inl (by simpa using hx))).trans cG fun k hk=>.inl (.inr hk)).trans (dh.p (F:=fun k=>k=b) fun x hx=>.inl (by simpa using hx)) fun k hk=>.inl (.inl hk)
 ·intro k hk;rcases m5 with e | e
  ·rw[e]at hk;exact .inl hk
  ·rw[e]at hk;injection hk with hk;injection hk with hk;exact .inr (by omega)
theorem Sw(h:Pg G w b sl sn l)(c:UInt8)(hm:l.length+1<=140737488355328):az aq 296 #[ae (some ⟨b,0,none⟩),.int .u8 (c.toNat:Int)] w fun e w'=>
 ∃gL,e=ak .nilIface/\Pg G w' b gL sn (l++[c])/\ii b sl w gL w':=(abk _ _ _ w (Um h c hm)).mono (by
 rintro e w' ⟨v,rfl,s,rfl,h⟩;exact⟨s,rfl,h⟩)
theorem Sy(h:Pg G w b sl sn l)(c:UInt8)(hm:l.length+1<=140737488355328):kR aq 296 #[ae (some ⟨b,0,none⟩),.int .u8 (c.toNat:Int)] w fun v w'=>
 ∃gL,v=.nilIface/\Pg G w' b gL sn (l++[c])/\ii b sl w gL w':=mP _ _ _ w (Um h c hm)
structure Pt (w:av) (b:Nat) (sl:Sl) (l:aH):Prop where
 blk:∃q sn:aw,aF w b 288 [q,sl.v,sn]
 len:sl.n=l.length
 some:l≠[]->∃g,sl.a=.some ⟨g,0,none⟩/\b<g/\sl.c≠0/\(∃n,w.shape? g=.some (5,n)/\l.length<=n)/\aB w ⟨g,0,none⟩ (l.map fW)
 cap:sl.a=none∨sl.c≠0
 big:l.length<=9223372036854775807
theorem zQ{w w':av}{g:Nat}(h:w'.heap[g]? =w.heap[g]?):w'.shape? g=w.shape? g:=by
 unfold World.shape?;rw[h]
theorem Pt.only{w':av}(h:Pt w b sl l)(hO:ay [] w w'):Pt w' b sl l:=by
 obtain⟨⟨q,sn,h1⟩,h2,h3,h4,h5⟩:=h;refine⟨⟨q,sn,hO.blk h1 (by simp)⟩,h2,fun hl=>?_,h4,h5⟩;obtain⟨g,a1,a2,a3,⟨n,a4,a5⟩,a6⟩:=h3 hl;have hg:g<w.heap.size:=by
  refine bC fun hn=>?_;unfold World.shape? at a4;rw[ft (by omega)]at a4;cases a4
 have hk:=hO.block g hg (by simp);exact⟨g,a1,a2,a3,⟨n,(zQ hk).trans a4,a5⟩,a6.keep hk⟩
theorem Pg.pt(h:Pg G w b sl sn l):Pt w b sl l:=by
 obtain⟨q,hq,hB⟩:=h.blk;refine⟨⟨_,_,hB⟩,h.buf.len,fun hl=>?_,?_,?_⟩
 ·rcases h.buf with⟨_,e⟩ | ⟨g,tail,h1,h2,h3,h4,h5,h6,h7,h8⟩
  ·exact absurd e hl
  ·have h0:l.length≠0:=fun e=>hl (bp e);refine⟨g,h1,h2,by omega,⟨_,by unfold World.shape?;unfold aF at h3;rw[h3],by simp⟩,h3.cells 0 (l.map fW) fun j v hj=>by rw[bD,bJ (bc.1 hj).1];exact hj⟩
 ·rcases h.buf with⟨e,_⟩ | ⟨g,tail,h1,h2,h3,h4,h5,h6,h7,h8⟩
  ·exact .inl (by rw[e])
  ·exact .inr (by omega)
 ·rcases h.buf with⟨_,e⟩ | ⟨g,tail,h1,h2,h3,h4,h5,h6,h7⟩
  ·subst e;simp
  ·omega
end
theorem vA(w:av)(p:Addr)(n:Nat)(a:Nat):(w.freeze p n).shape? a=w.shape? a:=by
 unfold World.freeze;split
 ·rfl
 ·unfold World.shape?;simp only[AD];by_cases Tu:p.block=a
  ·rw[if_pos Tu];cases h:w.heap[a]? with
   | none=>rfl
   | some o=>
    cases o with
    | cells c e f=>obtain⟨lo,hi⟩:=f;rfl
    | _=>rfl
  ·rw[if_neg Tu]
section
variable {w:av} {b:Nat} {sl:Sl} {l:aH}
theorem N2(h:Pt w b sl l):az aq 43 #[ae (some ⟨b,0,none⟩)] w fun e w'=>e=ak (ab (T l))/\Pt w' b sl l/\aD (fun k=>b<k/\sl.a=some ⟨k,0,none⟩) w w':=by
 refine ret (Ud _ _ _ ?_);intro w0 ch;have h0:=h.only ch;obtain⟨⟨q,sn,hB⟩,ey,Gi,nS,pq⟩:=h0;refine⟨fun k=>k=b,sl,Blk.ec hB 1 rfl,rfl,sl,Blk.ec hB 1 rfl,sl.a,w0,?_,fun k _ _=>rfl,?_⟩
 ·obtain⟨sa,sn',sc⟩:=sl;cases sa with
  | none=>exact Lib.run_unsafeSliceData_nil _ _ _ _ _
  | some a=>
   rcases nS with e | e
   ·cases e
   ·exact Lib.run_unsafeSliceData_row _ _ _ _ _ _ e
 ·by_cases hl:l=[]
  ·subst hl;have hn:sl.n=0:=ey;refine⟨T [],w0,?_,fun k _ _=>rfl,rfl,⟨⟨q,sn,hB⟩,ey,Gi,nS,pq⟩,ch.p0⟩;rw[hn];exact Lib.run_unsafeString_none _ _ _ _ _
  ·obtain⟨g,ha,P3,hc,⟨m,ri,hm⟩,uK⟩:=Gi hl;have hF:=rU w0 ⟨g,0,none⟩ l.length;have HU:b<w0.heap.size:=hB.lt;refine⟨T l,w0.freeze ⟨g,0,none⟩ l.length,?_,fun k hk bQ=>hF.block k bQ (by dsimp only;omega),rfl,⟨⟨q,sn,hF.blk hB (by dsimp only;omega)⟩,ey,fun _=>⟨g,ha,P3,hc,⟨m,(vA _ _ _ _).trans ri,hm⟩,fun j v hj=>by rw[rT];exact uK j v hj⟩,nS,pq⟩,ch.wT (hF.mono fun k _ hk=>by dsimp only at hk;subst hk;exact⟨P3,ha⟩)⟩;rw[ha,ey];exact Lib.run_unsafeString_row _ _ _ _ 5 (by kernel_rfl) (by kernel_rfl) g m ri l hl hm pq fun j x hj=>uK j (fW x) (by rw[cX,hj];rfl)
end
end Go.Proofs.YtmhoiicofhlgbaaGreatDoor.Con
