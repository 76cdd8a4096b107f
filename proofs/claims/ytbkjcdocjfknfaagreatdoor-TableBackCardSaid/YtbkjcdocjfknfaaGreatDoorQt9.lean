import Derived.Test.YtbkjcdocjfknfaaGreatDoorQt8
set_option linter.unusedSectionVars false
namespace Go.Proofs.YtbkjcdocjfknfaaGreatDoor.Con
open Go.Value renaming int->O,string->ab,pointer->ae,agg->ah,tuple->ai,bool->aj
open Go.IntKind renaming i64->U,wrap->ar
open Go.Ending renaming returned->ak
open _root_.ByteArray renaming mk->ao
open _root_.Go.Proofs.Tryz renaming prog->aq
open Go.Instr renaming buildSlice->au
open Go renaming World->av,Value->aw,Calls->az
open Go.Kt renaming Only->ay,SliceF->aA,Cells->aB,OnlyP->aD,Blk->aF
open Go Go.RowKit Go.Kt Go.Kt.V Go.Proofs.YtbkjcdocjfknfaaGreatDoor.Vc
set_option linter.unusedSimpArgs false
set_option linter.unusedVariables false
set_option maxHeartbeats 4000000
structure Fz (bs:List Nat) (w w':av) (ks:List Nat):Prop where
 o:ay bs w w'
 k:∀x,x∈ks->w.heap.size<=x/\x<w'.heap.size
 lo:∀x,x∈bs->x<w.heap.size
section
variable {bs bs' ks ks':List Nat} {w w1 w2 w':av} {k0 b:Nat}
theorem Fz.start(lo:∀x,x∈bs->x<w.heap.size):Fz bs w w []:=⟨Only.refl _ _,fun _ h=>(by cases h),lo⟩
theorem Fz.go(h:Fz bs w w1 ks)(k:ay bs' w1 w2)(hb:∀x,x∈bs'->x∈bs∨x∈ks):Fz bs w w2 ks:=
 ⟨h.o.trans k fun x hx=>(hb x hx).imp id fun hk=>(h.k x hk).1,fun x hx=>⟨(h.k x hx).1,cb (h.k x hx).2 k.size⟩,h.lo⟩
theorem Fz.new(h:Fz bs w w1 ks)(k:ay bs' w1 w2)(hb:∀x,x∈bs'->x∈bs∨w.heap.size<=x):Fz bs w w2 ks:=
 ⟨h.o.trans k hb,fun x hx=>⟨(h.k x hx).1,cb (h.k x hx).2 k.size⟩,h.lo⟩
theorem Fz.q(h:Fz bs w w1 ks)(k:ay [] w1 w2):Fz bs w w2 ks:=h.go k fun x hx=>(by cases hx)
theorem Fz.c(h:Fz (b::bs) w w1 ks)(k:ay [b] w1 w2):Fz (b::bs) w w2 ks:=h.go k fun x hx=>.inl (by simp only[aN]at hx;simp[hx])
theorem Fz.f(h:Fz bs w w1 ks)(k:ay [k0] w1 w2)(hk:k0∈ks):Fz bs w w2 ks:=h.go k fun x hx=>.inr (by simp only[aN]at hx;rw[hx];exact hk)
theorem Fz.al(h:Fz bs w w1 ks)(k:ay [] w1 w2)(h1:w1.heap.size<=k0)(h2:k0<w2.heap.size):Fz bs w w2 (k0::ks):=
 ⟨(h.q k).o,fun x hx=>by
  rcases aQ.1 hx with rfl | hx
  ·exact⟨bh h.o.size h1,h2⟩
  ·exact(h.q k).k x hx,h.lo⟩
theorem Fz.sm(h:Fz bs w w1 ks)(k:ay bs' w1 w2)(hk:∀x,x∈ks'->x∈ks)(hb:∀x,x∈bs'->x∈bs∨∀y,y∈ks'->y≠x):bS ks' w1 w2:=k.same fun x hx=>
 ⟨(h.k x (hk x hx)).2,fun hm=>by
  rcases hb x hm with h1 | h1
  ·have:=(h.k x (hk x hx)).1;have:=h.lo x h1;omega
  ·exact h1 x hx rfl⟩
theorem Fz.sq(h:Fz bs w w1 ks)(k:ay [] w1 w2)(hk:∀x,x∈ks'->x∈ks):bS ks' w1 w2:=h.sm k hk fun x hx=>(by cases hx)
theorem Fz.sc(h:Fz (b::bs) w w1 ks)(k:ay [b] w1 w2)(hk:∀x,x∈ks'->x∈ks):bS ks' w1 w2:=h.sm k hk fun x hx=>.inl (by simp only[aN]at hx;simp[hx])
theorem Fz.ne(h:Fz bs w w1 ks)(hk:k0∈ks)(hb:b∈bs):k0≠b:=fun e=>by
 have:=(h.k k0 hk).1;have:=h.lo b hb;omega
end
section
variable {α:Type} {r:Rp α} {w w1 w':av} {x:α} {cs:aI} {B:Nat}
structure Stay (B:Nat) (w w':av):Prop where
 sz:w.heap.size<=w'.heap.size
 eq:∀k,B<=k->k<w.heap.size->w'.heap[k]? =w.heap[k]?
theorem Stay.refl(B:Nat)(w:av):Stay B w w:=⟨aV _,fun _ _ _=>rfl⟩
theorem Stay.go{bs:List Nat}(h:Stay B w w1)(k:ay bs w1 w')(hb:∀x,x∈bs->x<B∨w.heap.size<=x):Stay B w w':=
 ⟨bh h.sz k.size,fun i h1 h2=>(k.block i (cb h2 h.sz) fun hm=>by have:=hb i hm;omega).trans (h.eq i h1 h2)⟩
theorem Stay.of{bs:List Nat}(k:ay bs w w')(hb:∀x,x∈bs->x<B∨w.heap.size<=x):Stay B w w':=(Stay.refl B w).go k hb
theorem _root_.Go.Kt.Rp.Ok.stay(hr:r.Ok)(h:r w (Fr B) x cs)(hs:Stay B w w'):r w' (Fr B) x cs:=
 hr.mono (hr.keep (hr.inHeap h) fun k hk bQ=>hs.eq k hk.1 bQ) fun k hk=>hk.1
theorem _root_.Go.Kt.Rp.Ok.low(hr:r.Ok)(h:r w (Fr B) x cs){A:Nat}(hA:A<=B):r w (Fr A) x cs:=hr.mono h fun k hk=>bh hA hk
variable {size:Nat} {e:TypeId} {s:Sl} {xs:List α} {t:Bool}
theorem iE.stay(hr:r.Ok)(h:iE t r size e w (Fr B) s xs)(h0:0<size)(hs:Stay B w w'):iE t r size e w' (Fr B) s xs:=
 ((h.inHeap hr h0).keep hr h0 fun k hk bQ=>hs.eq k hk.1 bQ).mono hr fun k hk=>hk.1
theorem iE.low(hr:r.Ok)(h:iE t r size e w (Fr B) s xs){A:Nat}(hA:A<=B):iE t r size e w (Fr A) s xs:=h.mono hr fun k hk=>bh hA hk
end
abbrev SR(l:Sl)(s:Sx):aI:=[l.v,O U (s.i:Int),O U s.fc,O U s.fa,O U s.v,O U s.n,O U s.d,O U s.m,O U s.a]
structure Sr (F:aJ) (ts:List Tk) (w:av) (b:Nat) (l:Sl) (s:Sx):Prop where
 blk:aF w b 186 (SR l s)
 tok:aA GY 4 w F l ts
 hF:∀k,F k->k<b
 en:uD ts
 lt:s.i<ts.length
 sm:ts.length<=16777216
abbrev rp(b:Nat):aw:=ae (some ⟨b,0,none⟩)
section
variable {F:aJ} {ts:List Tk} {w w':av} {b:Nat} {l:Sl} {s s':Sx}
theorem Sr.own(h:Sr F ts w b l s){bs:List Nat}(hO:ay bs w w')(hb:∀x,x∈bs->b<x):Sr F ts w' b l s:=
 ⟨hO.blk h.blk fun hm=>(by have:=hb b hm;omega),SliceF.only iy (by decide) h.tok hO fun k hk _ hm=>(by have:=h.hF k hk;have:=hb k hm;omega),h.hF,h.en,h.lt,h.sm⟩
theorem Sr.far(h:Sr F ts w b l s){bs:List Nat}(hO:ay bs w w')(hb:∀x,x∈bs->x≠b/\¬F x):Sr F ts w' b l s:=
 ⟨hO.blk h.blk fun hm=>(hb b hm).1 rfl,SliceF.only iy (by decide) h.tok hO fun k hk _ hm=>(hb k hm).2 hk,h.hF,h.en,h.lt,h.sm⟩
theorem Sr.VC(h:Sr F ts w b l s){k0:Nat}(hO:ay [k0] w w')(hk:k0≠b/\¬F k0):Sr F ts w' b l s:=h.far hO fun x hx=>(by simp only[aN]at hx;subst hx;exact hk)
theorem Sr.gt(h:Sr F ts w b l s){x:Nat}(hx:b<x):x≠b/\¬F x:=⟨by omega,fun hF=>by have:=h.hF x hF;omega⟩
theorem Sr.only(h:Sr F ts w b l s)(hO:ay [] w w'):Sr F ts w' b l s:=h.own hO fun x hx=>(by cases hx)
theorem Sr.one(h:Sr F ts w b l s){k0:Nat}(hO:ay [k0] w w')(hk:b<k0):Sr F ts w' b l s:=h.own hO fun x hx=>(by simp only[aN]at hx;omega)
theorem Sr.lI(h:Sr F ts w b l s)(hO:ay [b] w w')(hB:aF w' b 186 (SR l s'))(hi:s'.i<ts.length):Sr F ts w' b l s':=
 ⟨hB,SliceF.only iy (by decide) h.tok hO fun k hk _ hm=>(by have:=h.hF k hk;simp only[aN]at hm;omega),h.hF,h.en,hi,h.sm⟩
theorem Sr.lb(h:Sr F ts w b l s):b<w.heap.size:=h.blk.lt
theorem Sr.z(h:Sr F ts w b l s):Fz [b] w w []:=Fz.start fun x hx=>(by simp only[aN]at hx;rw[hx];exact h.lb)
theorem Sr.big(h:Sr F ts w b l s):ts.length<=9223372036854775807:=by
 have h1:=h.tok.len;have h2:=h.tok.cap;have h3:=h.tok.big;omega
theorem Sr.wr(h:Sr F ts w b l s):ar U ((s.i:Int)+1)=((s.i+1:Nat):Int):=by
 have:=h.big;have:=h.lt;rw[fQ (by omega) (by omega)];rfl
theorem Sr.now(h:Sr F ts w b l s):∃ad,dy l (s.i:Int) 4 ad/\aB w ad [O U (tk ts s.i).k,ab (T (tk ts s.i).t),O U (tk ts s.i).n,O U (tk ts s.i).a]:=by
 have hl:=h.tok.len;have bQ:=h.lt;obtain⟨ad,x,cs,g1,g2,g3,g4,g5,g6⟩:=h.tok.get (bm s.i) (by omega);rw[aZ,G5 h.lt]at g2;injection g2 with g2;subst g2;unfold GY at g6;subst g6;exact⟨ad,g1,g5⟩
structure Dn (F:aJ) (ts:List Tk) (w w':av) (b:Nat) (l:Sl) (s:Sx):Prop where
 o:ay [b] w w'
 r:Sr F ts w' b l s
theorem Sr.dn(h:Sr F ts w b l s):Dn F ts w w b l s:=⟨Only.refl _ _,h⟩
theorem Dn.q(h:Dn F ts w w' b l s){w2:av}(k:ay [] w' w2):Dn F ts w w2 b l s:=⟨h.o.cp k,h.r.only k⟩
theorem Dn.nx(h:Dn F ts w w' b l s){w2:av}{s':Sx}(k:Dn F ts w' w2 b l s'):Dn F ts w w2 b l s':=⟨h.o.trans k.o fun x hx=>.inl hx,k.r⟩
theorem Dn.f(h:Dn F ts w w' b l s){w2:av}{k0:Nat}(k:ay [k0] w' w2)(hk:w.heap.size<=k0)(hb:b<w.heap.size):Dn F ts w w2 b l s:=⟨h.o.new k hk,h.r.one k (by omega)⟩
theorem Sr.tk(h:Sr F ts w b l s){ad:Addr}(g:dy l (s.i:Int) 4 ad):aB w ad [O U (tk ts s.i).k,ab (T (tk ts s.i).t),O U (tk ts s.i).n,O U (tk ts s.i).a]:=by
 obtain⟨JK,g1,g2⟩:=h.now;rw[g.agk g1];exact g2
structure Zt (F:aJ) (ts:List Tk) (w w':av) (b:Nat) (l:Sl) (s:Sx) (ks:List Nat):Prop where
 z:Fz [b] w w' ks
 r:Sr F ts w' b l s
section
variable {w2:av} {ks ks':List Nat} {k0:Nat}
theorem Sr.zt(h:Sr F ts w b l s):Zt F ts w w b l s []:=⟨h.z,h⟩
theorem Zt.q(h:Zt F ts w w' b l s ks)(k:ay [] w' w2):Zt F ts w w2 b l s ks:=⟨h.z.q k,h.r.only k⟩
theorem Zt.al(h:Zt F ts w w' b l s ks)(k:ay [] w' w2)(h1:w'.heap.size<=k0)(h2:k0<w2.heap.size):Zt F ts w w2 b l s (k0::ks):=⟨h.z.al k h1 h2,h.r.only k⟩
theorem Zt.ad(h:Zt F ts w w' b l s ks)(h1:w.heap.size<=k0)(h2:k0<w'.heap.size):Zt F ts w w' b l s (k0::ks):=⟨⟨h.z.o,fun x hx=>by
 rcases aQ.1 hx with rfl | hx
 ·exact⟨h1,h2⟩
 ·exact h.z.k x hx,h.z.lo⟩,h.r⟩
theorem Zt.lt(h:Zt F ts w w' b l s ks)(hk:k0∈ks):b<k0:=cb (h.z.lo b (by simp)) (h.z.k k0 hk).1
theorem Zt.f(h:Zt F ts w w' b l s ks)(k:ay [k0] w' w2)(hk:k0∈ks):Zt F ts w w2 b l s ks:=⟨h.z.f k hk,h.r.one k (h.lt hk)⟩
theorem Zt.nx(h:Zt F ts w w' b l s ks)(k:Dn F ts w' w2 b l s'):Zt F ts w w2 b l s' ks:=⟨h.z.c k.o,k.r⟩
theorem Zt.dn(h:Zt F ts w w' b l s ks):Dn F ts w w' b l s:=⟨h.z.o,h.r⟩
theorem Zt.up(h:Zt F ts w w' b l s ks)(k:ay [b] w' w2)(hB:aF w2 b 186 (SR l s'))(hi:s'.i<ts.length):Zt F ts w w2 b l s' ks:=⟨h.z.c k,h.r.lI k hB hi⟩
theorem Zt.sq(h:Zt F ts w w' b l s ks)(k:ay [] w' w2)(hk:∀x,x∈ks'->x∈ks):bS ks' w' w2:=h.z.sq k hk
theorem Zt.sc(h:Zt F ts w w' b l s ks)(k:Dn F ts w' w2 b l s')(hk:∀x,x∈ks'->x∈ks):bS ks' w' w2:=h.z.sc k.o hk
theorem Zt.row{gs:List Nat}(h:Zt F ts w w' b l s ks)(k:ay gs w' w2)(hg:∀x,x∈gs->w.heap.size<=x):Zt F ts w w2 b l s ks:=⟨h.z.new k fun x hx=>.inr (hg x hx),h.r.own k fun x hx=>cb (h.z.lo b (by simp)) (hg x hx)⟩
theorem Zt.sr{gs:List Nat}(h:Zt F ts w w' b l s ks)(k:ay gs w' w2)(hk:∀x,x∈ks'->x∈ks)(hg:∀x,x∈gs->∀y,y∈ks'->y<x):bS ks' w' w2:=h.z.sm k hk fun x hx=>.inr fun y hy e=>by have:=hg x hx y hy;omega
theorem Zt.ne(h:Zt F ts w w' b l s ks)(hk:k0∈ks):k0≠b:=h.z.ne hk (by simp)
theorem Stay.q{B:Nat}(h:Stay B w w')(k:ay [] w' w2):Stay B w w2:=h.go k fun x hx=>(by cases hx)
theorem Stay.d{B:Nat}(h:Stay B w w')(k:Dn F ts w' w2 b l s')(hb:b<B):Stay B w w2:=h.go k.o fun x hx=>.inl (by simp only[aN]at hx;omega)
theorem Stay.f{B:Nat}(h:Stay B w w')(k:ay [k0] w' w2)(hk:k0<B∨w.heap.size<=k0):Stay B w w2:=h.go k fun x hx=>(by simp only[aN]at hx;subst hx;exact hk)
end
theorem kz(h:Sr F ts w b l s):az aq 119 #[rp b] w fun e w'=>e=ak (aj (s.fc==0))/\ay [] w w':=by
 refine ret (Za _ _ _ ?_);exact⟨s.fc,Blk.dT h.blk 2 rfl,rfl,Only.refl _ _⟩
theorem wj(h:Sr F ts w b l s)(c:Int):az aq 157 #[rp b,O U c] w fun e w'=>e=ak (ai #[])/\Dn F ts w w' b l (fF ts s c):=by
 refine ret (Zc _ _ _ _ ?_);refine(kz h).mono ?_;rintro _ w0 ⟨rfl,cE⟩;refine⟨_,rfl,fun hc w1 cA=>?_,fun hc=>?_⟩
 ·have hc:s.fc=0:=by simpa using hc
  have h1:=h.only (cE.cp cA);obtain⟨ad,g1,g2⟩:=h1.now;refine⟨l,Blk.dT h1.blk 0 rfl,_,Blk.dT h1.blk 1 rfl,ad,g1,_,g2.dT 3 _ rfl,b,2,_,_,rfl,h1.blk,by simp,fun w2 cR qY=>⟨rfl,((cE.cp cA).weaken (bs':=[b]) fun _ h=>(by cases h)).trans cR fun x hx=>.inl hx,?_⟩⟩;unfold fF;rw[if_pos hc];exact h1.lI (s':={s with fc:=c,fa:=(tk ts s.i).a}) cR qY h.lt
 ·have hc:s.fc≠0:=by simpa using hc
  unfold fF;rw[if_neg hc];exact⟨rfl,h.dn.q cE⟩
theorem qk(h:Sr F ts w b l s):az aq 120 #[rp b] w fun e w'=>e=ak (ai #[])/\Dn F ts w w' b l (ji ts s):=by
 refine ret (Zb _ _ _ ?_);obtain⟨ad,g1,g2⟩:=h.now;refine⟨fun w'=>Dn F ts w w' b l (if(tk ts s.i).k=5 then fF ts s 3 else s),fun w0 h0=>(wj h0.r 4).mono ?_,l,Blk.dT h.blk 0 rfl,_,Blk.dT h.blk 1 rfl,ad,g1,_,g2.dT 0 _ rfl,fun hc w2 cR=>?_,fun hc w2 cR=>?_⟩
 ·rintro _ w1 ⟨rfl,h1⟩;refine⟨rfl,rfl,h0.nx ?_⟩;unfold ji;split at h1
  ·rename_i e;rw[if_pos e];exact h1
  ·rename_i e;rw[if_neg e];exact h1
 ·refine(wj (h.only cR) 3).mono ?_;rintro _ w3 ⟨rfl,h3⟩;have hc:(tk ts s.i).k=5:=by simpa using hc
  refine⟨rfl,?_⟩;rw[if_pos hc];exact(h.dn.q cR).nx h3
 ·have hc:¬(tk ts s.i).k=5:=by simpa using hc
  rw[if_neg hc];exact h.dn.q cR
theorem ZS{s:Sl}{w:av}{G:aJ}{l:List (aH)}(h:aA im 1 w G s l)(c:aH):
  az aq 197 #[Sl.v s,ab (T c)] w fun r w'=>r=ak (O U (if rA c l<l.length then(rA c l:Int)else -1))/\w'=w:=by
 refine ret (Ss _ _ _ _ ?_);have eH:=h.len;have pE:=h.big;have mY:=h.cap;refine⟨fun nv i w'=>∃n:Nat,n<=l.length/\i=(n:Int)/\nv=l.length-n/\rA c l=n+rA c (l.drop n)/\w'=w,l.length,⟨0,bp _,rfl,rfl,by rw[iJ,bJ],rfl⟩,?_⟩;rintro nv _ _ ⟨n,hn,rfl,rfl,hp,rfl⟩;refine⟨fun hc=>?_,fun hc=>?_⟩
 ·have bQ:(n:Int)<s.n:=aP hc;obtain⟨ad,x,cs,g1,g2,g3,g4,g5,g6⟩:=h.get (bm n) bQ;rw[aZ]at g2;unfold im at g6;subst g6;have hd:l.drop n=x::l.drop (n+1):=by rw[gU (aY.1 g2).1,(aY.1 g2).2]
  rw[hd,rA]at hp;refine⟨ad,g1,_,g5,?_⟩;dsimp only;rw[kH];refine⟨fun he=>⟨?_,rfl⟩,fun he=>⟨l.length-(n+1),by omega,n+1,by omega,by rw[fQ (by omega) (by omega)];rfl,rfl,?_,rfl⟩⟩
  ·have he:c=x:=aP he;rw[if_pos he]at hp;rw[if_pos (by omega),hp,dx]
  ·have he:c≠x:=aU he;rw[if_neg he]at hp;omega
 ·have sP:¬((n:Int)<s.n):=aU hc;rw[iZ (by omega),rA]at hp;rw[if_neg (by omega)];exact⟨rfl,rfl⟩
theorem xL(h:Sr F ts w b l s){G:aJ}{q:Sl}{ss:List (aH)}(hs:aA im 1 w G q ss):az aq 159 #[rp b,q.v] w fun e w'=>e=ak (O U (cH ts s ss:Nat))/\ay [] w w':=by
 refine ret (Y9 _ _ _ _ ?_);intro w0 cE;have h0:=h.only cE;obtain⟨ad,g1,g2⟩:=h0.now;refine⟨fun _=>True,trivial,l,Blk.dT h0.blk 0 rfl,trivial,_,Blk.dT h0.blk 1 rfl,ad,g1,trivial,_,_,_,_,g2,fun k0 w1 hk iq cA=>?_⟩;have iw:=cE.cp cA;refine(kz (h0.only cA)).mono ?_;rintro _ w2 ⟨rfl,cR⟩;have mZ:=iw.cp cR;have PD:((!(s.fc==0))||(((tk ts s.i).k !=2)&&((tk ts s.i).k !=4)))=decide (s.fc≠0∨((tk ts s.i).k≠2/\(tk ts s.i).k≠4)):=by
  rw[bT];simp
 refine⟨_,rfl,cR.same (by simp;omega),?_⟩;dsimp only;rw[PD];refine⟨fun hc=>?_,fun hc=>?_⟩
 ·unfold cH;rw[if_pos (aP hc)];exact⟨rfl,mZ⟩
 ·refine(ZS (SliceF.only cG (by decide) hs mZ (by simp)) (tk ts s.i).t).mono ?_;rintro _ w3 ⟨rfl,rfl⟩;refine⟨_,rfl,bS.refl _ _,?_,mZ⟩;unfold cH;rw[if_neg (aU hc)];have hl:=hs.len;have hb:=hs.big;have hcp:=hs.cap;split
  ·rw[fQ (by omega) (by omega)];rfl
  ·rfl
theorem HC(h:Sr F ts w b l s)(ss:List (aH)){n:Nat}{parts:Array (Nat×aw)}(hp:parts=(((ss.map fun x=>Value.string (T x)).zipIdx 0).map fun x=>(x.2,x.1)).toArray)(hn:ss.length=n)(h0:0<n)(wx:n*1<=16777216):
  ∃(q:Sl) (w0:av),(au 31 n parts).run aq w=.ok q.v w0/\ay [] w w0/\az aq 159 #[rp b,q.v] w0 fun e w'=>e=ak (O U (cH ts s ss:Nat))/\ay [] w0 w':=by
 obtain⟨q,w0,k1,k2,k3⟩:=lZ w ss hp hn h0 wx;exact⟨q,w0,k1,k3,xL (h.only k3) (tu k2)⟩
theorem QL(h:Sr F ts w b l s){G:aJ}{q:Sl}{ss:List (aH)}(hs:aA im 1 w G q ss):az aq 116 #[rp b,q.v] w fun e w'=>e=ak (O U (cH ts s ss:Nat))/\Dn F ts w w' b l (if cH ts s ss=0 then s else cZ s):=by
 refine ret (Y8 _ _ _ _ ?_);refine(xL h hs).mono ?_;rintro _ w0 ⟨rfl,cE⟩;have h0:=h.only cE;refine⟨_,rfl,fun w'=>Dn F ts w w' b l (if cH ts s ss=0 then s else cZ s),fun w1 h1=>⟨rfl,h1⟩,fun hc=>?_,fun hc=>?_⟩
 ·have hc:cH ts s ss≠0:=by have:=aP hc;omega
  refine⟨_,Blk.dT h0.blk 1 rfl,b,1,_,_,rfl,h0.blk,by simp,fun w2 cR qY=>?_⟩;rw[if_neg hc];rw[h.wr]at qY;exact⟨(cE.weaken (bs':=[b]) fun _ h=>(by cases h)).trans cR fun x hx=>.inl hx,h0.lI (s':=cZ s) cR qY (h.en.next h.lt (cT hc).2)⟩
 ·have hc:cH ts s ss=0:=by have:=aU hc;omega
  rw[if_pos hc];exact h.dn.q cE
theorem zE(h:Sr F ts w b l s)(ss:List (aH)){n:Nat}{parts:Array (Nat×aw)}(hp:parts=(((ss.map fun x=>Value.string (T x)).zipIdx 0).map fun x=>(x.2,x.1)).toArray)(hn:ss.length=n)(h0:0<n)(wx:n*1<=16777216):
  ∃(q:Sl) (w0:av),(au 31 n parts).run aq w=.ok q.v w0/\ay [] w w0/\az aq 116 #[rp b,q.v] w0 fun e w'=>e=ak (O U (cH ts s ss:Nat))/\Dn F ts w0 w' b l (if cH ts s ss=0 then s else cZ s):=by
 obtain⟨q,w0,k1,k2,k3⟩:=lZ w ss hp hn h0 wx;exact⟨q,w0,k1,k3,QL (h.only k3) (tu k2)⟩
theorem HD(h:Sr F ts w b l s){G:aJ}{q:Sl}{x:aH}(hs:aA im 1 w G q [x])(hG:∀k,G k->k≠b):az aq 114 #[rp b,q.v] w fun e w'=>e=ak (ai #[])/\Dn F ts w w' b l (dB ts s x):=by
 refine ret (Y7 _ _ _ _ ?_);have hn:q.n=1:=hs.len;refine⟨fun nv i w'=>(i=0/\nv=1/\w'=w)∨(i=1/\nv=0/\Dn F ts w w' b l (dB ts s x)),1,.inl ⟨rfl,rfl,rfl⟩,?_⟩;rintro nv i w0 (⟨rfl,rfl,rfl⟩ | ⟨rfl,rfl,hD⟩)
 ·refine⟨fun _=>?_,fun hc=>absurd (aU hc) (by omega)⟩;refine⟨fun w'=>Dn F ts w0 w' b l (dB ts s x),fun w1 h1=>⟨0,by decide,.inr ⟨rfl,rfl,h1⟩⟩,?_⟩;obtain⟨ad,y,cs,g1,g2,g3,g4,g5,g6⟩:=hs.get (i:=0) (by decide) (by omega);simp only[Int.toNat_zero,ck,aX]at g2;subst g2;unfold im at g6;subst g6;obtain⟨q0,w2,k1,k2,k3⟩:=zE h [x] (n:=1) (parts:=#[(0,ab (T x))]) rfl rfl (by decide) (by decide);refine⟨ad,g1,_,g5,q0,w2,k1,k3.mono ?_⟩;rintro _ w3 ⟨rfl,h3⟩;have h03:=(h.dn.q k2).nx h3;refine⟨_,rfl,fun hc=>?_,fun hc=>?_⟩
  ·have hc:cH ts s [x]=0:=by have:((cH ts s [x]:Nat):Int)=0:=(by simpa using hc);omega
   rw[if_pos hc]at h03;refine(qk h03.r).mono ?_;rintro _ w4 ⟨rfl,h4⟩;refine⟨rfl,?_⟩;unfold dB;rw[if_pos hc];exact h03.nx h4
  ·have hc:cH ts s [x]≠0:=fun e=>by rw[e]at hc;simp at hc
   rw[if_neg hc]at h03;unfold dB;rw[if_neg hc];exact h03
 ·exact⟨fun hc=>absurd (aP hc) (by omega),fun _=>⟨rfl,hD⟩⟩
theorem nU(h:Sr F ts w b l s)(x:aH):∃(q:Sl) (w0:av),(au 31 1 #[.mk 0 (ab (T x))]).run aq w=.ok q.v w0/\ay [] w w0/\az aq 114 #[rp b,q.v] w0 fun e w'=>e=ak (ai #[])/\Dn F ts w0 w' b l (dB ts s x):=by
 obtain⟨q,w0,k1,k2,k3⟩:=lZ w [x] (n:=1) (parts:=#[(0,ab (T x))]) rfl rfl (by decide) (by decide);exact⟨q,w0,k1,k3,HD (h.only k3) (tu k2) fun k hk e=>(by have:=hk.1;have:=h.lb;omega)⟩
theorem tG(h:Sr F ts w b l s){k:Int}(zT:k≠5):az aq 158 #[rp b,O U k] w fun e w'=>e=ak (fx ts s k).1.v/\Dn F ts w w' b l (fx ts s k).2:=by
 refine ret (Zf _ _ _ _ ?_);intro k0 w0 hk iq cE;have z0:=h.z.al cE hk iq;have h0:=h.only cE;obtain⟨ad,g1,g2⟩:=h0.now;refine⟨fun _=>True,trivial,l,Blk.dT h0.blk 0 rfl,trivial,_,Blk.dT h0.blk 1 rfl,ad,g1,trivial,_,_,_,_,g2,fun k1 w1 lr jq cA=>?_⟩;have z1:=z0.al cA lr jq;refine(kz (h0.only cA)).mono ?_;rintro _ w2 ⟨rfl,cR⟩;have z2:=z1.q cR;have hl:=h.lb;have d2:Dn F ts w w2 b l s:=h.dn.q ((cE.cp cA).cp cR);have PD:((!(s.fc==0))||((tk ts s.i).k !=k))=decide (s.fc≠0∨(tk ts s.i).k≠k):=by
  rw[bT];simp
 refine⟨_,rfl,z1.sq cR (by simp),?_⟩;dsimp only;rw[PD];refine⟨fun hc=>(qk d2.r).mono ?_,fun hc=>?_⟩
 ·rintro _ w3 ⟨rfl,h3⟩;refine⟨rfl,z2.sc h3.o (by simp),fun w4 dA=>?_⟩;unfold fx;rw[if_pos (aP hc)];exact⟨rfl,(d2.nx h3).f dA hk hl⟩
 ·refine⟨_,Blk.dT d2.r.blk 1 rfl,b,1,_,_,rfl,d2.r.blk,by simp,z2.ne (by simp) (by simp),z2.ne (by simp) (by simp),fun w5 eJ uX w6 eh=>?_⟩;have hc:=aU hc;unfold fx;rw[if_neg hc];simp only[not_or,Gi]at hc;rw[h.wr]at uX;have d5:Dn F ts w w5 b l (cZ s):=⟨d2.o.trans eJ fun x hx=>.inl hx,d2.r.lI eJ uX (h.en.next h.lt (by rw[hc.2];exact zT))⟩
  exact⟨rfl,d5.f eh hk hl⟩
theorem tH(h:Sr F ts w b l s):az aq 199 #[rp b] w fun e w'=>e=ak (ab (T (gC ts s).1))/\Dn F ts w w' b l (gC ts s).2:=by
 refine ret (Zl _ _ _ ?_);refine(tG h (k:=1) (by decide)).mono ?_;rintro _ w0 ⟨rfl,h0⟩;exact⟨_,_,_,_,rfl,rfl,h0⟩
theorem _root_.Go.Kt.Blk.Tf{w:av}{b:Nat}{t:TypeId}{cs:aI}{v:aw}(h:aF w b t cs)(j:Nat)(hx:cs[j]? =some v):aB w ⟨b,j,none⟩ [v]:=by
 have:=Blk.dT h j hx;rwa[eU,bJ]at this
theorem Bb(h:Sr F ts w b l s)(j:Nat)(x:Int)(c:Int)(u:Sx)(hx:(SR l s)[j]? =some (.int U x))(KR:(SR l (fF ts s c))[j]? =some (.int U x))(hui:u.i=s.i)
  (hu:SR l u=cd (SR l (if x=0 then fF ts s c else s)) j [O U (vK x)]):az aq 156 #[rp b,ae (some ⟨b,j,none⟩),O U c] w fun e w'=>e=ak (ai #[])/\Dn F ts w w' b l u:=by
 refine ret (Ze _ _ _ _ _ ?_);have hj:j+1<=9:=(aY.1 hx).1;refine⟨fun w'=>Dn F ts w w' b l (if x=0 then fF ts s c else s),fun w0 h0=>?_,_,rfl,x,Blk.Tf h.blk j hx,fun hc=>?_,fun hc=>?_⟩
 ·refine⟨_,rfl,x,Blk.Tf h0.r.blk j (by split<;>assumption),_,rfl,b,j,_,_,rfl,h0.r.blk,hj,fun w1 cA vw=>⟨rfl,h0.o.trans cA fun x hx=>.inl hx,h0.r.lI cA (s':=u) ?_ (by rw[hui];exact h.lt)⟩⟩;rw[hu];exact vw
 ·refine(wj h c).mono ?_;rintro _ w2 ⟨rfl,h2⟩;have hc:x=0:=by simpa using hc
  rw[if_pos hc];exact⟨rfl,h2⟩
 ·have hc:¬x=0:=by simpa using hc
  rw[if_neg hc];exact h.dn
theorem US(h:Sr F ts w b l s):az aq 156 #[rp b,ae (some ⟨b,8,none⟩),O U 2] w fun e w'=>e=ak (ai #[])/\Dn F ts w w' b l (rU ts s):=
 Bb h 8 s.a 2 _ rfl (by unfold fF;split<;>rfl) (AZ s) (by unfold rU fF;split<;>(try split)<;>rfl)
theorem UT(h:Sr F ts w b l s):az aq 156 #[rp b,ae (some ⟨b,7,none⟩),O U 2] w fun e w'=>e=ak (ai #[])/\Dn F ts w w' b l (qc ts s):=
 Bb h 7 s.m 2 _ rfl (by unfold fF;split<;>rfl) (A0 s) (by unfold qc fF;split<;>(try split)<;>rfl)
theorem UU(h:Sr F ts w b l s):az aq 156 #[rp b,ae (some ⟨b,5,none⟩),O U 2] w fun e w'=>e=ak (ai #[])/\Dn F ts w w' b l (Df ts s):=
 Bb h 5 s.n 2 _ rfl (by unfold fF;split<;>rfl) (by unfold Df;split;exact AV 2;rfl) (by unfold Df fF;split<;>(try split)<;>rfl)
theorem UW(h:Sr F ts w b l s):az aq 156 #[rp b,ae (some ⟨b,4,none⟩),O U 2] w fun e w'=>e=ak (ai #[])/\Dn F ts w w' b l (Dg ts s):=
 Bb h 4 s.v 2 _ rfl (by unfold fF;split<;>rfl) (by unfold Dg;split;exact AV 2;rfl) (by unfold Dg fF;split<;>(try split)<;>rfl)
theorem HE(h:Sr F ts w b l s):az aq 221 #[rp b] w fun e w'=>∃cs,e=ak (ah cs.toArray)/\rE true w' (Fr w.heap.size) (nK ts s).1 cs/\Dn F ts w w' b l (nK ts s).2:=by
 refine(Zm ⟨b,0,none⟩ (fun v w'=>∃cs,v=(ah cs.toArray)/\rE true w' (Fr w.heap.size) (nK ts s).1 cs/\Dn F ts w w' b l (nK ts s).2) w ?_).mono (by
  rintro e w' ⟨v,rfl,cs,rfl,h⟩;exact⟨cs,rfl,h⟩)
 intro k0 w0 hk iq cE;have hl:=h.lb;have z0:=h.z.al cE hk iq;refine(kz (h.only cE)).mono ?_;rintro _ w1 ⟨rfl,cA⟩;have z1:=z0.q cA;have d1:Dn F ts w w1 b l s:=h.dn.q (cE.cp cA);refine⟨_,rfl,z0.sq cA (by simp),fun hc w2 cR=>?_,fun hc w3 dl=>?_⟩
 ·have hc:s.fc≠0:=by simpa using hc
  unfold nK;rw[if_pos hc];exact⟨_,rfl,XC _ _ _,d1.f cR hk hl⟩
 ·have hc:¬s.fc≠0:=by simpa using hc
  have z3:=z1.q dl;have d3:=d1.q dl;refine⟨fun k=>k=b,fun w4 dA=>⟨rfl,l,Blk.dT (d3.q dA).r.blk 0 rfl,fun w5 eJ=>⟨rfl,_,Blk.dT ((d3.q dA).q eJ).r.blk 1 rfl,fun w6 eh=>?_⟩⟩⟩;have z6:=((z3.q dA).q eJ).q eh;have d6:=((d3.q dA).q eJ).q eh;have hb6:=d6.r.big;have bQ:=h.lt;refine(Ha d6.r.tok (s.i:Int) ⟨by omega,by omega⟩).mono ?_;rintro _ w7 ⟨cs,rfl,hX,hj,fm⟩;have z7:=z6.q fm;have d7:=d6.q fm;obtain⟨sl,lQ,_⟩:=hX.cells;have hsz:w3.heap.size<=w6.heap.size:=((dA.cp eJ).cp eh).size;refine⟨_,_,_,_,sl,_,_,_,_,by rw[lQ],z6.sq fm (by simp),ik.vq fm,bL.only fm,fun w8 fp k1 lr jq XN=>?_⟩;obtain⟨d,hX⟩:=hX.xg;have hx7:rE true w7 (fun k=>w6.heap.size<=k/\k<w7.heap.size) (da ts s.i).1 cs:=⟨d,hX⟩
  have anm:w.heap.size<=k1:=bh z3.o.size lr;have ann:b<k1:=by omega
  have d8:=d7.q fp;have zz6:=z6.o.size;have zz0:=z0.k k0 (by simp);have zw0:=((cA.cp dl).cp ((dA.cp eJ).cp eh)).size;have hx8:∀{bs:List Nat} {w9:av},ay bs w8 w9->(∀x,x∈bs->x=k1∨x=k0∨x=b)->rE true w9 (Fr w.heap.size) (da ts s.i).1 cs:=fun fS hb9=>
   (gQ true).mono ((gQ true).keep hx7 fun k Kb bQ=>(fS.block k (cb bQ fp.size) fun hm=>by
    rcases hb9 k hm with rfl | rfl | rfl
    ·have:=XN.one;omega
    ·omega
    ·omega).trans (fp.block k bQ (by simp))) fun k Kb=>by have:=Kb.1;show w.heap.size<=k;omega
  unfold nK;rw[if_neg hc];refine⟨fun h1 w9 fS=>?_,fun h1 dX eM=>?_⟩
  ·have h1:(da ts s.i).2.2.1≠0:=by simpa using h1
   have d9:Dn F ts w w9 b l s:=⟨d8.o.trans fS fun x hx=>.inr (by simp only[aQ,aW,bP]at hx;omega),d8.r.own fS fun x hx=>(by simp only[aQ,aW,bP]at hx;omega)⟩
   refine⟨b,2,_,_,rfl,d9.r.blk,by simp,by omega,by omega,fun dw dR ua dr dS=>?_⟩;rw[if_pos h1];have d10:Dn F ts w dw b l {s with fc:=(da ts s.i).2.2.1,fa:=(da ts s.i).2.2.2}:=⟨d9.o.trans dR fun x hx=>.inl hx,d9.r.lI dR ua h.lt⟩
   refine⟨cs,by rw[lQ],?_,d10.f dS hk hl⟩;exact hx8 (bs:=[k1,k0,b]) (((fS.weaken (bs':=[k1,k0,b]) fun x hx=>.inl (by simp only[aQ,aW,bP]at hx⊢;omega)).trans dR fun x hx=>.inl (by simp only[aN]at hx;simp[hx])).trans dS fun x hx=>.inl (by simp only[aN]at hx;simp[hx])) (by simp)
  ·have h1:¬(da ts s.i).2.2.1≠0:=by simpa using h1
   have d12:Dn F ts w dX b l s:=⟨d8.o.trans eM fun x hx=>.inr (by simp only[aQ,aW,bP]at hx;omega),d8.r.own eM fun x hx=>(by simp only[aQ,aW,bP]at hx;omega)⟩
   obtain⟨TE,KB⟩:=hj (by simpa using h1);have ej:((da ts s.i).2.1.toNat:Int)=(da ts s.i).2.1:=kG TE;refine⟨b,1,_,_,rfl,d12.r.blk,by simp,by omega,by omega,fun eS ez yt eZ dN=>?_⟩;rw[if_neg h1];have d13:Dn F ts w eS b l {s with i:=(da ts s.i).2.1.toNat}:=⟨d12.o.trans ez fun x hx=>.inl hx,d12.r.lI ez (by dsimp only[SR];rw[ej];exact yt) (by dsimp only;omega)⟩
   refine⟨cs,by rw[lQ],?_,d13.f dN hk hl⟩;exact hx8 (bs:=[k1,k0,b]) (((eM.weaken (bs':=[k1,k0,b]) fun x hx=>.inl (by simp only[aQ,aW,bP]at hx⊢;omega)).trans ez fun x hx=>.inl (by simp only[aN]at hx;simp[hx])).trans dN fun x hx=>.inl (by simp only[aN]at hx;simp[hx])) (by simp)
end
theorem ZT{n:Nat}(h:((n:Int)==0)=true):n=0:=by simpa using h
theorem ZU{n:Nat}(h:((n:Int)==0)=false):n≠0:=fun e=>by rw[e]at h;simp at h
theorem Js{n:Nat}(h:decide ((n:Int)>0)=false):n=0:=by have:=aU h;omega
theorem Jt{n:Nat}(h:decide ((n:Int)>0)=true):n≠0:=by have:=aP h;omega
section
variable {F:aJ} {ts:List Tk} {w w':av} {b:Nat} {l:Sl} {s s':Sx}
theorem UX(h:Sr F ts w b l s):az aq 224 #[rp b] w fun e w'=>∃cs,e=ak (ah cs.toArray)/\pj true w' (Fr w.heap.size) (pA ts s).1 cs/\Dn F ts w w' b l (pA ts s).2:=by
 refine(Zs ⟨b,0,none⟩ (fun v w'=>∃cs,v=(ah cs.toArray)/\pj true w' (Fr w.heap.size) (pA ts s).1 cs/\Dn F ts w w' b l (pA ts s).2) w ?_).mono (by
  rintro e w' ⟨v,rfl,cs,rfl,h⟩;exact⟨cs,rfl,h⟩)
 intro k0 w0 hk iq cE;have t0:=h.zt.al cE hk iq;obtain⟨ad,g1,_⟩:=h.now;refine⟨fun _=>True,fun w1 cA=>⟨trivial,l,Blk.dT (t0.q cA).r.blk 0 rfl,fun w2 cR=>⟨trivial,_,Blk.dT ((t0.q cA).q cR).r.blk 1 rfl,ad,g1,fun w3 dl=>?_⟩⟩⟩;have t3:=((t0.q cA).q cR).q dl;refine⟨trivial,_,(t3.r.tk g1).dT 3 _ rfl,fun w4 dA=>?_⟩;have t4:=t3.q dA;obtain⟨q,w5,e1,od,eJ⟩:=lZ w4 [rc,jH,lk] (n:=3) (parts:=#[(0,ab (T rc)),(1,ab (T jH)),(2,ab (T lk))]) rfl rfl (by decide) (by decide);refine⟨q,w5,e1,t4.sq eJ (by simp),ik.vq eJ,bL.only eJ,fun w6 eh=>?_⟩;have t6:=(t4.q eJ).q eh;refine(xL t6.r (SliceF.only cG (by decide) (tu od) eh (by simp))).mono ?_;rintro _ w7 ⟨rfl,fm⟩;have t7:=t6.q fm;refine⟨_,rfl,t6.sq fm (by simp),ik.vq fm,bL.only fm,fun w8 fp k1 lr jq XN=>?_⟩;have t8:=(t7.q fp).ad (bh t0.z.o.size lr) jq;refine⟨fun hc w9 fS=>?_,fun hc dX eM=>?_⟩
 ·have t9:=t8.f fS (by simp);refine(qk t9.r).mono ?_;rintro _ dw ⟨rfl,OB⟩;refine⟨rfl,t9.sc OB (by simp),fun dr dS=>?_⟩;have hc:=ZT hc;unfold pA;rw[if_pos hc,hc];exact⟨_,rfl,⟨oO 0 0 [] 0 Sl.nil 0,rfl,XC _ _ _⟩,((t9.nx OB).f dS (by simp)).dn⟩
 ·have hc:=ZU hc;have t12:=t8.f eM (by simp);refine(US t12.r).mono ?_;rintro _ eS ⟨rfl,ug⟩;have t13:=t12.nx ug;refine⟨rfl,t12.sc ug (by simp),(kz t13.r).mono ?_⟩;rintro _ eZ ⟨rfl,dN⟩;have t14:=t13.q dN;unfold pA;rw[if_neg hc];refine⟨_,rfl,t13.sq dN (by simp),fun hf fU ix=>?_,fun hf=>?_⟩
  ·have hf:(rU ts s).fc≠0:=by simpa using hf
   rw[if_pos hf];exact⟨_,rfl,⟨oO 0 0 [] 0 Sl.nil 0,rfl,XC _ _ _⟩,(t14.f ix (by simp)).dn⟩
  ·have hf:¬(rU ts s).fc≠0:=by simpa using hf
   rw[if_neg hf];refine⟨_,Blk.dT t14.r.blk 1 rfl,b,1,_,_,rfl,t14.r.blk,by simp,t14.ne (by simp),t14.ne (by simp),fun gy ic OC=>?_⟩;rw[t14.r.wr]at OC;have t16:Zt F ts w gy b l (cZ (rU ts s)) [k1,k0]:=t14.up ic OC (h.en.next t14.r.lt (by rw[AZ];exact(cT hc).2));refine(tH t16.r).mono ?_;rintro _ fR ⟨rfl,KN⟩;have t17:=t16.nx KN;refine⟨_,rfl,t16.sc KN (by simp),fun gI lf=>?_⟩;have t18:=t17.f lf (by simp);generalize (gC ts (cZ (rU ts s))).2=u at*
   generalize (gC ts (cZ (rU ts s))).1=nm at*
   generalize cH ts s [rc,jH,lk]=kk at*
   generalize (tk ts s.i).a=aa at*
   refine⟨fun i4 s1 i5 i6 s2 i7 l2 i8 i9 w'=>∃(x:Ex) (u':Sx),i4=(kk:Int)/\s1=T nm/\i9=aa/\rE true w' (Fr gI.heap.size) x [O U i5,O U i6,ab s2,O U i7,l2.v,O U i8]/\Zt F ts w w' b l u' [k1,k0]/\Jk ts u kk nm aa=(⟨kk,nm,x,aa⟩,dB ts u' [59])/\gI.heap.size<=w'.heap.size,?_,fun qZ=>?_,fun qZ=>?_⟩
   ·rintro i4 s1 i5 i6 s2 i7 l2 i8 i9 iL ⟨x,u',rfl,rfl,rfl,hx,t19,hT,hsz⟩;obtain⟨q,gJ,e1,lJ,hm⟩:=nU t19.r [59];refine⟨q,gJ,e1,t19.sq lJ (by simp),hm.mono ?_⟩;rintro _ jO ⟨rfl,h21⟩;have t20:=t19.q lJ;refine⟨rfl,t20.sc h21 (by simp),fun mR yu=>?_⟩;rw[hT];have zk:=t18.z.k k0 (by simp);have zs:=t18.z.o.size;have zb:=t18.r.lb;refine⟨_,rfl,⟨[O U i5,O U i6,ab s2,O U i7,l2.v,O U i8],rfl,?_⟩,((t20.nx h21).f yu (by simp)).dn⟩;exact(gQ true).low ((gQ true).stay hx ((((Stay.refl _ _).q lJ).d h21 zb).f yu (.inl zk.2))) zs
   ·have qZ:¬kk=2:=fun e=>by rw[e]at qZ;simp at qZ
    obtain⟨q,mw,e1,ob,hm⟩:=nU t18.r [61];refine⟨q,mw,e1,t18.sq ob (by simp),hm.mono ?_⟩;rintro _ mS ⟨rfl,h24⟩;have t23:=t18.q ob;have t24:=t23.nx h24;refine⟨rfl,t23.sc h24 (by simp),(HE t24.r).mono ?_⟩;rintro _ kX ⟨cs,rfl,hx,RL⟩;obtain⟨sl,rfl⟩:=gR hx;have t25:=t24.nx RL;refine⟨_,_,_,_,sl,_,rfl,t24.sc RL (by simp),fun my gv=>?_⟩;have z24:gI.heap.size<=mS.heap.size:=bh ob.size h24.o.size;have zk:=t18.z.k k1 (by simp);refine⟨_,_,rfl,rfl,rfl,(gQ true).low ((gQ true).stay hx ((Stay.refl _ _).f gv (.inl (by omega)))) z24,t25.f gv (by simp),?_,bh z24 (bh RL.o.size gv.size)⟩;unfold Jk;rw[if_neg qZ]
   ·have qZ:(kk:Int)=2:=by simpa using qZ
    have qZ:kk=2:=by omega
    refine⟨C9,u,rfl,rfl,rfl,XC _ _ _,t18,?_,aV _⟩;unfold Jk;rw[if_pos qZ]
abbrev AcO(B:Nat)(w:av)(la:Sl)(acc:List Ac):Prop:=Own (pj true) 9 196 B w (Fr B) la acc
structure Br (F:aJ) (ts:List Tk) (w w':av) (b:Nat) (l:Sl) (k0 k1 B:Nat) (s:Sx) (acc:List Ac) (la:Sl):Prop where
 r:Sr F ts w' b l s
 b0:aF w' k0 180 [rp b]
 b1:aF w' k1 23 [la.v]
 own:AcO B w' la acc
 o:∃gs,ay (b::k1::gs) w w'/\∀x,x∈gs->B<=x
 n0:b<k0
 n1:b<k1
 n01:k0≠k1
 l0:k0<B
 l1:k1<B
 lB:B<=w'.heap.size
section
variable {k0 k1 B:Nat} {acc:List Ac} {la:Sl} {w2:av}
theorem Br.nx(h:Br F ts w w' b l k0 k1 B s acc la)(k:Dn F ts w' w2 b l s'):Br F ts w w2 b l k0 k1 B s' acc la:=by
 have n0:=h.n0;have n1:=h.n1;have l0:=h.l0;obtain⟨gs,h1,h2⟩:=h.o;exact⟨k.r,k.o.blk h.b0 (by simp only[aN];omega),k.o.blk h.b1 (by simp only[aN];omega),h.own.stay (cV true) k.o fun x hx=>.inl (by simp only[aN]at hx;omega),
  ⟨gs,h1.trans k.o fun x hx=>.inl (by simp only[aN]at hx;simp[hx]),h2⟩,n0,n1,h.n01,l0,h.l1,bh h.lB k.o.size⟩
theorem Br.q(h:Br F ts w w' b l k0 k1 B s acc la)(k:ay [] w' w2):Br F ts w w2 b l k0 k1 B s acc la:=h.nx (h.r.dn.q k)
theorem UY(h:Br F ts w w' b l k0 k1 B s acc la)(hm:acc.length<ts.length):az aq 223 #[ae (some ⟨k1,0,none⟩),ae (some ⟨k0,0,none⟩)] w' fun e w2=>e=ak (ai #[])/\∃zU,Br F ts w w2 b l k0 k1 B (pA ts s).2 (acc++[(pA ts s).1]) zU:=by
 refine ret (Zr _ _ _ _ ?_);intro w0 cE;have h0:=h.q cE;have n1:=h.n1;have l1:=h.l1;refine⟨fun k=>k=k1,rfl,la,h0.b1.Tf 0 rfl,_,h0.b0.Tf 0 rfl,(UX h0.r).mono ?_⟩;rintro _ w1 ⟨cs,rfl,hx,h1⟩;have yU:=h0.nx h1;generalize F7:(pA ts s).1=ac at*
 generalize (pA ts s).2=s1 at*
 have KR:=hx;obtain⟨xc,rfl,hxe⟩:=KR;obtain⟨sl,rfl⟩:=gR hxe;have wx:=h.r.sm;have XI:=h0.own.len;obtain⟨y,w2,e2,cR,zU,w3,e3,od,⟨gs,dl,rJ⟩,_⟩:=ja (P:=aq) (t:=23) (ty:=23) (e:=196) (i:=Tryz.t196) (bytes:=104) (size:=9) (v:=ah (acv ac.k ac.n (oO ac.x.k ac.x.n ac.x.s ac.x.op sl ac.x.a) ac.a).toArray) (x:=ac) (G:=Fr w0.heap.size) (by kernel_rfl) (by kernel_rfl) rfl rfl rfl rfl (by decide) (by decide) (by decide) (cV true) yU.own yU.lB rfl hx (fun k hk _=>⟨bh h0.lB hk,h0.own.new hk⟩) (by omega);have OD:ay gs w1 w3:=(cR.weaken (bs':=gs) fun _ h=>(by cases h)).trans dl fun x hx=>.inl hx;have oe:∀g,g∈gs->B<=g:=fun g hg=>(rJ g hg).2.1;refine⟨_,_,_,_,_,_,sl,_,_,rfl,fun k hk bQ=>(by subst hk;exact h1.o.block k bQ (by simp only[aN];omega)),y,w2,e2,bL.only cR,zU,w3,e3,fun k hk bQ=>(by subst hk;exact dl.block k bQ fun hm=>(by have:=oe k hm;omega)),k1,0,_,_,rfl,OD.blk yU.b1 (fun hm=>by have:=oe k1 hm;omega),by simp,fun w4 dA ub=>⟨rfl,zU,?_⟩⟩;have n0:=h.n0;have n01:=h.n01;have l0:=h.l0;have z3:=OD.size;have z4:=dA.size;have hlB:=yU.lB;have hOb:∀{x:Nat},x<B->x≠k1->w4.heap[x]? =w1.heap[x]? :=fun hx hn=>(dA.block _ (by omega) (by simpa using hn)).trans (OD.block _ (by omega) fun hm=>(by have:=oe _ hm;omega));obtain⟨gs0,o1,o2⟩:=yU.o;have hr3:Sr F ts w3 b l s1:=yU.r.own OD fun x hx=>(by have:=oe x hx;omega)
 refine⟨hr3.one dA n1,(hOb l0 n01).trans yU.b0,ub,?_,⟨gs++gs0,(((o1.weaken (bs':=b::k1::(gs++gs0)) fun x hx=>.inl (by simp only[aQ,cr]at hx⊢;rcases hx with hx | hx | hx<;>simp[hx])).trans OD fun x hx=>.inl (by simp[hx]))).trans dA fun x hx=>.inl (by simp only[aN]at hx;simp[hx]),fun x hx=>?_⟩,n0,n1,n01,l0,l1,by omega⟩
 ·refine((od.mono (cV true) fun k hk=>?_).stay (cV true) dA fun x hx=>.inl (by simp only[aN]at hx;omega));rcases hk with hk | hk
  ·exact hk
  ·exact bh hlB hk
 ·rcases cr.1 hx with hx | hx
  ·exact oe x hx
  ·exact o2 x hx
theorem MM(f:Nat)(h:Br F ts w w' b l k0 k1 B s acc la)(hf:mu ts s<f)(hm:acc.length+mu ts s<=ts.length):
  az aq 222 #[rp b,ab (ao #[125]),.func (.func 223) #[] #[ae (some ⟨k1,0,none⟩),ae (some ⟨k0,0,none⟩)]] w' fun e w2=>e=ak (ai #[])/\∃zU,Br F ts w w2 b l k0 k1 B (qe ts f acc s).2 (qe ts f acc s).1 zU:=by
 refine ret (Zu ⟨b,0,none⟩ _ ⟨.func (.func 223) #[] #[ae (some ⟨k1,0,none⟩),ae (some ⟨k0,0,none⟩)],rfl⟩ (fun v w2=>v=(ai #[])/\∃zU,Br F ts w w2 b l k0 k1 B (qe ts f acc s).2 (qe ts f acc s).1 zU) w' ?_);generalize WG:qe ts f acc s=res;refine⟨fun nv w2=>∃s' OE zU,Br F ts w w2 b l k0 k1 B s' OE zU/\qe ts nv OE s'=res/\mu ts s'<nv/\OE.length+mu ts s'<=ts.length,f,⟨s,acc,la,h,WG,hf,hm⟩,?_⟩;rintro nv w0 ⟨s',OE,zU,h0,hR,hf0,Tr⟩;obtain⟨m,rfl⟩:∃m,nv=m+1:=⟨nv-1,by omega⟩
 rw[qe]at hR;refine⟨fun bo w2=>(bo=true/\s'.fc=0/\cH ts s' [[125]]=0/\Br F ts w w2 b l k0 k1 B s' OE zU)∨(bo=false/\Br F ts w w2 b l k0 k1 B res.2 res.1 zU),?_,(kz h0.r).mono ?_⟩
 ·rintro bo w1 (⟨rfl,hfc,hw,h1⟩ | ⟨rfl,h1⟩)
  ·refine⟨fun _=>⟨223,[],[_,_],rfl,gN (by kernel_rfl),?_⟩,fun hh=>(by cases hh)⟩;rw[if_neg (by simp[hfc]),if_neg (by simp[hw])]at hR;have hmu:=UI h0.r.en hfc h0.r.lt;have WH:mu ts s'<=ts.length:=by unfold mu;split<;>omega
   refine(UY h1 (by omega)).mono ?_;rintro _ w3 ⟨rfl,la2,h3⟩;exact⟨rfl,m,by omega,_,_,la2,h3,hR,by omega,by rw[aO,bK];omega⟩
  ·exact⟨fun hh=>(by cases hh),fun _=>⟨rfl,zU,h1⟩⟩
 ·rintro _ w4 ⟨rfl,dA⟩;have h4:=h0.q dA;refine⟨_,rfl,fun hc=>?_,fun hc=>?_⟩
  ·have hc:s'.fc=0:=by simpa using hc
   rw[if_neg (by simp[hc])]at hR;obtain⟨q,w5,e1,eJ,hk⟩:=zE h4.r [[125]] (n:=1) (parts:=#[(0,ab (T [125]))]) rfl rfl (by decide) (by decide);refine⟨q,w5,e1,hk.mono ?_⟩;rintro _ w6 ⟨rfl,h6⟩;have h6:=(h4.q eJ).nx h6;refine⟨_,rfl,?_⟩;by_cases hw:cH ts s' [[125]]=0
   ·rw[if_pos hw]at h6;exact .inl ⟨by rw[hw];rfl,hc,hw,h6⟩
   ·rw[if_neg hw]at h6;rw[if_pos hw]at hR;subst hR;exact .inr ⟨by simpa using hw,h6⟩
  ·have hc:s'.fc≠0:=by simpa using hc
   rw[if_pos hc]at hR;subst hR;exact .inr ⟨rfl,h4⟩
end
theorem xM(h:Sr F ts w b l s):az aq 200 #[rp b] w fun e w'=>∃la:Sl,e=ak la.v/\iE true (pj true) 9 196 w' (Fr w.heap.size) la (hY ts s).1/\Dn F ts w w' b l (hY ts s).2:=by
 refine(Zp ⟨b,0,none⟩ (fun v w'=>∃la:Sl,v=la.v/\iE true (pj true) 9 196 w' (Fr w.heap.size) la (hY ts s).1/\Dn F ts w w' b l (hY ts s).2) w ?_).mono (by
  rintro e w' ⟨v,rfl,cs,rfl,h⟩;exact⟨cs,rfl,h⟩)
 intro k0 k1 w0 gH eW lr jq cE;have t0:=((h.zt.q cE).ad gH eW).ad lr jq;obtain⟨q,w1,e1,cA,hm⟩:=nU t0.r [123];refine⟨q,w1,e1,t0.sq cA (by simp),hm.mono ?_⟩;rintro _ w2 ⟨rfl,h2⟩;have t1:=t0.q cA;have t2:=t1.nx h2;refine⟨rfl,t1.sc h2 (by simp),fun wy vw=>?_⟩;have hb:=h.lb;have hB:Br F ts w2 w2 b l k0 k1 w2.heap.size (dB ts s [123]) [] Sl.nil:=
  ⟨t2.r,wy,vw,Own.nil _ _ _ _ _ _,⟨[],Only.refl _ _,fun _ h=>(by cases h)⟩,by omega,by omega,fun e=>(by subst e;have:=wy.symm.trans vw;simp at this),wy.lt,vw.lt,aV _⟩
 refine(MM (ts.length+1) hB (by unfold mu;split<;>omega) (by rw[cu,bJ];unfold mu;split<;>omega)).mono ?_;rintro _ w3 ⟨rfl,la,h3⟩;have z2:=t2.z.o.size;obtain⟨gs,o1,o2⟩:=h3.o;refine⟨rfl,_,h3.b0,_,h3.b1,la,rfl,?_,?_,h3.r⟩
 ·exact(h3.own.sl (cV true) fun k hk=>hk).low (cV true) z2
 ·exact t2.z.o.trans o1 fun x hx=>by
   simp only[aQ]at hx;rcases hx with rfl | rfl | hx
   ·exact .inl (by simp)
   ·exact .inr lr
   ·exact .inr (bh z2 (o2 x hx))
end
section
variable {F:aJ} {ts:List Tk} {w w':av} {b:Nat} {l:Sl} {s s':Sx}
structure MvX (A:Nat) (w:av) (m:Mv) (k:Int) (ev:aK) (wt:Int) (gd:Bool) (gc:aI) (qC:Sl) (a:Int):Prop where
 e1:k=m.k
 e2:ev=T m.ev
 e3:wt=m.wt
 e4:gd=m.gd
 e5:a=m.a
 g:rE true w (Fr A) m.g gc
 x:iE true (pj true) 9 196 w (Fr A) qC m.acts
theorem MvX.stay{A:Nat}{m:Mv}{k:Int}{ev:aK}{wt:Int}{gd:Bool}{gc:aI}{qC:Sl}{a:Int}(h:MvX A w m k ev wt gd gc qC a)(hs:Stay A w w'):MvX A w' m k ev wt gd gc qC a:=
 ⟨h.e1,h.e2,h.e3,h.e4,h.e5,(gQ true).stay h.g hs,h.x.stay (cV true) (by decide) hs⟩
theorem pq(ts:List Tk)(s:Sx):mu ts s<=ts.length:=by unfold mu;split<;>omega
theorem xN(h:Sr F ts w b l s){ss:List (aH)}(hw:cH ts s ss≠0):s.i+1<ts.length:=h.en.next h.lt (cT hw).2
theorem QM(h:Sr F ts w b l s)(k:Int)(hk:(tk ts s.i).k≠5):az aq 198 #[rp b,O U k] w fun e w'=>∃cs,e=ak (ah cs.toArray)/\Ff true w' (Fr w.heap.size) (mc ts k s).1 cs/\Dn F ts w w' b l (mc ts k s).2:=by
 refine(Zk ⟨b,0,none⟩ k (fun v w'=>∃cs,v=(ah cs.toArray)/\Ff true w' (Fr w.heap.size) (mc ts k s).1 cs/\Dn F ts w w' b l (mc ts k s).2) w ?_).mono (by
  rintro e w' ⟨v,rfl,cs,rfl,h⟩;exact⟨cs,rfl,h⟩)
 intro k0 w0 gH eW cE;have t0:=h.zt.al cE gH eW;obtain⟨ad,g1,g2⟩:=t0.r.now;refine⟨fun _=>True,trivial,l,Blk.dT t0.r.blk 0 rfl,trivial,_,Blk.dT t0.r.blk 1 rfl,ad,g1,trivial,_,g2.dT 3 _ rfl,fun k1 w1 lr jq cA=>?_⟩;have t1:=t0.al cA lr jq;refine(UT t1.r).mono ?_;rintro _ w2 ⟨rfl,h2⟩;have t2:=t1.nx h2;refine⟨rfl,t1.sc h2 (by simp),(kz t2.r).mono ?_⟩;rintro _ w3 ⟨rfl,dl⟩;have t3:=t2.q dl;unfold mc;refine⟨_,rfl,t2.sq dl (by simp),fun hf w4 dA=>?_,fun hf=>?_⟩
 ·have hf:(qc ts s).fc≠0:=by simpa using hf
  rw[if_pos hf];exact⟨_,rfl,⟨oO 0 0 [] 0 Sl.nil 0,Sl.nil,Sl.nil,rfl,XC _ _ _,iE.nil _ _ _ _ _ _,iE.nil _ _ _ _ _ _⟩,(t3.f dA (by simp)).dn⟩
 have hf:¬(qc ts s).fc≠0:=by simpa using hf
 rw[if_neg hf];refine⟨_,Blk.dT t3.r.blk 1 rfl,b,1,_,_,rfl,t3.r.blk,by simp,t3.ne (by simp),t3.ne (by simp),fun w5 eJ uX=>?_⟩;rw[t3.r.wr]at uX;have t5:Zt F ts w w5 b l (cZ (qc ts s)) [k1,k0]:=t3.up eJ uX (h.en.next t3.r.lt (by rw[A0];exact hk));have hA:=t5.z.o.size;have hA0:=(t5.z.k k0 (by simp)).2;have hA1:=(t5.z.k k1 (by simp)).2;have X9:=t5.r.lb;generalize hAA:w5.heap.size=A at*
 generalize (tk ts s.i).a=aa at*
 generalize cZ (qc ts s)=u0 at*
 generalize hR:(if k=1 then nL ts {SK k aa with ev:=(gC ts u0).1} (gC ts u0).2 else if k=3 then nL ts {SK k aa with wt:=(fx ts u0 3).1.n} (fx ts u0 3).2 else nL ts (SK k aa) u0)=R;have x0:∀{w':av} {ev:aH} {wt:Int},MvX A w' {SK k aa with ev:=ev,wt:=wt} k (T ev) wt false (oO 0 0 [] 0 Sl.nil 0) Sl.nil aa:=⟨rfl,rfl,rfl,rfl,rfl,XC _ _ _,iE.nil _ _ _ _ _ _⟩
 refine⟨fun i3 s0 i4 b1 i5 i6 s1 i7 l1 i8 l2 l3 i9 w'=>∃(m:Mv) (u:Sx),MvX A w' m i3 s0 i4 b1 [O U i5,O U i6,ab s1,O U i7,l1.v,O U i8] l2 i9/\m.gd=false/\m.tg=[]/\l3=Sl.nil/\Zt F ts w w' b l u [k1,k0]/\nL ts m u=R/\A<=w'.heap.size,?_,fun hc=>?_,fun hc=>⟨fun mB=>?_,fun mB=>?_⟩⟩;rotate_left
 ·have hc:k=1:=by simpa using hc
  refine(tH t5.r).mono ?_;rintro _ Oc ⟨rfl,h32⟩;have t32:=t5.nx h32;refine⟨_,rfl,t5.sc h32 (by simp),fun Od OG=>?_⟩;rw[if_pos hc]at hR;exact⟨_,_,x0,rfl,rfl,rfl,t32.f OG (by simp),hR,by rw[<-hAA];exact bh h32.o.size OG.size⟩
 ·have hc:¬k=1:=by simpa using hc
  have mB:k=3:=by simpa using mB
  refine(tG t5.r (k:=3) (by decide)).mono ?_;rintro _ Ps ⟨rfl,h34⟩;have t34:=t5.nx h34;refine⟨_,_,_,_,rfl,t5.sc h34 (by simp),fun JV OH=>?_⟩;rw[if_neg hc,if_pos mB]at hR;exact⟨_,_,x0,rfl,rfl,rfl,t34.f OH (by simp),hR,by rw[<-hAA];exact bh h34.o.size OH.size⟩
 ·have hc:¬k=1:=by simpa using hc
  have mB:¬k=3:=by simpa using mB
  rw[if_neg hc,if_neg mB]at hR;exact⟨_,_,x0,rfl,rfl,rfl,t5,hR,Gk hAA.symm⟩
 rintro i3 s0 i4 b1 i5 i6 s1 i7 l1 i8 l2 l3 i9 w6 ⟨m,u,hx,PE,sE,rfl,t6,hR,z6⟩;unfold nL at hR;obtain⟨q,mS,e1,ue,hm⟩:=zE t6.r [[91]] (n:=1) (parts:=#[(0,ab (T [91]))]) rfl rfl (by decide) (by decide);have t24:=t6.q ue;refine⟨fun i3 s0 i4 b1 i5 i6 s1 i7 l1 i8 l2 l3 i9 w'=>∃(m:Mv) (u:Sx),MvX A w' m i3 s0 i4 b1 [O U i5,O U i6,ab s1,O U i7,l1.v,O U i8] l2 i9/\m.tg=[]/\l3=Sl.nil/\Zt F ts w w' b l u [k1,k0]/\zv ts m u=R/\A<=w'.heap.size,?_,q,mS,e1,t6.sq ue (by simp),hm.mono ?_⟩;rotate_left
 ·rintro _ kX ⟨rfl,RL⟩;have t25:=t24.nx RL;have s25:Stay A w6 kX:=((Stay.refl A w6).q ue).d RL X9;refine⟨_,rfl,t24.sc RL (by simp),fun hc my gv=>?_,fun hc Ev yv=>?_⟩
  ·have BL:=Jt hc;rw[if_neg BL]at hR t25;have t26:=t25.f gv (by simp);have s26:=s25.f gv (.inl hA1);have z26:=s26.sz;refine(HE t26.r).mono ?_;rintro _ pN ⟨cs,rfl,hg,h27⟩;obtain⟨sl,rfl⟩:=gR hg;have t27:=t26.nx h27;refine⟨_,_,_,_,sl,_,rfl,t26.sc h27 (by simp),fun sM rj=>?_⟩;have t28:=t27.f rj (by simp);obtain⟨q2,uV,e2,mq,IC⟩:=nU t28.r [93];have t29:=t28.q mq;refine⟨q2,uV,e2,t28.sq mq (by simp),IC.mono ?_⟩;rintro _ BP ⟨rfl,h30⟩;have t30:=t29.nx h30;have s30:=(((s26.d h27 X9).f rj (.inl hA1)).q mq).d h30 X9;refine⟨rfl,t29.sc h30 (by simp),{m with gd:=true,g:=(nK ts (cZ u)).1},_,⟨hx.e1,hx.e2,hx.e3,hc,hx.e5,?_,hx.x.stay (cV true) (by decide) s30⟩,sE,rfl,t30,hR,bh z6 s30.sz⟩;exact(gQ true).low ((gQ true).stay hg ((((Stay.refl _ _).f rj (.inl (by omega))).q mq).d h30 (by omega))) (by omega)
  ·have BL:=Js hc;rw[if_pos BL]at hR t25;have s31:=s25.f yv (.inl hA1);have Ke:=hx.stay s31;exact⟨m,u,⟨Ke.e1,Ke.e2,Ke.e3,by rw[hc,PE],Ke.e5,Ke.g,Ke.x⟩,sE,rfl,t25.f yv (by simp),hR,bh z6 s31.sz⟩
 clear hx PE sE t6 hR z6 hm t24;rintro i3 s0 i4 b1 i5 i6 s1 i7 l1 i8 l2 l3 i9 w7 ⟨m,u,hx,sE,rfl,t7,hR,z7⟩;unfold zv at hR;obtain⟨q,gJ,e1,lJ,hm⟩:=HC t7.r [[123]] (n:=1) (parts:=#[(0,ab (T [123]))]) rfl rfl (by decide) (by decide);have t20:=t7.q lJ;refine⟨fun i3 s0 i4 b1 i5 i6 s1 i7 l1 i8 l2 l3 i9 w'=>∃(m:Mv) (u:Sx),MvX A w' m i3 s0 i4 b1 [O U i5,O U i6,ab s1,O U i7,l1.v,O U i8] l2 i9/\l3=Sl.nil/\Zt F ts w w' b l u [k1,k0]/\Di ts m u=R/\A<=w'.heap.size,?_,q,gJ,e1,t7.sq lJ (by simp),hm.mono ?_⟩;rotate_left
 ·rintro _ jO ⟨rfl,jr⟩;have t21:=t20.q jr;have Ts:Stay A w7 jO:=((Stay.refl A w7).q lJ).q jr;have z21:=Ts.sz;refine⟨_,rfl,t20.sq jr (by simp),fun hc=>(xM t21.r).mono ?_,fun hc=>?_⟩
  ·rw[if_neg (Jt hc)]at hR;rintro _ mR ⟨la,rfl,hla,h22⟩;have t22:=t21.nx h22;refine⟨la,rfl,t21.sc h22 (by simp),fun mw ob=>?_⟩;have s23:=(Ts.d h22 X9).f ob (.inl hA1);refine⟨{m with acts:=(hY ts u).1},_,⟨hx.e1,hx.e2,hx.e3,hx.e4,hx.e5,(gQ true).stay hx.g s23,?_⟩,rfl,t22.f ob (by simp),hR,bh z7 s23.sz⟩;exact(hla.stay (cV true) (by decide) ((Stay.refl _ _).f ob (.inl (by omega)))).low (cV true) (by omega)
  ·rw[if_pos (Js hc)]at hR;exact⟨m,u,hx.stay Ts,rfl,t21,hR,bh z7 z21⟩
 clear hx sE t7 hR z7 hm t20;rintro i17 s4 i18 b3 i19 i20 s5 i21 l7 i22 l8 l9 i23 w8 ⟨m,u,hx,rfl,t8,hR,z8⟩;unfold Di at hR;have hb8:b<w8.heap.size:=by omega
 refine⟨fun nv sg i24 s7 i25 b4 i26 i27 s8 i28 l10 i29 pD qx i30 w'=>∃(x:aH) (acc:List (aH)) (u':Sx),sg=T x/\MvX A w8 m i24 s7 i25 b4 [O U i26,O U i27,ab s8,O U i28,l10.v,O U i29] pD i30/\Stay A w8 w'/\Own im 1 9 w8.heap.size w' (Fr w8.heap.size) qx acc/\Zt F ts w w' b l u' [k1,k0]/\vh ts nv x acc u'=vh ts (ts.length+1) [45,62] [] u/\mu ts u'<nv/\acc.length+mu ts u'<=ts.length,ts.length+1,⟨[45,62],[],u,rfl,hx,Stay.refl _ _,Own.nil _ _ _ _ _ _,t8,rfl,sQ (pq _ _),by rw[cu,bJ];exact pq _ _⟩,?_⟩;clear hx;rintro nv sg i24 s7 i25 b4 i26 i27 s8 i28 l10 i29 pD qx i30 w9 ⟨x,acc,u',rfl,hx,hS,od,t9,hT,VG,Pm⟩;obtain⟨m',rfl⟩:∃m',nv=m'+1:=⟨nv-1,by omega⟩
 rw[vh]at hT;obtain⟨q,dw,e1,dR,IC⟩:=zE t9.r [x] (n:=1) (parts:=#[(0,ab (T x))]) rfl rfl (by decide) (by decide);have t10:=t9.q dR;refine⟨q,dw,e1,t9.sq dR (by simp),IC.mono ?_⟩;rintro _ dr ⟨rfl,Kf⟩;have t11:=t10.nx Kf;refine⟨_,rfl,t10.sc Kf (by simp),fun hc dX eM=>?_,fun hc=>?_⟩
 ·have hc:=Jt hc;rw[if_neg hc]at hT t11;have t12:=t11.q eM;refine⟨fun k=>k=k1,rfl,(tH t12.r).mono ?_⟩;rintro _ eS ⟨rfl,ug⟩;have t13:=t12.nx ug;have fS:ay [b] w9 eS:=(((dR.weaken (bs':=[b]) fun _ h=>(by cases h)).trans Kf.o fun x hx=>.inl hx).cp eM).trans ug.o fun x hx=>.inl hx;have zS:=hS.sz;have z9:=fS.size;have wx:=h.sm;have KQ:=pq ts u';have hmu:=mM h.en (cT hc).1 t9.r.lt (cT hc).2 (mL h.en (s:=cZ u')).toOn0;obtain⟨y,eZ,e2,dN,zU,fU,e3,abk,⟨gs,ix,rJ⟩,_⟩:=ja (P:=aq) (t:=31) (ty:=31) (e:=9) (i:=Tryz.t9) (bytes:=16) (size:=1) (v:=ab (T (gC ts (cZ u')).1)) (x:=(gC ts (cZ u')).1) (G:=fun _=>False) (by kernel_rfl) (by kernel_rfl) rfl rfl rfl rfl (by decide) (by decide) (by decide) cG (od.stay cG fS fun x hx=>.inl (by simp only[aN]at hx;omega)) (bh zS z9) rfl rfl (fun k hk _=>hk.elim) (by omega);have oe:∀g,g∈gs->w8.heap.size<=g:=fun g hg=>(rJ g hg).2.1;have z8w:=t8.z.o.size;have t14:=t13.q dN;have t15:=t14.row ix fun x hx=>bh z8w (oe x hx);have nk:=t8.ne (k0:=k1) (by simp);refine⟨_,rfl,t12.sc ug (by simp),fun k hk bQ=>(by subst hk;exact ug.o.block k bQ (by simpa using nk)),y,eZ,e2,t13.sq dN (by simp),bL.only dN,zU,fU,e3,t14.sr ix (by simp) (fun x hx y hy=>?_),fun k hk bQ=>(by subst hk;exact ix.block k bQ fun hm=>(by have:=oe k hm;omega)),fun gy ic=>⟨m',by omega,[44],_,_,rfl,hx,?_,?_,t15.f ic (by simp),hT,by omega,?_⟩⟩
  ·have:=oe x hx;simp only[aQ,aW,bP]at hy;omega
  ·exact(((hS.go fS fun x hx=>.inl (by simp only[aN]at hx;omega)).q dN).go ix fun x hx=>.inr (oe x hx)).f ic (.inl hA1)
  ·refine((abk.mono cG fun k hk=>?_).stay cG ic fun x hx=>.inl (by simp only[aN]at hx;omega));rcases hk with hk | hk
   ·exact hk
   ·exact bh (bh zS z9) hk
  ·rw[aO,bK];omega
 ·have hc:=Js hc;rw[if_pos hc]at hT t11;obtain⟨q2,fR,e2,jp,Ru⟩:=nU t11.r [59];have t17:=t11.q jp;refine⟨q2,fR,e2,t11.sq jp (by simp),Ru.mono ?_⟩;rintro _ gI ⟨rfl,h18⟩;have t18:=t17.nx h18;refine⟨rfl,t17.sc h18 (by simp),fun iL jN=>?_⟩;rw[<-hT]at hR;rw[<-hR];have s9:∀{B:Nat},b<B->k0<B->Stay B w9 iL:=fun hb hk=>((((Stay.refl _ _).q dR).d Kf hb).q jp).d h18 hb |>.f jN (.inl hk);have VW:Stay A w8 iL:=(((((hS.q dR).d Kf X9).q jp).d h18 X9).f jN (.inl hA0))
  refine⟨mvv m.k m.ev m.wt m.gd [O U i26,O U i27,ab s8,O U i28,l10.v,O U i29] pD qx m.a,by rw[hx.e1,hx.e2,hx.e3,hx.e4,hx.e5];rfl,⟨_,_,_,rfl,(gQ true).low ((gQ true).stay hx.g VW) hA,(hx.x.stay (cV true) (by decide) VW).low (cV true) hA,?_⟩,(t18.f jN (by simp)).dn⟩;exact((od.sl cG fun k hk=>hk).stay cG (by decide) (s9 hb8 (by omega))).low cG (by omega)
end
theorem HF{gK xs:aI}{j:Nat}{v:aw}(h:xs[j]? =some v):(gK++xs)[gK.length+j]? =some v:=by
 rw[bX (by omega),dH];exact h
theorem ke(gK xs vs:aI)(j:Nat):cd (gK++xs) (gK.length+j) vs=gK++cd xs j vs:=by
 unfold cd;rw[PI,dJ,PJ];simp only[bF]
structure NbO (B:Nat) (w:av) (n:Nb) (en lv mv:Sl):Prop where
 en:iE true (pj true) 9 196 w (fun k=>B<=k/\mv.a≠some ⟨k,0,none⟩) en n.en
 lv:iE true (pj true) 9 196 w (fun k=>B<=k/\mv.a≠some ⟨k,0,none⟩) lv n.lv
 mv:Own (Ff true) 13 147 B w (Fr B) mv n.mv
section
variable {B:Nat} {w w':av} {n:Nb} {en lv mv:Sl}
theorem NbO.go(h:NbO B w n en lv mv){bs:List Nat}(k:ay bs w w')(hb:∀x,x∈bs->x<B):NbO B w' n en lv mv:=
 ⟨h.en.keep (cV true) (by decide) fun i hi bQ=>k.block i bQ fun hm=>(by have:=hb i hm;omega),h.lv.keep (cV true) (by decide) fun i hi bQ=>k.block i bQ fun hm=>(by have:=hb i hm;omega),h.mv.stay (kc true) k fun x hx=>.inl (hb x hx)⟩
theorem NbO.ww(h:NbO B w n en lv mv){gs:List Nat}{pO:Sl}{m:Mv}(od:Own (Ff true) 13 147 B w' (fun k=>Fr B k∨w.heap.size<=k) pO (n.mv++[m]))(k:ay gs w w')(rJ:∀g,g∈gs->mv.a=some ⟨g,0,none⟩)(ha:pO.a=mv.a∨∃g,pO.a=some ⟨g,0,none⟩/\w.heap.size<=g)(hB:B<=w.heap.size):NbO B w' {n with mv:=n.mv++[m]} en lv pO:=by
 have go:∀{la:Sl} {xs:List Ac},iE true (pj true) 9 196 w (fun k=>B<=k/\mv.a≠some ⟨k,0,none⟩) la xs->iE true (pj true) 9 196 w' (fun k=>B<=k/\pO.a≠some ⟨k,0,none⟩) la xs:=fun hx=>
  ((hx.inHeap (cV true) (by decide)).keep (cV true) (by decide) fun i hi bQ=>k.block i bQ fun hm=>hi.1.2 (rJ i hm)).mono (cV true) fun i hi=>⟨hi.1.1,by
   rcases ha with ha | ⟨g,ha,hg⟩
   ·rw[ha];exact hi.1.2
   ·rw[ha];intro e;injection e with e;injection e with e;have:=hi.2;omega⟩
 exact⟨go h.en,go h.lv,od.mono (kc true) fun i hi=>hi.elim id fun hi=>bh hB hi⟩
theorem NbO.aah(h:NbO B w n en lv mv){A:Nat}{la:Sl}{xs:List Ac}(hx:iE true (pj true) 9 196 w (Fr A) la xs)(hA:B<=A)(hm:∀k,A<=k->mv.a≠some ⟨k,0,none⟩):NbO B w {n with en:=xs} la lv mv:=
 ⟨hx.mono (cV true) fun k hk=>⟨bh hA hk,hm k hk⟩,h.lv,h.mv⟩
theorem NbO.aai(h:NbO B w n en lv mv){A:Nat}{la:Sl}{xs:List Ac}(hx:iE true (pj true) 9 196 w (Fr A) la xs)(hA:B<=A)(hm:∀k,A<=k->mv.a≠some ⟨k,0,none⟩):NbO B w {n with lv:=xs} en la mv:=
 ⟨h.en,hx.mono (cV true) fun k hk=>⟨bh hA hk,hm k hk⟩,h.mv⟩
end
abbrev Ju(h:EA):aI:=[aj false,aj h.i,aj h.e,aj h.l]
structure Cl (F:aJ) (ts:List Tk) (w w':av) (b:Nat) (l:Sl) (g t:Nat) (gK:aI) (kh B:Nat) (s:Sx) (n:Nb) (h:EA) (en lv mv:Sl):Prop where
 r:Sr F ts w' b l s
 nb:aF w' g t (gK++me n.k n.nm n.ini n.dft en lv mv Sl.nil n.a)
 hb:aF w' kh 234 (Ju h)
 no:NbO B w' n en lv mv
 o:∃gs,ay (b::g::kh::gs) w w'/\∀x,x∈gs->B<=x
 ng:g≠b/\¬F g
 nh:b<kh
 gh:g≠kh
 gB:g<B
 hB:kh<B
 lB:B<=w'.heap.size
section
variable {F:aJ} {ts:List Tk} {w w' w2:av} {b:Nat} {l:Sl} {g t:Nat} {gK:aI} {kh B:Nat} {s s':Sx} {n n':Nb} {h h':EA} {en lv mv uY uZ pO:Sl}
theorem Cl.nx(c:Cl F ts w w' b l g t gK kh B s n h en lv mv)(k:Dn F ts w' w2 b l s'):Cl F ts w w2 b l g t gK kh B s' n h en lv mv:=by
 have ng:=c.ng;have nh:=c.nh;have gB:=c.gB;have hBl:=c.hB;obtain⟨gs,h1,h2⟩:=c.o;exact⟨k.r,k.o.blk c.nb (by simp only[aN];omega),k.o.blk c.hb (by simp only[aN];omega),c.no.go k.o fun x hx=>(by simp only[aN]at hx;omega),
  ⟨gs,h1.trans k.o fun x hx=>.inl (by simp only[aN]at hx;simp[hx]),h2⟩,ng,nh,c.gh,gB,c.hB,bh c.lB k.o.size⟩
theorem Cl.q(c:Cl F ts w w' b l g t gK kh B s n h en lv mv)(k:ay [] w' w2):Cl F ts w w2 b l g t gK kh B s n h en lv mv:=c.nx (c.r.dn.q k)
theorem Cl.st(c:Cl F ts w w' b l g t gK kh B s n h en lv mv)(k:ay [g] w' w2)(hB:aF w2 g t (gK++me n'.k n'.nm n'.ini n'.dft uY uZ pO Sl.nil n'.a))(no:NbO B w' n' uY uZ pO):Cl F ts w w2 b l g t gK kh B s n' h uY uZ pO:=by
 obtain⟨gs,h1,h2⟩:=c.o;have gB:=c.gB;exact⟨c.r.VC k c.ng,hB,k.blk c.hb (by simpa using fun e=>c.gh e.symm),no.go k fun x hx=>(by simp only[aN]at hx;omega),⟨gs,h1.trans k fun x hx=>.inl (by simp only[aN]at hx;simp[hx]),h2⟩,c.ng,c.nh,c.gh,gB,c.hB,bh c.lB k.size⟩
theorem Cl.hd(c:Cl F ts w w' b l g t gK kh B s n h en lv mv)(k:ay [kh] w' w2)(hB:aF w2 kh 234 (Ju h')):Cl F ts w w2 b l g t gK kh B s n h' en lv mv:=by
 obtain⟨gs,h1,h2⟩:=c.o;have hB':=c.hB;exact⟨c.r.one k c.nh,k.blk c.nb (by simpa using c.gh),hB,c.no.go k fun x hx=>(by simp only[aN]at hx;omega),⟨gs,h1.trans k fun x hx=>.inl (by simp only[aN]at hx;simp[hx]),h2⟩,c.ng,c.nh,c.gh,c.gB,hB',bh c.lB k.size⟩
def ZV(h:EA)(j:Nat):Bool:=if j=1 then h.i else if j=2 then h.e else h.l
def MN(h:EA)(j:Nat):EA:=if j=1 then{h with i:=true}else if j=2 then{h with e:=true}else{h with l:=true}
theorem j3{j:Nat}(h0:j≠0)(h3:j<=3):j=1∨j=2∨j=3:=by omega
theorem Jv(c:Cl F ts w w' b l g t gK kh B s n h en lv mv)(hm:n.mv.length<ts.length):az aq 160 #[rp b,ae (some ⟨g,gK.length,none⟩),ae (some ⟨kh,0,none⟩)] w' fun e w2=>e=ak (aj (dW ts n h s).1)/\
  ∃uY uZ pO,Cl F ts w w2 b l g t gK kh B (dW ts n h s).2.2.2 (dW ts n h s).2.1 (dW ts n h s).2.2.1 uY uZ pO:=by
 refine ret (Zj _ _ _ _ _ ?_);have wx:=c.r.sm;obtain⟨q,w0,e1,cE,Tr⟩:=HC c.r [Fc,jf,jj] (n:=3) (parts:=#[(0,ab (T Fc)),(1,ab (T jf)),(2,ab (T jj))]) rfl rfl (by decide) (by decide);refine⟨q,w0,e1,Tr.mono ?_⟩;rintro _ w1 ⟨rfl,cA⟩;have c1:=(c.q cE).q cA;refine⟨_,rfl,fun hc w2 cR=>?_,fun hc=>?_⟩
 ·have hc:=Jt hc;have c2:=c1.q cR;have lq:dW ts n h s=(true,{n with mv:=n.mv++[(mc ts (cH ts s [Fc,jf,jj]:Nat) s).1]},h,(mc ts (cH ts s [Fc,jf,jj]:Nat) s).2):=by
   unfold dW;rw[if_pos hc]
  rw[lq];refine⟨fun k=>k=g,_,rfl,rfl,mv,c2.nb.Tf (gK.length+6) (HF rfl),(QM c2.r _ (cT hc).2).mono ?_⟩;rintro _ w3 ⟨cs,rfl,hx,h3⟩;have c3:=c2.nx h3;generalize (mc ts (cH ts s [Fc,jf,jj]:Nat) s).1=m at*
  generalize (mc ts (cH ts s [Fc,jf,jj]:Nat) s).2=u at*
  have KR:=hx;obtain⟨gc,qC,tg,rfl,hg,_,_⟩:=KR;obtain⟨sl,rfl⟩:=gR hg;have ng:=c.ng;have gB:=c.gB;obtain⟨y,w4,e2,dA,pO,w5,e3,od,⟨gs,eJ,rJ⟩,ha⟩:=ja (P:=aq) (t:=24) (ty:=24) (e:=147) (i:=Tryz.t147) (bytes:=168) (size:=13) (v:=ah (mvv m.k m.ev m.wt m.gd (oO m.g.k m.g.n m.g.s m.g.op sl m.g.a) qC tg m.a).toArray) (x:=m) (G:=Fr w2.heap.size) (by kernel_rfl) (by kernel_rfl) rfl rfl rfl rfl (by decide) (by decide) (by decide) (kc true) c3.no.mv c3.lB rfl hx (fun k hk _=>⟨bh c2.lB hk,c2.no.mv.new hk⟩) (by omega);have vV:ay gs w3 w5:=(dA.weaken (bs':=gs) fun _ h=>(by cases h)).trans eJ fun x hx=>.inl hx;have oe:∀x,x∈gs->B<=x:=fun x hx=>(rJ x hx).2.1;have hn:g∉gs:=fun hm=>by have:=oe g hm;omega
  have uX:=vV.blk c3.nb hn;refine⟨_,_,_,_,_,_,_,_,sl,_,qC,tg,_,rfl,fun k hk bQ=>(by subst hk;exact h3.o.block k bQ (by simp only[aN];omega)),y,w4,e2,bL.only dA,pO,w5,e3,fun k hk bQ=>(by subst hk;exact eJ.block k bQ hn),_,rfl,g,_,_,_,rfl,uX,by simp,fun w6 eh PB=>⟨rfl,en,lv,pO,?_⟩⟩;rw[ke]at PB;have no5:=c3.no.ww od vV (fun x hx=>(rJ x hx).1) ha c3.lB;obtain⟨gs0,o1,o2⟩:=c3.o;have nh:=c.nh;have hBB:=c.hB;have lB:=c3.lB;have hgh:=c.gh;have z5:=vV.size;have z6:=eh.size;exact⟨(c3.r.own vV fun x hx=>(by have:=oe x hx;omega)).VC eh ng,PB,(eh.block kh (by have:=c3.hb.lt;omega) (by simp only[aN];omega)).trans (vV.blk c3.hb fun hm=>(by have:=oe kh hm;omega)),
   no5.go eh fun x hx=>(by simp only[aN]at hx;omega),⟨gs++gs0,((o1.weaken (bs':=b::g::kh::(gs++gs0)) fun x hx=>.inl (by simp only[aQ,cr]at hx⊢;rcases hx with hx | hx | hx | hx<;>simp[hx])).trans vV fun x hx=>.inl (by simp[hx])).trans eh fun x hx=>.inl (by simp only[aN]at hx;simp[hx]),fun x hx=>(cr.1 hx).elim (oe x) (o2 x)⟩,ng,nh,hgh,gB,hBB,by omega⟩
 ·have hc:=Js hc;obtain⟨q,w7,e1,fm,Tr⟩:=HC c1.r [fl,gY,gZ] (n:=3) (parts:=#[(0,ab (T fl)),(1,ab (T gY)),(2,ab (T gZ))]) rfl rfl (by decide) (by decide);refine⟨q,w7,e1,Tr.mono ?_⟩;rintro _ w8 ⟨rfl,fp⟩;have c8:=(c1.q fm).q fp;have pC:cH ts s [fl,gY,gZ]<=3:=Dk _;refine⟨_,rfl,fun hj=>?_,fun hj=>?_⟩
  ·have hj:=ZT hj;have lq:dW ts n h s=(false,n,h,s):=by unfold dW;rw[if_neg (by simpa using hc),hj];rfl
   rw[lq];exact⟨rfl,_,_,_,c8⟩
  have hj:=ZU hj;have hnx:=xN c.r hj;have lq:dW ts n h s=(if ZV h (cH ts s [fl,gY,gZ])then(false,n,h,ji ts s)else if cH ts s [fl,gY,gZ]=1 then(true,{n with ini:=(gC ts (cZ s)).1},MN h 1,dB ts (gC ts (cZ s)).2 [59])else if cH ts s [fl,gY,gZ]=2 then(true,{n with en:=(hY ts (cZ s)).1},MN h 2,(hY ts (cZ s)).2)else(true,{n with lv:=(hY ts (cZ s)).1},MN h 3,(hY ts (cZ s)).2)):=by
   unfold dW;rw[if_neg (by simpa using hc)];rcases j3 hj pC with e | e | e<;>rw[e]<;>rfl
  rw[lq];generalize cH ts s [fl,gY,gZ]=j at*
  have vC:(Ju h)[j]? =some (aj (ZV h j)):=by rcases j3 hj pC with e | e | e<;>rw[e]<;>rfl
  have hp:CF ⟨kh,0,none⟩ (j:Int) 4 1 ⟨kh,j,none⟩:=⟨by omega,by omega,by rw[eU,aZ];simp⟩
  refine⟨_,rfl,⟨kh,j,none⟩,hp,_,c8.hb.Tf j vC,fun hh=>?_,fun hh=>?_⟩
  ·rw[if_pos hh];refine(qk c8.r).mono ?_;rintro _ w9 ⟨rfl,h9⟩;exact⟨rfl,rfl,_,_,_,c8.nx h9⟩
  ·rw[if_neg (by rw[hh];decide)];refine⟨_,rfl,⟨kh,j,none⟩,hp,kh,j,_,_,rfl,c8.hb,by show j+1<=4;omega,fun dw dR ua=>?_⟩;have c10:Cl F ts w dw b l g t gK kh B s n (MN h j) en lv mv:=c8.hd dR (by
    have e:cd (Ju h) j [aj true]=Ju (MN h j):=by rcases j3 hj pC with e | e | e<;>rw[e]<;>rfl
    rwa[e]at ua)
   refine⟨_,Blk.dT c10.r.blk 1 rfl,b,1,_,_,rfl,c10.r.blk,by simp,fun dr dS Ed=>?_⟩;rw[c.r.wr]at Ed;have PF:=c10.nx (s':=cZ s) ⟨dS,c10.r.lI dS Ed hnx⟩;refine⟨fun w'=>∃uY uZ pO,Cl F ts w w' b l g t gK kh B _ _ _ uY uZ pO,fun dX F8=>⟨by split<;>(try split)<;>rfl,F8⟩,fun KB=>?_,fun KB=>⟨fun XJ=>?_,fun XJ=>?_⟩⟩
   ·have e1:j=1:=by have:(j:Int)=1:=(by simpa using KB);omega
    subst e1;rw[if_pos rfl];refine(tH PF.r).mono ?_;rintro _ eS ⟨rfl,ug⟩;have c13:=PF.nx ug;refine⟨_,rfl,_,rfl,g,_,_,_,rfl,c13.nb,by simp,fun eZ dN Ec=>?_⟩;rw[ke]at Ec;have c14:=c13.st (n':={n with ini:=(gC ts (cZ s)).1}) dN Ec ⟨c13.no.en,c13.no.lv,c13.no.mv⟩;obtain⟨q,fU,e1,ix,Tr⟩:=nU c14.r [59];refine⟨q,fU,e1,Tr.mono ?_⟩;rintro _ gy ⟨rfl,h16⟩;exact⟨rfl,_,_,_,(c14.q ix).nx h16⟩
   ·have e1:j=2:=by have:(j:Int)=2:=(by simpa using XJ);omega
    subst e1;rw[if_neg (by decide),if_pos rfl];refine(xM PF.r).mono ?_;rintro _ fR ⟨la,rfl,hla,KN⟩;have c17:=PF.nx KN;refine⟨la,rfl,_,rfl,g,_,_,_,rfl,c17.nb,by simp,fun gI lf OI=>?_⟩;rw[ke]at OI;exact⟨_,_,_,c17.st (n':={n with en:=(hY ts (cZ s)).1}) lf OI (c17.no.aah hla PF.lB fun k hk=>PF.no.mv.new hk)⟩
   ·have e0:j≠1:=fun e=>by rw[e]at KB;simp at KB
    have e1:j=3:=by have:¬(j:Int)=2:=(by simpa using XJ);omega
    subst e1;rw[if_neg (by decide),if_neg (by decide)];refine(xM PF.r).mono ?_;rintro _ iL ⟨la,rfl,hla,h19⟩;have c19:=PF.nx h19;refine⟨la,rfl,_,rfl,g,_,_,_,rfl,c19.nb,by simp,fun gJ lJ abn=>?_⟩;rw[ke]at abn;exact⟨_,_,_,c19.st (n':={n with lv:=(hY ts (cZ s)).1}) lJ abn (c19.no.aai hla PF.lB fun k hk=>PF.no.mv.new hk)⟩
end
section
variable {F:aJ} {ts:List Tk} {w w' w2:av} {b:Nat} {l:Sl} {s s':Sx}
theorem Dy(h:Sr F ts w b l s)(k:Int):az aq 115 #[rp b,O U k] w fun e w'=>e=ak (ah (me (dY ts k s).1.k (dY ts k s).1.nm [] [] Sl.nil Sl.nil Sl.nil Sl.nil (dY ts k s).1.a).toArray)/\Dn F ts w w' b l (dY ts k s).2:=by
 refine ret (Zd _ _ _ _ ?_);intro k0 k1 w0 gH eW lr jq cE;have t0:=((h.zt.q cE).ad gH eW).ad lr jq;obtain⟨ad,g1,g2⟩:=t0.r.now;refine⟨fun w'=>Zt F ts w w' b l (ph ts s) [k1,k0],fun w1 t1=>(tG t1.r (k:=1) (by decide)).mono ?_,l,Blk.dT t0.r.blk 0 rfl,_,Blk.dT t0.r.blk 1 rfl,ad,g1,_,g2.dT 0 _ rfl,fun hc w5 eJ=>?_,fun hc w8 fp=>?_⟩
 ·rintro _ w2 ⟨rfl,h2⟩;have t2:=t1.nx h2;refine⟨_,_,_,_,rfl,t1.sc h2 (by simp),fun k2 w3 qZ uc dl n1 n2 n3=>⟨fun k=>k=k2,rfl,fun e=>n3 e,fun e=>n3 e,fun w4 dA=>⟨rfl,?_⟩⟩⟩;have t3:=t2.q dl;have z3:=t3.z.go dA fun x hx=>.inr (by simp only[aQ,aW,bP]at hx⊢;omega);exact⟨z3.o,t3.r.own dA fun x hx=>t3.lt (by simp only[aQ,aW,bP]at hx⊢;omega)⟩
 ·have hc:(tk ts s.i).k=1:=by simpa using hc
  have t5:=t0.q eJ;unfold ph;rw[if_pos hc];refine(UU t5.r).mono ?_;rintro _ w6 ⟨rfl,h6⟩;have t6:=t5.nx h6;refine⟨rfl,t5.sc h6 (by simp),_,Blk.dT t6.r.blk 6 rfl,fun hd=>?_,fun hd=>?_⟩
  ·rw[if_pos (by simpa using hd)];refine(wj t6.r 21).mono ?_;rintro _ w7 ⟨rfl,h7⟩;exact⟨rfl,t6.sc h7 (by simp),t6.nx h7⟩
  ·rw[if_neg (by simpa using hd)];exact t6
 ·have hc:¬(tk ts s.i).k=1:=by simpa using hc
  unfold ph;rw[if_neg hc];exact t0.q fp
def SU(F:aJ)(ts:List Tk)(b:Nat)(l:Sl)(f:Nat)(d:Int):Prop:=∀(k:Int) (u:Sx) (w:av),Sr F ts w b l u->u.d=d->az aq 161 #[rp b,O U k] w fun e w'=>∃cs,e=ak (ah cs.toArray)/\mr true f w' (Fr w.heap.size) (jI ts f k u).1 cs/\Dn F ts w w' b l (jI ts f k u).2
theorem MO{f:Nat}(hf:0<f)(w:av)(G:aJ):mr true f w G Jj (me 0 [] [] [] Sl.nil Sl.nil Sl.nil Sl.nil 0):=by
 obtain⟨m,rfl⟩:∃m,f=m+1:=⟨f-1,by omega⟩
 exact⟨_,_,_,_,rfl,⟨iE.nil _ _ _ _ _ _,iE.nil _ _ _ _ _ _,iE.nil _ _ _ _ _ _⟩,iE.nil _ _ _ _ _ _⟩
abbrev SW(f B:Nat)(w:av)(s:Sl)(xs:List Nd):Prop:=Own (mr true f) 9 27 B w (Fr B) s xs
theorem zF{f B g t:Nat}{gK:aI}{n1:Nb}{en lv mv l2 l8:Sl}{acc:List Nd}{x:Nd}{k:Int}{nm ini dft:aH}{a b1 b2 b3:Sl}{at_:Int}{k0:Nat}{Q:av->Prop}{H:aJ}
  (hx:mr true f w H x (me k nm ini dft a b1 b2 b3 at_)) (hH:∀i,H i->i<w.heap.size->Fr B i/\l8.a≠some ⟨i,0,none⟩) (hH':∀i,H i->B<=i) (od:SW f B w l8 (acc++[Jj])) (hn:l2.n=acc.length)
  (vS:aF w g t (gK++me n1.k n1.nm n1.ini n1.dft en lv mv l2 n1.a)) (hg:g<B) (gH:k0<B) (hgk:k0≠g)
  (hQ:∀w',aF w' g t (gK++me n1.k n1.nm n1.ini n1.dft en lv mv l8 n1.a)->SW f B w' l8 (acc++[x])->(∃gk,B<=gk/\ay [g,gk] w w')->Q w'):
  ∃p1:Addr,dy l8 (l2.n:Int) 9 p1/\∃p2:Addr,(some (⟨g,gK.length,none⟩:Addr))=(some p2)/\
   (∃sO zR:Nat,∃z2:aI,∃IG:Nat,p1=⟨sO,zR,none⟩/\aF w sO IG z2/\(zR+9)<=z2.length/\k0≠sO/\
    ∀fU:av,ay [sO] w fU->aF fU sO IG (cd z2 zR [O U k,ab (T nm),ab (T ini),ab (T dft),a.v,b1.v,b2.v,b3.v,O U at_])->∃yD FV:Nat,∃z3:aI,∃VZ:Nat,(p2.add 7)=⟨yD,FV,none⟩/\
    aF fU yD VZ z3/\(FV+1)<=z3.length/\k0≠yD/\∀gy:av,ay [yD] fU gy->aF gy yD VZ (cd z3 FV [l8.v])->Q gy)/\
   ∃ri vB:Nat,∃z4:aI,∃JP:Nat,(p2.add 7)=⟨ri,vB,none⟩/\aF w ri JP z4/\(vB+1)<=z4.length/\k0≠ri/\
    ∀fR:av,ay [ri] w fR->aF fR ri JP (cd z4 vB [l8.v])->∃uU FW:Nat,∃z5:aI,∃Oa:Nat,p1=⟨uU,FW,none⟩/\
    aF fR uU Oa z5/\(FW+9)<=z5.length/\k0≠uU/\∀gI:av,ay [uU] fR gI->aF gI uU Oa (cd z5 FW [O U k,ab (T nm),ab (T ini),ab (T dft),a.v,b1.v,b2.v,b3.v,O U at_])->Q gI:=by
 have bQ:l2.n<(acc++[Jj]).length:=by rw[aO,bK];omega
 have D8:(acc++[Jj]).set l2.n x=acc++[x]:=by rw[hn,ni _ _ (aV _),mD];rfl
 obtain⟨gk,cells,a1,a2,a3,a4,a5⟩:=Own.store (cw true f) od bQ (vs:=me k nm ini dft a b1 b2 b3 at_) rfl hx hH (by decide);have RP:=(od.blk a1).1;dsimp only at RP;refine⟨_,a2,_,rfl,⟨gk,l2.n*9,cells,_,rfl,a3,a4,by omega,fun fU ix WI=>⟨g,gK.length+7,_,t,rfl,ix.blk vS (by simp only[aN];omega),by simp,hgk,fun gy ic OC=>?_⟩⟩,g,gK.length+7,_,t,rfl,vS,by simp,hgk,fun fR jp abo=>?_⟩
 ·rw[ke]at OC;have o15:=a5 fU ix WI;rw[D8]at o15;exact hQ gy OC (o15.stay (cw true f) ic fun x hx=>.inl (by simp only[aN]at hx;omega)) ⟨gk,RP,(ix.weaken (bs':=[g,gk]) fun x hx=>.inl (by simp only[aN]at hx;simp[hx])).trans ic fun x hx=>.inl (by simp only[aN]at hx;simp[hx])⟩
 ·rw[ke]at abo;have z17:=jp.size;have abp:SW f B fR l8 (acc++[Jj]):=od.stay (cw true f) jp fun x hx=>.inl (by simp only[aN]at hx;omega);have ahJ:mr true f fR (fun i=>H i/\i<w.heap.size) x (me k nm ini dft a b1 b2 b3 at_):=(cw true f).keep ((cw true f).inHeap hx) fun i hi bQ=>jp.block i bQ (by have:=hH' i hi.1;simp only[aN];omega);obtain⟨gk',WJ,c1,c2,c3,c4,c5⟩:=Own.store (cw true f) abp bQ (vs:=me k nm ini dft a b1 b2 b3 at_) rfl ahJ (fun i hi _=>hH i hi.1 hi.2) (by decide);have e:gk'=gk:=by
   rw[a1]at c1;injection c1 with c1;injection c1 with c1;exact c1.symm
  subst e;refine⟨gk',l2.n*9,WJ,_,rfl,c3,c4,by omega,fun gI lf OI=>?_⟩;have Ya:=c5 gI lf OI;rw[D8]at Ya;exact hQ gI (lf.blk abo (by simp only[aN];omega)) Ya ⟨gk',RP,(jp.weaken (bs':=[g,gk']) fun x hx=>.inl (by simp only[aN]at hx;simp[hx])).trans lf fun x hx=>.inl (by simp only[aN]at hx;simp[hx])⟩
structure Kd (F:aJ) (ts:List Tk) (w w':av) (b:Nat) (l:Sl) (g t:Nat) (gK:aI) (f B B2:Nat) (n:Nb) (en lv mv:Sl) (s:Sx) (acc:List Nd) (kids:Sl):Prop where
 r:Sr F ts w' b l s
 nb:aF w' g t (gK++me n.k n.nm n.ini n.dft en lv mv kids n.a)
 no:A2 true w' (fun k=>B<=k/\k<B2) n en lv mv
 kd:SW f B2 w' kids acc
 o:ay [b,g] w w'
 lB:B2<=w'.heap.size
section
variable {g t:Nat} {gK:aI} {f B B2:Nat} {n:Nb} {en lv mv kids:Sl} {acc:List Nd}
theorem Kd.nx(h:Kd F ts w w' b l g t gK f B B2 n en lv mv s acc kids)(PA:g≠b)(hb:b<B)(hB:B<=B2)(k:Dn F ts w' w2 b l s'):Kd F ts w w2 b l g t gK f B B2 n en lv mv s' acc kids:=
 ⟨k.r,k.o.blk h.nb (by simp only[aN];omega),h.no.keep fun i hi bQ=>k.o.block i bQ (by simp only[aN];omega),h.kd.stay (cw true f) k.o fun x hx=>.inl (by simp only[aN]at hx;omega),
  h.o.trans k.o fun x hx=>.inl (by simp only[aN]at hx;simp[hx]),bh h.lB k.o.size⟩
end
end
section
variable {F:aJ} {ts:List Tk} {w w' w2:av} {b:Nat} {l:Sl} {s s':Sx}
structure Cl0 (F:aJ) (ts:List Tk) (w w':av) (b:Nat) (l:Sl) (g t:Nat) (gK:aI) (kh B:Nat) (s:Sx) (n:Nb) (en lv mv:Sl):Prop where
 r:Sr F ts w' b l s
 nb:aF w' g t (gK++me n.k n.nm n.ini n.dft en lv mv Sl.nil n.a)
 no:NbO B w' n en lv mv
 o:∃gs,ay (b::g::kh::gs) w w'/\∀x,x∈gs->B<=x
 ng:g≠b/\¬F g
 nh:b<kh
 gh:g≠kh
 gB:g<B
 hB:kh<B
 lB:B<=w'.heap.size
section
variable {g t:Nat} {gK:aI} {kh B:Nat} {n:Nb} {h:EA} {en lv mv:Sl}
theorem Cl.c0(c:Cl F ts w w' b l g t gK kh B s n h en lv mv):Cl0 F ts w w' b l g t gK kh B s n en lv mv:=⟨c.r,c.nb,c.no,c.o,c.ng,c.nh,c.gh,c.gB,c.hB,c.lB⟩
theorem Cl0.cl(c:Cl0 F ts w w' b l g t gK kh B s n en lv mv)(hb:aF w' kh 234 (Ju h)):Cl F ts w w' b l g t gK kh B s n h en lv mv:=⟨c.r,c.nb,hb,c.no,c.o,c.ng,c.nh,c.gh,c.gB,c.hB,c.lB⟩
theorem Cl0.nx(c:Cl0 F ts w w' b l g t gK kh B s n en lv mv)(k:Dn F ts w' w2 b l s'):Cl0 F ts w w2 b l g t gK kh B s' n en lv mv:=by
 have ng:=c.ng;have gB:=c.gB;have nh:=c.nh;have hBl:=c.hB;obtain⟨gs,h1,h2⟩:=c.o;exact⟨k.r,k.o.blk c.nb (by simp only[aN];omega),c.no.go k.o fun x hx=>(by simp only[aN]at hx;omega),
  ⟨gs,h1.trans k.o fun x hx=>.inl (by simp only[aN]at hx;simp[hx]),h2⟩,ng,c.nh,c.gh,gB,c.hB,bh c.lB k.o.size⟩
theorem Cl0.q(c:Cl0 F ts w w' b l g t gK kh B s n en lv mv)(k:ay [] w' w2):Cl0 F ts w w2 b l g t gK kh B s n en lv mv:=c.nx (c.r.dn.q k)
theorem Cl0.sc(c:Cl0 F ts w w' b l g t gK kh B s n en lv mv)(k:Dn F ts w' w2 b l s'):bS [kh] w' w2:=k.o.same fun x hx=>by
 have:=c.nh;have:=c.hB;have:=c.lB;simp only[aN]at hx⊢;omega
theorem Cl0.sq(c:Cl0 F ts w w' b l g t gK kh B s n en lv mv)(k:ay [] w' w2):bS [kh] w' w2:=c.sc (c.r.dn.q k)
end
theorem Fu(n:Nb)(h:EA)(s:Sx):(dW ts n h s).2.1.mv.length<=n.mv.length+1:=by
 unfold dW;split
 ·dsimp only;rw[aO,bK];omega
 ·split
  ·exact fZ _
  ·split<;>exact fZ _
  ·split<;>exact fZ _
  ·split<;>exact fZ _
theorem HG{f:Nat}(h:Sr F ts w b l s){g t:Nat}{gK:aI}{n:Nb}(B9:n.en=[])(Ca:n.lv=[])(ot:n.mv=[])(hB:aF w g t (gK++me n.k n.nm n.ini n.dft Sl.nil Sl.nil Sl.nil Sl.nil n.a))(hg:g≠b/\¬F g)(hd:rn s.d)(hN:s.fc=0->0<f/\SU F ts b l f (vK s.d)):
  az aq 118 #[rp b,ae (some ⟨g,gK.length,none⟩)] w fun e w'=>e=ak (ai #[])/\∃cs,aF w' g t (gK++cs)/\mr true (f+1) w' (Fr w.heap.size) (pf ts (jI ts f) n s).1 cs/\ay [b,g] w w'/\Sr F ts w' b l (pf ts (jI ts f) n s).2:=by
 refine ret (Zh _ _ _ _ ?_);intro k0 w0 gH eW cE;have t0:=h.zt.al cE gH eW;have hgw:=hB.lt;have hbw:=h.lb;refine⟨_,Blk.dT t0.r.blk 6 rfl,b,6,_,_,rfl,t0.r.blk,by simp,t0.ne (by simp),fun w1 cA vw=>?_⟩;have t1:Zt F ts w w1 b l {s with d:=vK s.d} [k0]:=t0.up cA vw h.lt;have nb1:aF w1 g t (gK++me n.k n.nm n.ini n.dft Sl.nil Sl.nil Sl.nil Sl.nil n.a):=cA.blk (cE.blk hB (by simp)) (by simp only[aN];omega);have zw1:=t1.z.o.size;have zk:=(t1.z.k k0 (by simp)).2;generalize hBB:w1.heap.size=B at*
 have RP:g<B:=by omega
 have c1:Cl0 F ts w w1 b l g t gK k0 B {s with d:=vK s.d} n Sl.nil Sl.nil Sl.nil:=⟨t1.r,nb1,⟨by rw[B9];exact iE.nil _ _ _ _ _ _,by rw[Ca];exact iE.nil _ _ _ _ _ _,by rw[ot];exact Own.nil _ _ _ _ _ _⟩,
  ⟨[],t1.z.o.weaken fun x hx=>.inl (by simp only[aN]at hx;simp[hx]),fun x hx=>(by cases hx)⟩,hg,by omega,by omega,RP,zk,Gk hBB.symm⟩
 have hbB:b<B:=by omega
 unfold pf;dsimp only;generalize hC:iW ts (ts.length+1) n ⟨false,false,false⟩ {s with d:=vK s.d}=C;have abq:On ts {s with d:=vK s.d} C.2:=by rw[<-hC];exact rW h.en _ _ _ _
 refine⟨fun nv b0 b1 b2 b3 w'=>∃(n':Nb) (hd:EA) (s':Sx) (en lv mv:Sl),b0=false/\b1=hd.i/\b2=hd.e/\b3=hd.l/\Cl0 F ts w w' b l g t gK k0 B s' n' en lv mv/\iW ts nv n' hd s'=C/\mu ts s'<nv/\n'.mv.length+mu ts s'<=ts.length,ts.length+1,
  ⟨n,⟨false,false,false⟩,_,_,_,_,rfl,rfl,rfl,rfl,c1,hC,sQ (pq _ _),by rw[ot,cu,bJ];exact pq _ _⟩,?_⟩
 rintro nv _ _ _ _ w2 ⟨n',hd',s',en,lv,mv,rfl,rfl,rfl,rfl,c2,hR,VG,Pm⟩;obtain⟨m,rfl⟩:∃m,nv=m+1:=⟨nv-1,by omega⟩
 rw[iW]at hR;refine⟨fun b4 b5 b6 b7 b8 w'=>(b4=true/\∃(n':Nb) (hd:EA) (s':Sx) (en lv mv:Sl),b5=false/\b6=hd.i/\b7=hd.e/\b8=hd.l/\Cl0 F ts w w' b l g t gK k0 B s' n' en lv mv/\iW ts m n' hd s'=C/\mu ts s'<m/\n'.mv.length+mu ts s'<=ts.length)∨
  (b4=false/\∃(en lv mv:Sl),Cl0 F ts w w' b l g t gK k0 B C.2 C.1 en lv mv),?_,(kz c2.r).mono ?_⟩
 rotate_left
 ·rintro _ uV ⟨rfl,mq⟩;have c29:=c2.q mq;refine⟨_,rfl,c2.sq mq,fun hc hBk=>?_,fun hc=>?_⟩
  ·have hc:s'.fc=0:=by simpa using hc
   rw[if_neg (by simp[hc])]at hR;have KQ:=pq ts s';have bQ:=c2.r.lt;have anC:0<mu ts s':=by unfold mu;rw[if_pos hc];omega
   have eH:=Fu (ts:=ts) n' hd' s';refine(Jv (c29.cl (h:=hd') hBk) (by omega)).mono ?_;rintro _ BP ⟨rfl,uY,uZ,pO,c30⟩;refine⟨_,rfl,_,_,_,_,c30.hb,?_⟩;cases lq:(dW ts n' hd' s').1 with
   | true=>
    rw[if_pos lq]at hR;have hmu:=Jn h.en n' hd' hc bQ lq;exact .inl ⟨rfl,_,_,_,_,_,_,rfl,rfl,rfl,rfl,c30.c0,hR,by omega,by omega⟩
   | false=>
    rw[if_neg (by rw[lq];decide)]at hR;refine .inr ⟨rfl,uY,uZ,pO,?_⟩;rw[<-hR];exact c30.c0
  ·have hc:s'.fc≠0:=by simpa using hc
   rw[if_pos hc]at hR;refine .inr ⟨rfl,en,lv,mv,?_⟩;rw[<-hR];exact c29
 clear hR VG Pm c2;rintro b4 b5 b6 b7 b8 w3 (⟨rfl,hh⟩ | ⟨rfl,en,lv,mv,c3⟩)
 ·exact⟨fun _=>⟨m,Kn _,hh⟩,fun hh=>(by cases hh)⟩
 refine⟨fun hh=>(by cases hh),fun _=>?_⟩;generalize C.1=n1 at*
 generalize C.2=s1 at*
 have hsB:B<=w3.heap.size:=c3.lB;have no3:A2 true w3 (fun k=>B<=k/\k<w3.heap.size) n1 en lv mv:=
  ⟨(c3.no.en.inHeap (cV true) (by decide)).mono (cV true) fun k hk=>⟨hk.1.1,hk.2⟩,(c3.no.lv.inHeap (cV true) (by decide)).mono (cV true) fun k hk=>⟨hk.1.1,hk.2⟩,(c3.no.mv.sl (kc true) fun k hk=>hk).inHeap (kc true) (by decide)⟩
 obtain⟨gs3,o3,o3'⟩:=c3.o;have o3:ay [b,g] w w3:=o3.weaken fun x hx=>by
  simp only[aQ]at hx;rcases hx with rfl | rfl | rfl | hx
  ·exact .inl (by simp)
  ·exact .inl (by simp)
  ·exact .inr gH
  ·exact .inr (bh zw1 (o3' x hx))
 have k3:Kd F ts w w3 b l g t gK f B w3.heap.size n1 en lv mv s1 [] Sl.nil:=⟨c3.r,c3.nb,no3,Own.nil _ _ _ _ _ _,o3,aV _⟩
 generalize qY:w3.heap.size=B2 at*
 clear c3 no3 o3 o3' hC;generalize hK:tD ts (jI ts f) (ts.length+1) [] s1=K;have sk:∀{u u':av} {x y:Sx},B2<=u.heap.size->Dn F ts u u' b l y->bS [k0] u u':=fun hz k=>k.o.same fun x hx=>by
  simp only[aN]at hx⊢;omega
 have OJ:∀{u u':av} {x y:Sx} {acc:List Nd} {kids:Sl},Kd F ts w u b l g t gK f B B2 n1 en lv mv x acc kids->Dn F ts u u' b l y->Kd F ts w u' b l g t gK f B B2 n1 en lv mv y acc kids:=fun a k=>a.nx hg.1 hbB hsB k;have go:∀{u:av} {x:Sx} {acc:List Nd} {kids:Sl},Kd F ts w u b l g t gK f B B2 n1 en lv mv x acc kids->∃(q:Sl) (u2:av),(au 31 4 #[.mk 0 (ab (ao #[115,116,97,116,101])),.mk 1 (ab (ao #[112,97,114,97,108,108,101,108])),.mk 2 (ab (ao #[104,105,115,116,111,114,121])),.mk 3 (ab (ao #[100,101,101,112]))]).run aq u=.ok q.v u2/\bS [k0] u u2/\az aq 159 #[rp b,q.v] u2 fun e u3=>e=ak (O U (cH ts x oQ:Nat))/\bS [k0] u2 u3/\Kd F ts w u3 b l g t gK f B B2 n1 en lv mv x acc kids:=fun{u x acc kids} a=>by
  obtain⟨q,u2,e1,hO,hm⟩:=HC a.r oQ (n:=4) (parts:=#[(0,ab (T AU)),(1,ab (T qR)),(2,ab (T tC)),(3,ab (T Hh))]) rfl rfl (by decide) (by decide);have a2:=OJ a (a.r.dn.q hO);refine⟨q,u2,e1,sk (x:=x) a.lB (a.r.dn.q hO),hm.mono ?_⟩;rintro _ u3 ⟨rfl,dl⟩;exact⟨rfl,sk (x:=x) a2.lB (a2.r.dn.q dl),OJ a2 (a2.r.dn.q dl)⟩
 obtain⟨q,w4,e1,hs4,X8⟩:=go k3;refine⟨q,w4,e1,hs4,X8.mono ?_⟩;rintro _ w5 ⟨rfl,IK,k5⟩;refine⟨_,rfl,IK,fun nv i2 _ _ _ _ w'=>∃(s':Sx) (acc:List Nd) (kids:Sl),i2=((cH ts s' oQ:Nat):Int)/\Kd F ts w w' b l g t gK f B B2 n1 en lv mv s' acc kids/\tD ts (jI ts f) nv acc s'=K/\mu ts s'<nv/\acc.length+mu ts s'<=ts.length/\s'.d=vK s.d/\(s'.fc=0->s.fc=0),ts.length+1,
  ⟨s1,[],Sl.nil,rfl,k5,hK,sQ (pq _ _),by rw[cu,bJ];exact pq _ _,abq.d,fun e=>(abq.le e).1⟩,?_⟩
 clear IK k5 X8 hs4 e1 k3 hK;rintro nv _ b9 Tt VX VY w6 ⟨s',acc,kids,rfl,k6,hR,VG,Pm,hd6,hz6⟩;obtain⟨m',rfl⟩:∃m',nv=m'+1:=⟨nv-1,by omega⟩
 rw[tD]at hR;have hkb:k0≠b:=t0.ne (by simp);have hkg:k0≠g:=by omega
 refine⟨fun hc=>?_,fun hc=>?_⟩
 ·have hc:=Jt hc;rw[if_neg hc]at hR;obtain⟨hfc,zT⟩:=cT hc;obtain⟨hf0,hNC⟩:=hN (hz6 hfc);have bQ:=k6.r.lt;refine⟨_,Blk.dT k6.r.blk 1 rfl,b,1,_,_,rfl,k6.r.blk,by simp,hkb,fun w7 fm hB7=>?_⟩;rw[k6.r.wr]at hB7;have k7:=OJ k6 (y:=cZ s') ⟨fm,k6.r.lI fm hB7 (xN k6.r hc)⟩;have wx:=h.sm;have hmul:=pq ts s';have WK:=Ho h.en f (cH ts s' oQ:Nat) (cZ s') (by show rn s'.d;rw[hd6];exact K3 _);have hmu:=mM h.en hfc bQ zT WK.toOn0;generalize cH ts s' oQ=kk at*
  generalize hNx:jI ts f (kk:Int) (cZ s')=N at*
  have ahM:N.2.d=vK s.d:=WK.d.trans hd6;have ahN:N.2.fc=0->s.fc=0:=fun e=>hz6 (WK.le e).1;refine⟨fun _ _ _ _ w'=>∃jv,Kd F ts w w' b l g t gK f B B2 n1 en lv mv N.2 (acc++[N.1]) jv,fun XX b14 b15 b16 w8 h8=>?_,fun dr dS=>?_⟩
  ·obtain⟨jv,k8⟩:=h8;obtain⟨q,w9,e1,hs9,Yb⟩:=go k8;refine⟨q,w9,e1,hs9,Yb.mono ?_⟩;rintro _ dw ⟨rfl,ahO,iu⟩;exact⟨_,rfl,ahO,m',Kn _,_,_,_,rfl,iu,hR,by omega,by rw[aO,bK];omega,ahM,ahN⟩
  ·have lR:=OJ k7 (k7.r.dn.q dS);have BS:=lR.lB;have sB:∀{u:av},Sr F ts u b l (cZ s')->az aq 161 #[rp b,O U (kk:Int)] u fun e w'=>∃cs,e=ak (ah cs.toArray)/\mr true f w' (Fr u.heap.size) N.1 cs/\Dn F ts u w' b l N.2:=fun hu=>by
    have:=hNC (kk:Int) (cZ s') _ hu hd6;rw[hNx]at this;exact this
   have zV:∀{u u':av} {bs:List Nat},ay bs u u'->(∀x,x∈bs->x≠g)->bL (fun k=>k=g) u u':=fun hO hb k hk bQ=>by subst hk;exact hO.block k bQ fun hm=>hb k hm rfl
   have zc:Value.cells (ah (me 0 [] [] [] Sl.nil Sl.nil Sl.nil Sl.nil 0).toArray)=(me 0 [] [] [] Sl.nil Sl.nil Sl.nil Sl.nil 0).toArray:=rfl;have hz:∀(u:av),∃(y:Sl) (u2:av),(au 25 1 #[.mk 0 (ah (me 0 [] [] [] Sl.nil Sl.nil Sl.nil Sl.nil 0).toArray)]).run aq u=.ok y.v u2/\Own (mr true f) 9 27 u.heap.size u2 (fun _=>False) y [Jj]/\ay [] u u2:=fun u=>by
    obtain⟨y,u2,a1,a2,a3,_⟩:=gV (P:=aq) (t:=25) (e:=27) (i:=Tryz.t27) (w:=u) (F:=fun _=>False) (r:=mr true f) (size:=9) (vs:=[ah (me 0 [] [] [] Sl.nil Sl.nil Sl.nil Sl.nil 0).toArray]) (xs:=[Jj]) (len:=1) (parts:=#[(0,ah (me 0 [] [] [] Sl.nil Sl.nil Sl.nil Sl.nil 0).toArray)]) (by kernel_rfl) (by kernel_rfl) rfl rfl (by decide) rfl rfl (by decide) (by decide) (cw true f) ⟨⟨rfl,MO hf0 _ _⟩,trivial⟩;exact⟨y,u2,a1,a2,a3⟩
   have abt:∀{u:av} {y:Sl} {A:Nat},B2<=A->SW f B2 u kids acc->(∀k,A<=k->kids.a≠some ⟨k,0,none⟩)->aA (mr true f) 9 u (Fr A) y [Jj]->A<=u.heap.size->∃(s8:Sl) (u2:av),(Builtin.append_ #[25,25] 25 #[kids.v,y.v]).run aq u=.ok s8.v u2/\SW f B2 u2 s8 (acc++[Jj])/\(∃gs,ay gs u u2/\∀x,x∈gs->B2<=x/\x<A)/\(∀k,A<=k->k<u.heap.size->s8.a≠some ⟨k,0,none⟩):=fun{u y A} hA ho hk hy hAu=>by
    obtain⟨s8,u2,a1,a2,gs,a3,a4,a5⟩:=oA (P:=aq) (t:=25) (ty:=25) (e:=27) (i:=Tryz.t27) (bytes:=160) (size:=9) (y:=y) (ys:=[Jj]) (by kernel_rfl) (by kernel_rfl) rfl rfl rfl rfl (cw true f) ho (hy.mono (cw true f) fun k iq=>⟨bh hA iq,hk k iq⟩) (bh hA hAu) (by rw[bK];omega) (by decide);refine⟨s8,u2,a1,a2,⟨gs,a3,fun x hx=>⟨(a4 x hx).2.1,?_⟩⟩,fun k h1 h2=>?_⟩
    ·exact Nat.lt_of_not_le fun pC=>hk x pC (a4 x hx).1
    ·rcases a5 with a5 | a5
     ·rw[a5];exact hk k h1
     ·rw[a5];intro e;injection e with e;injection e with e;omega
   have RO:∀{u:av} {s8:Sl},Sr F ts u b l N.2->aF u g t (gK++me n1.k n1.nm n1.ini n1.dft en lv mv kids n1.a)->A2 true u (fun k=>B<=k/\k<B2) n1 en lv mv->ay [b,g] w u->B2<=u.heap.size->SW f B2 u s8 (acc++[Jj])->∀w',aF w' g t (gK++me n1.k n1.nm n1.ini n1.dft en lv mv s8 n1.a)->SW f B2 w' s8 (acc++[N.1])->(∃gk,B2<=gk/\ay [g,gk] u w')->∃jv,Kd F ts w w' b l g t gK f B B2 n1 en lv mv N.2 (acc++[N.1]) jv:=fun hr vS hno ho hz _ w' h1 h2 ⟨gk,h3,h4⟩=>
    ⟨_,hr.far h4 fun x hx=>(by
     simp only[aQ,aW,bP]at hx;rcases hx with rfl | rfl
     ·exact hg
     ·exact hr.gt (by omega)),h1,hno.keep fun i hi bQ=>h4.block i bQ (by simp only[aQ,aW,bP];omega),h2,ho.trans h4 fun x hx=>by
     simp only[aQ,aW,bP]at hx⊢;omega,bh hz h4.size⟩
   refine⟨fun k=>k=g,_,rfl,rfl,kids,lR.nb.Tf (gK.length+7) (HF rfl),(sB lR.r).mono ?_,?_⟩
   ·rintro _ dX ⟨cs,rfl,hx,F8⟩;have B8:=OJ lR F8;have KR:=hx;obtain⟨f',rfl⟩:∃f',f=f'+1:=⟨f-1,by omega⟩
    obtain⟨xe,xl,xm,xk,rfl,_⟩:=KR;obtain⟨y,eS,e2,hy,ez⟩:=hz dX;have sO:=OJ B8 (B8.r.dn.q ez);obtain⟨s8,eZ,e3,F9,⟨gs,dN,rJ⟩,hs8⟩:=abt (u:=eS) (y:=y) (A:=dr.heap.size) BS sO.kd (fun k hk=>lR.kd.new hk) ((hy.slice (cw true _)).mono (cw true _) fun k hk=>(by
     rcases hk with hk | hk
     ·exact hk.elim
     ·exact bh F8.o.size hk.1)) (bh F8.o.size ez.size)
    have WL:∀x,x∈gs->x≠g:=fun x hx=>by have:=(rJ x hx).1;omega
    have TA:=dN.size;have Ol:=sO.lB;have z12:=F8.o.size;refine⟨_,_,_,_,xe,xl,xm,xk,_,rfl,sk (x:=s') lR.lB F8,zV F8.o (by simp only[aN];omega),y,eS,e2,sk (x:=s') B8.lB (B8.r.dn.q ez),zV ez (by simp),s8,eZ,e3,dN.same (fun x hx=>?_),zV dN WL,?_⟩
    ·simp only[aN]at hx;subst hx;exact⟨by omega,fun hm=>by have:=(rJ x hm).1;omega⟩
    ·refine zF (H:=fun k=>dr.heap.size<=k/\k<dX.heap.size) (acc:=acc) ?_ (fun k hk _=>⟨bh BS hk.1,hs8 k hk.1 (cb hk.2 ez.size)⟩) (fun k hk=>bh BS hk.1) F9 lR.kd.len (dN.blk sO.nb fun hm=>WL g hm rfl) (by omega) (by omega) hkg (RO (sO.r.own dN fun x hx=>(by have:=(rJ x hx).1;omega)) (dN.blk sO.nb fun hm=>WL g hm rfl) (sO.no.keep fun i hi bQ=>dN.block i bQ fun hm=>(by have:=(rJ i hm).1;omega)) (sO.o.trans dN fun x hx=>.inr (by have:=(rJ x hx).1;have:=lR.o.size;omega)) (bh Ol TA) F9);refine(cw true _).keep ((cw true _).inHeap hx) fun k hk bQ=>?_;exact(dN.block k (cb bQ ez.size) fun hm=>by have:=(rJ k hm).2;have:=hk.1;omega).trans (ez.block k bQ (by simp))
   ·obtain⟨y,iL,e2,hy,jN⟩:=hz dr;have ri:=OJ lR (lR.r.dn.q jN);refine⟨y,iL,e2,sk (x:=s') lR.lB (lR.r.dn.q jN),zV jN (by simp),(sB ri.r).mono ?_⟩;rintro _ gJ ⟨cs,rfl,hx,Wf⟩;have vB:=OJ ri Wf;have KR:=hx;obtain⟨f',rfl⟩:∃f',f=f'+1:=⟨f-1,by omega⟩
    obtain⟨xe,xl,xm,xk,rfl,_⟩:=KR;have ahQ:=(((hy.slice (cw true _)).inHeap (cw true _) (by decide)).keep (cw true _) (by decide) (w':=gJ) fun k hk bQ=>Wf.o.block k bQ (by
     rcases hk.1 with hk | hk
     ·exact hk.elim
     ·have:=hk.1;simp only[aN];omega)).mono (cw true _) (G:=Fr dr.heap.size) fun k hk=>(by
     rcases hk.1 with hk | hk
     ·exact hk.elim
     ·exact hk.1)
    obtain⟨s8,jO,e3,F9,⟨gs,jr,rJ⟩,hs8⟩:=abt (u:=gJ) (y:=y) (A:=dr.heap.size) BS vB.kd (fun k hk=>lR.kd.new hk) ahQ (bh jN.size Wf.o.size);have WL:∀x,x∈gs->x≠g:=fun x hx=>by have:=(rJ x hx).1;omega
    have z21:=jr.size;have z20:=vB.lB;have z19:=jN.size;refine⟨_,_,_,_,xe,xl,xm,xk,_,rfl,sk (x:=s') ri.lB Wf,zV Wf.o (by simp only[aN];omega),s8,jO,e3,jr.same (fun x hx=>?_),zV jr WL,?_⟩
    ·simp only[aN]at hx;subst hx;exact⟨by omega,fun hm=>by have:=(rJ x hm).1;omega⟩
    ·refine zF (H:=fun k=>iL.heap.size<=k/\k<gJ.heap.size) (acc:=acc) ?_ (fun k hk _=>⟨by show B2<=k;omega,hs8 k (by omega) hk.2⟩) (fun k hk=>by omega) F9 lR.kd.len (jr.blk vB.nb fun hm=>WL g hm rfl) (by omega) (by omega) hkg (RO (vB.r.own jr fun x hx=>(by have:=(rJ x hx).1;omega)) (jr.blk vB.nb fun hm=>WL g hm rfl) (vB.no.keep fun i hi bQ=>jr.block i bQ fun hm=>(by have:=(rJ i hm).1;omega)) (vB.o.trans jr fun x hx=>.inr (by have:=(rJ x hx).1;have:=lR.o.size;omega)) (bh z20 z21) F9);refine(cw true _).keep ((cw true _).inHeap hx) fun k hk bQ=>?_;exact jr.block k bQ fun hm=>by have:=(rJ k hm).2;have:=hk.1;omega
 ·have hc:=Js hc;rw[if_pos hc]at hR;refine⟨_,Blk.dT k6.r.blk 6 rfl,b,6,_,_,rfl,k6.r.blk,by simp,hkb,fun my gv ahR=>?_⟩;have JR:=OJ k6 (y:={s' with d:=inc s'.d}) ⟨gv,k6.r.lI gv ahR k6.r.lt⟩;obtain⟨q,pN,e1,oc,hm⟩:=nU JR.r [125];have Tu:=OJ JR (JR.r.dn.q oc);refine⟨q,pN,e1,sk (x:=s') JR.lB (JR.r.dn.q oc),hm.mono ?_⟩;rintro _ sM ⟨rfl,h28⟩;have BO:=OJ Tu h28;refine⟨rfl,sk (x:=s') Tu.lB h28,rfl,_,BO.nb,?_,BO.o,?_⟩
  ·rw[<-hR];refine⟨en,lv,mv,kids,rfl,BO.no.mono fun k hk=>bh zw1 hk.1,(BO.kd.sl (cw true f) fun k hk=>hk).low (cw true f) (by omega)⟩
  ·rw[<-hR];exact BO.r
end
def Tk.Good(t:Tk):Prop:=(t.k=2->∃c r,t.t=c::r/\gj c=true)/\(t.k=4->∃c r,t.t=c::r/\gj c=false)/\0<=t.n/\t.n<=9223372036854775807
theorem MP{m:aH}{q:Tq}(h:tv m=.ok q):q.1≠5/\∀a,Tk.Good ⟨q.1,q.2.1,q.2.2.1,a⟩:=by
 cases m with
 | nil=>cases h
 | cons c r=>
  simp only[tv]at h;split at h
  ·rename_i hc;unfold rv at h;split at h
   ·cases h
   ·injection h with h;subst h;have hw:gj c=true:=by unfold gj;rw[hc];rfl
    refine⟨by dsimp only;split<;>decide,fun a=>⟨fun _=>?_,fun h4=>?_,by dsimp only;decide,by dsimp only;decide⟩⟩
    ·dsimp only;rw[dF,if_pos hw];exact⟨c,_,rfl,hw⟩
    ·dsimp only at h4;split at h4<;>exact absurd h4 (by decide)
  ·rename_i hl;split at h
   ·rename_i hc;unfold xt at h;split at h
    ·cases h
    ·split at h
     ·cases h
     ·injection h with h;subst h;refine⟨by dsimp only;decide,fun a=>⟨fun h=>absurd h (by dsimp only;decide),fun h=>absurd h (by dsimp only;decide),by dsimp only;omega,?_⟩⟩;dsimp only;unfold fG;split
      ·dsimp only;decide
      ·split
       ·dsimp only;decide
       ·split
        ·dsimp only;omega
        ·dsimp only;decide
   ·rename_i hd;unfold ry at h;split at h
    ·cases h
    ·rename_i hs;injection h with h;subst h;refine⟨by dsimp only;decide,fun a=>⟨fun h=>absurd h (by dsimp only;decide),fun _=>?_,by dsimp only;decide,by dsimp only;decide⟩⟩;obtain⟨n,hn⟩:∃n,li (c::r)=n+1:=⟨li (c::r)-1,by omega⟩
     dsimp only;rw[hn,ec];refine⟨c,_,rfl,?_⟩;unfold gj;rw[pb];exact⟨by simpa using hl,by simpa using hd⟩
theorem Dz{l:aH}:∀(n i:Nat),i<=l.length->l.length-i<=n->∀r,tz l i=.ok r->∃(fr:List Tk) (a:Int),r=fr++[⟨5,[],0,a⟩]/\(∀t,t∈fr->t.k≠5/\t.Good)/\r.length<=l.length-i+1
 | n,i,hi,hn,r,h=>by
  rw[nH hi]at h;split at h
  ·injection h with h;exact⟨[],_,h.symm,fun t ht=>(by cases ht),by rw[<-h,bK];omega⟩
  ·split at h
   ·cases h
   ·rename_i q hq;have q1:=tw hq;have q2:=AK hq;rw[cy]at q2;split at h
    ·cases h
    ·rename_i r' hr';injection h with h;subst h
     match n,hn with
     | 0,hn=>omega
     | n+1,hn=>
      obtain⟨fr,a,e,hf,hl⟩:=Dz n _ (by omega) (by omega) _ hr';have hg:=MP hq;refine⟨_::fr,a,by rw[e];rfl,fun t ht=>?_,by rw[bf];omega⟩;rcases aQ.1 ht with rfl | ht
      ·exact⟨hg.1,hg.2 _⟩
      ·exact hf t ht
theorem QN{fr:List Tk}{a:Int}(h:∀t,t∈fr->t.k≠5):uD (fr++[⟨5,[],0,a⟩]):=fun i hi=>by
 rw[aO,bK]at hi;unfold tk;by_cases hl:i<fr.length
 ·rw[bM hl,bB hl,kq,aO,bK];exact⟨fun e=>absurd e (h _ (oq hl)),fun e=>by omega⟩
 ·have e:i=fr.length:=by omega
  subst e;rw[bX (aV _),mD,aO,bK];exact⟨fun _=>rfl,fun _=>rfl⟩
theorem HH{l:aH}:∀(n i:Nat),i<=l.length->l.length-i<=n->∀x,tz l i=.error x->x.1≠0
 | n,i,hi,hn,x,h=>by
  rw[nH hi]at h;split at h
  ·cases h
  ·split at h
   ·rename_i e hq;injection h with h;subst h;exact G4 hq
   ·rename_i q hq;have q1:=tw hq;have q2:=AK hq;rw[cy]at q2;split at h
    ·rename_i y hy;injection h with h;subst h
     match n,hn with
     | 0,hn=>omega
     | n+1,hn=>exact HH n _ (by omega) (by omega) _ hy
    ·cases h
theorem Fv{l:aH}(h:(cW l).2.1=0):uD (cW l).1/\(∀t,t∈(cW l).1->t.Good)/\0<(cW l).1.length/\(cW l).1.length<=16385:=by
 unfold cW at h⊢;split at h
 ·cases h
 ·rename_i hl;rw[if_neg hl];cases hr:tz l 0 with
  | error x=>
   rw[hr]at h;exact absurd h (HH l.length 0 (bp _) (by omega) _ hr)
  | ok r=>
   obtain⟨fr,a,e,hf,hn⟩:=Dz l.length 0 (bp _) (by omega) r hr;dsimp only;subst e;refine⟨QN fun t ht=>(hf t ht).1,fun t ht=>?_,by rw[aO,bK];omega,by omega⟩;rcases cr.1 ht with ht | ht
   ·exact(hf t ht).2
   ·simp only[aN]at ht;subst ht;exact⟨fun h=>absurd h (by dsimp only;decide),fun h=>absurd h (by dsimp only;decide),by dsimp only;decide,by dsimp only;decide⟩
section
variable {F:aJ} {ts:List Tk} {w w' w2:av} {b:Nat} {l:Sl} {s s':Sx}
theorem HI:∀(f:Nat) (d:Int),0<=d->d<f->d<=9223372036854775807->SU F ts b l f d
 | 0,d,h0,h1,_=>by omega
 | f+1,d,h0,h1,h2=>by
  intro k u w h hd;refine(Zv ⟨b,0,none⟩ k (fun v w'=>∃cs,v=(ah cs.toArray)/\mr true (f+1) w' (Fr w.heap.size) (jI ts (f+1) k u).1 cs/\Dn F ts w w' b l (jI ts (f+1) k u).2) w ?_).mono (by
   rintro e w' ⟨v,rfl,cs,rfl,h⟩;exact⟨cs,rfl,h⟩)
  intro k0 w0 gH eW cE;have t0:=h.zt.al cE gH eW;refine(Dy t0.r k).mono ?_;rintro _ w1 ⟨rfl,h1'⟩;have t1:=t0.nx h1';have WK:=xE h.en k u;have hnd:=QB (ts:=ts) (k:=k) (s:=u);rw[jI];have vS:(dY ts k u).1.ini=[]/\(dY ts k u).1.dft=[]/\(dY ts k u).1.en=[]/\(dY ts k u).1.lv=[]/\(dY ts k u).1.mv=[]:=⟨rfl,rfl,rfl,rfl,rfl⟩
  generalize dY ts k u=N at*
  obtain⟨nb,u1⟩:=N;dsimp only at*
  obtain⟨i1,i2,i3,i4,i5⟩:=vS;obtain⟨nk,nnm,ahS,ahT,nen,nlv,nmv,na⟩:=nb;dsimp only at i1 i2 i3 i4 i5;subst i1 i2 i3 i4 i5;dsimp only at*
  refine⟨_,_,_,_,Sl.nil,Sl.nil,Sl.nil,Sl.nil,_,rfl,t0.sc h1' (by simp),fun hc k1 w2 lr jq cR=>?_,fun hc k2 dw qZ uc dR=>?_⟩
  ·rw[if_pos (by have:=aP hc;omega)];have t2:=t1.al cR lr jq;obtain⟨q,w3,e1,dl,hm⟩:=nU t2.r [45,62];have t3:=t2.q dl;refine⟨q,w3,e1,t2.sq dl (by simp),hm.mono ?_⟩;rintro _ w4 ⟨rfl,h4⟩;have t4:=t3.nx h4;refine⟨rfl,t3.sc h4 (by simp),(tH t4.r).mono ?_⟩;rintro _ w5 ⟨rfl,h5⟩;have t5:=t4.nx h5;refine⟨_,rfl,t4.sc h5 (by simp),fun w6 eh=>?_⟩;have t6:=t5.f eh (by simp);obtain⟨q,w7,e1,fm,hm⟩:=nU t6.r [59];have t7:=t6.q fm;refine⟨q,w7,e1,t6.sq fm (by simp),hm.mono ?_⟩;rintro _ w8 ⟨rfl,h8⟩;have t8:=t7.nx h8;refine⟨rfl,t7.sc h8 (by simp),fun w9 fS=>⟨_,rfl,⟨Sl.nil,Sl.nil,Sl.nil,Sl.nil,rfl,⟨iE.nil _ _ _ _ _ _,iE.nil _ _ _ _ _ _,iE.nil _ _ _ _ _ _⟩,iE.nil _ _ _ _ _ _⟩,(t8.f fS (by simp)).dn⟩⟩
  ·rw[if_neg (by have:=aU hc;omega)];have t10:=t1.al dR qZ uc;obtain⟨q,dr,e1,dS,hm⟩:=nU t10.r [123];have t11:=t10.q dS;refine⟨q,dr,e1,t10.sq dS (by simp),hm.mono ?_⟩;rintro _ dX ⟨rfl,F8⟩;have t12:=t11.nx F8;have hms:=fO (s:=u1) h.en [123];refine⟨rfl,t11.sc F8 (by simp),fun hB _=>?_⟩;have hsd:(dB ts u1 [123]).d=d:=hms.d.trans (WK.d.trans hd);refine(HG (f:=f) t12.r (gK:=[]) (n:=⟨nk,nnm,[],[],[],[],[],na⟩) rfl rfl rfl hB (t12.r.gt (t12.lt (by simp))) (by rw[hsd];exact⟨by omega,h2⟩) (fun hf=>?_)).mono ?_
   ·have hd0:=hnd (hms.le hf).1;rw[hd]at hd0;have VM:vK d=d-1:=by unfold vK;rw[fQ (by omega) (by omega)]
    rw[hsd,VM];exact⟨by omega,HI f (d-1) (by omega) (by omega) (by omega)⟩
   ·rintro _ eS ⟨rfl,cs,yt,hx,ez,ahU⟩;have KR:=hx;obtain⟨xe,xl,xm,xk,rfl,_⟩:=KR;have Ol:Fz [b] w eS [k2,k0]:=t12.z.go ez fun x hx=>(by simp only[aQ,aW,bP]at hx⊢;omega)
    have l2:=t12.lt (k0:=k2) (by simp);have l0:=t12.lt (k0:=k0) (by simp);have k0l:=(t1.z.k k0 (by simp)).2;refine⟨rfl,t12.z.sm ez (by simp) (fun x hx=>?_),_,_,_,_,xe,xl,xm,xk,_,yt,fun eZ dN Ec=>⟨_,rfl,?_,?_⟩⟩
    ·simp only[aQ,aW,bP]at hx;rcases hx with rfl | rfl
     ·exact .inl (by simp)
     ·exact .inr fun y hy=>by simp only[aN]at hy;omega
    ·refine(cw true _).low ((cw true _).stay hx ((Stay.refl _ _).f dN (.inl ?_))) t12.z.o.size;have:=(t12.z.k k0 (by simp)).2;exact this
    ·exact⟨(Ol.f dN (by simp)).o,ahU.one dN l0⟩
theorem UZ(h:Sr F ts w b l s)(hg:∀t,t∈ts->t.Good):az aq 117 #[rp b] w fun e w'=>e=ak (ah #[ab (T (rV ts s).1.n),O U (rV ts s).1.v,O U (rV ts s).1.a])/\Dn F ts w w' b l (rV ts s).2:=by
 refine ret (Zg _ _ _ ?_);intro k0 w0 gH eW cE;have t0:=h.zt.al cE gH eW;obtain⟨ad,g1,g2⟩:=t0.r.now;unfold rV;dsimp only;generalize Tm:(if(tk ts s.i).k=1 then Dg ts s else s)=s1;refine⟨fun w'=>Zt F ts w w' b l s1 [k0],fun w1 t1=>(tG t1.r (k:=1) (by decide)).mono ?_,l,Blk.dT t0.r.blk 0 rfl,_,Blk.dT t0.r.blk 1 rfl,ad,g1,_,g2.dT 0 _ rfl,fun hc dX eM=>?_,fun hc eZ dN=>?_⟩
 ·rintro _ w2 ⟨rfl,h2⟩;have t2:=t1.nx h2;refine⟨_,_,_,_,rfl,t1.sc h2 (by simp),fun k1 w3 lr jq dl=>?_⟩;have t3:=t2.al dl lr jq;obtain⟨q,w4,e1,dA,hm⟩:=nU t3.r [61];have t4:=t3.q dA;refine⟨q,w4,e1,t3.sq dA (by simp),hm.mono ?_⟩;rintro _ w5 ⟨rfl,h5⟩;have t5:=t4.nx h5;refine⟨rfl,t4.sc h5 (by simp),?_⟩;obtain⟨q,w6,e1,eh,hm⟩:=zE t5.r [[45]] (n:=1) (parts:=#[(0,ab (T [45]))]) rfl rfl (by decide) (by decide);have t6:=t5.q eh;refine⟨q,w6,e1,t5.sq eh (by simp),hm.mono ?_⟩;rintro _ w7 ⟨rfl,h7⟩;have t7:=t6.nx h7;generalize hgg:cH ts (dB ts (fx ts s1 1).2 [61]) [[45]]=gg at*
  have hgl:gg<=1:=by rw[<-hgg];exact Dk _
  refine⟨_,rfl,t6.sc h7 (by simp),(tG t7.r (k:=3) (by decide)).mono ?_⟩;rintro _ w8 ⟨rfl,h8⟩;have t8:=t7.nx h8;refine⟨_,_,_,_,rfl,t7.sc h8 (by simp),?_⟩;obtain⟨q,w9,e1,fS,hm⟩:=nU t8.r [59];have t9:=t8.q fS;refine⟨q,w9,e1,t8.sq fS (by simp),hm.mono ?_⟩;rintro _ dw ⟨rfl,OB⟩;refine⟨rfl,t9.sc OB (by simp),fun dr dS=>⟨?_,((t9.nx OB).f dS (by simp)).dn⟩⟩;have hn:∀u:Sx,0<=(fx ts u 3).1.n/\(fx ts u 3).1.n<=9223372036854775807:=fun u=>by
   unfold fx;split
   ·exact⟨lU 0,(by decide:(0:Int)<=9223372036854775807)⟩
   ·unfold tk;cases hx:ts[u.i]? with
    | none=>exact⟨lU 0,(by decide:(0:Int)<=9223372036854775807)⟩
    | some t=>exact(hg t (bG hx)).2.2
  obtain⟨n0,n1⟩:=hn (if gg=0 then dB ts (fx ts s1 1).2 [61]else cZ (dB ts (fx ts s1 1).2 [61]));generalize (fx ts (if gg=0 then dB ts (fx ts s1 1).2 [61]else cZ (dB ts (fx ts s1 1).2 [61])) 3).1.n=x at*
  have e:ar U ((ar U (1-(ar U (2*(gg:Int)))))*x)=if gg=0 then x else ar U (-x):=by
   rcases(by omega:gg=0∨gg=1)with rfl | rfl
   ·rw[if_pos rfl];show ar U (1*x)=x;rw[Int.one_mul,fQ (by omega) (by omega)]
   ·rw[if_neg (by decide)];show ar U (-1*x)=_;rw[Int.neg_one_mul]
  rw[e]
 ·refine(UW (t0.q eM).r).mono ?_;rintro _ eS ⟨rfl,ug⟩;refine⟨rfl,(t0.q eM).sc ug (by simp),?_⟩;rw[<-Tm,if_pos (by simpa using hc)];exact(t0.q eM).nx ug
 ·rw[<-Tm,if_neg (by simpa using hc)];exact t0.q dN
end
theorem SX(w:av)(F:aJ):ChR true 15 w F ch0 Sl.nil (me 0 [] [] [] Sl.nil Sl.nil Sl.nil Sl.nil 0):=⟨iE.nil _ _ _ _ _ _,MO (by decide) _ _⟩
theorem ChR.stay{d:Nat}{w w':av}{B:Nat}{c:Ch}{vs:Sl}{cs:aI}(h:ChR true d w (Fr B) c vs cs)(hs:Stay B w w'):ChR true d w' (Fr B) c vs cs:=⟨h.vars.stay fe (by decide) hs,(cw true d).stay h.root hs⟩
theorem ChR.low{d:Nat}{w:av}{A B:Nat}{c:Ch}{vs:Sl}{cs:aI}(h:ChR true d w (Fr B) c vs cs)(hA:A<=B):ChR true d w (Fr A) c vs cs:=⟨h.vars.low fe hA,(cw true d).low h.root hA⟩
theorem U0{ts:List Tk}(hE:uD ts){s:Sx}{ss:List (aH)}(hi:s.i<ts.length)(hw:cH ts s ss≠0):mu ts (rV ts (cZ s)).2<mu ts s:=
 mM hE (cT hw).1 hi (cT hw).2 (Mm hE (cZ s)).toOn0
theorem DA{w:av}(l:aH)(hE:Er w):az aq 80 #[ab (T l)] w fun e w'=>
  ∃(vs:Sl) (cs:aI),e=ak (ai #[ah (vs.v::cs).toArray,ah #[O U (dE l).2.1,O U (dE l).2.2]])/\ChR true 15 w' (Fr w.heap.size) (dE l).1 vs cs/\ay [] w w':=by
 refine(Y1 (T l) (fun v w'=>∃(vs:Sl) (cs:aI),v=(ai #[ah (vs.v::cs).toArray,ah #[O U (dE l).2.1,O U (dE l).2.2]])/\ChR true 15 w' (Fr w.heap.size) (dE l).1 vs cs/\ay [] w w') w ?_).mono (by
  rintro e w' ⟨v,rfl,vs,cs,rfl,h⟩;exact⟨vs,cs,rfl,h⟩)
 generalize hP:dE l=P;unfold dE at hP;intro k0 k1 w0 gH eW lr jq cE;have z0:=cE.size;refine(C5 l (hE.only cE)).mono ?_;rintro _ w1 ⟨rs,rfl,hT,cA⟩;have z1:=cA.size;have iw:=cE.cp cA;have tOk:=Fv (l:=l);have ahV:∀{w2 w3:av},ay [] w1 w2->ay [k1,k0] w2 w3->ay [] w w3:=fun cR dl=>((iw.cp cR).trans dl fun x hx=>.inr (by simp only[aQ,aW,bP]at hx;omega))
 refine⟨rs,_,_,rfl,cA.same (by simp;omega),fun hc k2 w2 qZ uc cR n1 n2 n3=>⟨fun k=>k=k2,rfl,fun e=>n2 e,fun e=>n3 e,fun w3 dl=>?_⟩,fun hc k3 k4 k5 w4 vU ud yF Ef zT Eh dA=>?_⟩
 ·have hc:(cW l).2.1≠0:=by simpa using hc
  rw[if_pos hc]at hP;subst hP;exact⟨Sl.nil,_,rfl,SX _ _,ahV cR dl⟩
 have hc:(cW l).2.1=0:=by simpa using hc
 obtain⟨Yc,PE,abw,eH⟩:=tOk hc;rw[if_neg (by simpa using hc)]at hP;have ahW:=((hT.sl.inHeap iy (by decide)).mono iy (G:=fun k=>w0.heap.size<=k/\k<w1.heap.size) fun k hk=>⟨hk.1.1,hk.2⟩)
 generalize (cW l).1=ts at*
 clear tOk hT;have z4:=dA.size;obtain⟨q,w5,e1,hq,eJ⟩:=lZ w4 [fy] (n:=1) (parts:=#[(0,ab (T fy))]) rfl rfl (by decide) (by decide);have z5:=eJ.size;refine⟨q,w5,e1,eJ.same (by simp;omega),fun uX n04 n14 n34 n54=>?_⟩;have r5:Sr (fun k=>w0.heap.size<=k/\k<w1.heap.size) ts w5 k4 rs Eo:=⟨uX,SliceF.only iy (by decide) ahW (dA.cp eJ) (by simp),fun k hk=>by have:=hk.2;omega,Yc,abw,by omega⟩
 have KD:∀k,(fun k=>w0.heap.size<=k/\k<w1.heap.size) k->k<w1.heap.size:=fun k hk=>hk.2;generalize (fun k=>w0.heap.size<=k/\k<w1.heap.size)=F at*
 have w5w:ay [] w w5:=(iw.cp dA).cp eJ;have sm:∀{u u':av} {x:Sx},w5.heap.size<=u.heap.size->Dn F ts u u' k4 rs x->bS [k0,k1,k3,k5] u u':=fun hz d=>d.o.same (by
  intro x hx;simp only[aQ,aW,bP]at hx⊢;omega)
 have sq:∀{u u':av},w5.heap.size<=u.heap.size->ay [] u u'->bS [k0,k1,k3,k4,k5] u u':=fun hz o=>o.same fun x hx=>⟨by
  simp only[aQ,aW,bP]at hx;omega,by simp⟩
 have oD:∀{u u':av} {x:Sx},ay [] w u->Dn F ts u u' k4 rs x->ay [] w u':=fun o d=>o.trans d.o fun x hx=>.inr (by simp only[aN]at hx;omega);have o5:∀{u u':av},ay [] w u->ay [k5] u u'->ay [] w u':=fun o d=>o.trans d fun x hx=>.inr (by simp only[aN]at hx;omega);have r55:∀{u u':av} {x:Sx},Sr F ts u k4 rs x->ay [k5] u u'->Sr F ts u' k4 rs x:=fun r o=>r.VC o ⟨n54,fun hF=>by have:=KD _ hF;omega⟩;have IB:=uX.lt;refine(HD r5 (tu hq) fun k hk e=>(by have:=hk.1;omega)).mono ?_;rintro _ w6 ⟨rfl,h6⟩;have z6:=h6.o.size;refine⟨rfl,sm (aV _) h6,rs,_,_,_,_,_,_,_,_,h6.r.blk,(Dy h6.r 1).mono ?_⟩;rintro _ w7 ⟨rfl,h7⟩;have z7:=h7.o.size;have hC:xC ts=(⟨(vi ts (ts.length+1) [] (dB ts (dY ts 1 (dB ts Eo fy)).2 [123])).1,(pf ts (jI ts 14) (dY ts 1 (dB ts Eo fy)).1 (vi ts (ts.length+1) [] (dB ts (dY ts 1 (dB ts Eo fy)).2 [123])).2).1⟩,Jl ts (pf ts (jI ts 14) (dY ts 1 (dB ts Eo fy)).1 (vi ts (ts.length+1) [] (dB ts (dY ts 1 (dB ts Eo fy)).2 [123])).2).2):=rfl;have vS:(dY ts 1 (dB ts Eo fy)).1.ini=[]/\(dY ts 1 (dB ts Eo fy)).1.dft=[]/\(dY ts 1 (dB ts Eo fy)).1.en=[]/\(dY ts 1 (dB ts Eo fy)).1.lv=[]/\(dY ts 1 (dB ts Eo fy)).1.mv=[]:=⟨rfl,rfl,rfl,rfl,rfl⟩
 have on7:On ts Eo (dY ts 1 (dB ts Eo fy)).2:=(fO Yc _).trans (xE Yc _ _);generalize dY ts 1 (dB ts Eo fy)=N at*
 obtain⟨⟨nk,nnm,ahS,ahT,nen,nlv,nmv,na⟩,u1⟩:=N;dsimp only at*
 obtain⟨i1,i2,i3,i4,i5⟩:=vS;subst i1 i2 i3 i4 i5;refine⟨_,_,_,_,Sl.nil,Sl.nil,Sl.nil,Sl.nil,_,rfl,sm z6 h7,rs,_,_,_,_,_,_,_,_,h7.r.blk,fun w8 fp vT=>?_⟩;have z8:=fp.size;have r8:=r55 h7.r fp;have w8w:=o5 (oD (oD w5w h6) h7) fp;obtain⟨q,w9,e1,fS,hm⟩:=nU r8 [123];have z9:=fS.size;refine⟨q,w9,e1,sq (by omega) fS,hm.mono ?_⟩;rintro _ dw ⟨rfl,OB⟩;have Ob:=OB.o.size;have ahX:=oD (w8w.cp fS) OB;have ahY:On ts Eo (dB ts u1 [123]):=on7.trans (fO Yc _);clear hm;generalize dB ts u1 [123]=u2 at*
 generalize hV:vi ts (ts.length+1) [] u2=V at*
 generalize hB:dw.heap.size=B at*
 refine⟨rfl,sm (by omega) OB,rs,_,_,_,_,_,_,_,_,OB.r.blk,fun nv l10 i28 s3 s4 s5 pD qx yp yV i29 B7 i30 i31 i32 i33 i34 i35 i36 i37 w'=>∃(u:Sx) (acc:List Vr),i28=nk/\s3=T nnm/\s4=T []/\s5=T []/\pD=Sl.nil/\qx=Sl.nil/\yp=Sl.nil/\yV=Sl.nil/\i29=na/\Sr F ts w' k4 rs u/\Own O4 3 95 B w' (Fr B) l10 acc/\vi ts nv acc u=V/\mu ts u<nv/\acc.length+mu ts u<=ts.length/\ay [] w w'/\B<=w'.heap.size/\u.d=12,
  ts.length+1,⟨u2,[],rfl,rfl,rfl,rfl,rfl,rfl,rfl,rfl,rfl,OB.r,Own.nil _ _ _ _ _ _,hV,sQ (pq _ _),by rw[cu,bJ];exact pq _ _,ahX,Gk hB.symm,ahY.d⟩,?_⟩
 clear hV;rintro nv l10 nk2 _ _ _ _ _ _ _ na2 B7 i30 i31 i32 i33 i34 i35 i36 i37 dr ⟨u,acc,rfl,rfl,rfl,rfl,rfl,rfl,rfl,rfl,rfl,r11,OK,hR,VG,Pm,ahZ,zB,hud⟩;obtain⟨m,rfl⟩:∃m,nv=m+1:=⟨nv-1,by omega⟩
 rw[vi]at hR;obtain⟨q,dX,e1,eM,hm⟩:=zE r11 [Dh] (n:=1) (parts:=#[(0,ab (T Dh))]) rfl rfl (by decide) (by decide);have z12:=eM.size;refine⟨q,dX,e1,sq (by omega) eM,hm.mono ?_⟩;rintro _ eS ⟨rfl,ug⟩;have Ol:=ug.o.size;have WM:=oD (ahZ.cp eM) ug;have TH:Own O4 3 95 B eS (Fr B) l10 acc:=(OK.stay fe eM fun x hx=>(by cases hx)).stay fe ug.o fun x hx=>.inl (by simp only[aN]at hx;omega);refine⟨_,rfl,sm (by omega) ug,rs,_,_,_,_,_,_,_,_,ug.r.blk,fun sF eZ dN Ec=>?_,fun sF yt m05 m15 m35=>?_⟩
 ·have sF:=Jt sF;rw[if_neg sF]at hR ug;have TA:=dN.size;have r14:=ug.r.only dN;refine⟨fun k=>k=k5,rfl,(UZ r14 PE).mono ?_⟩;rintro _ fU ⟨rfl,KO⟩;have z15:=KO.o.size;have hmu:=U0 Yc r11.lt sF;have WK:=Mm Yc (cZ u);generalize rV ts (cZ u)=X at*
  obtain⟨x,u'⟩:=X;dsimp only at*
  have KQ:=pq ts u;have aby:Own O4 3 95 B fU (Fr B) l10 acc:=(TH.stay fe dN fun x hx=>(by cases hx)).stay fe KO.o fun x hx=>.inl (by simp only[aN]at hx;omega);obtain⟨y,gy,e2,ic,zU,fR,e3,od,⟨gs,jp,rJ⟩,_⟩:=ja (P:=aq) (t:=22) (ty:=22) (e:=95) (i:=Tryz.t95) (bytes:=32) (size:=3) (v:=ah #[ab (T x.n),O U x.v,O U x.a]) (x:=x) (G:=fun _=>False) (by kernel_rfl) (by kernel_rfl) rfl rfl rfl rfl (by decide) (by decide) (by decide) fe aby (by omega) rfl rfl (fun k hk _=>hk.elim) (by omega);have oe:∀g,g∈gs->B<=g:=fun g hg=>(rJ g hg).2.1;have z16:=ic.size;have z17:=jp.size;refine⟨_,_,_,rfl,sm (by omega) KO,rs,_,_,_,_,_,_,_,_,KO.r.blk,fun k hk bQ=>(by subst hk;exact KO.o.block k bQ (by simp only[aN];omega)),y,gy,e2,sq (by omega) ic,bL.only ic,zU,fR,e3,jp.same (fun x hx=>?_),fun k hk bQ=>(by subst hk;exact jp.block k bQ fun hm=>(by have:=oe k hm;omega)),fun gI lf OI=>?_⟩
  ·simp only[aQ,aW,bP]at hx;exact⟨by omega,fun hm=>by have:=oe x hm;omega⟩
  ·have z18:=lf.size;have r17:Sr F ts fR k4 rs u':=(KO.r.only ic).own jp fun x hx=>(by have:=oe x hx;omega)
   refine⟨m,Kn _,u',acc++[x],rfl,rfl,rfl,rfl,rfl,rfl,rfl,rfl,rfl,r55 r17 lf,?_,hR,by omega,by rw[aO,bK];omega,o5 (((oD (WM.cp dN) KO).cp ic).trans jp fun x hx=>.inr (by have:=oe x hx;have:=WM.size;omega)) lf,by omega,WK.d.trans hud⟩;refine(od.mono fe fun k hk=>?_).stay fe lf fun x hx=>.inl (by simp only[aN]at hx;omega);rcases hk with hk | hk
   ·exact hk
   ·show B<=k;omega
 ·have sF:=Js sF;rw[if_pos sF]at hR ug;subst hR;dsimp only at hC;have r13:=ug.r;refine(HG (f:=14) r13 (gK:=[l10.v]) (n:=⟨nk2,nnm,[],[],[],[],[],na2⟩) rfl rfl rfl yt ⟨n54,fun hF=>(by have:=KD _ hF;omega)⟩ (by rw[hud];exact⟨by decide,by decide⟩) (fun _=>by
   rw[hud];exact⟨by decide,HI 14 11 (by decide) (by decide) (by decide)⟩)).mono ?_
  generalize pf ts (jI ts 14) ⟨nk2,nnm,[],[],[],[],[],na2⟩ u=D at*
  obtain⟨root,s1⟩:=D;dsimp only at hC;rw[hC]at hP;dsimp only at hP;rintro _ iL ⟨rfl,cs,abz,hx,jN,r19⟩;dsimp only at*
  have z19:=jN.size;have ah2:ay [] w iL:=WM.trans jN fun x hx=>.inr (by simp only[aQ,aW,bP]at hx;omega);have ah3:Stay B eS iL:=Stay.of jN fun x hx=>.inl (by simp only[aQ,aW,bP]at hx;omega);have c19:ChR true 15 iL (Fr w5.heap.size) ⟨acc,root⟩ l10 cs:=⟨((TH.sl fe fun k hk=>hk).stay fe (by decide) ah3).low fe (by omega),(cw true 15).low hx (by omega)⟩
  have KR:=hx;obtain⟨xe,xl,xm,xk,rfl,_⟩:=KR;have sm3:∀{u u':av} {bs:List Nat},w5.heap.size<=u.heap.size->ay bs u u'->(∀x,x∈bs->x=k4∨x=k5)->bS [k0,k1,k3] u u':=fun hz o hb=>o.same fun x hx=>⟨by simp only[aQ,aW,bP]at hx;omega,fun hm=>by have:=hb x hm;simp only[aQ,aW,bP]at hx;omega⟩
  refine⟨rfl,sm3 (by omega) jN (by simp),rs,_,_,_,_,_,_,_,_,r19.blk,l10,_,_,_,_,xe,xl,xm,xk,_,abz,?_⟩;have st:∀{u u':av} {x:Sx},Sr F ts u k4 rs x->aF u k5 29 (l10.v::me root.b.k root.b.nm root.b.ini root.b.dft xe xl xm xk root.b.a)->ay [] w u->ChR true 15 u (Fr w5.heap.size) ⟨acc,root⟩ l10 (me root.b.k root.b.nm root.b.ini root.b.dft xe xl xm xk root.b.a)->∀{y:Sx},Dn F ts u u' k4 rs y->Sr F ts u' k4 rs y/\aF u' k5 29 (l10.v::me root.b.k root.b.nm root.b.ini root.b.dft xe xl xm xk root.b.a)/\ay [] w u'/\ChR true 15 u' (Fr w5.heap.size) ⟨acc,root⟩ l10 (me root.b.k root.b.nm root.b.ini root.b.dft xe xl xm xk root.b.a):=fun{u u' x} a1 a2 a3 a4 {y} d=>
   ⟨d.r,d.o.blk a2 (by simp only[aN];omega),oD a3 d,a4.stay (Stay.of d.o fun x hx=>.inl (by simp only[aN]at hx;omega))⟩
  refine⟨fun VP i67 Eu FU KH VQ VR VS VT i68 VU i69 i70 i71 i72 i73 i74 i75 i76 gJ=>w5.heap.size<=gJ.heap.size/\Sr F ts gJ k4 rs (Jl ts s1)/\aF gJ k5 29 (l10.v::me root.b.k root.b.nm root.b.ini root.b.dft xe xl xm xk root.b.a)/\ay [] w gJ/\ChR true 15 gJ (Fr w5.heap.size) ⟨acc,root⟩ l10 (me root.b.k root.b.nm root.b.ini root.b.dft xe xl xm xk root.b.a),?_,?_⟩
  ·rintro VP i67 Eu FU KH VQ VR VS VT i68 VU i69 i70 i71 i72 i73 i74 i75 i76 gJ ⟨z20,a1,a2,a3,a4⟩;refine(kz a1).mono ?_;rintro _ jO ⟨rfl,jr⟩;obtain⟨b1,b2,b3,b4⟩:=st a1 a2 a3 a4 (a1.dn.q jr);have z21:=jr.size;refine⟨_,rfl,sm3 z20 jr (by simp),rs,_,_,_,_,_,_,_,_,b1.blk,l10,_,_,_,_,xe,xl,xm,xk,_,b2,fun hf mR yu _ _ p01 p03 p04 p05 p13 p14 p15 p34 p35 p45=>⟨fun k=>k=k4,rfl,fun e=>p04 e,fun e=>p14 e,fun mw ob _ _=>?_⟩,fun hf mS ue _ _=>?_⟩
   ·have hf:(Jl ts s1).fc≠0:=by simpa using hf
    rw[if_pos hf]at hP;subst hP;exact⟨Sl.nil,_,rfl,SX _ _,(b3.cp yu).trans ob fun x hx=>.inr (by simp only[aQ,aW,bP]at hx;omega)⟩
   ·have hf:¬(Jl ts s1).fc≠0:=by simpa using hf
    rw[if_neg hf]at hP;subst hP;refine⟨l10,_,rfl,(b4.stay (Stay.of ue fun x hx=>.inl (by simp only[aQ,aW,bP]at hx;omega))).low w5w.size,b3.trans ue fun x hx=>.inr (by simp only[aQ,aW,bP]at hx;omega)⟩
  ·refine⟨fun b1 Ry i87 N9 XS VV Rz RA XU XV i88 XW i89 i90 i91 i92 i93 i94 i95 i96 kX=>b1=decide (s1.fc=0/\(tk ts s1.i).k≠5)/\w5.heap.size<=kX.heap.size/\Sr F ts kX k4 rs s1/\aF kX k5 29 (l10.v::me root.b.k root.b.nm root.b.ini root.b.dft xe xl xm xk root.b.a)/\ay [] w kX/\ChR true 15 kX (Fr w5.heap.size) ⟨acc,root⟩ l10 (me root.b.k root.b.nm root.b.ini root.b.dft xe xl xm xk root.b.a),?_,fun pN oc _ _=>?_⟩
   ·rintro b1 Ry i87 N9 XS VV Rz RA XU XV i88 XW i89 i90 i91 i92 i93 i94 i95 i96 kX ⟨rfl,z25,a1,a2,a3,a4⟩;unfold Jl;refine⟨fun hb=>(qk a1).mono ?_,fun hb=>?_⟩
    ·rw[if_pos (aP hb)];rintro _ my ⟨rfl,h26⟩;obtain⟨b1,b2,b3,b4⟩:=st a1 a2 a3 a4 h26;have z26:=h26.o.size;exact⟨rfl,sm3 z25 h26.o (by simp),rs,_,_,_,_,_,_,_,_,b1.blk,l10,_,_,_,_,xe,xl,xm,xk,_,b2,by omega,b1,b2,b3,b4⟩
    ·rw[if_neg (aU hb)];exact⟨z25,a1,a2,a3,a4⟩
   ·have z27:=oc.size;obtain⟨a1,a2,a3,a4⟩:=st r19 abz ah2 c19 (r19.dn.q oc);refine(kz a1).mono ?_;rintro _ sM ⟨rfl,rj⟩;obtain⟨b1,b2,b3,b4⟩:=st a1 a2 a3 a4 (a1.dn.q rj);have z28:=rj.size;obtain⟨ad,g1,g2⟩:=b1.now;refine⟨_,rfl,sm3 (by omega) rj (by simp),rs,_,_,_,_,_,_,_,_,b1.blk,l10,_,_,_,_,xe,xl,xm,xk,_,b2,fun hb=>⟨ad,g1,_,g2.dT 0 _ rfl,?_,by omega,b1,b2,b3,b4⟩,fun hb=>⟨?_,by omega,b1,b2,b3,b4⟩⟩
    ·have hb:s1.fc=0:=by simpa using hb
     rw[bT];simp[hb]
    ·have hb:¬s1.fc=0:=by simpa using hb
     simp[hb]
end Go.Proofs.YtbkjcdocjfknfaaGreatDoor.Con
