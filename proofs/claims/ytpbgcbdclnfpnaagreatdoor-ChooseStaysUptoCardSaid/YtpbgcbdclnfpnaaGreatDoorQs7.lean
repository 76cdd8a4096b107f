import Derived.Test.YtpbgcbdclnfpnaaGreatDoorQs6
set_option linter.unusedSectionVars false
set_option linter.unusedSimpArgs false
set_option linter.unusedVariables false
set_option maxHeartbeats 4000000
open Go.Value renaming int->O,string->ah,pointer->ai,agg->aj,tuple->ak,bool->ao
open Go.IntKind renaming i64->ae,wrap->av
open Go.Ending renaming returned->aq
open _root_.ByteArray renaming mk->ar
open _root_.Go.Proofs.Tryz renaming prog->au
open Go.Instr renaming buildSlice->aw
open Go renaming World->ay,Value->az,Calls->aB
open Go.Kt renaming Only->aA,SliceF->aD,Cells->aE,OnlyP->aF,Blk->aH
namespace Go.Proofs.YtpbgcbdclnfpnaaGreatDoor.Con
open Go Go.RowKit Go.Kt Go.Kt.V Go.Proofs.YtpbgcbdclnfpnaaGreatDoor.Vc
structure Fz (bs:List Nat) (w w':ay) (ks:List Nat):Prop where
 o:aA bs w w'
 k:∀x,x∈ks->w.heap.size<=x/\x<w'.heap.size
 lo:∀x,x∈bs->x<w.heap.size
section
variable {bs bs' ks ks':List Nat} {w w1 w2 w':ay} {k0 b:Nat}
theorem Fz.start(lo:∀x,x∈bs->x<w.heap.size):Fz bs w w []:=⟨Only.refl _ _,λ_ h=>aal,lo⟩
theorem Fz.go(h:Fz bs w w1 ks)(k:aA bs' w1 w2)(hb:∀x,x∈bs'->x∈bs∨x∈ks):Fz bs w w2 ks:=
 ⟨h.o.trans k λx hx=>(hb x hx).imp id λhk=>(h.k x hk).1,λx hx=>⟨(h.k x hx).1,cq (h.k x hx).2 k.size⟩,h.lo⟩
theorem Fz.new(h:Fz bs w w1 ks)(k:aA bs' w1 w2)(hb:∀x,x∈bs'->x∈bs∨w.heap.size<=x):Fz bs w w2 ks:=
 ⟨h.o.trans k hb,λx hx=>⟨(h.k x hx).1,cq (h.k x hx).2 k.size⟩,h.lo⟩
theorem Fz.q(h:Fz bs w w1 ks)(k:aA [] w1 w2):Fz bs w w2 ks:=h.go k λx hx=>adK
theorem Fz.c(h:Fz (b::bs) w w1 ks)(k:aA [b] w1 w2):Fz (b::bs) w w2 ks:=h.go k λx hx=>.inl aa8
theorem Fz.f(h:Fz bs w w1 ks)(k:aA [k0] w1 w2)(hk:k0∈ks):Fz bs w w2 ks:=h.go k λx hx=>.inr (by simp at hx;rw[hx];exact hk)
theorem Fz.al(h:Fz bs w w1 ks)(k:aA [] w1 w2)(h1:w1.heap.size<=k0)(h2:k0<w2.heap.size):Fz bs w w2 (k0::ks):=
 ⟨(h.q k).o,λx hx=>by
  rcases aV.1 hx with rfl | hx
  ·exact⟨bf h.o.size h1,h2⟩
  exact(h.q k).k x hx,h.lo⟩
theorem Fz.sm(h:Fz bs w w1 ks)(k:aA bs' w1 w2)(hk:∀x,x∈ks'->x∈ks)(hb:∀x,x∈bs'->x∈bs∨∀y,y∈ks'->y≠x):ci ks' w1 w2:=k.same λx hx=>
 ⟨(h.k x (hk x hx)).2,λhm=>by
  rcases hb x hm with h1 | h1
  ·have:=(h.k x (hk x hx)).1;have:=h.lo x h1;omega
  exact h1 x hx rfl⟩
theorem Fz.sq(h:Fz bs w w1 ks)(k:aA [] w1 w2)(hk:∀x,x∈ks'->x∈ks):ci ks' w1 w2:=h.sm k hk λx hx=>adK
theorem Fz.sc(h:Fz (b::bs) w w1 ks)(k:aA [b] w1 w2)(hk:∀x,x∈ks'->x∈ks):ci ks' w1 w2:=h.sm k hk λx hx=>.inl aa8
theorem Fz.ne(h:Fz bs w w1 ks)(hk:k0∈ks)(hb:b∈bs):k0≠b:=λe=>by
 have:=(h.k k0 hk).1;have:=h.lo b hb;omega
end
section
variable {α:Type} {r:Rp α} {w w1 w':ay} {x:α} {cs:aK} {B:Nat}
structure Stay (B:Nat) (w w':ay):Prop where
 sz:w.heap.size<=w'.heap.size
 eq:∀k,B<=k->k<w.heap.size->w'.heap[k]? =w.heap[k]?
theorem Stay.refl B w:Stay B w w:=⟨ba _,λ_ _ _=>rfl⟩
theorem Stay.go{bs}(h:Stay B w w1)(k:aA bs w1 w')(hb:∀x,x∈bs->x<B∨w.heap.size<=x):Stay B w w':=
 ⟨bf h.sz k.size,λi h1 h2=>(k.block i (cq h2 h.sz) λhm=>by have:=hb i hm;omega).trans (h.eq i h1 h2)⟩
theorem Stay.of{bs}(k:aA bs w w')(hb:∀x,x∈bs->x<B∨w.heap.size<=x):Stay B w w':=(Stay.refl B w).go k hb
theorem _root_.Go.Kt.Rp.Ok.stay(hr:r.Ok)(h:r w (Fr B) x cs)(hs:Stay B w w'):r w' (Fr B) x cs:=
 hr.mono (hr.keep (hr.inHeap h) λk hk bT=>hs.eq k hk.1 bT) λk hk=>hk.1
theorem _root_.Go.Kt.Rp.Ok.low(hr:r.Ok)(h:r w (Fr B) x cs){A}(hA:A<=B):r w (Fr A) x cs:=hr.mono h λk hk=>bf hA hk
variable {size:Nat} {e:TypeId} {s:Sl} {xs:List α} {t:Bool}
theorem j5.stay(hr:r.Ok)(h:j5 t r size e w (Fr B) s xs)(h0:0<size)(hs:Stay B w w'):j5 t r size e w' (Fr B) s xs:=
 ((h.inHeap hr h0).keep hr h0 λk hk bT=>hs.eq k hk.1 bT).mono hr λk hk=>hk.1
theorem j5.low(hr:r.Ok)(h:j5 t r size e w (Fr B) s xs){A}(hA:A<=B):j5 t r size e w (Fr A) s xs:=h.mono hr λk hk=>bf hA hk
end
abbrev Zm(l:Sl)(s:Sx):aK:=[l.v,O ae s.i,O ae s.fc,O ae s.fa,O ae s.v,O ae s.n,O ae s.d,O ae s.m,O ae s.a]
structure Sr (F:aL) (ts:List Tk) (w:ay) (b:Nat) (l:Sl) (s:Sx):Prop where
 blk:aH w b 153 (Zm l s)
 tok:aD Oy 4 w F l ts
 hF:∀k,F k->k<b
 en:xO ts
 lt:s.i<ts.length
 sm:ts.length<=16777216
abbrev rp(b:Nat):az:=ai (some ⟨b,0,none⟩)
section
variable {F:aL} {ts:List Tk} {w w':ay} {b:Nat} {l:Sl} {s s':Sx}
theorem Sr.own(h:Sr F ts w b l s){bs}(hO:aA bs w w')(hb:∀x,x∈bs->b<x):Sr F ts w' b l s:=
 ⟨hO.blk h.blk λhm=>(by have:=hb b hm;omega),SliceF.only jR aN h.tok hO λk hk _ hm=>(by have:=h.hF k hk;have:=hb k hm;omega),h.hF,h.en,h.lt,h.sm⟩
theorem Sr.far(h:Sr F ts w b l s){bs}(hO:aA bs w w')(hb:∀x,x∈bs->x≠b/\¬F x):Sr F ts w' b l s:=
 ⟨hO.blk h.blk λhm=>(hb b hm).1 rfl,SliceF.only jR aN h.tok hO λk hk _ hm=>(hb k hm).2 hk,h.hF,h.en,h.lt,h.sm⟩
theorem Sr.acp(h:Sr F ts w b l s){k0}(hO:aA [k0] w w')(hk:k0≠b/\¬F k0):Sr F ts w' b l s:=h.far hO λx hx=>(by simp at hx;subst hx;exact hk)
theorem Sr.gt(h:Sr F ts w b l s){x}(hx:b<x):x≠b/\¬F x:=⟨aG,λhF=>by have:=h.hF x hF;omega⟩
theorem Sr.only(h:Sr F ts w b l s)(hO:aA [] w w'):Sr F ts w' b l s:=h.own hO λx hx=>adK
theorem Sr.one(h:Sr F ts w b l s){k0}(hO:aA [k0] w w')(hk:b<k0):Sr F ts w' b l s:=h.own hO λx hx=>(by simp at hx;omega)
theorem Sr.nZ(h:Sr F ts w b l s)(hO:aA [b] w w')(hB:aH w' b 153 (Zm l s'))(hi:s'.i<ts.length):Sr F ts w' b l s':=
 ⟨hB,SliceF.only jR aN h.tok hO λk hk _ hm=>(by have:=h.hF k hk;simp at hm;omega),h.hF,h.en,hi,h.sm⟩
theorem Sr.lb(h:Sr F ts w b l s):b<w.heap.size:=h.blk.lt
theorem Sr.z(h:Sr F ts w b l s):Fz [b] w w []:=Fz.start λx hx=>(by simp at hx;rw[hx];exact h.lb)
theorem Sr.big(h:Sr F ts w b l s):ts.length<=9223372036854775807:=by
 have h1:=h.tok.len;have h2:=h.tok.cap;have h3:=h.tok.big;omega
theorem Sr.wr(h:Sr F ts w b l s):av ae (s.i+1)=((s.i+1:Nat)):=by
 have:=h.big;have:=h.lt;rw[gx aG aG];rfl
theorem Sr.now(h:Sr F ts w b l s):∃ad,dE l s.i 4 ad/\aE w ad [O ae (tk ts s.i).k,ah (T (tk ts s.i).t),O ae (tk ts s.i).n,O ae (tk ts s.i).a]:=by
 have hl:=h.tok.len;have bT:=h.lt;obtain⟨ad,x,cs,g1,g2,g3,g4,g5,g6⟩:=h.tok.get (bD s.i) aG;rw[aU,L0 h.lt]at g2;injection g2 with g2;subst g2;subst g6;exact⟨ad,g1,g5⟩
structure Dn (F:aL) (ts:List Tk) (w w':ay) (b:Nat) (l:Sl) (s:Sx):Prop where
 o:aA [b] w w'
 r:Sr F ts w' b l s
theorem Sr.dn(h:Sr F ts w b l s):Dn F ts w w b l s:=⟨Only.refl _ _,h⟩
theorem Dn.q(h:Dn F ts w w' b l s){w2}(k:aA [] w' w2):Dn F ts w w2 b l s:=⟨h.o.cr k,h.r.only k⟩
theorem Dn.nx(h:Dn F ts w w' b l s){w2}{s'}(k:Dn F ts w' w2 b l s'):Dn F ts w w2 b l s':=⟨h.o.trans k.o λx hx=>.inl hx,k.r⟩
theorem Dn.f(h:Dn F ts w w' b l s){w2}{k0}(k:aA [k0] w' w2)(hk:w.heap.size<=k0)(hb:b<w.heap.size):Dn F ts w w2 b l s:=⟨h.o.new k hk,h.r.one k aG⟩
theorem Sr.tk(h:Sr F ts w b l s){ad}(g:dE l s.i 4 ad):aE w ad [O ae (tk ts s.i).k,ah (T (tk ts s.i).t),O ae (tk ts s.i).n,O ae (tk ts s.i).a]:=by
 obtain⟨FV,g1,g2⟩:=h.now;rw[g.aoi g1];exact g2
structure Zt (F:aL) (ts:List Tk) (w w':ay) (b:Nat) (l:Sl) (s:Sx) (ks:List Nat):Prop where
 z:Fz [b] w w' ks
 r:Sr F ts w' b l s
section
variable {w2:ay} {ks ks':List Nat} {k0:Nat}
theorem Sr.zt(h:Sr F ts w b l s):Zt F ts w w b l s []:=⟨h.z,h⟩
theorem Zt.q(h:Zt F ts w w' b l s ks)(k:aA [] w' w2):Zt F ts w w2 b l s ks:=⟨h.z.q k,h.r.only k⟩
theorem Zt.al(h:Zt F ts w w' b l s ks)(k:aA [] w' w2)(h1:w'.heap.size<=k0)(h2:k0<w2.heap.size):Zt F ts w w2 b l s (k0::ks):=⟨h.z.al k h1 h2,h.r.only k⟩
theorem Zt.ad(h:Zt F ts w w' b l s ks)(h1:w.heap.size<=k0)(h2:k0<w'.heap.size):Zt F ts w w' b l s (k0::ks):=⟨⟨h.z.o,λx hx=>by
 rcases aV.1 hx with rfl | hx
 ·exact⟨h1,h2⟩
 exact h.z.k x hx,h.z.lo⟩,h.r⟩
theorem Zt.lt(h:Zt F ts w w' b l s ks)(hk:k0∈ks):b<k0:=cq (h.z.lo b aac) (h.z.k k0 hk).1
theorem Zt.f(h:Zt F ts w w' b l s ks)(k:aA [k0] w' w2)(hk:k0∈ks):Zt F ts w w2 b l s ks:=⟨h.z.f k hk,h.r.one k (h.lt hk)⟩
theorem Zt.nx(h:Zt F ts w w' b l s ks)(k:Dn F ts w' w2 b l s'):Zt F ts w w2 b l s' ks:=⟨h.z.c k.o,k.r⟩
theorem Zt.dn(h:Zt F ts w w' b l s ks):Dn F ts w w' b l s:=⟨h.z.o,h.r⟩
theorem Zt.up(h:Zt F ts w w' b l s ks)(k:aA [b] w' w2)(hB:aH w2 b 153 (Zm l s'))(hi:s'.i<ts.length):Zt F ts w w2 b l s' ks:=⟨h.z.c k,h.r.nZ k hB hi⟩
theorem Zt.sq(h:Zt F ts w w' b l s ks)(k:aA [] w' w2)(hk:∀x,x∈ks'->x∈ks):ci ks' w' w2:=h.z.sq k hk
theorem Zt.sc(h:Zt F ts w w' b l s ks)(k:Dn F ts w' w2 b l s')(hk:∀x,x∈ks'->x∈ks):ci ks' w' w2:=h.z.sc k.o hk
theorem Zt.row{gs}(h:Zt F ts w w' b l s ks)(k:aA gs w' w2)(hg:∀x,x∈gs->w.heap.size<=x):Zt F ts w w2 b l s ks:=⟨h.z.new k λx hx=>.inr (hg x hx),h.r.own k λx hx=>cq (h.z.lo b aac) (hg x hx)⟩
theorem Zt.sr{gs}(h:Zt F ts w w' b l s ks)(k:aA gs w' w2)(hk:∀x,x∈ks'->x∈ks)(hg:∀x,x∈gs->∀y,y∈ks'->y<x):ci ks' w' w2:=h.z.sm k hk λx hx=>.inr λy hy e=>by have:=hg x hx y hy;omega
theorem Zt.ne(h:Zt F ts w w' b l s ks)(hk:k0∈ks):k0≠b:=h.z.ne hk aac
theorem Stay.q{B}(h:Stay B w w')(k:aA [] w' w2):Stay B w w2:=h.go k λx hx=>adK
theorem Stay.d{B}(h:Stay B w w')(k:Dn F ts w' w2 b l s')(hb:b<B):Stay B w w2:=h.go k.o λx hx=>.inl (by simp at hx;omega)
theorem Stay.f{B}(h:Stay B w w')(k:aA [k0] w' w2)(hk:k0<B∨w.heap.size<=k0):Stay B w w2:=h.go k λx hx=>(by simp at hx;subst hx;exact hk)
end
theorem mF(h:Sr F ts w b l s):aB au 93 #[rp b] w λe w'=>e=aq (ao (s.fc==0))/\aA [] w w':=by
 exact ret (agt _ _ w ⟨s.fc,Blk.eh h.blk 2 rfl,rfl,Only.refl _ _⟩)
theorem zR(h:Sr F ts w b l s) c:aB au 129 #[rp b,O ae c] w λe w'=>e=aq (ak #[])/\Dn F ts w w' b l (iw ts s c):=by
 refine ret (agv _ _ _ _ ?_);refine(mF h).mono ?_;rintro _ w0 ⟨rfl,cO⟩;refine⟨_,rfl,λhc w1 cG=>?_,λhc=>?_⟩
 ·have hc:=aai
  have h1:=h.only (cO.cr cG);obtain⟨ad,g1,g2⟩:=h1.now;refine⟨l,Blk.eh h1.blk 0 rfl,_,Blk.eh h1.blk 1 rfl,ad,g1,_,g2.eh 3 _ rfl,b,2,_,_,rfl,h1.blk,aac,λw2 dk pF=>⟨rfl,((cO.cr cG).weaken (bs':=[b]) λ_ h=>aal).trans dk λx hx=>.inl hx,?_⟩⟩;unfold iw;rw[bc hc];exact h1.nZ (s':={s with fc:=c,fa:=(tk ts s.i).a}) dk pF h.lt
 unfold iw;rw[aY aai];exact⟨rfl,h.dn.q cO⟩
theorem tI(h:Sr F ts w b l s):aB au 94 #[rp b] w λe w'=>e=aq (ak #[])/\Dn F ts w w' b l (lj ts s):=by
 refine ret (agu _ _ _ ?_);obtain⟨ad,g1,g2⟩:=h.now;refine⟨λw'=>Dn F ts w w' b l (if(tk ts s.i).k=5 then iw ts s 3 else s),λw0 h0=>(zR h0.r 4).mono ?_,l,Blk.eh h.blk 0 rfl,_,Blk.eh h.blk 1 rfl,ad,g1,_,g2.eh 0 _ rfl,λhc w2 dk=>?_,λhc w2 dk=>?_⟩
 ·rintro _ w1 ⟨rfl,h1⟩;refine⟨rfl,rfl,h0.nx ?_⟩;unfold lj;split at h1
  ·rename_i e;rw[bc e];exact h1
  rename_i e;rw[aY e];exact h1
 ·refine(zR (h.only dk) 3).mono ?_;rintro _ w3 ⟨rfl,h3⟩;have hc:=aai
  refine⟨rfl,?_⟩;rw[bc hc];exact(h.dn.q dk).nx h3
 rw[aY aai];exact h.dn.q dk
theorem ahq{s}{w}{G}{l}(h:aD lD 1 w G s l) c:
  aB au 170 #[Sl.v s,ah (T c)] w λr w'=>r=aq (O ae (if uS c l<l.length then uS c l else -1))/\w'=w:=by
 refine ret (Y3 _ _ _ _ ?_);have fy:=h.len;have qR:=h.big;have lI:=h.cap;refine⟨λnv i w'=>∃n,n<=l.length/\i=n/\nv=l.length-n/\uS c l=n+uS c (l.drop n)/\w'=w,l.length,⟨0,bh _,rfl,rfl,by rw[fx,bO],rfl⟩,?_⟩;rintro nv _ _ ⟨n,hn,rfl,rfl,hp,rfl⟩;refine⟨λhc=>?_,λhc=>?_⟩
 ·have bT:=aP hc;obtain⟨ad,x,cs,g1,g2,g3,g4,g5,g6⟩:=h.get (bD n) bT;rw[aU]at g2;subst g6;have hd:l.drop n=x::l.drop (n+1):=by rw[fM (aZ.1 g2).1,(aZ.1 g2).2]
  rw[hd,uS]at hp;refine⟨ad,g1,_,g5,?_⟩;dsimp only;rw[mM];refine⟨λhe=>⟨?_,rfl⟩,λhe=>⟨l.length-_,aG,n+1,aG,aad,rfl,?_,rfl⟩⟩
  ·have he:=aP he;rw[bc he]at hp;rw[bc aG,hp,fJ]
  rw[aY (aX he)]at hp;omega
 have lz:=aX hc;rw[aY aG];exact⟨rfl,rfl⟩
theorem Bp(h:Sr F ts w b l s){G}{q}{ss}(hs:aD lD 1 w G q ss):aB au 131 #[rp b,q.v] w λe w'=>e=aq (O ae (dr ts s ss))/\aA [] w w':=by
 refine ret (ags _ _ _ _ ?_);intro w0 cO;have h0:=h.only cO;obtain⟨ad,g1,g2⟩:=h0.now;refine⟨λ_=>True,trivial,l,Blk.eh h0.blk 0 rfl,trivial,_,Blk.eh h0.blk 1 rfl,ad,g1,trivial,_,_,_,_,g2,λk0 w1 hk iJ cG=>?_⟩;refine(mF (h0.only cG)).mono ?_;rintro _ w2 ⟨rfl,dk⟩;have pS:=(cO.cr cG).cr dk;have QD:((!(s.fc==0))||(((tk ts s.i).k !=2)&&((tk ts s.i).k !=4)))=decide (s.fc≠0∨((tk ts s.i).k≠2/\(tk ts s.i).k≠4)):=by
  rw[bW];simp
 refine⟨_,rfl,dk.same aae,?_⟩;dsimp only;rw[QD];refine⟨λhc=>?_,λhc=>?_⟩
 ·unfold dr;rw[bc (aP hc)];exact⟨rfl,pS⟩
 refine(ahq (SliceF.only dJ aN hs pS aac) (tk ts s.i).t).mono ?_;rintro _ w3 ⟨rfl,rfl⟩;refine⟨_,rfl,ci.refl _ _,?_,pS⟩;unfold dr;rw[aY (aX hc)];have hl:=hs.len;have hb:=hs.big;have hcp:=hs.cap;split
 ·rw[gx aG aG];rfl
 rfl
theorem MD(h:Sr F ts w b l s) ss {n} {parts} (hp:parts=(((ss.map λx=>Value.string (T x)).zipIdx 0).map λx=>(x.2,x.1)).toArray) (hn:ss.length=n) (h0:0<n) (CK:n*1<=16777216):
  ∃(q:Sl) (w0:ay),(aw 132 n parts).run au w=.ok q.v w0/\aA [] w w0/\aB au 131 #[rp b,q.v] w0 λe w'=>e=aq (O ae (dr ts s ss))/\aA [] w0 w':=by
 obtain⟨q,w0,k1,k2,k3⟩:=oy w ss hp hn h0 CK;exact⟨q,w0,k1,k3,Bp (h.only k3) (wj k2)⟩
theorem WU(h:Sr F ts w b l s){G}{q}{ss}(hs:aD lD 1 w G q ss):aB au 90 #[rp b,q.v] w λe w'=>e=aq (O ae (dr ts s ss))/\Dn F ts w w' b l (if dr ts s ss=0 then s else dM s):=by
 refine ret (agr _ _ _ _ ?_);refine(Bp h hs).mono ?_;rintro _ w0 ⟨rfl,cO⟩;have h0:=h.only cO;refine⟨_,rfl,λw'=>Dn F ts w w' b l _,λw1 h1=>⟨rfl,h1⟩,λhc=>?_,λhc=>?_⟩
 ·have hc:dr ts s ss≠0:=abp
  refine⟨_,Blk.eh h0.blk 1 rfl,b,1,_,_,rfl,h0.blk,aac,λw2 dk pF=>?_⟩;rw[aY hc];rw[h.wr]at pF;exact⟨(cO.weaken (bs':=[b]) λ_ h=>aal).trans dk λx hx=>.inl hx,h0.nZ (s':=dM s) dk pF (h.en.next h.lt (dA hc).2)⟩
 have hc:dr ts s ss=0:=aby
 rw[bc hc];exact h.dn.q cO
theorem Dr(h:Sr F ts w b l s) ss {n} {parts} (hp:parts=(((ss.map λx=>Value.string (T x)).zipIdx 0).map λx=>(x.2,x.1)).toArray) (hn:ss.length=n) (h0:0<n) (CK:n*1<=16777216):
  ∃(q:Sl) (w0:ay),(aw 132 n parts).run au w=.ok q.v w0/\aA [] w w0/\aB au 90 #[rp b,q.v] w0 λe w'=>e=aq (O ae (dr ts s ss))/\Dn F ts w0 w' b l (if dr ts s ss=0 then s else dM s):=by
 obtain⟨q,w0,k1,k2,k3⟩:=oy w ss hp hn h0 CK;exact⟨q,w0,k1,k3,WU (h.only k3) (wj k2)⟩
theorem ME(h:Sr F ts w b l s){G}{q}{x}(hs:aD lD 1 w G q [x])(hG:∀k,G k->k≠b):aB au 88 #[rp b,q.v] w λe w'=>e=aq (ak #[])/\Dn F ts w w' b l (eW ts s x):=by
 refine ret (agq _ _ _ _ ?_);have hn:q.n=1:=hs.len;refine⟨λnv i w'=>(i=0/\nv=1/\w'=w)∨(i=1/\nv=0/\Dn F ts w w' b l (eW ts s x)),1,.inl ⟨rfl,rfl,rfl⟩,?_⟩;rintro nv i w0 (⟨rfl,rfl,rfl⟩ | ⟨rfl,rfl,hD⟩)
 ·refine⟨λ_=>?_,λhc=>absurd (aX hc) aG⟩;refine⟨λw'=>Dn F ts w0 w' b l _,λw1 h1=>⟨0,aN,.inr ⟨rfl,rfl,h1⟩⟩,?_⟩;obtain⟨ad,y,cs,g1,g2,g3,g4,g5,g6⟩:=hs.get (i:=0) aN aG;simp at g2;subst g2;subst g6;obtain⟨q0,w2,k1,k2,k3⟩:=Dr h [x] (n:=1) (parts:=#[_]) rfl rfl aN aN;refine⟨ad,g1,_,g5,q0,w2,k1,k3.mono ?_⟩;rintro _ w3 ⟨rfl,h3⟩;have h03:=(h.dn.q k2).nx h3;refine⟨_,rfl,λhc=>?_,λhc=>?_⟩
  ·have hc:dr ts s [x]=0:=by have:=aai;omega
   rw[bc hc]at h03;refine(tI h03.r).mono ?_;rintro _ w4 ⟨rfl,h4⟩;refine⟨rfl,?_⟩;unfold eW;rw[bc hc];exact h03.nx h4
  have hc:dr ts s [x]≠0:=λe=>by rw[e]at hc;simp at hc
  rw[aY hc]at h03;unfold eW;rw[aY hc];exact h03
 exact⟨λhc=>absurd (aP hc) aG,λ_=>⟨rfl,hD⟩⟩
theorem qC(h:Sr F ts w b l s) x:∃(q:Sl) (w0:ay),(aw 132 1 #[.mk 0 (ah (T x))]).run au w=.ok q.v w0/\aA [] w w0/\aB au 88 #[rp b,q.v] w0 λe w'=>e=aq (ak #[])/\Dn F ts w0 w' b l (eW ts s x):=by
 obtain⟨q,w0,k1,k2,k3⟩:=oy w [x] (n:=1) (parts:=#[_]) rfl rfl aN aN;exact⟨q,w0,k1,k3,ME (h.only k3) (wj k2) λk hk e=>(by have:=hk.1;have:=h.lb;omega)⟩
theorem wx(h:Sr F ts w b l s){k}(CN:k≠5):aB au 130 #[rp b,O ae k] w λe w'=>e=aq (ix ts s k).1.v/\Dn F ts w w' b l (ix ts s k).2:=by
 refine ret (agy _ _ _ _ ?_);intro k0 w0 hk iJ cO;have h0:=h.only cO;obtain⟨ad,g1,g2⟩:=h0.now;refine⟨λ_=>True,trivial,l,Blk.eh h0.blk 0 rfl,trivial,_,Blk.eh h0.blk 1 rfl,ad,g1,trivial,_,_,_,_,g2,λk1 w1 kc jO cG=>?_⟩;have z1:=(h.z.al cO hk iJ).al cG kc jO;refine(mF (h0.only cG)).mono ?_;rintro _ w2 ⟨rfl,dk⟩;have z2:=z1.q dk;have hl:=h.lb;have d2:=h.dn.q ((cO.cr cG).cr dk);have QD:((!(s.fc==0))||((tk ts s.i).k !=k))=decide (s.fc≠0∨(tk ts s.i).k≠k):=by
  rw[bW];simp
 refine⟨_,rfl,z1.sq dk aac,?_⟩;dsimp only;rw[QD];refine⟨λhc=>(tI d2.r).mono ?_,λhc=>?_⟩
 ·rintro _ w3 ⟨rfl,h3⟩;refine⟨rfl,z2.sc h3.o aac,λw4 dK=>?_⟩;unfold ix;rw[bc (aP hc)];exact⟨rfl,(d2.nx h3).f dK hk hl⟩
 refine⟨_,Blk.eh d2.r.blk 1 rfl,b,1,_,_,rfl,d2.r.blk,aac,z2.ne aac aac,z2.ne aac aac,λw5 eJ xb w6 eH=>?_⟩;have hc:=aX hc;unfold ix;rw[aY hc];simp at hc;rw[h.wr]at xb;have d5:Dn F ts w w5 b l (dM s):=⟨d2.o.trans eJ λx hx=>.inl hx,d2.r.nZ eJ xb (h.en.next h.lt (by rw[hc.2];exact CN))⟩
 exact⟨rfl,d5.f eH hk hl⟩
theorem wz(h:Sr F ts w b l s):aB au 172 #[rp b] w λe w'=>e=aq (ah (T (jH ts s).1))/\Dn F ts w w' b l (jH ts s).2:=by
 refine ret (agD _ _ _ ?_);refine(wx h (k:=1) aN).mono ?_;rintro _ w0 ⟨rfl,h0⟩;exact⟨_,_,_,_,rfl,rfl,h0⟩
theorem _root_.Go.Kt.Blk.Qm{w}{b}{t}{cs}{v}(h:aH w b t cs) j (hx:cs[j]? =some v):aE w ⟨b,j,none⟩ [v]:=by
 have:=Blk.eh h j hx;rwa[fP,bO]at this
theorem Fh(h:Sr F ts w b l s) j x c u (hx:(Zm l s)[j]? =some (.int ae x)) (yX:(Zm l (iw ts s c))[j]? =some (.int ae x)) (hui:u.i=s.i)
  (hu:Zm l u=cz (Zm l (if x=0 then iw ts s c else s)) j [O ae (zO x)]):aB au 128 #[rp b,ai (some ⟨b,j,none⟩),O ae c] w λe w'=>e=aq (ak #[])/\Dn F ts w w' b l u:=by
 refine ret (agx _ _ _ _ _ ?_);refine⟨λw'=>Dn F ts w w' b l (if x=0 then iw ts s c else s),λw0 h0=>?_,_,rfl,x,Blk.Qm h.blk j hx,λhc=>?_,λhc=>?_⟩
 ·refine⟨_,rfl,x,Blk.Qm h0.r.blk j (by split<;>assumption),_,rfl,b,j,_,_,rfl,h0.r.blk,(aZ.1 hx).1,λw1 cG u7=>⟨rfl,h0.o.trans cG λx hx=>.inl hx,h0.r.nZ cG (s':=u) ?_ (by rw[hui];exact h.lt)⟩⟩;rw[hu];exact u7
 ·refine(zR h c).mono ?_;rintro _ w2 ⟨rfl,h2⟩;have hc:=aai
  rw[bc hc];exact⟨rfl,h2⟩
 rw[aY aai];exact h.dn
theorem abG(h:Sr F ts w b l s):aB au 128 #[rp b,ai (some ⟨b,8,none⟩),O ae 2] w λe w'=>e=aq (ak #[])/\Dn F ts w w' b l (vw ts s):=
 Fh h 8 s.a 2 _ rfl ac7 (E2 s) (by unfold vw iw;split<;>(try split)<;>rfl)
theorem abH(h:Sr F ts w b l s):aB au 128 #[rp b,ai (some ⟨b,7,none⟩),O ae 2] w λe w'=>e=aq (ak #[])/\Dn F ts w w' b l (tC ts s):=
 Fh h 7 s.m 2 _ rfl ac7 (E3 s) (by unfold tC iw;split<;>(try split)<;>rfl)
theorem abI(h:Sr F ts w b l s):aB au 128 #[rp b,ai (some ⟨b,5,none⟩),O ae 2] w λe w'=>e=aq (ak #[])/\Dn F ts w w' b l (Hv ts s):=
 Fh h 5 s.n 2 _ rfl ac7 (by unfold Hv;split;exact EX 2;rfl) (by unfold Hv iw;split<;>(try split)<;>rfl)
theorem abJ(h:Sr F ts w b l s):aB au 128 #[rp b,ai (some ⟨b,4,none⟩),O ae 2] w λe w'=>e=aq (ak #[])/\Dn F ts w w' b l (Hw ts s):=
 Fh h 4 s.v 2 _ rfl ac7 (by unfold Hw;split;exact EX 2;rfl) (by unfold Hw iw;split<;>(try split)<;>rfl)
theorem MF(h:Sr F ts w b l s):aB au 195 #[rp b] w λe w'=>∃cs,e=aq (aj cs.toArray)/\rE true w' (Fr w.heap.size) (qu ts s).1 cs/\Dn F ts w w' b l (qu ts s).2:=by
 refine(agE ⟨b,0,none⟩ (λv w'=>∃cs,v=(aj cs.toArray)/\rE true w' (Fr w.heap.size) (qu ts s).1 cs/\Dn F ts w w' b l (qu ts s).2) w ?_).mono (by
  rintro e w' ⟨v,rfl,cs,rfl,h⟩;exact⟨cs,rfl,h⟩)
 intro k0 w0 hk iJ cO;have hl:=h.lb;have z0:=h.z.al cO hk iJ;refine(mF (h.only cO)).mono ?_;rintro _ w1 ⟨rfl,cG⟩;have z1:=z0.q cG;have d1:=h.dn.q (cO.cr cG);refine⟨_,rfl,z0.sq cG aac,λhc w2 dk=>?_,λhc w3 dz=>?_⟩
 ·have hc:s.fc≠0:=aai
  unfold qu;rw[bc hc];exact⟨_,rfl,rE0 _ _ _,d1.f dk hk hl⟩
 have hc:¬s.fc≠0:=aai
 have z3:=z1.q dz;have d3:=d1.q dz;refine⟨λk=>k=b,λw4 dK=>⟨rfl,l,Blk.eh (d3.q dK).r.blk 0 rfl,λw5 eJ=>⟨rfl,_,Blk.eh ((d3.q dK).q eJ).r.blk 1 rfl,λw6 eH=>?_⟩⟩⟩;have z6:=((z3.q dK).q eJ).q eH;have d6:=((d3.q dK).q eJ).q eH;have hb6:=d6.r.big;have bT:=h.lt;refine(L5 d6.r.tok s.i ⟨aG,aG⟩).mono ?_;rintro _ w7 ⟨cs,rfl,hX,hj,fN⟩;have d7:=d6.q fN;obtain⟨sl,oP,_⟩:=hX.cells;have hsz:w3.heap.size<=w6.heap.size:=((dK.cr eJ).cr eH).size;refine⟨_,_,_,_,sl,_,_,_,_,by rw[oP],z6.sq fN aac,nH.NE fN,bS.only fN,λw8 fX k1 kc jO Ja=>?_⟩;obtain⟨d,hX⟩:=hX.xg;have hx7:rE true w7 (λk=>w6.heap.size<=k/\k<w7.heap.size) (dI ts s.i).1 cs:=⟨d,hX⟩
 have axD:=bf z3.o.size kc;have axE:=aG
 have d8:=d7.q fX;have zz6:=z6.o.size;have zz0:=z0.k k0 aac;have zw0:=((cG.cr dz).cr ((dK.cr eJ).cr eH)).size;have hx8:∀{bs:List Nat} {w9:ay},aA bs w8 w9->(∀x,x∈bs->x=k1∨x=k0∨x=b)->rE true w9 (Fr w.heap.size) (dI ts s.i).1 cs:=λgH hb9=>
  (jm true).mono ((jm true).keep hx7 λk F6 bT=>(gH.block k (cq bT fX.size) λhm=>by
   rcases hb9 k hm with rfl | rfl | rfl
   ·have:=Ja.one;omega
   ·omega
   omega).trans (fX.block k bT aac)) λk F6=>by have:=F6.1;show w.heap.size<=k;omega
 unfold qu;rw[aY hc];refine⟨λh1 w9 gH=>?_,λh1 eT fk=>?_⟩
 ·have h1:(dI ts s.i).2.2.1≠0:=abB
  have d9:Dn F ts w w9 b l s:=⟨d8.o.trans gH λx hx=>.inr aam,d8.r.own gH λx hx=>aam⟩
  refine⟨b,2,_,_,rfl,d9.r.blk,aac,aG,aG,λdL dW uJ dN dX=>?_⟩;rw[bc h1];have d10:Dn F ts w dL b l {s with fc:=(dI ts s.i).2.2.1,fa:=(dI ts s.i).2.2.2}:=⟨d9.o.trans dW λx hx=>.inl hx,d9.r.nZ dW uJ h.lt⟩
  refine⟨cs,by rw[oP],?_,d10.f dX hk hl⟩;exact hx8 (bs:=[k1,k0,b]) (((gH.weaken (bs':=[k1,k0,b]) λx hx=>.inl abS).trans dW λx hx=>.inl aa8).trans dX λx hx=>.inl aan) aac
 have h1:¬(dI ts s.i).2.2.1≠0:=abB
 have d12:Dn F ts w eT b l s:=⟨d8.o.trans fk λx hx=>.inr aam,d8.r.own fk λx hx=>aam⟩
 obtain⟨Yp,Qq⟩:=hj abB;have ej:((dI ts s.i).2.1.toNat)=(dI ts s.i).2.1:=jV Yp;refine⟨b,1,_,_,rfl,d12.r.blk,aac,aG,aG,λfI ez Cf fS ey=>?_⟩;rw[aY h1];have d13:Dn F ts w fI b l {s with i:=(dI ts s.i).2.1.toNat}:=⟨d12.o.trans ez λx hx=>.inl hx,d12.r.nZ ez (by dsimp only[Zm];rw[ej];exact Cf) aaw⟩
 refine⟨cs,by rw[oP],?_,d13.f ey hk hl⟩;exact hx8 (bs:=[k1,k0,b]) (((fk.weaken (bs':=[k1,k0,b]) λx hx=>.inl (by simp at hx⊢;omega)).trans ez λx hx=>.inl (by simp[aO]at hx;simp[hx])).trans ey λx hx=>.inl (by simp[aO]at hx;simp[hx])) aac
end
theorem ahr{n:Nat}(h:((n:Int)==0)=true):n=0:=aaA
theorem ahs{n:Nat}(h:((n:Int)==0)=false):n≠0:=λe=>by rw[e]at h;simp at h
theorem OQ{n:Nat}(h:decide ((n:Int)>0)=false):n=0:=by have:=aX h;omega
theorem OS{n:Nat}(h:decide ((n:Int)>0)=true):n≠0:=by have:=aP h;omega
section
variable {F:aL} {ts:List Tk} {w w':ay} {b:Nat} {l:Sl} {s s':Sx}
theorem abK(h:Sr F ts w b l s):aB au 198 #[rp b] w λe w'=>∃cs,e=aq (aj cs.toArray)/\uT true w' (Fr w.heap.size) (sA ts s).1 cs/\Dn F ts w w' b l (sA ts s).2:=by
 refine(agJ ⟨b,0,none⟩ (λv w'=>∃cs,v=(aj cs.toArray)/\uT true w' (Fr w.heap.size) (sA ts s).1 cs/\Dn F ts w w' b l (sA ts s).2) w ?_).mono (by
  rintro e w' ⟨v,rfl,cs,rfl,h⟩;exact⟨cs,rfl,h⟩)
 intro k0 w0 hk iJ cO;have t0:=h.zt.al cO hk iJ;obtain⟨ad,g1,_⟩:=h.now;refine⟨λ_=>True,λw1 cG=>⟨trivial,l,Blk.eh (t0.q cG).r.blk 0 rfl,λw2 dk=>⟨trivial,_,Blk.eh ((t0.q cG).q dk).r.blk 1 rfl,ad,g1,λw3 dz=>?_⟩⟩⟩;have t3:=((t0.q cG).q dk).q dz;refine⟨trivial,_,(t3.r.tk g1).eh 3 _ rfl,λw4 dK=>?_⟩;have t4:=t3.q dK;obtain⟨q,w5,e1,ny,eJ⟩:=oy w4 [uE,lk,nL] (n:=3) (parts:=#[(0,ah (T uE)),(1,ah (T lk)),(2,ah (T nL))]) rfl rfl aN aN;refine⟨q,w5,e1,t4.sq eJ aac,nH.NE eJ,bS.only eJ,λw6 eH=>?_⟩;have t6:=(t4.q eJ).q eH;refine(Bp t6.r (SliceF.only dJ aN (wj ny) eH aac)).mono ?_;rintro _ w7 ⟨rfl,fN⟩;have t7:=t6.q fN;refine⟨_,rfl,t6.sq fN aac,nH.NE fN,bS.only fN,λw8 fX k1 kc jO Ja=>?_⟩;have t8:=(t7.q fX).ad (bf t0.z.o.size kc) jO;refine⟨λhc w9 gH=>?_,λhc eT fk=>?_⟩
 ·have t9:=t8.f gH aac;refine(tI t9.r).mono ?_;rintro _ dL ⟨rfl,UM⟩;refine⟨rfl,t9.sc UM aac,λdN dX=>?_⟩;have hc:=ahr hc;unfold sA;rw[bc hc,hc];exact⟨_,rfl,⟨tB 0 0 [] 0 Sl.nil 0,rfl,rE0 _ _ _⟩,((t9.nx UM).f dX aac).dn⟩
 have hc:=ahs hc;have t12:=t8.f fk aac;refine(abG t12.r).mono ?_;rintro _ fI ⟨rfl,vI⟩;have t13:=t12.nx vI;refine⟨rfl,t12.sc vI aac,(mF t13.r).mono ?_⟩;rintro _ fS ⟨rfl,ey⟩;have t14:=t13.q ey;unfold sA;rw[aY hc];refine⟨_,rfl,t13.sq ey aac,λhf ia iY=>?_,λhf=>?_⟩
 ·have hf:(vw ts s).fc≠0:=acS
  rw[bc hf];exact⟨_,rfl,⟨tB 0 0 [] 0 Sl.nil 0,rfl,rE0 _ _ _⟩,(t14.f iY aac).dn⟩
 have hf:¬(vw ts s).fc≠0:=acS
 rw[aY hf];refine⟨_,Blk.eh t14.r.blk 1 rfl,b,1,_,_,rfl,t14.r.blk,aac,t14.ne aac,t14.ne aac,λio ic UN=>?_⟩;rw[t14.r.wr]at UN;have t16:Zt F ts w io b l (dM (vw ts s)) [k1,k0]:=t14.up ic UN (h.en.next t14.r.lt (by rw[E2];exact(dA hc).2));refine(wz t16.r).mono ?_;rintro _ gn ⟨rfl,QB⟩;have t17:=t16.nx QB;refine⟨_,rfl,t16.sc QB aac,λjC mw=>?_⟩;have t18:=t17.f mw aac;generalize (jH ts (dM (vw ts s))).2=u at*
 generalize (jH ts (dM (vw ts s))).1=nm at*
 generalize dr ts s [uE,lk,nL]=kk at*
 generalize (tk ts s.i).a=aa at*
 refine⟨λi4 s1 i5 i6 s2 i7 l2 i8 i9 w'=>∃(x:Ex) (u':Sx),i4=(kk:Int)/\s1=T nm/\i9=aa/\rE true w' (Fr jC.heap.size) x [O ae i5,O ae i6,ah s2,O ae i7,l2.v,O ae i8]/\Zt F ts w w' b l u' [k1,k0]/\OI ts u kk nm aa=(⟨kk,nm,x,aa⟩,eW ts u' [59])/\jC.heap.size<=w'.heap.size,?_,λvf=>?_,λvf=>?_⟩
 ·rintro i4 s1 i5 i6 s2 i7 l2 i8 i9 j8 ⟨x,u',rfl,rfl,rfl,hx,t19,hT,hsz⟩;obtain⟨q,jM,e1,nu,hm⟩:=qC t19.r [59];refine⟨q,jM,e1,t19.sq nu aac,hm.mono ?_⟩;rintro _ lQ ⟨rfl,h21⟩;have t20:=t19.q nu;refine⟨rfl,t20.sc h21 aac,λpR PW=>?_⟩;rw[hT];have zk:=t18.z.k k0 aac;have zs:=t18.z.o.size;have zb:=t18.r.lb;refine⟨_,rfl,⟨[O ae i5,O ae i6,ah s2,O ae i7,l2.v,O ae i8],rfl,?_⟩,((t20.nx h21).f PW aac).dn⟩;exact(jm true).low ((jm true).stay hx ((((Stay.refl _ _).q nu).d h21 zb).f PW (.inl zk.2))) zs
 ·have vf:¬kk=2:=λe=>by rw[e]at vf;simp at vf
  obtain⟨q,pE,e1,lJ,hm⟩:=qC t18.r [61];refine⟨q,pE,e1,t18.sq lJ aac,hm.mono ?_⟩;rintro _ oQ ⟨rfl,h24⟩;have t23:=t18.q lJ;have t24:=t23.nx h24;refine⟨rfl,t23.sc h24 aac,(MF t24.r).mono ?_⟩;rintro _ ob ⟨cs,rfl,hx,Yn⟩;obtain⟨sl,rfl⟩:=jo hx;have t25:=t24.nx Yn;refine⟨_,_,_,_,sl,_,rfl,t24.sc Yn aac,λrY jU=>?_⟩;have z24:jC.heap.size<=oQ.heap.size:=bf lJ.size h24.o.size;have zk:=t18.z.k k1 aac;refine⟨_,_,rfl,rfl,rfl,(jm true).low ((jm true).stay hx ((Stay.refl _ _).f jU (.inl aG))) z24,t25.f jU aac,?_,bf z24 (bf Yn.o.size jU.size)⟩;unfold OI;rw[aY vf]
 have vf:(kk:Int)=2:=by simpa using vf
 have vf:kk=2:=aG
 refine⟨Hq,u,rfl,rfl,rfl,rE0 _ _ _,t18,?_,ba _⟩;unfold OI;rw[bc vf]
abbrev AcO(B:Nat)(w:ay)(la:Sl)(acc:List Ac):Prop:=Own (uT true) 9 211 B w (Fr B) la acc
structure Br (F:aL) (ts:List Tk) (w w':ay) (b:Nat) (l:Sl) (k0 k1 B:Nat) (s:Sx) (acc:List Ac) (la:Sl):Prop where
 r:Sr F ts w' b l s
 b0:aH w' k0 147 [rp b]
 b1:aH w' k1 23 [la.v]
 own:AcO B w' la acc
 o:∃gs,aA (b::k1::gs) w w'/\∀x,x∈gs->B<=x
 n0:b<k0
 n1:b<k1
 n01:k0≠k1
 l0:k0<B
 l1:k1<B
 lB:B<=w'.heap.size
section
variable {k0 k1 B:Nat} {acc:List Ac} {la:Sl} {w2:ay}
theorem Br.nx(h:Br F ts w w' b l k0 k1 B s acc la)(k:Dn F ts w' w2 b l s'):Br F ts w w2 b l k0 k1 B s' acc la:=by
 have n0:=h.n0;have n1:=h.n1;have l0:=h.l0;obtain⟨gs,h1,h2⟩:=h.o;exact⟨k.r,k.o.blk h.b0 aat,k.o.blk h.b1 aat,h.own.stay (dT true) k.o λx hx=>.inl aaj,
  ⟨gs,h1.trans k.o λx hx=>.inl aan,h2⟩,n0,n1,h.n01,l0,h.l1,bf h.lB k.o.size⟩
theorem Br.q(h:Br F ts w w' b l k0 k1 B s acc la)(k:aA [] w' w2):Br F ts w w2 b l k0 k1 B s acc la:=h.nx (h.r.dn.q k)
theorem abL(h:Br F ts w w' b l k0 k1 B s acc la)(hm:acc.length<ts.length):aB au 197 #[ai (some ⟨k1,0,none⟩),ai (some ⟨k0,0,none⟩)] w' λe w2=>e=aq (ak #[])/\∃D3,Br F ts w w2 b l k0 k1 B (sA ts s).2 (acc++[(sA ts s).1]) D3:=by
 refine ret (agI _ _ _ _ ?_);intro w0 cO;have h0:=h.q cO;have n1:=h.n1;have l1:=h.l1;refine⟨λk=>k=k1,rfl,la,h0.b1.Qm 0 rfl,_,h0.b0.Qm 0 rfl,(abK h0.r).mono ?_⟩;rintro _ w1 ⟨cs,rfl,hx,h1⟩;have pD:=h0.nx h1;generalize Je:(sA ts s).1=ac at*
 generalize (sA ts s).2=s1 at*
 have yX:=hx;obtain⟨xc,rfl,PE⟩:=yX;obtain⟨sl,rfl⟩:=jo PE;have CK:=h.r.sm;have ZW:=h0.own.len;obtain⟨y,w2,e2,dk,D3,w3,e3,ny,⟨gs,dz,sH⟩,_⟩:=jG (P:=au) (t:=23) (ty:=23) (e:=211) (i:=Tryz.t211) (bytes:=104) (size:=9) (v:=aj (acv ac.k ac.n (tB ac.x.k ac.x.n ac.x.s ac.x.op sl ac.x.a) ac.a).toArray) (x:=ac) (G:=Fr w0.heap.size) (by kernel_rfl) (by kernel_rfl) rfl rfl rfl rfl aN aN aN (dT true) pD.own pD.lB rfl hx (λk hk _=>⟨bf h0.lB hk,h0.own.new hk⟩) aG;have UO:aA gs w1 w3:=(dk.weaken (bs':=gs) λ_ h=>aal).trans dz λx hx=>.inl hx;have qS:∀g,g∈gs->B<=g:=λg hg=>(sH g hg).2.1;refine⟨_,_,_,_,_,_,sl,_,_,rfl,λk hk bT=>(by subst hk;exact h1.o.block k bT aat),y,w2,e2,bS.only dk,D3,w3,e3,λk hk bT=>(by subst hk;exact dz.block k bT λhm=>(by have:=qS k hm;omega)),k1,0,_,_,rfl,UO.blk pD.b1 (λhm=>by have:=qS k1 hm;omega),aac,λw4 dK sS=>⟨rfl,D3,?_⟩⟩;have n0:=h.n0;have n01:=h.n01;have l0:=h.l0;have z3:=UO.size;have z4:=dK.size;have hlB:=pD.lB;have hOb:∀{x:Nat},x<B->x≠k1->w4.heap[x]? =w1.heap[x]? :=λhx hn=>(dK.block _ aG acH).trans (UO.block _ aG λhm=>(by have:=qS _ hm;omega));obtain⟨gs0,o1,o2⟩:=pD.o;have hr3:Sr F ts w3 b l s1:=pD.r.own UO λx hx=>(by have:=qS x hx;omega)
 refine⟨hr3.one dK n1,(hOb l0 n01).trans pD.b0,sS,?_,⟨gs++gs0,(((o1.weaken (bs':=b::k1::(gs++gs0)) λx hx=>.inl (by simp only[aV,bN]at hx⊢;rcases hx with hx | hx | hx<;>simp[hx])).trans UO λx hx=>.inl aev)).trans dK λx hx=>.inl aan,λx hx=>?_⟩,n0,n1,n01,l0,l1,aG⟩
 ·refine((ny.mono (dT true) λk hk=>?_).stay (dT true) dK λx hx=>.inl aaj);rcases hk with hk | hk
  ·exact hk
  exact bf hlB hk
 rcases bN.1 hx with hx | hx
 ·exact qS x hx
 exact o2 x hx
theorem SI(f:Nat)(h:Br F ts w w' b l k0 k1 B s acc la)(hf:mu ts s<f)(hm:acc.length+mu ts s<=ts.length):
  aB au 196 #[rp b,ah (ar #[125]),.func (.func 197) #[] #[ai (some ⟨k1,0,none⟩),ai (some ⟨k0,0,none⟩)]] w' λe w2=>e=aq (ak #[])/\∃D3,Br F ts w w2 b l k0 k1 B (tD ts f acc s).2 (tD ts f acc s).1 D3:=by
 refine ret (agK ⟨b,0,none⟩ _ ⟨.func (.func 197) #[] #[ai (some ⟨k1,0,none⟩),ai (some ⟨k0,0,none⟩)],rfl⟩ (λv w2=>v=(ak #[])/\∃D3,Br F ts w w2 b l k0 k1 B (tD ts f acc s).2 (tD ts f acc s).1 D3) w' ?_);generalize adL:tD ts f acc s=res;refine⟨λnv w2=>∃s' UQ D3,Br F ts w w2 b l k0 k1 B s' UQ D3/\tD ts nv UQ s'=res/\mu ts s'<nv/\UQ.length+mu ts s'<=ts.length,f,⟨s,acc,la,h,adL,hf,hm⟩,?_⟩;rintro nv w0 ⟨s',UQ,D3,h0,hR,hf0,NP⟩;obtain⟨m,rfl⟩:∃m,nv=m+1:=⟨nv-1,aG⟩
 rw[tD]at hR;refine⟨λbo w2=>(bo=true/\s'.fc=0/\dr ts s' [[125]]=0/\Br F ts w w2 b l k0 k1 B s' UQ D3)∨(bo=false/\Br F ts w w2 b l k0 k1 B res.2 res.1 D3),?_,(mF h0.r).mono ?_⟩
 ·rintro bo w1 (⟨rfl,hfc,hw,h1⟩ | ⟨rfl,h1⟩)
  ·refine⟨λ_=>⟨197,[],[_,_],rfl,eU (by kernel_rfl),?_⟩,λhh=>(by cases hh)⟩;rw[aY (by simp[hfc]),aY (by simp[hw])]at hR;have hmu:=abw h0.r.en hfc h0.r.lt;have hmm:mu ts s'<=ts.length:=aed
   refine(abL h1 aG).mono ?_;rintro _ w3 ⟨rfl,la2,h3⟩;exact⟨rfl,m,aG,_,_,la2,h3,hR,aG,aaE⟩
  exact⟨λhh=>(by cases hh),λ_=>⟨rfl,D3,h1⟩⟩
 rintro _ w4 ⟨rfl,dK⟩;have h4:=h0.q dK;refine⟨_,rfl,λhc=>?_,λhc=>?_⟩
 ·have hc:s'.fc=0:=aai
  rw[aY (by simp[hc])]at hR;obtain⟨q,w5,e1,eJ,hk⟩:=Dr h4.r [[125]] (n:=1) (parts:=#[(0,ah (T [125]))]) rfl rfl aN aN;refine⟨q,w5,e1,hk.mono ?_⟩;rintro _ w6 ⟨rfl,h6⟩;have h6:=(h4.q eJ).nx h6;refine⟨_,rfl,?_⟩;by_cases hw:dr ts s' [[125]]=0
  ·rw[bc hw]at h6;exact .inl ⟨by rw[hw];rfl,hc,hw,h6⟩
  rw[aY hw]at h6;rw[bc hw]at hR;subst hR;exact .inr ⟨by simpa using hw,h6⟩
 have hc:s'.fc≠0:=aai
 rw[bc hc]at hR;subst hR;exact .inr ⟨rfl,h4⟩
end
theorem Bq(h:Sr F ts w b l s):aB au 173 #[rp b] w λe w'=>∃la:Sl,e=aq la.v/\j5 true (uT true) 9 211 w' (Fr w.heap.size) la (jz ts s).1/\Dn F ts w w' b l (jz ts s).2:=by
 refine(agH ⟨b,0,none⟩ (λv w'=>∃la:Sl,v=la.v/\j5 true (uT true) 9 211 w' (Fr w.heap.size) la (jz ts s).1/\Dn F ts w w' b l (jz ts s).2) w ?_).mono (by
  rintro e w' ⟨v,rfl,cs,rfl,h⟩;exact⟨cs,rfl,h⟩)
 intro k0 k1 w0 gU fD kc jO cO;have t0:=((h.zt.q cO).ad gU fD).ad kc jO;obtain⟨q,w1,e1,cG,hm⟩:=qC t0.r [123];refine⟨q,w1,e1,t0.sq cG aac,hm.mono ?_⟩;rintro _ w2 ⟨rfl,h2⟩;have t1:=t0.q cG;have t2:=t1.nx h2;refine⟨rfl,t1.sc h2 aac,λsF u7=>?_⟩;have hb:=h.lb;have hB:Br F ts w2 w2 b l k0 k1 w2.heap.size (eW ts s [123]) [] Sl.nil:=
  ⟨t2.r,sF,u7,Own.nil _ _ _ _ _ _,⟨[],Only.refl _ _,λ_ h=>aal⟩,aG,aG,λe=>(by subst e;have:=sF.symm.trans u7;simp at this),sF.lt,u7.lt,ba _⟩
 refine(SI (ts.length+1) hB aed (by rw[cZ,bO];unfold mu;split<;>omega)).mono ?_;rintro _ w3 ⟨rfl,la,h3⟩;have z2:=t2.z.o.size;obtain⟨gs,o1,o2⟩:=h3.o;refine⟨rfl,_,h3.b0,_,h3.b1,la,rfl,?_,?_,h3.r⟩
 ·exact(h3.own.sl (dT true) λk hk=>hk).low (dT true) z2
 exact t2.z.o.trans o1 λx hx=>by
  simp only[aV]at hx;rcases hx with rfl | rfl | hx
  ·exact .inl aac
  ·exact .inr kc
  exact .inr (bf z2 (o2 x hx))
end
section
variable {F:aL} {ts:List Tk} {w w':ay} {b:Nat} {l:Sl} {s s':Sx}
structure MvX (A:Nat) (w:ay) (m:Mv) (k:Int) (ev:aM) (wt:Int) (gd:Bool) (gc:aK) (uK:Sl) (a:Int):Prop where
 e1:k=m.k
 e2:ev=T m.ev
 e3:wt=m.wt
 e4:gd=m.gd
 e5:a=m.a
 g:rE true w (Fr A) m.g gc
 x:j5 true (uT true) 9 211 w (Fr A) uK m.acts
theorem MvX.stay{A:Nat}{m:Mv}{k:Int}{ev:aM}{wt:Int}{gd:Bool}{gc:aK}{uK:Sl}{a:Int}(h:MvX A w m k ev wt gd gc uK a)(hs:Stay A w w'):MvX A w' m k ev wt gd gc uK a:=
 ⟨h.e1,h.e2,h.e3,h.e4,h.e5,(jm true).stay h.g hs,h.x.stay (dT true) aN hs⟩
theorem rW(ts:List Tk)(s:Sx):mu ts s<=ts.length:=aed
theorem Bs(h:Sr F ts w b l s){ss:List (aJ)}(hw:dr ts s ss≠0):s.i+1<ts.length:=h.en.next h.lt (dA hw).2
theorem WV(h:Sr F ts w b l s)(k:Int)(hk:(tk ts s.i).k≠5):aB au 171 #[rp b,O ae k] w λe w'=>∃cs,e=aq (aj cs.toArray)/\Mm true w' (Fr w.heap.size) (oz ts k s).1 cs/\Dn F ts w w' b l (oz ts k s).2:=by
 refine(agC ⟨b,0,none⟩ k (λv w'=>∃cs,v=(aj cs.toArray)/\Mm true w' (Fr w.heap.size) (oz ts k s).1 cs/\Dn F ts w w' b l (oz ts k s).2) w ?_).mono (by
  rintro e w' ⟨v,rfl,cs,rfl,h⟩;exact⟨cs,rfl,h⟩)
 intro k0 w0 gU fD cO;have t0:=h.zt.al cO gU fD;obtain⟨ad,g1,g2⟩:=t0.r.now;refine⟨λ_=>True,trivial,l,Blk.eh t0.r.blk 0 rfl,trivial,_,Blk.eh t0.r.blk 1 rfl,ad,g1,trivial,_,g2.eh 3 _ rfl,λk1 w1 kc jO cG=>?_⟩;have t1:=t0.al cG kc jO;refine(abH t1.r).mono ?_;rintro _ w2 ⟨rfl,h2⟩;have t2:=t1.nx h2;refine⟨rfl,t1.sc h2 aac,(mF t2.r).mono ?_⟩;rintro _ w3 ⟨rfl,dz⟩;have t3:=t2.q dz;unfold oz;refine⟨_,rfl,t2.sq dz aac,λhf w4 dK=>?_,λhf=>?_⟩
 ·have hf:(tC ts s).fc≠0:=acS
  rw[bc hf];exact⟨_,rfl,⟨tB 0 0 [] 0 Sl.nil 0,Sl.nil,Sl.nil,rfl,rE0 _ _ _,j5.nil _ _ _ _ _ _,j5.nil _ _ _ _ _ _⟩,(t3.f dK aac).dn⟩
 have hf:¬(tC ts s).fc≠0:=acS
 rw[aY hf];refine⟨_,Blk.eh t3.r.blk 1 rfl,b,1,_,_,rfl,t3.r.blk,aac,t3.ne aac,t3.ne aac,λw5 eJ xb=>?_⟩;rw[t3.r.wr]at xb;have t5:Zt F ts w w5 b l (dM (tC ts s)) [k1,k0]:=t3.up eJ xb (h.en.next t3.r.lt (by rw[E3];exact hk));have hA:=t5.z.o.size;have hA0:=(t5.z.k k0 aac).2;have hA1:=(t5.z.k k1 aac).2;have hAb:=t5.r.lb;generalize hAA:w5.heap.size=A at*
 generalize (tk ts s.i).a=aa at*
 generalize dM (tC ts s)=u0 at*
 generalize hR:(if k=1 then qv ts {Zg k aa with ev:=(jH ts u0).1} (jH ts u0).2 else if k=3 then qv ts {Zg k aa with wt:=(ix ts u0 3).1.n} (ix ts u0 3).2 else qv ts (Zg k aa) u0)=R;have x0:∀{w':ay} {ev:aJ} {wt:Int},MvX A w' {Zg k aa with ev:=ev,wt:=wt} k (T ev) wt false (tB 0 0 [] 0 Sl.nil 0) Sl.nil aa:=⟨rfl,rfl,rfl,rfl,rfl,rE0 _ _ _,j5.nil _ _ _ _ _ _⟩
 refine⟨λi3 s0 i4 b1 i5 i6 s1 i7 l1 i8 l2 l3 i9 w'=>∃(m:Mv) (u:Sx),MvX A w' m i3 s0 i4 b1 [O ae i5,O ae i6,ah s1,O ae i7,l1.v,O ae i8] l2 i9/\m.gd=false/\m.tg=[]/\l3=Sl.nil/\Zt F ts w w' b l u [k1,k0]/\qv ts m u=R/\A<=w'.heap.size,?_,λhc=>?_,λhc=>⟨λoh=>?_,λoh=>?_⟩⟩;rotate_left
 ·have hc:k=1:=aai
  refine(wz t5.r).mono ?_;rintro _ w32 ⟨rfl,h32⟩;have t32:=t5.nx h32;refine⟨_,rfl,t5.sc h32 aac,λw33 ajd=>?_⟩;rw[bc hc]at hR;exact⟨_,_,x0,rfl,rfl,rfl,t32.f ajd aac,hR,by rw[<-hAA];exact bf h32.o.size ajd.size⟩
 ·have hc:¬k=1:=aai
  have oh:k=3:=aeH
  refine(wx t5.r (k:=3) aN).mono ?_;rintro _ w34 ⟨rfl,h34⟩;have t34:=t5.nx h34;refine⟨_,_,_,_,rfl,t5.sc h34 aac,λw35 aje=>?_⟩;rw[aY hc,bc oh]at hR;exact⟨_,_,x0,rfl,rfl,rfl,t34.f aje aac,hR,by rw[<-hAA];exact bf h34.o.size aje.size⟩
 ·have hc:¬k=1:=aai
  have oh:¬k=3:=aeH
  rw[aY hc,aY oh]at hR;exact⟨_,_,x0,rfl,rfl,rfl,t5,hR,oX hAA.symm⟩
 rintro i3 s0 i4 b1 i5 i6 s1 i7 l1 i8 l2 l3 i9 w6 ⟨m,u,hx,PZ,sI,rfl,t6,hR,z6⟩;unfold qv at hR;obtain⟨q,oQ,e1,yw,hm⟩:=Dr t6.r [[91]] (n:=1) (parts:=#[(0,ah (T [91]))]) rfl rfl aN aN;have t24:=t6.q yw;refine⟨λi3 s0 i4 b1 i5 i6 s1 i7 l1 i8 l2 l3 i9 w'=>∃(m:Mv) (u:Sx),MvX A w' m i3 s0 i4 b1 [O ae i5,O ae i6,ah s1,O ae i7,l1.v,O ae i8] l2 i9/\m.tg=[]/\l3=Sl.nil/\Zt F ts w w' b l u [k1,k0]/\Dg ts m u=R/\A<=w'.heap.size,?_,q,oQ,e1,t6.sq yw aac,hm.mono ?_⟩;rotate_left
 ·rintro _ ob ⟨rfl,Yn⟩;have t25:=t24.nx Yn;have s25:Stay A w6 ob:=((Stay.refl A w6).q yw).d Yn hAb;refine⟨_,rfl,t24.sc Yn aac,λhc rY jU=>?_,λhc VG UC=>?_⟩
  ·have sC:=OS hc;rw[aY sC]at hR t25;have t26:=t25.f jU aac;have s26:=s25.f jU (.inl hA1);have z26:=s26.sz;refine(MF t26.r).mono ?_;rintro _ vM ⟨cs,rfl,hg,h27⟩;obtain⟨sl,rfl⟩:=jo hg;have t27:=t26.nx h27;refine⟨_,_,_,_,sl,_,rfl,t26.sc h27 aac,λB8 yx=>?_⟩;have t28:=t27.f yx aac;obtain⟨q2,CL,e2,tX,PF⟩:=qC t28.r [93];have t29:=t28.q tX;refine⟨q2,CL,e2,t28.sq tX aac,PF.mono ?_⟩;rintro _ Qy ⟨rfl,h30⟩;have t30:=t29.nx h30;have s30:=(((s26.d h27 hAb).f yx (.inl hA1)).q tX).d h30 hAb;refine⟨rfl,t29.sc h30 aac,{m with gd:=true,g:=(qu ts (dM u)).1},_,⟨hx.e1,hx.e2,hx.e3,hc,hx.e5,?_,hx.x.stay (dT true) aN s30⟩,sI,rfl,t30,hR,bf z6 s30.sz⟩;exact(jm true).low ((jm true).stay hg ((((Stay.refl _ _).f yx (.inl aG)).q tX).d h30 aG)) aG
  have sC:=OQ hc;rw[bc sC]at hR t25;have s31:=s25.f UC (.inl hA1);have P0:=hx.stay s31;exact⟨m,u,⟨P0.e1,P0.e2,P0.e3,by rw[hc,PZ],P0.e5,P0.g,P0.x⟩,sI,rfl,t25.f UC aac,hR,bf z6 s31.sz⟩
 clear hx PZ sI t6 hR z6 hm t24;rintro i3 s0 i4 b1 i5 i6 s1 i7 l1 i8 l2 l3 i9 w7 ⟨m,u,hx,sI,rfl,t7,hR,z7⟩;unfold Dg at hR;obtain⟨q,jM,e1,nu,hm⟩:=MD t7.r [[123]] (n:=1) (parts:=#[(0,ah (T [123]))]) rfl rfl aN aN;have t20:=t7.q nu;refine⟨λi3 s0 i4 b1 i5 i6 s1 i7 l1 i8 l2 l3 i9 w'=>∃(m:Mv) (u:Sx),MvX A w' m i3 s0 i4 b1 [O ae i5,O ae i6,ah s1,O ae i7,l1.v,O ae i8] l2 i9/\l3=Sl.nil/\Zt F ts w w' b l u [k1,k0]/\Hy ts m u=R/\A<=w'.heap.size,?_,q,jM,e1,t7.sq nu aac,hm.mono ?_⟩;rotate_left
 ·rintro _ lQ ⟨rfl,kU⟩;have t21:=t20.q kU;have s21:Stay A w7 lQ:=((Stay.refl A w7).q nu).q kU;have z21:=s21.sz;refine⟨_,rfl,t20.sq kU aac,λhc=>(Bq t21.r).mono ?_,λhc=>?_⟩
  ·rw[aY (OS hc)]at hR;rintro _ pR ⟨la,rfl,hla,h22⟩;have t22:=t21.nx h22;refine⟨la,rfl,t21.sc h22 aac,λpE lJ=>?_⟩;have s23:=(s21.d h22 hAb).f lJ (.inl hA1);refine⟨{m with acts:=(jz ts u).1},_,⟨hx.e1,hx.e2,hx.e3,hx.e4,hx.e5,(jm true).stay hx.g s23,?_⟩,rfl,t22.f lJ aac,hR,bf z7 s23.sz⟩;exact(hla.stay (dT true) aN ((Stay.refl _ _).f lJ (.inl aG))).low (dT true) aG
  rw[bc (OQ hc)]at hR;exact⟨m,u,hx.stay s21,rfl,t21,hR,bf z7 z21⟩
 clear hx sI t7 hR z7 hm t20;rintro i17 s4 i18 b3 i19 i20 s5 i21 l7 i22 l8 l9 i23 w8 ⟨m,u,hx,rfl,t8,hR,z8⟩;unfold Hy at hR;have hb8:b<w8.heap.size:=aG
 refine⟨λnv sg i24 s7 i25 b4 i26 i27 s8 i28 l10 i29 oa pU i30 w'=>∃(x:aJ) (acc:List (aJ)) (u':Sx),sg=T x/\MvX A w8 m i24 s7 i25 b4 [O ae i26,O ae i27,ah s8,O ae i28,l10.v,O ae i29] oa i30/\Stay A w8 w'/\Own lD 1 9 w8.heap.size w' (Fr w8.heap.size) pU acc/\Zt F ts w w' b l u' [k1,k0]/\yI ts nv x acc u'=yI ts (ts.length+1) [45,62] [] u/\mu ts u'<nv/\acc.length+mu ts u'<=ts.length,ts.length+1,⟨[45,62],[],u,rfl,hx,Stay.refl _ _,Own.nil _ _ _ _ _ _,t8,rfl,vP (rW _ _),aej⟩,?_⟩;clear hx;rintro nv sg i24 s7 i25 b4 i26 i27 s8 i28 l10 i29 oa pU i30 w9 ⟨x,acc,u',rfl,hx,hS,ny,t9,hT,hf1,PG⟩;obtain⟨m',rfl⟩:∃m',nv=m'+1:=⟨nv-1,aG⟩
 rw[yI]at hT;obtain⟨q,dL,e1,dW,PF⟩:=Dr t9.r [x] (n:=1) (parts:=#[(0,ah (T x))]) rfl rfl aN aN;have t10:=t9.q dW;refine⟨q,dL,e1,t9.sq dW aac,PF.mono ?_⟩;rintro _ dN ⟨rfl,Jf⟩;have t11:=t10.nx Jf;refine⟨_,rfl,t10.sc Jf aac,λhc eT fk=>?_,λhc=>?_⟩
 ·have hc:=OS hc;rw[aY hc]at hT t11;have t12:=t11.q fk;refine⟨λk=>k=k1,rfl,(wz t12.r).mono ?_⟩;rintro _ fI ⟨rfl,vI⟩;have t13:=t12.nx vI;have gH:aA [b] w9 fI:=(((dW.weaken (bs':=[b]) λ_ h=>aal).trans Jf.o λx hx=>.inl hx).cr fk).trans vI.o λx hx=>.inl hx;have zS:=hS.sz;have z9:=gH.size;have CK:=h.sm;have Cs:=rW ts u';have hmu:=pq h.en (dA hc).1 t9.r.lt (dA hc).2 (po h.en (s:=dM u')).toOn0;obtain⟨y,fS,e2,ey,D3,ia,e3,ajg,⟨gs,iY,sH⟩,_⟩:=jG (P:=au) (t:=132) (ty:=132) (e:=9) (i:=Tryz.t9) (bytes:=16) (size:=1) (v:=ah (T (jH ts (dM u')).1)) (x:=(jH ts (dM u')).1) (G:=λ_=>False) (by kernel_rfl) (by kernel_rfl) rfl rfl rfl rfl aN aN aN dJ (ny.stay dJ gH λx hx=>.inl aaj) (bf zS z9) rfl rfl (λk hk _=>hk.elim) aG;have qS:∀g,g∈gs->w8.heap.size<=g:=λg hg=>(sH g hg).2.1;have z8w:=t8.z.o.size;have t14:=t13.q ey;have t15:=t14.row iY λx hx=>bf z8w (qS x hx);have nk:=t8.ne (k0:=k1) aac;refine⟨_,rfl,t12.sc vI aac,λk hk bT=>(by subst hk;exact vI.o.block k bT (by simpa using nk)),y,fS,e2,t13.sq ey aac,bS.only ey,D3,ia,e3,t14.sr iY aac (λx hx y hy=>?_),λk hk bT=>(by subst hk;exact iY.block k bT λhm=>(by have:=qS k hm;omega)),λio ic=>⟨m',aG,[44],_,_,rfl,hx,?_,?_,t15.f ic aac,hT,aG,?_⟩⟩
  ·have:=qS x hx;simp only[aV,bp,cm]at hy;omega
  ·exact(((hS.go gH λx hx=>.inl aaj).q ey).go iY λx hx=>.inr (qS x hx)).f ic (.inl hA1)
  ·refine((ajg.mono dJ λk hk=>?_).stay dJ ic λx hx=>.inl aaj);rcases hk with hk | hk
   ·exact hk
   exact bf (bf zS z9) hk
  rw[aW,bK];omega
 have hc:=OQ hc;rw[bc hc]at hT t11;obtain⟨q2,gn,e2,iZ,X6⟩:=qC t11.r [59];have t17:=t11.q iZ;refine⟨q2,gn,e2,t11.sq iZ aac,X6.mono ?_⟩;rintro _ jC ⟨rfl,h18⟩;have t18:=t17.nx h18;refine⟨rfl,t17.sc h18 aac,λj8 kj=>?_⟩;rw[<-hT]at hR;rw[<-hR];have s9:∀{B:Nat},b<B->k0<B->Stay B w9 j8:=λhb hk=>((((Stay.refl _ _).q dW).d Jf hb).q iZ).d h18 hb |>.f kj (.inl hk);have s19:Stay A w8 j8:=(((((hS.q dW).d Jf hAb).q iZ).d h18 hAb).f kj (.inl hA0))
 refine⟨mvv m.k m.ev m.wt m.gd [O ae i26,O ae i27,ah s8,O ae i28,l10.v,O ae i29] oa pU m.a,by rw[hx.e1,hx.e2,hx.e3,hx.e4,hx.e5];rfl,⟨_,_,_,rfl,(jm true).low ((jm true).stay hx.g s19) hA,(hx.x.stay (dT true) aN s19).low (dT true) hA,?_⟩,(t18.f kj aac).dn⟩;exact((ny.sl dJ λk hk=>hk).stay dJ aN (s9 hb8 aG)).low dJ aG
end
theorem MG{jj xs:aK}{j:Nat}{v:az}(h:xs[j]? =some v):(jj++xs)[jj.length+j]? =some v:=by
 rw[bZ aG,eE];exact h
theorem mh(jj xs vs:aK)(j:Nat):cz (jj++xs) (jj.length+j) vs=jj++cz xs j vs:=by
 unfold cz;rw[VO,eY,VP];simp only[bP]
structure NbO (B:Nat) (w:ay) (n:Nb) (en lv mv:Sl):Prop where
 en:j5 true (uT true) 9 211 w (λk=>B<=k/\mv.a≠some ⟨k,0,none⟩) en n.en
 lv:j5 true (uT true) 9 211 w (λk=>B<=k/\mv.a≠some ⟨k,0,none⟩) lv n.lv
 mv:Own (Mm true) 13 134 B w (Fr B) mv n.mv
section
variable {B:Nat} {w w':ay} {n:Nb} {en lv mv:Sl}
theorem NbO.go(h:NbO B w n en lv mv){bs:List Nat}(k:aA bs w w')(hb:∀x,x∈bs->x<B):NbO B w' n en lv mv:=
 ⟨h.en.keep (dT true) aN λi hi bT=>k.block i bT λhm=>(by have:=hb i hm;omega),h.lv.keep (dT true) aN λi hi bT=>k.block i bT λhm=>(by have:=hb i hm;omega),h.mv.stay (ni true) k λx hx=>.inl (hb x hx)⟩
theorem NbO.zX(h:NbO B w n en lv mv){gs:List Nat}{uA:Sl}{m:Mv}(ny:Own (Mm true) 13 134 B w' (λk=>Fr B k∨w.heap.size<=k) uA (n.mv++[m]))(k:aA gs w w')(sH:∀g,g∈gs->mv.a=some ⟨g,0,none⟩)(ha:uA.a=mv.a∨∃g,uA.a=some ⟨g,0,none⟩/\w.heap.size<=g)(hB:B<=w.heap.size):NbO B w' {n with mv:=n.mv++[m]} en lv uA:=by
 have go:∀{la:Sl} {xs:List Ac},j5 true (uT true) 9 211 w (λk=>B<=k/\mv.a≠some ⟨k,0,none⟩) la xs->j5 true (uT true) 9 211 w' (λk=>B<=k/\uA.a≠some ⟨k,0,none⟩) la xs:=λhx=>
  ((hx.inHeap (dT true) aN).keep (dT true) aN λi hi bT=>k.block i bT λhm=>hi.1.2 (sH i hm)).mono (dT true) λi hi=>⟨hi.1.1,by
   rcases ha with ha | ⟨g,ha,hg⟩
   ·rw[ha];exact hi.1.2
   rw[ha];intro e;injection e with e;injection e with e;have:=hi.2;omega⟩
 exact⟨go h.en,go h.lv,ny.mono (ni true) λi hi=>hi.elim id λhi=>bf hB hi⟩
theorem NbO.ahV(h:NbO B w n en lv mv){A:Nat}{la:Sl}{xs:List Ac}(hx:j5 true (uT true) 9 211 w (Fr A) la xs)(hA:B<=A)(hm:∀k,A<=k->mv.a≠some ⟨k,0,none⟩):NbO B w {n with en:=xs} la lv mv:=
 ⟨hx.mono (dT true) λk hk=>⟨bf hA hk,hm k hk⟩,h.lv,h.mv⟩
theorem NbO.ahW(h:NbO B w n en lv mv){A:Nat}{la:Sl}{xs:List Ac}(hx:j5 true (uT true) 9 211 w (Fr A) la xs)(hA:B<=A)(hm:∀k,A<=k->mv.a≠some ⟨k,0,none⟩):NbO B w {n with lv:=xs} en la mv:=
 ⟨h.en,hx.mono (dT true) λk hk=>⟨bf hA hk,hm k hk⟩,h.mv⟩
end
abbrev OT(h:PY):aK:=[ao false,ao h.i,ao h.e,ao h.l]
structure Cl (F:aL) (ts:List Tk) (w w':ay) (b:Nat) (l:Sl) (g t:Nat) (jj:aK) (kh B:Nat) (s:Sx) (n:Nb) (h:PY) (en lv mv:Sl):Prop where
 r:Sr F ts w' b l s
 nb:aH w' g t (jj++oL n.k n.nm n.ini n.dft en lv mv Sl.nil n.a)
 hb:aH w' kh 205 (OT h)
 no:NbO B w' n en lv mv
 o:∃gs,aA (b::g::kh::gs) w w'/\∀x,x∈gs->B<=x
 ng:g≠b/\¬F g
 nh:b<kh
 gh:g≠kh
 gB:g<B
 hB:kh<B
 lB:B<=w'.heap.size
section
variable {F:aL} {ts:List Tk} {w w' w2:ay} {b:Nat} {l:Sl} {g t:Nat} {jj:aK} {kh B:Nat} {s s':Sx} {n n':Nb} {h h':PY} {en lv mv zx zy uA:Sl}
theorem Cl.nx(c:Cl F ts w w' b l g t jj kh B s n h en lv mv)(k:Dn F ts w' w2 b l s'):Cl F ts w w2 b l g t jj kh B s' n h en lv mv:=by
 have ng:=c.ng;have nh:=c.nh;have gB:=c.gB;have hBl:=c.hB;obtain⟨gs,h1,h2⟩:=c.o;exact⟨k.r,k.o.blk c.nb aat,k.o.blk c.hb aat,c.no.go k.o λx hx=>aaj,
  ⟨gs,h1.trans k.o λx hx=>.inl aan,h2⟩,ng,nh,c.gh,gB,c.hB,bf c.lB k.o.size⟩
theorem Cl.q(c:Cl F ts w w' b l g t jj kh B s n h en lv mv)(k:aA [] w' w2):Cl F ts w w2 b l g t jj kh B s n h en lv mv:=c.nx (c.r.dn.q k)
theorem Cl.st(c:Cl F ts w w' b l g t jj kh B s n h en lv mv)(k:aA [g] w' w2)(hB:aH w2 g t (jj++oL n'.k n'.nm n'.ini n'.dft zx zy uA Sl.nil n'.a))(no:NbO B w' n' zx zy uA):Cl F ts w w2 b l g t jj kh B s n' h zx zy uA:=by
 obtain⟨gs,h1,h2⟩:=c.o;have gB:=c.gB;exact⟨c.r.acp k c.ng,hB,k.blk c.hb (by simpa using λe=>c.gh e.symm),no.go k λx hx=>aaj,⟨gs,h1.trans k λx hx=>.inl aan,h2⟩,c.ng,c.nh,c.gh,gB,c.hB,bf c.lB k.size⟩
theorem Cl.hd(c:Cl F ts w w' b l g t jj kh B s n h en lv mv)(k:aA [kh] w' w2)(hB:aH w2 kh 205 (OT h')):Cl F ts w w2 b l g t jj kh B s n h' en lv mv:=by
 obtain⟨gs,h1,h2⟩:=c.o;have hB':=c.hB;exact⟨c.r.one k c.nh,k.blk c.nb (by simpa using c.gh),hB,c.no.go k λx hx=>aaj,⟨gs,h1.trans k λx hx=>.inl aan,h2⟩,c.ng,c.nh,c.gh,c.gB,hB',bf c.lB k.size⟩
def aht(h:PY)(j:Nat):Bool:=if j=1 then h.i else if j=2 then h.e else h.l
def SJ(h:PY)(j:Nat):PY:=if j=1 then{h with i:=true}else if j=2 then{h with e:=true}else{h with l:=true}
theorem j3{j:Nat}(h0:j≠0)(h3:j<=3):j=1∨j=2∨j=3:=aG
theorem OU(c:Cl F ts w w' b l g t jj kh B s n h en lv mv)(hm:n.mv.length<ts.length):aB au 132 #[rp b,ai (some ⟨g,jj.length,none⟩),ai (some ⟨kh,0,none⟩)] w' λe w2=>e=aq (ao (fp ts n h s).1)/\
  ∃zx zy uA,Cl F ts w w2 b l g t jj kh B (fp ts n h s).2.2.2 (fp ts n h s).2.1 (fp ts n h s).2.2.1 zx zy uA:=by
 refine ret (agB _ _ _ _ _ ?_);have CK:=c.r.sm;obtain⟨q,w0,e1,cO,NP⟩:=MD c.r [JR,kK,kQ] (n:=3) (parts:=#[(0,ah (T JR)),(1,ah (T kK)),(2,ah (T kQ))]) rfl rfl aN aN;refine⟨q,w0,e1,NP.mono ?_⟩;rintro _ w1 ⟨rfl,cG⟩;have c1:=(c.q cO).q cG;refine⟨_,rfl,λhc w2 dk=>?_,λhc=>?_⟩
 ·have hc:=OS hc;have c2:=c1.q dk;have pC:fp ts n h s=(true,{n with mv:=n.mv++[(oz ts (dr ts s [JR,kK,kQ]:Nat) s).1]},h,(oz ts (dr ts s [JR,kK,kQ]:Nat) s).2):=by
   unfold fp;rw[bc hc]
  rw[pC];refine⟨λk=>k=g,_,rfl,rfl,mv,c2.nb.Qm (jj.length+6) (MG rfl),(WV c2.r _ (dA hc).2).mono ?_⟩;rintro _ w3 ⟨cs,rfl,hx,h3⟩;have c3:=c2.nx h3;generalize (oz ts (dr ts s [JR,kK,kQ]:Nat) s).1=m at*
  generalize (oz ts (dr ts s [JR,kK,kQ]:Nat) s).2=u at*
  have yX:=hx;obtain⟨gc,uK,tg,rfl,hg,_,_⟩:=yX;obtain⟨sl,rfl⟩:=jo hg;have ng:=c.ng;have gB:=c.gB;obtain⟨y,w4,e2,dK,uA,w5,e3,ny,⟨gs,eJ,sH⟩,ha⟩:=jG (P:=au) (t:=24) (ty:=24) (e:=134) (i:=Tryz.t134) (bytes:=168) (size:=13) (v:=aj (mvv m.k m.ev m.wt m.gd (tB m.g.k m.g.n m.g.s m.g.op sl m.g.a) uK tg m.a).toArray) (x:=m) (G:=Fr w2.heap.size) (by kernel_rfl) (by kernel_rfl) rfl rfl rfl rfl aN aN aN (ni true) c3.no.mv c3.lB rfl hx (λk hk _=>⟨bf c2.lB hk,c2.no.mv.new hk⟩) aG;have zw:aA gs w3 w5:=(dK.weaken (bs':=gs) λ_ h=>aal).trans eJ λx hx=>.inl hx;have qS:∀x,x∈gs->B<=x:=λx hx=>(sH x hx).2.1;have hn:g∉gs:=λhm=>by have:=qS g hm;omega
  have xb:=zw.blk c3.nb hn;refine⟨_,_,_,_,_,_,_,_,sl,_,uK,tg,_,rfl,λk hk bT=>(by subst hk;exact h3.o.block k bT aat),y,w4,e2,bS.only dK,uA,w5,e3,λk hk bT=>(by subst hk;exact eJ.block k bT hn),_,rfl,g,_,_,_,rfl,xb,aac,λw6 eH KQ=>⟨rfl,en,lv,uA,?_⟩⟩;rw[mh]at KQ;have no5:=c3.no.zX ny zw (λx hx=>(sH x hx).1) ha c3.lB;obtain⟨gs0,o1,o2⟩:=c3.o;have nh:=c.nh;have hBB:=c.hB;have lB:=c3.lB;have hgh:=c.gh;have z5:=zw.size;have z6:=eH.size;exact⟨(c3.r.own zw λx hx=>(by have:=qS x hx;omega)).acp eH ng,KQ,(eH.block kh (by have:=c3.hb.lt;omega) aat).trans (zw.blk c3.hb λhm=>(by have:=qS kh hm;omega)),
   no5.go eH λx hx=>aaj,⟨gs++gs0,((o1.weaken (bs':=b::g::kh::(gs++gs0)) λx hx=>.inl (by simp only[aV,bN]at hx⊢;rcases hx with hx | hx | hx | hx<;>simp[hx])).trans zw λx hx=>.inl aev).trans eH λx hx=>.inl aan,λx hx=>(bN.1 hx).elim (qS x) (o2 x)⟩,ng,nh,hgh,gB,hBB,aG⟩
 have hc:=OQ hc;obtain⟨q,w7,e1,fN,NP⟩:=MD c1.r [iy,ke,kf] (n:=3) (parts:=#[(0,ah (T iy)),(1,ah (T ke)),(2,ah (T kf))]) rfl rfl aN aN;refine⟨q,w7,e1,NP.mono ?_⟩;rintro _ w8 ⟨rfl,fX⟩;have c8:=(c1.q fN).q fX;have kA:dr ts s [iy,ke,kf]<=3:=Hz _;refine⟨_,rfl,λhj=>?_,λhj=>?_⟩
 ·have hj:=ahr hj;have pC:fp ts n h s=(false,n,h,s):=by unfold fp;rw[aY aai,hj];rfl
  rw[pC];exact⟨rfl,_,_,_,c8⟩
 have hj:=ahs hj;have Ys:=Bs c.r hj;have pC:fp ts n h s=(if aht h (dr ts s [iy,ke,kf])then(false,n,h,lj ts s)else if dr ts s [iy,ke,kf]=1 then(true,{n with ini:=(jH ts (dM s)).1},SJ h 1,eW ts (jH ts (dM s)).2 [59])else if dr ts s [iy,ke,kf]=2 then(true,{n with en:=(jz ts (dM s)).1},SJ h 2,(jz ts (dM s)).2)else(true,{n with lv:=(jz ts (dM s)).1},SJ h 3,(jz ts (dM s)).2)):=by
  unfold fp;rw[aY aai];rcases j3 hj kA with e | e | e<;>rw[e]<;>rfl
 rw[pC];generalize dr ts s [iy,ke,kf]=j at*
 have Cg:(OT h)[j]? =some (ao (aht h j)):=by rcases j3 hj kA with e | e | e<;>rw[e]<;>rfl
 have hp:Ls ⟨kh,0,none⟩ (j:Int) 4 1 ⟨kh,j,none⟩:=⟨aG,aG,by rw[fP,aU];simp⟩
 refine⟨_,rfl,⟨kh,j,none⟩,hp,_,c8.hb.Qm j Cg,λhh=>?_,λhh=>?_⟩
 ·rw[bc hh];refine(tI c8.r).mono ?_;rintro _ w9 ⟨rfl,h9⟩;exact⟨rfl,rfl,_,_,_,c8.nx h9⟩
 rw[aY aet];refine⟨_,rfl,⟨kh,j,none⟩,hp,kh,j,_,_,rfl,c8.hb,by show j+1<=4;omega,λdL dW uJ=>?_⟩;have c10:Cl F ts w dL b l g t jj kh B s n (SJ h j) en lv mv:=c8.hd dW (by
  have e:cz (OT h) j [ao true]=OT (SJ h j):=by rcases j3 hj kA with e | e | e<;>rw[e]<;>rfl
  rwa[e]at uJ)
 refine⟨_,Blk.eh c10.r.blk 1 rfl,b,1,_,_,rfl,c10.r.blk,aac,λdN dX IR=>?_⟩;rw[c.r.wr]at IR;have VL:=c10.nx (s':=dM s) ⟨dX,c10.r.nZ dX IR Ys⟩;refine⟨λw'=>∃zx zy uA,Cl F ts w w' b l g t jj kh B _ _ _ zx zy uA,λeT F7=>⟨by split<;>(try split)<;>rfl,F7⟩,λQq=>?_,λQq=>⟨λZX=>?_,λZX=>?_⟩⟩
 ·have e1:j=1:=by have:(j:Int)=1:=(by simpa using Qq);omega
  subst e1;rw[bc rfl];refine(wz VL.r).mono ?_;rintro _ fI ⟨rfl,vI⟩;have c13:=VL.nx vI;refine⟨_,rfl,_,rfl,g,_,_,_,rfl,c13.nb,aac,λfS ey IQ=>?_⟩;rw[mh]at IQ;have c14:=c13.st (n':={n with ini:=(jH ts (dM s)).1}) ey IQ ⟨c13.no.en,c13.no.lv,c13.no.mv⟩;obtain⟨q,ia,e1,iY,NP⟩:=qC c14.r [59];refine⟨q,ia,e1,NP.mono ?_⟩;rintro _ io ⟨rfl,h16⟩;exact⟨rfl,_,_,_,(c14.q iY).nx h16⟩
 ·have e1:j=2:=by have:(j:Int)=2:=(by simpa using ZX);omega
  subst e1;rw[aY aN,bc rfl];refine(Bq VL.r).mono ?_;rintro _ gn ⟨la,rfl,hla,QB⟩;have c17:=VL.nx QB;refine⟨la,rfl,_,rfl,g,_,_,_,rfl,c17.nb,aac,λjC mw UR=>?_⟩;rw[mh]at UR;exact⟨_,_,_,c17.st (n':={n with en:=(jz ts (dM s)).1}) mw UR (c17.no.ahV hla VL.lB λk hk=>VL.no.mv.new hk)⟩
 have e0:j≠1:=λe=>by rw[e]at Qq;simp at Qq
 have e1:j=3:=by have:¬(j:Int)=2:=(by simpa using ZX);omega
 subst e1;rw[aY aN,aY aN];refine(Bq VL.r).mono ?_;rintro _ j8 ⟨la,rfl,hla,h19⟩;have c19:=VL.nx h19;refine⟨la,rfl,_,rfl,g,_,_,_,rfl,c19.nb,aac,λjM nu ajj=>?_⟩;rw[mh]at ajj;exact⟨_,_,_,c19.st (n':={n with lv:=(jz ts (dM s)).1}) nu ajj (c19.no.ahW hla VL.lB λk hk=>VL.no.mv.new hk)⟩
end
section
variable {F:aL} {ts:List Tk} {w w' w2:ay} {b:Nat} {l:Sl} {s s':Sx}
theorem HM(h:Sr F ts w b l s)(k:Int):aB au 89 #[rp b,O ae k] w λe w'=>e=aq (aj (oL (fu ts k s).1.k (fu ts k s).1.nm [] [] Sl.nil Sl.nil Sl.nil Sl.nil (fu ts k s).1.a).toArray)/\Dn F ts w w' b l (fu ts k s).2:=by
 refine ret (agw _ _ _ _ ?_);intro k0 k1 w0 gU fD kc jO cO;have t0:=((h.zt.q cO).ad gU fD).ad kc jO;obtain⟨ad,g1,g2⟩:=t0.r.now;refine⟨λw'=>Zt F ts w w' b l (rV ts s) [k1,k0],λw1 t1=>(wx t1.r (k:=1) aN).mono ?_,l,Blk.eh t0.r.blk 0 rfl,_,Blk.eh t0.r.blk 1 rfl,ad,g1,_,g2.eh 0 _ rfl,λhc w5 eJ=>?_,λhc w8 fX=>?_⟩
 ·rintro _ w2 ⟨rfl,h2⟩;have t2:=t1.nx h2;refine⟨_,_,_,_,rfl,t1.sc h2 aac,λk2 w3 vf xh dz n1 n2 n3=>⟨λk=>k=k2,rfl,λe=>n3 e,λe=>n3 e,λw4 dK=>⟨rfl,?_⟩⟩⟩;have t3:=t2.q dz;have z3:=t3.z.go dK λx hx=>.inr abS;exact⟨z3.o,t3.r.own dK λx hx=>t3.lt abS⟩
 ·have hc:(tk ts s.i).k=1:=aai
  have t5:=t0.q eJ;unfold rV;rw[bc hc];refine(abI t5.r).mono ?_;rintro _ w6 ⟨rfl,h6⟩;have t6:=t5.nx h6;refine⟨rfl,t5.sc h6 aac,_,Blk.eh t6.r.blk 6 rfl,λhd=>?_,λhd=>?_⟩
  ·rw[bc (by simpa using hd)];refine(zR t6.r 21).mono ?_;rintro _ w7 ⟨rfl,h7⟩;exact⟨rfl,t6.sc h7 aac,t6.nx h7⟩
  rw[aY (by simpa using hd)];exact t6
 have hc:¬(tk ts s.i).k=1:=aai
 unfold rV;rw[aY hc];exact t0.q fX
def Zn(F:aL)(ts:List Tk)(b:Nat)(l:Sl)(f:Nat)(d:Int):Prop:=∀(k:Int) (u:Sx) (w:ay),Sr F ts w b l u->u.d=d->aB au 133 #[rp b,O ae k] w λe w'=>∃cs,e=aq (aj cs.toArray)/\pM true f w' (Fr w.heap.size) (lm ts f k u).1 cs/\Dn F ts w w' b l (lm ts f k u).2
theorem SK{f:Nat}(hf:0<f)(w:ay)(G:aL):pM true f w G OH (oL 0 [] [] [] Sl.nil Sl.nil Sl.nil Sl.nil 0):=by
 obtain⟨m,rfl⟩:∃m,f=m+1:=⟨f-1,aG⟩
 exact⟨_,_,_,_,rfl,⟨j5.nil _ _ _ _ _ _,j5.nil _ _ _ _ _ _,j5.nil _ _ _ _ _ _⟩,j5.nil _ _ _ _ _ _⟩
abbrev Zo(f B:Nat)(w:ay)(s:Sl)(xs:List Nd):Prop:=Own (pM true f) 9 27 B w (Fr B) s xs
theorem Ds{f B g t:Nat}{jj:aK}{n1:Nb}{en lv mv l2 l8:Sl}{acc:List Nd}{x:Nd}{k:Int}{nm ini dft:aJ}{a b1 b2 b3:Sl}{at_:Int}{k0:Nat}{Q:ay->Prop}{H:aL}
  (hx:pM true f w H x (oL k nm ini dft a b1 b2 b3 at_)) (hH:∀i,H i->i<w.heap.size->Fr B i/\l8.a≠some ⟨i,0,none⟩) (hH':∀i,H i->B<=i) (ny:Zo f B w l8 (acc++[OH])) (hn:l2.n=acc.length)
  (yr:aH w g t (jj++oL n1.k n1.nm n1.ini n1.dft en lv mv l2 n1.a)) (hg:g<B) (gU:k0<B) (hgk:k0≠g)
  (hQ:∀w',aH w' g t (jj++oL n1.k n1.nm n1.ini n1.dft en lv mv l8 n1.a)->Zo f B w' l8 (acc++[x])->(∃gk,B<=gk/\aA [g,gk] w w')->Q w'):
  ∃p1:Addr,dE l8 (l2.n:Int) 9 p1/\∃p2:Addr,(some (⟨g,jj.length,none⟩:Addr))=(some p2)/\
   (∃yu Gv:Nat,∃z2:aK,∃NT:Nat,p1=⟨yu,Gv,none⟩/\aH w yu NT z2/\(Gv+9)<=z2.length/\k0≠yu/\
    ∀ia:ay,aA [yu] w ia->aH ia yu NT (cz z2 Gv [O ae k,ah (T nm),ah (T ini),ah (T dft),a.v,b1.v,b2.v,b3.v,O ae at_])->∃DZ Qx:Nat,∃z3:aK,∃k18:Nat,(p2.add 7)=⟨DZ,Qx,none⟩/\
    aH ia DZ k18 z3/\(Qx+1)<=z3.length/\k0≠DZ/\∀io:ay,aA [DZ] ia io->aH io DZ k18 (cz z3 Qx [l8.v])->Q io)/\
   ∃IL Gw:Nat,∃z4:aK,∃Ye:Nat,(p2.add 7)=⟨IL,Gw,none⟩/\aH w IL Ye z4/\(Gw+1)<=z4.length/\k0≠IL/\
    ∀gn:ay,aA [IL] w gn->aH gn IL Ye (cz z4 Gw [l8.v])->∃Us k23:Nat,∃z5:aK,∃k24:Nat,p1=⟨Us,k23,none⟩/\
    aH gn Us k24 z5/\(k23+9)<=z5.length/\k0≠Us/\∀jC:ay,aA [Us] gn jC->aH jC Us k24 (cz z5 k23 [O ae k,ah (T nm),ah (T ini),ah (T dft),a.v,b1.v,b2.v,b3.v,O ae at_])->Q jC:=by
 have bT:l2.n<(acc++[OH]).length:=aaE
 have zo:(acc++[OH]).set l2.n x=acc++[x]:=by rw[hn,Ck _ _ (ba _),K7];rfl
 obtain⟨gk,cells,a1,a2,a3,a4,a5⟩:=Own.store (cX true f) ny bT (vs:=oL k nm ini dft a b1 b2 b3 at_) rfl hx hH aN;have hgB:=(ny.blk a1).1;dsimp only at hgB;refine⟨_,a2,_,rfl,⟨gk,l2.n*9,cells,_,rfl,a3,a4,aG,λia iY adM=>⟨g,jj.length+7,_,t,rfl,iY.blk yr aat,aac,hgk,λio ic UN=>?_⟩⟩,g,jj.length+7,_,t,rfl,yr,aac,hgk,λgn iZ ajl=>?_⟩
 ·rw[mh]at UN;have o15:=a5 ia iY adM;rw[zo]at o15;exact hQ io UN (o15.stay (cX true f) ic λx hx=>.inl aaj) ⟨gk,hgB,(iY.weaken (bs':=[g,gk]) λx hx=>.inl aan).trans ic λx hx=>.inl aan⟩
 rw[mh]at ajl;have z17:=iZ.size;have ajm:Zo f B gn l8 (acc++[OH]):=ny.stay (cX true f) iZ λx hx=>.inl aaj;have apI:pM true f gn (λi=>H i/\i<w.heap.size) x (oL k nm ini dft a b1 b2 b3 at_):=(cX true f).keep ((cX true f).inHeap hx) λi hi bT=>iZ.block i bT (by have:=hH' i hi.1;simp only[aO];omega);obtain⟨gk',adN,c1,c2,c3,c4,c5⟩:=Own.store (cX true f) ajm bT (vs:=oL k nm ini dft a b1 b2 b3 at_) rfl apI (λi hi _=>hH i hi.1 hi.2) aN;have e:gk'=gk:=by
  rw[a1]at c1;injection c1 with c1;injection c1 with c1;exact c1.symm
 subst e;refine⟨gk',l2.n*9,adN,_,rfl,c3,c4,aG,λjC mw UR=>?_⟩;have o18:=c5 jC mw UR;rw[zo]at o18;exact hQ jC (mw.blk ajl aat) o18 ⟨gk',hgB,(iZ.weaken (bs':=[g,gk']) λx hx=>.inl aan).trans mw λx hx=>.inl aan⟩
structure Kd (F:aL) (ts:List Tk) (w w':ay) (b:Nat) (l:Sl) (g t:Nat) (jj:aK) (f B B2:Nat) (n:Nb) (en lv mv:Sl) (s:Sx) (acc:List Nd) (kids:Sl):Prop where
 r:Sr F ts w' b l s
 nb:aH w' g t (jj++oL n.k n.nm n.ini n.dft en lv mv kids n.a)
 no:E4 true w' (λk=>B<=k/\k<B2) n en lv mv
 kd:Zo f B2 w' kids acc
 o:aA [b,g] w w'
 lB:B2<=w'.heap.size
section
variable {g t:Nat} {jj:aK} {f B B2:Nat} {n:Nb} {en lv mv kids:Sl} {acc:List Nd}
theorem Kd.nx(h:Kd F ts w w' b l g t jj f B B2 n en lv mv s acc kids)(Jd:g≠b)(hb:b<B)(hB:B<=B2)(k:Dn F ts w' w2 b l s'):Kd F ts w w2 b l g t jj f B B2 n en lv mv s' acc kids:=
 ⟨k.r,k.o.blk h.nb aat,h.no.keep λi hi bT=>k.o.block i bT aat,h.kd.stay (cX true f) k.o λx hx=>.inl aaj,
  h.o.trans k.o λx hx=>.inl aan,bf h.lB k.o.size⟩
end
end
section
variable {F:aL} {ts:List Tk} {w w' w2:ay} {b:Nat} {l:Sl} {s s':Sx}
structure Cl0 (F:aL) (ts:List Tk) (w w':ay) (b:Nat) (l:Sl) (g t:Nat) (jj:aK) (kh B:Nat) (s:Sx) (n:Nb) (en lv mv:Sl):Prop where
 r:Sr F ts w' b l s
 nb:aH w' g t (jj++oL n.k n.nm n.ini n.dft en lv mv Sl.nil n.a)
 no:NbO B w' n en lv mv
 o:∃gs,aA (b::g::kh::gs) w w'/\∀x,x∈gs->B<=x
 ng:g≠b/\¬F g
 nh:b<kh
 gh:g≠kh
 gB:g<B
 hB:kh<B
 lB:B<=w'.heap.size
section
variable {g t:Nat} {jj:aK} {kh B:Nat} {n:Nb} {h:PY} {en lv mv:Sl}
theorem Cl.c0(c:Cl F ts w w' b l g t jj kh B s n h en lv mv):Cl0 F ts w w' b l g t jj kh B s n en lv mv:=⟨c.r,c.nb,c.no,c.o,c.ng,c.nh,c.gh,c.gB,c.hB,c.lB⟩
theorem Cl0.cl(c:Cl0 F ts w w' b l g t jj kh B s n en lv mv)(hb:aH w' kh 205 (OT h)):Cl F ts w w' b l g t jj kh B s n h en lv mv:=⟨c.r,c.nb,hb,c.no,c.o,c.ng,c.nh,c.gh,c.gB,c.hB,c.lB⟩
theorem Cl0.nx(c:Cl0 F ts w w' b l g t jj kh B s n en lv mv)(k:Dn F ts w' w2 b l s'):Cl0 F ts w w2 b l g t jj kh B s' n en lv mv:=by
 have ng:=c.ng;have gB:=c.gB;have nh:=c.nh;have hBl:=c.hB;obtain⟨gs,h1,h2⟩:=c.o;exact⟨k.r,k.o.blk c.nb aat,c.no.go k.o λx hx=>aaj,
  ⟨gs,h1.trans k.o λx hx=>.inl aan,h2⟩,ng,c.nh,c.gh,gB,c.hB,bf c.lB k.o.size⟩
theorem Cl0.q(c:Cl0 F ts w w' b l g t jj kh B s n en lv mv)(k:aA [] w' w2):Cl0 F ts w w2 b l g t jj kh B s n en lv mv:=c.nx (c.r.dn.q k)
theorem Cl0.sc(c:Cl0 F ts w w' b l g t jj kh B s n en lv mv)(k:Dn F ts w' w2 b l s'):ci [kh] w' w2:=k.o.same λx hx=>by
 have:=c.nh;have:=c.hB;have:=c.lB;simp only[aO]at hx⊢;omega
theorem Cl0.sq(c:Cl0 F ts w w' b l g t jj kh B s n en lv mv)(k:aA [] w' w2):ci [kh] w' w2:=c.sc (c.r.dn.q k)
end
theorem J7(n:Nb)(h:PY)(s:Sx):(fp ts n h s).2.1.mv.length<=n.mv.length+1:=by
 unfold fp;split
 ·dsimp only;rw[aW,bK];omega
 split
 ·exact iM _
 ·split<;>exact iM _
 ·split<;>exact iM _
 split<;>exact iM _
theorem MH{f:Nat}(h:Sr F ts w b l s){g t:Nat}{jj:aK}{n:Nb}(F8:n.en=[])(IV:n.lv=[])(sR:n.mv=[])(hB:aH w g t (jj++oL n.k n.nm n.ini n.dft Sl.nil Sl.nil Sl.nil Sl.nil n.a))(hg:g≠b/\¬F g)(hd:rf s.d)(hN:s.fc=0->0<f/\Zn F ts b l f (zO s.d)):
  aB au 92 #[rp b,ai (some ⟨g,jj.length,none⟩)] w λe w'=>e=aq (ak #[])/\∃cs,aH w' g t (jj++cs)/\pM true (f+1) w' (Fr w.heap.size) (rU ts (lm ts f) n s).1 cs/\aA [b,g] w w'/\Sr F ts w' b l (rU ts (lm ts f) n s).2:=by
 refine ret (agA _ _ _ _ ?_);intro k0 w0 gU fD cO;have t0:=h.zt.al cO gU fD;have hgw:=hB.lt;have hbw:=h.lb;refine⟨_,Blk.eh t0.r.blk 6 rfl,b,6,_,_,rfl,t0.r.blk,aac,t0.ne aac,λw1 cG u7=>?_⟩;have t1:Zt F ts w w1 b l {s with d:=zO s.d} [k0]:=t0.up cG u7 h.lt;have nb1:aH w1 g t (jj++oL n.k n.nm n.ini n.dft Sl.nil Sl.nil Sl.nil Sl.nil n.a):=cG.blk (cO.blk hB aac) aat;have zw1:=t1.z.o.size;have zk:=(t1.z.k k0 aac).2;generalize hBB:w1.heap.size=B at*
 have hgB:g<B:=aG
 have c1:Cl0 F ts w w1 b l g t jj k0 B {s with d:=zO s.d} n Sl.nil Sl.nil Sl.nil:=⟨t1.r,nb1,⟨by rw[F8];exact j5.nil _ _ _ _ _ _,by rw[IV];exact j5.nil _ _ _ _ _ _,by rw[sR];exact Own.nil _ _ _ _ _ _⟩,
  ⟨[],t1.z.o.weaken λx hx=>.inl aan,λx hx=>adK⟩,hg,aG,aG,hgB,zk,oX hBB.symm⟩
 have hbB:b<B:=aG
 unfold rU;dsimp only;generalize hC:kx ts (ts.length+1) n ⟨false,false,false⟩ {s with d:=zO s.d}=C;have ajn:On ts {s with d:=zO s.d} C.2:=by rw[<-hC];exact vB h.en _ _ _ _
 refine⟨λnv b0 b1 b2 b3 w'=>∃(n':Nb) (hd:PY) (s':Sx) (en lv mv:Sl),b0=false/\b1=hd.i/\b2=hd.e/\b3=hd.l/\Cl0 F ts w w' b l g t jj k0 B s' n' en lv mv/\kx ts nv n' hd s'=C/\mu ts s'<nv/\n'.mv.length+mu ts s'<=ts.length,ts.length+1,
  ⟨n,⟨false,false,false⟩,_,_,_,_,rfl,rfl,rfl,rfl,c1,hC,vP (rW _ _),by rw[sR,cZ,bO];exact rW _ _⟩,?_⟩
 rintro nv _ _ _ _ w2 ⟨n',hd',s',en,lv,mv,rfl,rfl,rfl,rfl,c2,hR,hf1,PG⟩;obtain⟨m,rfl⟩:∃m,nv=m+1:=⟨nv-1,aG⟩
 rw[kx]at hR;refine⟨λb4 b5 b6 b7 b8 w'=>(b4=true/\∃(n':Nb) (hd:PY) (s':Sx) (en lv mv:Sl),b5=false/\b6=hd.i/\b7=hd.e/\b8=hd.l/\Cl0 F ts w w' b l g t jj k0 B s' n' en lv mv/\kx ts m n' hd s'=C/\mu ts s'<m/\n'.mv.length+mu ts s'<=ts.length)∨
  (b4=false/\∃(en lv mv:Sl),Cl0 F ts w w' b l g t jj k0 B C.2 C.1 en lv mv),?_,(mF c2.r).mono ?_⟩
 rotate_left
 ·rintro _ CL ⟨rfl,tX⟩;have c29:=c2.q tX;refine⟨_,rfl,c2.sq tX,λhc hBk=>?_,λhc=>?_⟩
  ·have hc:s'.fc=0:=aai
   rw[aY (by simp[hc])]at hR;have Cs:=rW ts s';have bT:=c2.r.lt;have axP:0<mu ts s':=by unfold mu;rw[bc hc];omega
   have fy:=J7 (ts:=ts) n' hd' s';refine(OU (c29.cl (h:=hd') hBk) aG).mono ?_;rintro _ Qy ⟨rfl,zx,zy,uA,c30⟩;refine⟨_,rfl,_,_,_,_,c30.hb,?_⟩;cases pC:(fp ts n' hd' s').1 with
   | true=>
    rw[bc pC]at hR;have hmu:=OL h.en n' hd' hc bT pC;exact .inl ⟨rfl,_,_,_,_,_,_,rfl,rfl,rfl,rfl,c30.c0,hR,aG,aG⟩
   | false=>
    rw[aY (by rw[pC];decide)]at hR;refine .inr ⟨rfl,zx,zy,uA,?_⟩;rw[<-hR];exact c30.c0
  have hc:s'.fc≠0:=aai
  rw[bc hc]at hR;refine .inr ⟨rfl,en,lv,mv,?_⟩;rw[<-hR];exact c29
 clear hR hf1 PG c2;rintro b4 b5 b6 b7 b8 w3 (⟨rfl,hh⟩ | ⟨rfl,en,lv,mv,c3⟩)
 ·exact⟨λ_=>⟨m,Qa _,hh⟩,λhh=>(by cases hh)⟩
 refine⟨λhh=>(by cases hh),λ_=>?_⟩;generalize C.1=n1 at*
 generalize C.2=s1 at*
 have hsB:B<=w3.heap.size:=c3.lB;have no3:E4 true w3 (λk=>B<=k/\k<w3.heap.size) n1 en lv mv:=
  ⟨(c3.no.en.inHeap (dT true) aN).mono (dT true) λk hk=>⟨hk.1.1,hk.2⟩,(c3.no.lv.inHeap (dT true) aN).mono (dT true) λk hk=>⟨hk.1.1,hk.2⟩,(c3.no.mv.sl (ni true) λk hk=>hk).inHeap (ni true) aN⟩
 obtain⟨gs3,o3,o3'⟩:=c3.o;have o3:aA [b,g] w w3:=o3.weaken λx hx=>by
  simp only[aV]at hx;rcases hx with rfl | rfl | rfl | hx
  ·exact .inl aac
  ·exact .inl aac
  ·exact .inr gU
  exact .inr (bf zw1 (o3' x hx))
 have k3:Kd F ts w w3 b l g t jj f B w3.heap.size n1 en lv mv s1 [] Sl.nil:=⟨c3.r,c3.nb,no3,Own.nil _ _ _ _ _ _,o3,ba _⟩
 generalize pF:w3.heap.size=B2 at*
 clear c3 no3 o3 o3' hC;generalize hK:wv ts (lm ts f) (ts.length+1) [] s1=K;have sk:∀{u u':ay} {x y:Sx},B2<=u.heap.size->Dn F ts u u' b l y->ci [k0] u u':=λhz k=>k.o.same λx hx=>by
  simp only[aO]at hx⊢;omega
 have US:∀{u u':ay} {x y:Sx} {acc:List Nd} {kids:Sl},Kd F ts w u b l g t jj f B B2 n1 en lv mv x acc kids->Dn F ts u u' b l y->Kd F ts w u' b l g t jj f B B2 n1 en lv mv y acc kids:=λa k=>a.nx hg.1 hbB hsB k;have go:∀{u:ay} {x:Sx} {acc:List Nd} {kids:Sl},Kd F ts w u b l g t jj f B B2 n1 en lv mv x acc kids->∃(q:Sl) (u2:ay),(aw 132 4 #[.mk 0 (ah (ar #[115,116,97,116,101])),.mk 1 (ah (ar #[112,97,114,97,108,108,101,108])),.mk 2 (ah (ar #[104,105,115,116,111,114,121])),.mk 3 (ah (ar #[100,101,101,112]))]).run au u=.ok q.v u2/\ci [k0] u u2/\aB au 131 #[rp b,q.v] u2 λe u3=>e=aq (O ae (dr ts x rD:Nat))/\ci [k0] u2 u3/\Kd F ts w u3 b l g t jj f B B2 n1 en lv mv x acc kids:=fun{u x acc kids} a=>by
  obtain⟨q,u2,e1,hO,hm⟩:=MD a.r rD (n:=4) (parts:=#[(0,ah (T EW)),(1,ah (T uk)),(2,ah (T wu)),(3,ah (T Mc))]) rfl rfl aN aN;have a2:=US a (a.r.dn.q hO);refine⟨q,u2,e1,sk (x:=x) a.lB (a.r.dn.q hO),hm.mono ?_⟩;rintro _ u3 ⟨rfl,dz⟩;exact⟨rfl,sk (x:=x) a2.lB (a2.r.dn.q dz),US a2 (a2.r.dn.q dz)⟩
 obtain⟨q,w4,e1,hs4,hm4⟩:=go k3;refine⟨q,w4,e1,hs4,hm4.mono ?_⟩;rintro _ w5 ⟨rfl,NY,k5⟩;refine⟨_,rfl,NY,λnv i2 _ _ _ _ w'=>∃(s':Sx) (acc:List Nd) (kids:Sl),i2=((dr ts s' rD:Nat):Int)/\Kd F ts w w' b l g t jj f B B2 n1 en lv mv s' acc kids/\wv ts (lm ts f) nv acc s'=K/\mu ts s'<nv/\acc.length+mu ts s'<=ts.length/\s'.d=zO s.d/\(s'.fc=0->s.fc=0),ts.length+1,
  ⟨s1,[],Sl.nil,rfl,k5,hK,vP (rW _ _),aej,ajn.d,λe=>(ajn.le e).1⟩,?_⟩
 clear NY k5 hm4 hs4 e1 k3 hK;rintro nv _ b9 Z8 b11 b12 w6 ⟨s',acc,kids,rfl,k6,hR,hf1,PG,hd6,hz6⟩;obtain⟨m',rfl⟩:∃m',nv=m'+1:=⟨nv-1,aG⟩
 rw[wv]at hR;have hkb:k0≠b:=t0.ne aac;have hkg:k0≠g:=aG
 refine⟨λhc=>?_,λhc=>?_⟩
 ·have hc:=OS hc;rw[aY hc]at hR;obtain⟨hfc,CN⟩:=dA hc;obtain⟨hf0,hNC⟩:=hN (hz6 hfc);have bT:=k6.r.lt;refine⟨_,Blk.eh k6.r.blk 1 rfl,b,1,_,_,rfl,k6.r.blk,aac,hkb,λw7 fN hB7=>?_⟩;rw[k6.r.wr]at hB7;have k7:=US k6 (y:=dM s') ⟨fN,k6.r.nZ fN hB7 (Bs k6.r hc)⟩;have CK:=h.sm;have hmul:=rW ts s';have UT:=Mj h.en f (dr ts s' rD:Nat) (dM s') (by show rf s'.d;rw[hd6];exact Q2 _);have hmu:=pq h.en hfc bT CN UT.toOn0;generalize dr ts s' rD=kk at*
  generalize hNx:lm ts f (kk:Int) (dM s')=N at*
  have apN:N.2.d=zO s.d:=UT.d.trans hd6;have apO:N.2.fc=0->s.fc=0:=λe=>hz6 (UT.le e).1;refine⟨λ_ _ _ _ w'=>∃lR,Kd F ts w w' b l g t jj f B B2 n1 en lv mv N.2 (acc++[N.1]) lR,λb13 b14 b15 b16 w8 h8=>?_,λdN dX=>?_⟩
  ·obtain⟨lR,k8⟩:=h8;obtain⟨q,w9,e1,hs9,hm9⟩:=go k8;refine⟨q,w9,e1,hs9,hm9.mono ?_⟩;rintro _ dL ⟨rfl,apQ,pV⟩;exact⟨_,rfl,apQ,m',Qa _,_,_,_,rfl,pV,hR,aG,aaE,apN,apO⟩
  have sE:=US k7 (k7.r.dn.q dX);have D1:=sE.lB;have tU:∀{u:ay},Sr F ts u b l (dM s')->aB au 133 #[rp b,O ae (kk:Int)] u λe w'=>∃cs,e=aq (aj cs.toArray)/\pM true f w' (Fr u.heap.size) N.1 cs/\Dn F ts u w' b l N.2:=λhu=>by
   have:=hNC (kk:Int) (dM s') _ hu hd6;rw[hNx]at this;exact this
  have D4:∀{u u':ay} {bs:List Nat},aA bs u u'->(∀x,x∈bs->x≠g)->bS (λk=>k=g) u u':=λhO hb k hk bT=>by subst hk;exact hO.block k bT λhm=>hb k hm rfl
  have zc:Value.cells (aj (oL 0 [] [] [] Sl.nil Sl.nil Sl.nil Sl.nil 0).toArray)=(oL 0 [] [] [] Sl.nil Sl.nil Sl.nil Sl.nil 0).toArray:=rfl;have hz:∀(u:ay),∃(y:Sl) (u2:ay),(aw 25 1 #[.mk 0 (aj (oL 0 [] [] [] Sl.nil Sl.nil Sl.nil Sl.nil 0).toArray)]).run au u=.ok y.v u2/\Own (pM true f) 9 27 u.heap.size u2 (λ_=>False) y [OH]/\aA [] u u2:=λu=>by
   obtain⟨y,u2,a1,a2,a3,_⟩:=jv (P:=au) (t:=25) (e:=27) (i:=Tryz.t27) (w:=u) (F:=λ_=>False) (r:=pM true f) (size:=9) (vs:=[aj (oL 0 [] [] [] Sl.nil Sl.nil Sl.nil Sl.nil 0).toArray]) (xs:=[OH]) (len:=1) (parts:=#[(0,aj (oL 0 [] [] [] Sl.nil Sl.nil Sl.nil Sl.nil 0).toArray)]) (by kernel_rfl) (by kernel_rfl) rfl rfl aN rfl rfl aN aN (cX true f) ⟨⟨rfl,SK hf0 _ _⟩,trivial⟩;exact⟨y,u2,a1,a2,a3⟩
  have ajp:∀{u:ay} {y:Sl} {A:Nat},B2<=A->Zo f B2 u kids acc->(∀k,A<=k->kids.a≠some ⟨k,0,none⟩)->aD (pM true f) 9 u (Fr A) y [OH]->A<=u.heap.size->∃(s8:Sl) (u2:ay),(Builtin.append_ #[25,25] 25 #[kids.v,y.v]).run au u=.ok s8.v u2/\Zo f B2 u2 s8 (acc++[OH])/\(∃gs,aA gs u u2/\∀x,x∈gs->B2<=x/\x<A)/\(∀k,A<=k->k<u.heap.size->s8.a≠some ⟨k,0,none⟩):=fun{u y A} hA ho hk hy hAu=>by
   obtain⟨s8,u2,a1,a2,gs,a3,a4,a5⟩:=vT (P:=au) (t:=25) (ty:=25) (e:=27) (i:=Tryz.t27) (bytes:=160) (size:=9) (y:=y) (ys:=[OH]) (by kernel_rfl) (by kernel_rfl) rfl rfl rfl rfl (cX true f) ho (hy.mono (cX true f) λk iJ=>⟨bf hA iJ,hk k iJ⟩) (bf hA hAu) (by rw[bK];omega) aN;refine⟨s8,u2,a1,a2,⟨gs,a3,λx hx=>⟨(a4 x hx).2.1,?_⟩⟩,λk h1 h2=>?_⟩
   ·exact Qb λkA=>hk x kA (a4 x hx).1
   rcases a5 with a5 | a5
   ·rw[a5];exact hk k h1
   rw[a5];intro e;injection e with e;injection e with e;omega
  have Yr:∀{u:ay} {s8:Sl},Sr F ts u b l N.2->aH u g t (jj++oL n1.k n1.nm n1.ini n1.dft en lv mv kids n1.a)->E4 true u (λk=>B<=k/\k<B2) n1 en lv mv->aA [b,g] w u->B2<=u.heap.size->Zo f B2 u s8 (acc++[OH])->∀w',aH w' g t (jj++oL n1.k n1.nm n1.ini n1.dft en lv mv s8 n1.a)->Zo f B2 w' s8 (acc++[N.1])->(∃gk,B2<=gk/\aA [g,gk] u w')->∃lR,Kd F ts w w' b l g t jj f B B2 n1 en lv mv N.2 (acc++[N.1]) lR:=λhr yr PB ho hz _ w' h1 h2 ⟨gk,h3,h4⟩=>
   ⟨_,hr.far h4 λx hx=>(by
    simp only[aV,bp,cm]at hx;rcases hx with rfl | rfl
    ·exact hg
    ·exact hr.gt aG),h1,PB.keep λi hi bT=>h4.block i bT (by simp only[aV,bp,cm];omega),h2,ho.trans h4 λx hx=>by
    simp only[aV,bp,cm]at hx⊢;omega,bf hz h4.size⟩
  refine⟨λk=>k=g,_,rfl,rfl,kids,sE.nb.Qm (jj.length+7) (MG rfl),(tU sE.r).mono ?_,?_⟩
  ·rintro _ eT ⟨cs,rfl,hx,F7⟩;have NS:=US sE F7;have yX:=hx;obtain⟨f',rfl⟩:∃f',f=f'+1:=⟨f-1,aG⟩
   obtain⟨xe,xl,xm,xk,rfl,_⟩:=yX;obtain⟨y,fI,e2,hy,ez⟩:=hz eT;have yu:=US NS (NS.r.dn.q ez);obtain⟨s8,fS,e3,KZ,⟨gs,ey,sH⟩,hs8⟩:=ajp (u:=fI) (y:=y) (A:=dN.heap.size) D1 yu.kd (λk hk=>sE.kd.new hk) ((hy.slice (cX true _)).mono (cX true _) λk hk=>(by
    rcases hk with hk | hk
    ·exact hk.elim
    exact bf F7.o.size hk.1)) (bf F7.o.size ez.size)
   have Jg:∀x,x∈gs->x≠g:=λx hx=>acU
   have z14:=ey.size;have VK:=yu.lB;have z12:=F7.o.size;refine⟨_,_,_,_,xe,xl,xm,xk,_,rfl,sk (x:=s') sE.lB F7,D4 F7.o aat,y,fI,e2,sk (x:=s') NS.lB (NS.r.dn.q ez),D4 ez aac,s8,fS,e3,ey.same (λx hx=>?_),D4 ey Jg,?_⟩
   ·simp only[aO]at hx;subst hx;exact⟨aG,λhm=>by have:=(sH x hm).1;omega⟩
   refine Ds (H:=λk=>dN.heap.size<=k/\k<eT.heap.size) (acc:=acc) ?_ (λk hk _=>⟨bf D1 hk.1,hs8 k hk.1 (cq hk.2 ez.size)⟩) (λk hk=>bf D1 hk.1) KZ sE.kd.len (ey.blk yu.nb λhm=>Jg g hm rfl) aG aG hkg (Yr (yu.r.own ey λx hx=>acU) (ey.blk yu.nb λhm=>Jg g hm rfl) (yu.no.keep λi hi bT=>ey.block i bT λhm=>(by have:=(sH i hm).1;omega)) (yu.o.trans ey λx hx=>.inr (by have:=(sH x hx).1;have:=sE.o.size;omega)) (bf VK z14) KZ);refine(cX true _).keep ((cX true _).inHeap hx) λk hk bT=>?_;exact(ey.block k (cq bT ez.size) λhm=>by have:=(sH k hm).2;have:=hk.1;omega).trans (ez.block k bT aac)
  obtain⟨y,j8,e2,hy,kj⟩:=hz dN;have IL:=US sE (sE.r.dn.q kj);refine⟨y,j8,e2,sk (x:=s') sE.lB (sE.r.dn.q kj),D4 kj aac,(tU IL.r).mono ?_⟩;rintro _ jM ⟨cs,rfl,hx,h20⟩;have Gw:=US IL h20;have yX:=hx;obtain⟨f',rfl⟩:∃f',f=f'+1:=⟨f-1,aG⟩
  obtain⟨xe,xl,xm,xk,rfl,_⟩:=yX;have apS:=(((hy.slice (cX true _)).inHeap (cX true _) aN).keep (cX true _) aN (w':=jM) λk hk bT=>h20.o.block k bT (by
   rcases hk.1 with hk | hk
   ·exact hk.elim
   ·have:=hk.1;simp only[aO];omega)).mono (cX true _) (G:=Fr dN.heap.size) λk hk=>(by
   rcases hk.1 with hk | hk
   ·exact hk.elim
   exact hk.1)
  obtain⟨s8,lQ,e3,KZ,⟨gs,kU,sH⟩,hs8⟩:=ajp (u:=jM) (y:=y) (A:=dN.heap.size) D1 Gw.kd (λk hk=>sE.kd.new hk) apS (bf kj.size h20.o.size);have Jg:∀x,x∈gs->x≠g:=λx hx=>acU
  have z21:=kU.size;have z20:=Gw.lB;have z19:=kj.size;refine⟨_,_,_,_,xe,xl,xm,xk,_,rfl,sk (x:=s') IL.lB h20,D4 h20.o aat,s8,lQ,e3,kU.same (λx hx=>?_),D4 kU Jg,?_⟩
  ·simp only[aO]at hx;subst hx;exact⟨aG,λhm=>by have:=(sH x hm).1;omega⟩
  refine Ds (H:=λk=>j8.heap.size<=k/\k<jM.heap.size) (acc:=acc) ?_ (λk hk _=>⟨by show B2<=k;omega,hs8 k aG hk.2⟩) (λk hk=>aG) KZ sE.kd.len (kU.blk Gw.nb λhm=>Jg g hm rfl) aG aG hkg (Yr (Gw.r.own kU λx hx=>acU) (kU.blk Gw.nb λhm=>Jg g hm rfl) (Gw.no.keep λi hi bT=>kU.block i bT λhm=>(by have:=(sH i hm).1;omega)) (Gw.o.trans kU λx hx=>.inr (by have:=(sH x hx).1;have:=sE.o.size;omega)) (bf z20 z21) KZ);refine(cX true _).keep ((cX true _).inHeap hx) λk hk bT=>?_;exact kU.block k bT λhm=>by have:=(sH k hm).2;have:=hk.1;omega
 have hc:=OQ hc;rw[bc hc]at hR;refine⟨_,Blk.eh k6.r.blk 6 rfl,b,6,_,_,rfl,k6.r.blk,aac,hkb,λrY jU apT=>?_⟩;have Yf:=US k6 (y:={s' with d:=inc s'.d}) ⟨jU,k6.r.nZ jU apT k6.r.lt⟩;obtain⟨q,vM,e1,tY,hm⟩:=qC Yf.r [125];have k27:=US Yf (Yf.r.dn.q tY);refine⟨q,vM,e1,sk (x:=s') Yf.lB (Yf.r.dn.q tY),hm.mono ?_⟩;rintro _ B8 ⟨rfl,h28⟩;have Ut:=US k27 h28;refine⟨rfl,sk (x:=s') k27.lB h28,rfl,_,Ut.nb,?_,Ut.o,?_⟩
 ·rw[<-hR];refine⟨en,lv,mv,kids,rfl,Ut.no.mono λk hk=>bf zw1 hk.1,(Ut.kd.sl (cX true f) λk hk=>hk).low (cX true f) aG⟩
 rw[<-hR];exact Ut.r
end
def Tk.Good(t:Tk):Prop:=(t.k=2->∃c r,t.t=c::r/\iQ c=true)/\(t.k=4->∃c r,t.t=c::r/\iQ c=false)/\0<=t.n/\t.n<=9223372036854775807
theorem SL{m:aJ}{q:Tq}(h:wk m=.ok q):q.1≠5/\∀a,Tk.Good ⟨q.1,q.2.1,q.2.2.1,a⟩:=by
 cases m with
 | nil=>cases h
 | cons c r=>
  simp only[wk]at h;split at h
  ·rename_i hc;unfold uO at h;split at h
   ·cases h
   injection h with h;subst h;have hw:iQ c=true:=by unfold iQ;rw[hc];rfl
   refine⟨by dsimp only;split<;>decide,λa=>⟨λ_=>?_,λh4=>?_,aaC,aaC⟩⟩
   ·dsimp only;rw[eV,bc hw];exact⟨c,_,rfl,hw⟩
   dsimp only at h4;split at h4<;>exact absurd h4 aN
  rename_i hl;split at h
  ·rename_i hc;unfold A4 at h;split at h
   ·cases h
   split at h
   ·cases h
   injection h with h;subst h;refine⟨aaC,λa=>⟨λh=>absurd h aaC,λh=>absurd h aaC,aaw,?_⟩⟩;dsimp only;unfold ij;split
   ·dsimp only;decide
   split
   ·dsimp only;decide
   split
   ·dsimp only;omega
   dsimp only;decide
  rename_i hd;unfold uQ at h;split at h
  ·cases h
  rename_i hs;injection h with h;subst h;refine⟨aaC,λa=>⟨λh=>absurd h aaC,λ_=>?_,aaC,aaC⟩⟩;obtain⟨n,hn⟩:∃n,nJ (c::r)=n+1:=⟨nJ (c::r)-1,aG⟩
  dsimp only;rw[hn,eF];refine⟨c,_,rfl,?_⟩;unfold iQ;rw[ii];exact⟨aeD,by simpa using hd⟩
theorem HN{l:aJ}:∀(n i:Nat),i<=l.length->l.length-i<=n->∀r,wm l i=.ok r->∃(fr:List Tk) (a:Int),r=fr++[⟨5,[],0,a⟩]/\(∀t,t∈fr->t.k≠5/\t.Good)/\r.length<=l.length-i+1
 | n,i,hi,hn,r,h=>by
  rw[qo hi]at h;split at h
  ·injection h with h;exact⟨[],_,h.symm,λt ht=>(by cases ht),by rw[<-h,bK];omega⟩
  split at h
  ·cases h
  rename_i q hq;have q1:=wl hq;have q2:=EO hq;rw[cP]at q2;split at h
  ·cases h
  rename_i r' N0;injection h with h;subst h
  match n,hn with
  | 0,hn=>omega
  | n+1,hn=>
   obtain⟨fr,a,e,hf,hl⟩:=HN n _ aG aG _ N0;have hg:=SL hq;refine⟨_::fr,a,by rw[e];rfl,λt ht=>?_,by rw[bn];omega⟩;rcases aV.1 ht with rfl | ht
   ·exact⟨hg.1,hg.2 _⟩
   exact hf t ht
theorem WW{fr:List Tk}{a:Int}(h:∀t,t∈fr->t.k≠5):xO (fr++[⟨5,[],0,a⟩]):=λi hi=>by
 rw[aW,bK]at hi;unfold tk;by_cases hl:i<fr.length
 ·rw[bM hl,aQ hl,kb,aW,bK];exact⟨λe=>absurd e (h _ (dZ hl)),λe=>aG⟩
 have e:i=fr.length:=aG
 subst e;rw[bZ (ba _),K7,aW,bK];exact⟨λ_=>rfl,λ_=>rfl⟩
theorem MJ{l:aJ}:∀(n i:Nat),i<=l.length->l.length-i<=n->∀x,wm l i=.error x->x.1≠0
 | n,i,hi,hn,x,h=>by
  rw[qo hi]at h;split at h
  ·cases h
  split at h
  ·rename_i e hq;injection h with h;subst h;exact LY hq
  rename_i q hq;have q1:=wl hq;have q2:=EO hq;rw[cP]at q2;split at h
  ·rename_i y hy;injection h with h;subst h
   match n,hn with
   | 0,hn=>omega
   | n+1,hn=>exact MJ n _ aG aG _ hy
  cases h
theorem J8{l:aJ}(h:(dC l).2.1=0):xO (dC l).1/\(∀t,t∈(dC l).1->t.Good)/\0<(dC l).1.length/\(dC l).1.length<=16385:=by
 unfold dC at h⊢;split at h
 ·cases h
 rename_i hl;rw[aY hl];cases hr:wm l 0 with
 | error x=>
  rw[hr]at h;exact absurd h (MJ l.length 0 (bh _) aG _ hr)
 | ok r=>
  obtain⟨fr,a,e,hf,hn⟩:=HN l.length 0 (bh _) aG r hr;dsimp only;subst e;refine⟨WW λt ht=>(hf t ht).1,λt ht=>?_,aaE,aG⟩;rcases bN.1 ht with ht | ht
  ·exact(hf t ht).2
  simp only[aO]at ht;subst ht;exact⟨λh=>absurd h aaC,λh=>absurd h aaC,aaC,aaC⟩
section
variable {F:aL} {ts:List Tk} {w w' w2:ay} {b:Nat} {l:Sl} {s s':Sx}
theorem ML:∀(f:Nat) (d:Int),0<=d->d<f->d<=9223372036854775807->Zn F ts b l f d
 | 0,d,h0,h1,_=>aG
 | f+1,d,h0,h1,h2=>by
  intro k u w h hd;refine(agL ⟨b,0,none⟩ k (λv w'=>∃cs,v=(aj cs.toArray)/\pM true (f+1) w' (Fr w.heap.size) (lm ts (f+1) k u).1 cs/\Dn F ts w w' b l (lm ts (f+1) k u).2) w ?_).mono (by
   rintro e w' ⟨v,rfl,cs,rfl,h⟩;exact⟨cs,rfl,h⟩)
  intro k0 w0 gU fD cO;have t0:=h.zt.al cO gU fD;refine(HM t0.r k).mono ?_;rintro _ w1 ⟨rfl,h1'⟩;have t1:=t0.nx h1';have UT:=Bg h.en k u;have hnd:=WL (ts:=ts) (k:=k) (s:=u);rw[lm];have yr:(fu ts k u).1.ini=[]/\(fu ts k u).1.dft=[]/\(fu ts k u).1.en=[]/\(fu ts k u).1.lv=[]/\(fu ts k u).1.mv=[]:=⟨rfl,rfl,rfl,rfl,rfl⟩
  generalize fu ts k u=N at*
  obtain⟨nb,u1⟩:=N;dsimp only at*
  obtain⟨i1,i2,i3,i4,i5⟩:=yr;obtain⟨nk,nnm,apU,apV,nen,nlv,nmv,na⟩:=nb;dsimp only at i1 i2 i3 i4 i5;subst i1 i2 i3 i4 i5;dsimp only at*
  refine⟨_,_,_,_,Sl.nil,Sl.nil,Sl.nil,Sl.nil,_,rfl,t0.sc h1' aac,λhc k1 w2 kc jO dk=>?_,λhc k2 dL vf xh dW=>?_⟩
  ·rw[bc abp];have t2:=t1.al dk kc jO;obtain⟨q,w3,e1,dz,hm⟩:=qC t2.r [45,62];have t3:=t2.q dz;refine⟨q,w3,e1,t2.sq dz aac,hm.mono ?_⟩;rintro _ w4 ⟨rfl,h4⟩;have t4:=t3.nx h4;refine⟨rfl,t3.sc h4 aac,(wz t4.r).mono ?_⟩;rintro _ w5 ⟨rfl,h5⟩;have t5:=t4.nx h5;refine⟨_,rfl,t4.sc h5 aac,λw6 eH=>?_⟩;have t6:=t5.f eH aac;obtain⟨q,w7,e1,fN,hm⟩:=qC t6.r [59];have t7:=t6.q fN;refine⟨q,w7,e1,t6.sq fN aac,hm.mono ?_⟩;rintro _ w8 ⟨rfl,h8⟩;have t8:=t7.nx h8;refine⟨rfl,t7.sc h8 aac,λw9 gH=>⟨_,rfl,⟨Sl.nil,Sl.nil,Sl.nil,Sl.nil,rfl,⟨j5.nil _ _ _ _ _ _,j5.nil _ _ _ _ _ _,j5.nil _ _ _ _ _ _⟩,j5.nil _ _ _ _ _ _⟩,(t8.f gH aac).dn⟩⟩
  rw[aY aby];have t10:=t1.al dW vf xh;obtain⟨q,dN,e1,dX,hm⟩:=qC t10.r [123];have t11:=t10.q dX;refine⟨q,dN,e1,t10.sq dX aac,hm.mono ?_⟩;rintro _ eT ⟨rfl,F7⟩;have t12:=t11.nx F7;have hms:=iz (s:=u1) h.en [123];refine⟨rfl,t11.sc F7 aac,λhB _=>?_⟩;have hsd:(eW ts u1 [123]).d=d:=hms.d.trans (UT.d.trans hd);refine(MH (f:=f) t12.r (jj:=[]) (n:=⟨nk,nnm,[],[],[],[],[],na⟩) rfl rfl rfl hB (t12.r.gt (t12.lt aac)) (by rw[hsd];exact⟨aG,h2⟩) (λhf=>?_)).mono ?_
  ·have hd0:=hnd (hms.le hf).1;rw[hd]at hd0;have VA:zO d=d-1:=by unfold zO;rw[gx aG aG]
   rw[hsd,VA];exact⟨aG,ML f (d-1) aG aG aG⟩
  rintro _ fI ⟨rfl,cs,Cf,hx,ez,apX⟩;have yX:=hx;obtain⟨xe,xl,xm,xk,rfl,_⟩:=yX;have VK:Fz [b] w fI [k2,k0]:=t12.z.go ez λx hx=>abS
  have l2:=t12.lt (k0:=k2) aac;have l0:=t12.lt (k0:=k0) aac;have k0l:=(t1.z.k k0 aac).2;refine⟨rfl,t12.z.sm ez aac (λx hx=>?_),_,_,_,_,xe,xl,xm,xk,_,Cf,λfS ey IQ=>⟨_,rfl,?_,?_⟩⟩
  ·simp only[aV,bp,cm]at hx;rcases hx with rfl | rfl
   ·exact .inl aac
   exact .inr λy hy=>by simp only[aO]at hy;omega
  ·refine(cX true _).low ((cX true _).stay hx ((Stay.refl _ _).f ey (.inl ?_))) t12.z.o.size;have:=(t12.z.k k0 aac).2;exact this
  exact⟨(VK.f ey aac).o,apX.one ey l0⟩
theorem abM(h:Sr F ts w b l s)(hg:∀t,t∈ts->t.Good):aB au 91 #[rp b] w λe w'=>e=aq (aj #[ah (T (vA ts s).1.n),O ae (vA ts s).1.v,O ae (vA ts s).1.a])/\Dn F ts w w' b l (vA ts s).2:=by
 refine ret (agz _ _ _ ?_);intro k0 w0 gU fD cO;have t0:=h.zt.al cO gU fD;obtain⟨ad,g1,g2⟩:=t0.r.now;unfold vA;dsimp only;generalize vL:(if(tk ts s.i).k=1 then Hw ts s else s)=s1;refine⟨λw'=>Zt F ts w w' b l s1 [k0],λw1 t1=>(wx t1.r (k:=1) aN).mono ?_,l,Blk.eh t0.r.blk 0 rfl,_,Blk.eh t0.r.blk 1 rfl,ad,g1,_,g2.eh 0 _ rfl,λhc eT fk=>?_,λhc fS ey=>?_⟩
 ·rintro _ w2 ⟨rfl,h2⟩;have t2:=t1.nx h2;refine⟨_,_,_,_,rfl,t1.sc h2 aac,λk1 w3 kc jO dz=>?_⟩;have t3:=t2.al dz kc jO;obtain⟨q,w4,e1,dK,hm⟩:=qC t3.r [61];have t4:=t3.q dK;refine⟨q,w4,e1,t3.sq dK aac,hm.mono ?_⟩;rintro _ w5 ⟨rfl,h5⟩;have t5:=t4.nx h5;refine⟨rfl,t4.sc h5 aac,?_⟩;obtain⟨q,w6,e1,eH,hm⟩:=Dr t5.r [[45]] (n:=1) (parts:=#[(0,ah (T [45]))]) rfl rfl aN aN;have t6:=t5.q eH;refine⟨q,w6,e1,t5.sq eH aac,hm.mono ?_⟩;rintro _ w7 ⟨rfl,h7⟩;have t7:=t6.nx h7;generalize hgg:dr ts (eW ts (ix ts s1 1).2 [61]) [[45]]=gg at*
  have hgl:gg<=1:=by rw[<-hgg];exact Hz _
  refine⟨_,rfl,t6.sc h7 aac,(wx t7.r (k:=3) aN).mono ?_⟩;rintro _ w8 ⟨rfl,h8⟩;have t8:=t7.nx h8;refine⟨_,_,_,_,rfl,t7.sc h8 aac,?_⟩;obtain⟨q,w9,e1,gH,hm⟩:=qC t8.r [59];have t9:=t8.q gH;refine⟨q,w9,e1,t8.sq gH aac,hm.mono ?_⟩;rintro _ dL ⟨rfl,UM⟩;refine⟨rfl,t9.sc UM aac,λdN dX=>⟨?_,((t9.nx UM).f dX aac).dn⟩⟩;have hn:∀u:Sx,0<=(ix ts u 3).1.n/\(ix ts u 3).1.n<=9223372036854775807:=λu=>by
   unfold ix;split
   ·exact⟨kq 0,(by decide:(0:Int)<=9223372036854775807)⟩
   unfold tk;cases hx:ts[u.i]? with
   | none=>exact⟨kq 0,(by decide:(0:Int)<=9223372036854775807)⟩
   | some t=>exact(hg t (bB hx)).2.2
  obtain⟨n0,n1⟩:=hn (if gg=0 then eW ts (ix ts s1 1).2 [61]else dM (eW ts (ix ts s1 1).2 [61]));generalize (ix ts (if gg=0 then eW ts (ix ts s1 1).2 [61]else dM (eW ts (ix ts s1 1).2 [61])) 3).1.n=x at*
  have e:av ae ((av ae (1-(av ae (2*(gg:Int)))))*x)=if gg=0 then x else av ae (-x):=by
   rcases(by omega:gg=0∨gg=1)with rfl | rfl
   ·rw[bc rfl];show av ae (1*x)=x;rw[Int.one_mul,gx aG aG]
   rw[aY aN];show av ae (-1*x)=_;rw[Int.neg_one_mul]
  rw[e]
 ·refine(abJ (t0.q fk).r).mono ?_;rintro _ fI ⟨rfl,vI⟩;refine⟨rfl,(t0.q fk).sc vI aac,?_⟩;rw[<-vL,bc aai];exact(t0.q fk).nx vI
 rw[<-vL,aY aai];exact t0.q ey
end
theorem Zp(w:ay)(F:aL):ChR true 15 w F ch0 Sl.nil (oL 0 [] [] [] Sl.nil Sl.nil Sl.nil Sl.nil 0):=⟨j5.nil _ _ _ _ _ _,SK aN _ _⟩
theorem ChR.stay{d:Nat}{w w':ay}{B:Nat}{c:Ch}{vs:Sl}{cs:aK}(h:ChR true d w (Fr B) c vs cs)(hs:Stay B w w'):ChR true d w' (Fr B) c vs cs:=⟨h.vars.stay gC aN hs,(cX true d).stay h.root hs⟩
theorem ChR.low{d:Nat}{w:ay}{A B:Nat}{c:Ch}{vs:Sl}{cs:aK}(h:ChR true d w (Fr B) c vs cs)(hA:A<=B):ChR true d w (Fr A) c vs cs:=⟨h.vars.low gC hA,(cX true d).low h.root hA⟩
theorem abN{ts:List Tk}(hE:xO ts){s:Sx}{ss:List (aJ)}(hi:s.i<ts.length)(hw:dr ts s ss≠0):mu ts (vA ts (dM s)).2<mu ts s:=
 pq hE (dA hw).1 hi (dA hw).2 (Sj hE (dM s)).toOn0
theorem HO{w:ay}(l:aJ)(hE:Er w):aB au 56 #[ah (T l)] w λe w'=>
  ∃(vs:Sl) (cs:aK),e=aq (ak #[aj (vs.v::cs).toArray,aj #[O ae (eO l).2.1,O ae (eO l).2.2]])/\ChR true 15 w' (Fr w.heap.size) (eO l).1 vs cs/\aA [] w w':=by
 refine(af5 (T l) (λv w'=>∃(vs:Sl) (cs:aK),v=(ak #[aj (vs.v::cs).toArray,aj #[O ae (eO l).2.1,O ae (eO l).2.2]])/\ChR true 15 w' (Fr w.heap.size) (eO l).1 vs cs/\aA [] w w') w ?_).mono (by
  rintro e w' ⟨v,rfl,vs,cs,rfl,h⟩;exact⟨vs,cs,rfl,h⟩)
 generalize hP:eO l=P;unfold eO at hP;intro k0 k1 w0 gU fD kc jO cO;have z0:=cO.size;refine(Hm l (hE.only cO)).mono ?_;rintro _ w1 ⟨rs,rfl,hT,cG⟩;have z1:=cG.size;have j9:=cO.cr cG;have tOk:=J8 (l:=l);have apY:∀{w2 w3:ay},aA [] w1 w2->aA [k1,k0] w2 w3->aA [] w w3:=λdk dz=>((j9.cr dk).trans dz λx hx=>.inr aam)
 refine⟨rs,_,_,rfl,cG.same aae,λhc k2 w2 vf xh dk n1 n2 n3=>⟨λk=>k=k2,rfl,λe=>n2 e,λe=>n3 e,λw3 dz=>?_⟩,λhc k3 k4 k5 w4 zr xi zY CM CN F5 dK=>?_⟩
 ·have hc:(dC l).2.1≠0:=aai
  rw[bc hc]at hP;subst hP;exact⟨Sl.nil,_,rfl,Zp _ _,apY dk dz⟩
 have hc:(dC l).2.1=0:=aai
 obtain⟨hEn,PZ,ajr,fy⟩:=tOk hc;rw[aY aai]at hP;have apZ:=((hT.sl.inHeap jR aN).mono jR (G:=λk=>w0.heap.size<=k/\k<w1.heap.size) λk hk=>⟨hk.1.1,hk.2⟩)
 generalize (dC l).1=ts at*
 clear tOk hT;have z4:=dK.size;obtain⟨q,w5,e1,hq,eJ⟩:=oy w4 [gZ] (n:=1) (parts:=#[(0,ah (T gZ))]) rfl rfl aN aN;have z5:=eJ.size;refine⟨q,w5,e1,eJ.same aae,λxb n04 n14 n34 n54=>?_⟩;have r5:Sr (λk=>w0.heap.size<=k/\k<w1.heap.size) ts w5 k4 rs I5:=⟨xb,SliceF.only jR aN apZ (dK.cr eJ) aac,λk hk=>adD,hEn,ajr,aG⟩
 have Qs:∀k,(λk=>w0.heap.size<=k/\k<w1.heap.size) k->k<w1.heap.size:=λk hk=>hk.2;generalize (λk=>w0.heap.size<=k/\k<w1.heap.size)=F at*
 have w5w:aA [] w w5:=(j9.cr dK).cr eJ;have sm:∀{u u':ay} {x:Sx},w5.heap.size<=u.heap.size->Dn F ts u u' k4 rs x->ci [k0,k1,k3,k5] u u':=λhz d=>d.o.same (by
  intro x hx;simp only[aV,bp,cm]at hx⊢;omega)
 have sq:∀{u u':ay},w5.heap.size<=u.heap.size->aA [] u u'->ci [k0,k1,k3,k4,k5] u u':=λhz o=>o.same λx hx=>⟨by
  simp only[aV,bp,cm]at hx;omega,aac⟩
 have oD:∀{u u':ay} {x:Sx},aA [] w u->Dn F ts u u' k4 rs x->aA [] w u':=λo d=>o.trans d.o λx hx=>.inr aaj;have o5:∀{u u':ay},aA [] w u->aA [k5] u u'->aA [] w u':=λo d=>o.trans d λx hx=>.inr aaj;have r55:∀{u u':ay} {x:Sx},Sr F ts u k4 rs x->aA [k5] u u'->Sr F ts u' k4 rs x:=λr o=>r.acp o ⟨n54,λhF=>by have:=Qs _ hF;omega⟩;have I9:=xb.lt;refine(ME r5 (wj hq) λk hk e=>(by have:=hk.1;omega)).mono ?_;rintro _ w6 ⟨rfl,h6⟩;have z6:=h6.o.size;refine⟨rfl,sm (ba _) h6,rs,_,_,_,_,_,_,_,_,h6.r.blk,(HM h6.r 1).mono ?_⟩;rintro _ w7 ⟨rfl,h7⟩;have z7:=h7.o.size;have hC:Bd ts=(⟨(yJ ts (ts.length+1) [] (eW ts (fu ts 1 (eW ts I5 gZ)).2 [123])).1,(rU ts (lm ts 14) (fu ts 1 (eW ts I5 gZ)).1 (yJ ts (ts.length+1) [] (eW ts (fu ts 1 (eW ts I5 gZ)).2 [123])).2).1⟩,OJ ts (rU ts (lm ts 14) (fu ts 1 (eW ts I5 gZ)).1 (yJ ts (ts.length+1) [] (eW ts (fu ts 1 (eW ts I5 gZ)).2 [123])).2).2):=rfl;have yr:(fu ts 1 (eW ts I5 gZ)).1.ini=[]/\(fu ts 1 (eW ts I5 gZ)).1.dft=[]/\(fu ts 1 (eW ts I5 gZ)).1.en=[]/\(fu ts 1 (eW ts I5 gZ)).1.lv=[]/\(fu ts 1 (eW ts I5 gZ)).1.mv=[]:=⟨rfl,rfl,rfl,rfl,rfl⟩
 have on7:On ts I5 (fu ts 1 (eW ts I5 gZ)).2:=(iz hEn _).trans (Bg hEn _ _);generalize fu ts 1 (eW ts I5 gZ)=N at*
 obtain⟨⟨nk,nnm,apU,apV,nen,nlv,nmv,na⟩,u1⟩:=N;dsimp only at*
 obtain⟨i1,i2,i3,i4,i5⟩:=yr;subst i1 i2 i3 i4 i5;refine⟨_,_,_,_,Sl.nil,Sl.nil,Sl.nil,Sl.nil,_,rfl,sm z6 h7,rs,_,_,_,_,_,_,_,_,h7.r.blk,λw8 fX ve=>?_⟩;have z8:=fX.size;have r8:=r55 h7.r fX;have w8w:=o5 (oD (oD w5w h6) h7) fX;obtain⟨q,w9,e1,gH,hm⟩:=qC r8 [123];have z9:=gH.size;refine⟨q,w9,e1,sq aG gH,hm.mono ?_⟩;rintro _ dL ⟨rfl,UM⟩;have PM:=UM.o.size;have ap0:=oD (w8w.cr gH) UM;have ap1:On ts I5 (eW ts u1 [123]):=on7.trans (iz hEn _);clear hm;generalize eW ts u1 [123]=u2 at*
 generalize hV:yJ ts (ts.length+1) [] u2=V at*
 generalize hB:dL.heap.size=B at*
 refine⟨rfl,sm aG UM,rs,_,_,_,_,_,_,_,_,UM.r.blk,λnv l10 i28 s3 s4 s5 oa pU uy xu i29 zq i30 i31 i32 i33 i34 i35 i36 i37 w'=>∃(u:Sx) (acc:List Vr),i28=nk/\s3=T nnm/\s4=T []/\s5=T []/\oa=Sl.nil/\pU=Sl.nil/\uy=Sl.nil/\xu=Sl.nil/\i29=na/\Sr F ts w' k4 rs u/\Own Vl 3 119 B w' (Fr B) l10 acc/\yJ ts nv acc u=V/\mu ts u<nv/\acc.length+mu ts u<=ts.length/\aA [] w w'/\B<=w'.heap.size/\u.d=12,
  ts.length+1,⟨u2,[],rfl,rfl,rfl,rfl,rfl,rfl,rfl,rfl,rfl,UM.r,Own.nil _ _ _ _ _ _,hV,vP (rW _ _),aej,ap0,oX hB.symm,ap1.d⟩,?_⟩
 clear hV;rintro nv l10 nk2 _ _ _ _ _ _ _ na2 zq i30 i31 i32 i33 i34 i35 i36 i37 dN ⟨u,acc,rfl,rfl,rfl,rfl,rfl,rfl,rfl,rfl,rfl,r11,UU,hR,hf1,PG,ap3,zB,hud⟩;obtain⟨m,rfl⟩:∃m,nv=m+1:=⟨nv-1,aG⟩
 rw[yJ]at hR;obtain⟨q,eT,e1,fk,hm⟩:=Dr r11 [Hx] (n:=1) (parts:=#[(0,ah (T Hx))]) rfl rfl aN aN;have z12:=fk.size;refine⟨q,eT,e1,sq aG fk,hm.mono ?_⟩;rintro _ fI ⟨rfl,vI⟩;have VK:=vI.o.size;have adQ:=oD (ap3.cr fk) vI;have aak:Own Vl 3 119 B fI (Fr B) l10 acc:=(UU.stay gC fk λx hx=>adK).stay gC vI.o λx hx=>.inl aaj;refine⟨_,rfl,sm aG vI,rs,_,_,_,_,_,_,_,_,vI.r.blk,λtW fS ey IQ=>?_,λtW Cf m05 m15 m35=>?_⟩
 ·have tW:=OS tW;rw[aY tW]at hR vI;have z14:=ey.size;have r14:=vI.r.only ey;refine⟨λk=>k=k5,rfl,(abM r14 PZ).mono ?_⟩;rintro _ ia ⟨rfl,QC⟩;have z15:=QC.o.size;have hmu:=abN hEn r11.lt tW;have UT:=Sj hEn (dM u);generalize vA ts (dM u)=X at*
  obtain⟨x,u'⟩:=X;dsimp only at*
  have Cs:=rW ts u;have ajs:Own Vl 3 119 B ia (Fr B) l10 acc:=(aak.stay gC ey λx hx=>adK).stay gC QC.o λx hx=>.inl aaj;obtain⟨y,io,e2,ic,D3,gn,e3,ny,⟨gs,iZ,sH⟩,_⟩:=jG (P:=au) (t:=22) (ty:=22) (e:=119) (i:=Tryz.t119) (bytes:=32) (size:=3) (v:=aj #[ah (T x.n),O ae x.v,O ae x.a]) (x:=x) (G:=λ_=>False) (by kernel_rfl) (by kernel_rfl) rfl rfl rfl rfl aN aN aN gC ajs aG rfl rfl (λk hk _=>hk.elim) aG;have qS:∀g,g∈gs->B<=g:=λg hg=>(sH g hg).2.1;have z16:=ic.size;have z17:=iZ.size;refine⟨_,_,_,rfl,sm aG QC,rs,_,_,_,_,_,_,_,_,QC.r.blk,λk hk bT=>(by subst hk;exact QC.o.block k bT aat),y,io,e2,sq aG ic,bS.only ic,D3,gn,e3,iZ.same (λx hx=>?_),λk hk bT=>(by subst hk;exact iZ.block k bT λhm=>(by have:=qS k hm;omega)),λjC mw UR=>?_⟩
  ·simp only[aV,bp,cm]at hx;exact⟨aG,λhm=>by have:=qS x hm;omega⟩
  have z18:=mw.size;have r17:Sr F ts gn k4 rs u':=(QC.r.only ic).own iZ λx hx=>(by have:=qS x hx;omega)
  refine⟨m,Qa _,u',acc++[x],rfl,rfl,rfl,rfl,rfl,rfl,rfl,rfl,rfl,r55 r17 mw,?_,hR,aG,aaE,o5 (((oD (adQ.cr ey) QC).cr ic).trans iZ λx hx=>.inr (by have:=qS x hx;have:=adQ.size;omega)) mw,aG,UT.d.trans hud⟩;refine(ny.mono gC λk hk=>?_).stay gC mw λx hx=>.inl aaj;rcases hk with hk | hk
  ·exact hk
  show B<=k;omega
 have tW:=OQ tW;rw[bc tW]at hR vI;subst hR;dsimp only at hC;have r13:=vI.r;refine(MH (f:=14) r13 (jj:=[l10.v]) (n:=⟨nk2,nnm,[],[],[],[],[],na2⟩) rfl rfl rfl Cf ⟨n54,λhF=>(by have:=Qs _ hF;omega)⟩ (by rw[hud];exact⟨aN,aN⟩) (λ_=>by
  rw[hud];exact⟨aN,ML 14 11 aN aN aN⟩)).mono ?_
 generalize rU ts (lm ts 14) ⟨nk2,nnm,[],[],[],[],[],na2⟩ u=D at*
 obtain⟨root,s1⟩:=D;dsimp only at hC;rw[hC]at hP;dsimp only at hP;rintro _ j8 ⟨rfl,cs,ajt,hx,kj,r19⟩;dsimp only at*
 have z19:=kj.size;have ap6:aA [] w j8:=adQ.trans kj λx hx=>.inr aam;have ap7:Stay B fI j8:=Stay.of kj λx hx=>.inl aam;have c19:ChR true 15 j8 (Fr w5.heap.size) ⟨acc,root⟩ l10 cs:=⟨((aak.sl gC λk hk=>hk).stay gC aN ap7).low gC aG,(cX true 15).low hx aG⟩
 have yX:=hx;obtain⟨xe,xl,xm,xk,rfl,_⟩:=yX;have sm3:∀{u u':ay} {bs:List Nat},w5.heap.size<=u.heap.size->aA bs u u'->(∀x,x∈bs->x=k4∨x=k5)->ci [k0,k1,k3] u u':=λhz o hb=>o.same λx hx=>⟨aam,λhm=>by have:=hb x hm;simp only[aV,bp,cm]at hx;omega⟩
 refine⟨rfl,sm3 aG kj aac,rs,_,_,_,_,_,_,_,_,r19.blk,l10,_,_,_,_,xe,xl,xm,xk,_,ajt,?_⟩;have st:∀{u u':ay} {x:Sx},Sr F ts u k4 rs x->aH u k5 29 (l10.v::oL root.b.k root.b.nm root.b.ini root.b.dft xe xl xm xk root.b.a)->aA [] w u->ChR true 15 u (Fr w5.heap.size) ⟨acc,root⟩ l10 (oL root.b.k root.b.nm root.b.ini root.b.dft xe xl xm xk root.b.a)->∀{y:Sx},Dn F ts u u' k4 rs y->Sr F ts u' k4 rs y/\aH u' k5 29 (l10.v::oL root.b.k root.b.nm root.b.ini root.b.dft xe xl xm xk root.b.a)/\aA [] w u'/\ChR true 15 u' (Fr w5.heap.size) ⟨acc,root⟩ l10 (oL root.b.k root.b.nm root.b.ini root.b.dft xe xl xm xk root.b.a):=fun{u u' x} a1 a2 a3 a4 {y} d=>
  ⟨d.r,d.o.blk a2 aat,oD a3 d,a4.stay (Stay.of d.o λx hx=>.inl aaj)⟩
 refine⟨λZ1 i67 PH NR Ya l28 Z2 Z3 Z4 i68 Z5 i69 i70 i71 i72 i73 i74 i75 i76 jM=>w5.heap.size<=jM.heap.size/\Sr F ts jM k4 rs (OJ ts s1)/\aH jM k5 29 (l10.v::oL root.b.k root.b.nm root.b.ini root.b.dft xe xl xm xk root.b.a)/\aA [] w jM/\ChR true 15 jM (Fr w5.heap.size) ⟨acc,root⟩ l10 (oL root.b.k root.b.nm root.b.ini root.b.dft xe xl xm xk root.b.a),?_,?_⟩
 ·rintro Z1 i67 PH NR Ya l28 Z2 Z3 Z4 i68 Z5 i69 i70 i71 i72 i73 i74 i75 i76 jM ⟨z20,a1,a2,a3,a4⟩;refine(mF a1).mono ?_;rintro _ lQ ⟨rfl,kU⟩;obtain⟨b1,b2,b3,b4⟩:=st a1 a2 a3 a4 (a1.dn.q kU);have z21:=kU.size;refine⟨_,rfl,sm3 z20 kU aac,rs,_,_,_,_,_,_,_,_,b1.blk,l10,_,_,_,_,xe,xl,xm,xk,_,b2,λhf pR PW _ _ p01 p03 p04 p05 p13 p14 p15 p34 p35 p45=>⟨λk=>k=k4,rfl,λe=>p04 e,λe=>p14 e,λpE lJ _ _=>?_⟩,λhf oQ yw _ _=>?_⟩
  ·have hf:(OJ ts s1).fc≠0:=acS
   rw[bc hf]at hP;subst hP;exact⟨Sl.nil,_,rfl,Zp _ _,(b3.cr PW).trans lJ λx hx=>.inr aam⟩
  have hf:¬(OJ ts s1).fc≠0:=acS
  rw[aY hf]at hP;subst hP;refine⟨l10,_,rfl,(b4.stay (Stay.of yw λx hx=>.inl aam)).low w5w.size,b3.trans yw λx hx=>.inr aam⟩
 refine⟨λb1 PJ i87 Z7 s17 s18 PK PL Qw Yc i88 Yd i89 i90 i91 i92 i93 i94 i95 i96 ob=>b1=decide (s1.fc=0/\(tk ts s1.i).k≠5)/\w5.heap.size<=ob.heap.size/\Sr F ts ob k4 rs s1/\aH ob k5 29 (l10.v::oL root.b.k root.b.nm root.b.ini root.b.dft xe xl xm xk root.b.a)/\aA [] w ob/\ChR true 15 ob (Fr w5.heap.size) ⟨acc,root⟩ l10 (oL root.b.k root.b.nm root.b.ini root.b.dft xe xl xm xk root.b.a),?_,λvM tY _ _=>?_⟩
 ·rintro b1 PJ i87 Z7 s17 s18 PK PL Qw Yc i88 Yd i89 i90 i91 i92 i93 i94 i95 i96 ob ⟨rfl,z25,a1,a2,a3,a4⟩;unfold OJ;refine⟨λhb=>(tI a1).mono ?_,λhb=>?_⟩
  ·rw[bc (aP hb)];rintro _ rY ⟨rfl,h26⟩;obtain⟨b1,b2,b3,b4⟩:=st a1 a2 a3 a4 h26;have z26:=h26.o.size;exact⟨rfl,sm3 z25 h26.o aac,rs,_,_,_,_,_,_,_,_,b1.blk,l10,_,_,_,_,xe,xl,xm,xk,_,b2,aG,b1,b2,b3,b4⟩
  rw[aY (aX hb)];exact⟨z25,a1,a2,a3,a4⟩
 have z27:=tY.size;obtain⟨a1,a2,a3,a4⟩:=st r19 ajt ap6 c19 (r19.dn.q tY);refine(mF a1).mono ?_;rintro _ B8 ⟨rfl,yx⟩;obtain⟨b1,b2,b3,b4⟩:=st a1 a2 a3 a4 (a1.dn.q yx);have z28:=yx.size;obtain⟨ad,g1,g2⟩:=b1.now;refine⟨_,rfl,sm3 aG yx aac,rs,_,_,_,_,_,_,_,_,b1.blk,l10,_,_,_,_,xe,xl,xm,xk,_,b2,λhb=>⟨ad,g1,_,g2.eh 0 _ rfl,?_,aG,b1,b2,b3,b4⟩,λhb=>⟨?_,aG,b1,b2,b3,b4⟩⟩
 ·have hb:s1.fc=0:=aaz
  rw[bW];simp[hb]
 have hb:¬s1.fc=0:=aaz
 simp[hb]
def Bu(w:ay)(b k:Nat):Prop:=∃n c,w.cell? ⟨b,1,none⟩=some (.slice (some ⟨k,0,none⟩) n c)
structure Mw (f:Bool) (b:Nat) (w w':ay):Prop where
 o:aF (λk=>k=b∨(f=false/\Bu w b k)) w w'
 u:∀k,Bu w' b k->Bu w b k∨(f=false/\w.heap.size<=k)
abbrev St:=Bool×Int
structure Qz (w0:ay) (b:Nat) (w:ay) (l:aJ) (st:St):Prop where
 o:aA [] w0 w
 lo:w0.heap.size<=b
 ex:∃(q:Option Addr) (sl:Sl),(q=none∨q=some ⟨b,0,none⟩)/\aH w b 218 [ai q,sl.v,ao st.1,O ae st.2]/\Bf w (b+1) sl l
 i:st.1=false->0<=st.2/\st.2<=400
 big:l.length<=274877906944
structure Up (st:St) (c:Bool) (n:Nat) (cK:St):Prop where
 w:cK.1=((st.1||!c)||decide (400<st.2+n))
 a:cK.1=false->cK.2=st.2+n
theorem or3{a b c:Bool}(h:false=((a||!b)||c)):a=false/\b=true/\c=false:=by
 revert h;cases a<;>cases b<;>cases c<;>decide
theorem Up.ok{st cK:St}{c:Bool}{n:Nat}(h:Up st c n cK)(e:cK.1=false):st.1=false/\c=true/\cK.2=st.2+n/\¬400<st.2+(n:Int):=by
 obtain⟨a,b,d⟩:=or3 (e.symm.trans h.w);exact⟨a,b,h.a e,aX d⟩
theorem Up.tr{st cK adR:St}{c c':Bool}{n n':Nat}(h:Up st c n cK)(k:Up cK c' n' adR):Up st (c&&c') (n+n') adR:=by
 cases e:adR.1 with
 | false=>
  obtain⟨k1,k2,k3,k4⟩:=k.ok e;obtain⟨h1,h2,h3,h4⟩:=h.ok k1;have h5:¬400<st.2+((n+n':Nat):Int):=aG
  refine⟨?_,λ_=>aG⟩;rw[e,h1,h2,k2,bI h5];rfl
 | true=>
  refine⟨?_,λe2=>by rw[e]at e2;cases e2⟩;rw[e];refine Eq.symm (cy λhn=>?_);obtain⟨a1,a2,a3⟩:=or3 (eu.2 hn).symm;rw[aR]at a2;have a3:=aX a3;have h5:¬400<st.2+(n:Int):=aG
  have e1:cK.1=false:=by rw[h.w,a1,a2.1,bI h5];rfl
  have e2:=h.a e1;have h6:¬400<cK.2+(n':Int):=aG
  have:=k.w;rw[e,e1,a2.2,bI h6]at this;cases this
theorem Up.cg{st cK:St}{c c':Bool}{n n':Nat}(h:Up st c n cK)(e:c=c')(en:n=n'):Up st c' n' cK:=by subst e en;exact h
theorem Up.le{st cK:St}{c:Bool}{n:Nat}(h:Up st c n cK)(h0:st.1=false->0<=st.2)(e:cK.1=false):0<=cK.2/\cK.2<=400:=by
 obtain⟨a,b,d,h2⟩:=h.ok e;have:=h0 a;omega
section
variable {f g:Bool} {w0 ws w w' w1 tT:ay} {b k:Nat} {l l':aJ} {st cK:St} {ks ks':List Nat}
theorem Mw.refl(f:Bool)(b:Nat)(w:ay):Mw f b w w:=⟨OnlyP.refl _ _,λ_ h=>.inl h⟩
theorem Mw.trans(h:Mw f b w w')(k:Mw f b w' tT):Mw f b w tT:=by
 have z:=h.o.size;refine⟨h.o.trans k.o λx hx=>?_,λx hx=>?_⟩
 ·rcases hx with hx | ⟨ef,hx⟩
  ·exact .inl (.inl hx)
  rcases h.u x hx with e | ⟨_,e⟩
  ·exact .inl (.inr ⟨ef,e⟩)
  exact .inr e
 rcases k.u x hx with e | ⟨ef,e⟩
 ·exact h.u x e
 exact .inr ⟨ef,aG⟩
theorem Mw.up(h:Mw f b w w'):Mw false b w w':=⟨h.o.mono λk _ hk=>hk.elim .inl λe=>.inr ⟨rfl,e.2⟩,λk hk=>(h.u k hk).elim .inl λe=>.inr ⟨rfl,e.2⟩⟩
theorem Mw.ahX(h:Mw true b w w'):aA [b] w w':=h.o.ahR λk hk=>hk.elim (λe=>.inl (by rw[e];simp)) λe=>(by cases e.1)
theorem wA(h:w'.heap[b]? =w.heap[b]?){k:Nat}(hb:Bu w' b k):Bu w b k:=by
 obtain⟨n,c,hc⟩:=hb;refine⟨n,c,?_⟩;unfold World.cell? at hc⊢;rw[h]at hc;exact hc
theorem Qz.lb(h:Qz w0 b w l st):b<w.heap.size:=by
 obtain⟨q,sl,_,hB,_⟩:=h.ex;exact hB.lt
theorem Qz.arg(h:Qz w0 b w l st)(h':Qz w0 b w' l' cK){k:Nat}(hk:k<w0.heap.size):w'.heap[k]? =w.heap[k]? :=(h'.o.block k hk aac).trans (h.o.block k hk aac).symm
theorem Mw.only(hb:b<w.heap.size)(h:aA [] w w'):Mw f b w w':=⟨h.p0,λk hk=>.inl (wA (h.block b hb aac) hk)⟩
theorem MM{q v2 v3:az}{t:TypeId}{sl:Sl}(hB:aH w b t [q,sl.v,v2,v3]){k:Nat}(h:Bu w b k):sl.a=some ⟨k,0,none⟩:=by
 obtain⟨n,c,hc⟩:=h;have:=Blk.eh hB 1 rfl 0 sl.v rfl;have e:(Addr.add ⟨b,0,none⟩ 1).add 0=⟨b,1,none⟩:=aeI
 rw[e,hc]at this;have:(Value.slice (some ⟨k,0,none⟩) n c)=.slice sl.a sl.n sl.c:=Ad this;injection this with e1 _ _;exact e1.symm
theorem HP{q v2 v3:az}{t:TypeId}{sl:Sl}(hB:aH w b t [q,sl.v,v2,v3]){k:Nat}(h:sl.a=some ⟨k,0,none⟩):Bu w b k:=by
 have:=Blk.eh hB 1 rfl 0 sl.v rfl;have e:(Addr.add ⟨b,0,none⟩ 1).add 0=⟨b,1,none⟩:=aeI
 rw[e]at this;refine⟨sl.n,sl.c,?_⟩;rw[this,<-h]
theorem Qz.bu(h:Qz w0 b w l st){k:Nat}(hk:Bu w b k):b<k/\k<w.heap.size:=by
 obtain⟨q,sl,_,hB,hb⟩:=h.ex;have:=hb.lt (MM hB hk);omega
theorem Qz.only(h:Qz w0 b w l st)(hO:aA [] w w'):Qz w0 b w' l st:=by
 obtain⟨q,sl,hq,hB,hb⟩:=h.ex;exact⟨h.o.cr hO,h.lo,⟨q,sl,hq,hO.blk hB aac,hb.keep λg _ hl=>hO.block g hl aac⟩,h.i,h.big⟩
structure Zq (f:Bool) (w0 ws:ay) (b:Nat) (w:ay) (l:aJ) (st:St) (ks:List Nat):Prop extends Qz w0 b w l st where
 m:Mw f b ws w
 k:∀k,k∈ks->k<w.heap.size/\k≠b/\¬Bu w b k
theorem Qz.z(f:Bool)(h:Qz w0 b w l st):Zq f w0 w b w l st []:=⟨h,Mw.refl f b w,λk hk=>aeO⟩
theorem Zq.q(t:Zq f w0 ws b w l st ks)(hO:aA [] w w'):Zq f w0 ws b w' l st ks:=by
 have hb:=t.toQz.lb;refine⟨t.toQz.only hO,t.m.trans (Mw.only hb hO),λk hk=>?_⟩;obtain⟨h1,h2,h3⟩:=t.k k hk;exact⟨cq h1 hO.size,h2,λh=>h3 (wA (hO.block b hb aac) h)⟩
theorem Zq.al(t:Zq f w0 ws b w l st ks)(hO:aA [] w w')(h1:w.heap.size<=k)(h2:k<w'.heap.size):Zq f w0 ws b w' l st (k::ks):=by
 have hb:=t.toQz.lb;have t':=t.q hO;refine⟨t'.toQz,t'.m,λx hx=>?_⟩;rcases aV.1 hx with rfl | hx
 ·exact⟨h2,aG,λh=>by have:=(t.toQz.bu (wA (hO.block b hb aac) h)).2;omega⟩
 exact t'.k x hx
theorem Zq.nx(t:Zq f w0 ws b w l st ks)(p:Qz w0 b w' l' cK)(m:Mw f b w w'):Zq f w0 ws b w' l' cK ks:=by
 refine⟨p,t.m.trans m,λk hk=>?_⟩;obtain⟨h1,h2,h3⟩:=t.k k hk;exact⟨cq h1 m.o.size,h2,λh=>(m.u k h).elim h3 λe=>by have:=e.2;omega⟩
theorem Zq.sq(t:Zq f w0 ws b w l st ks)(hO:aA [] w w')(hk:∀k,k∈ks'->k∈ks):ci ks' w w':=hO.same λx hx=>⟨(t.k x (hk x hx)).1,aac⟩
theorem Zq.sm(t:Zq f w0 ws b w l st ks)(m:Mw g b w w')(hk:∀k,k∈ks'->k∈ks):ci ks' w w':=m.o.same λx hx=>⟨(t.k x (hk x hx)).1,λh=>h.elim (t.k x (hk x hx)).2.1 λe=>(t.k x (hk x hx)).2.2 e.2⟩
theorem Zq.sj(t:Zq f w0 ws b w l st ks)(hz:w.heap.size<=w1.heap.size)(h:aF (λk=>w.heap.size<=k) w1 w')(hk:∀k,k∈ks'->k∈ks):ci ks' w1 w':=h.same λx hx=>by
 have:=(t.k x (hk x hx)).1;exact⟨aG,aG⟩
theorem Zq.row(t:Zq true w0 ws b w l st ks)(hb:b<ws.heap.size)(hu:∀k,Bu ws b k->k<ws.heap.size)(hO:aF (λk=>ws.heap.size<=k) w w'):Zq true w0 ws b w' l st ks:=by
 have hB:=t.toQz.lb;have hlo:=t.lo;have hkb:∀k,Bu w b k->Bu ws b k:=λk hk=>(t.m.u k hk).elim id λe=>(by cases e.1)
 have Qr:=hO.block b hB aG;obtain⟨q,sl,hq,hBl,hbf⟩:=t.ex;refine⟨⟨⟨hO.os.trans t.o.os,hO.tape.trans t.o.tape,hO.output.trans t.o.output,bf t.o.size hO.size,λk hk _=>(hO.block k (cq hk t.o.size) aG).trans (t.o.block k hk aac)⟩,hlo,⟨q,sl,hq,Qr.trans hBl,hbf.keep λg hg hl=>hO.block g hl λe=>(by have:=hu g (hkb g (HP hBl hg));omega)⟩,t.i,t.big⟩,⟨t.m.o.trans hO λk hk=>.inr hk,λk hk=>.inl (hkb k (wA Qr hk))⟩,λk hk=>?_⟩;obtain⟨h1,h2,h3⟩:=t.k k hk;exact⟨cq h1 hO.size,h2,λh=>h3 (wA Qr h)⟩
theorem bS.of{ks:List Nat}(h:ci ks w w'):bS (λk=>k∈ks) w w':=λk hk _=>h k hk
theorem tJ{w2:ay}(h1:aA [] w w1)(h2:aF (λk=>w.heap.size<=k) w1 w2):aA [] w w2:=(h1.mZ h2).only λ_ h=>h
end
theorem SM(w:ay)(ws:List (aJ)){n:Nat}{parts:Array (Nat×az)}(hp:parts=(((ws.map λx=>Value.string (T x)).zipIdx 0).map λx=>(x.2,x.1)).toArray)(hn:ws.length=n)(h0:0<n)(CK:n*1<=16777216):
  ∃(q:Sl) (w1:ay) (g:Nat) (cs:aK),(aw 132 n parts).run au w=.ok q.v w1/\aA [] w w1/\w.heap.size<=g/\g<w1.heap.size/\aH w1 g 9 cs/\
   ∀(i:Nat) x,ws[i]? =some x->dE q (i:Int) 1 ⟨g,i,none⟩/\∀w',aH w' g 9 cs->aE w' ⟨g,i,none⟩ [ah (T x)]:=by
 obtain⟨q,w1,k1,k2,k3⟩:=oy w ws hp hn h0 CK;rcases k2 with⟨_,e⟩ | ⟨g,css,tail,a1,a2,a4,a5,a6,a7,a9,a8⟩
 ·subst e;simp at hn;omega
 have KE:=JZ a8;refine⟨q,w1,g,_,k1,k3,a2,a4.lt,a4,λi x hx=>⟨⟨⟨g,0,none⟩,a1,bD i,?_,?_⟩,λw' hB=>Blk.Qm hB i ?_⟩⟩
 ·have:=(aZ.1 hx).1;omega
 ·rw[fP,aU,kl,bO]
 have:(ws.map λx=>Value.string (T x))[i]? =some (ah (T x)):=aeK
 rw[KE,bM (aZ.1 this).1,this]
section
variable {w0 w:ay} {b:Nat} {l:aJ} {st:St}
theorem J9(b j:Nat):(Addr.add ⟨b,0,none⟩ j:Addr)=⟨b,j,none⟩:=by rw[fP,bO]
theorem Qz.set(h:Qz w0 b w l st):∃(q:Option Addr) (sl:Sl),aH w b 218 [ai q,sl.v,ao st.1,O ae st.2]/\
  ∀(w':ay) (cK:St),aA [b] w w'->aH w' b 218 [ai q,sl.v,ao cK.1,O ae cK.2]->(cK.1=false->0<=cK.2/\cK.2<=400)->Qz w0 b w' l cK/\Mw true b w w':=by
 obtain⟨q,sl,hq,hB,hb⟩:=h.ex;refine⟨q,sl,hB,λw1 Gp cG u7 hi=>⟨⟨⟨cG.os.trans h.o.os,cG.tape.trans h.o.tape,cG.output.trans h.o.output,bf h.o.size cG.size,λk hk _=>(cG.block k (cq hk h.o.size) (by have:=h.lo;simp;omega)).trans (h.o.block k hk aac)⟩,h.lo,⟨q,sl,hq,u7,hb.keep λg hg hl=>cG.block g hl (by have:=(hb.lt hg).1;simp;omega)⟩,hi,h.big⟩,?_⟩⟩;exact⟨cG.p λx hx=>.inl (.inl aa3),λk hk=>.inl (HP hB (MM u7 hk))⟩
theorem Qz.up0(h:Qz w0 b w l st):Up st true 0 st:=by
 refine⟨?_,λ_=>aac⟩;cases e:st.1
 ·have:=(h.i e).2;have h2:¬400<st.2+((0:Nat):Int):=aG
  rw[bI h2];rfl
 rfl
theorem MN{q:Option Addr}{sl:Sl}{wr:Bool}{ac:Int}(hB:aH w b 218 [ai q,sl.v,ao wr,O ae ac])(ok:Bool):aB au 141 #[rp b,ao ok] w λe w'=>
  e=aq (ak #[])/\aA [b] w w'/\aH w' b 218 [ai q,sl.v,ao (wr||!ok),O ae ac]:=by
 refine ret (agO _ _ _ _ ?_);exact⟨wr,Blk.eh hB 2 rfl,b,2,_,_,J9 b 2,hB,aac,λw1 cG u7=>⟨rfl,cG,u7⟩⟩
theorem j7(h:Qz w0 b w l st)(ok:Bool):aB au 141 #[rp b,ao ok] w λe w'=>e=aq (ak #[])/\∃cK,Up st ok 0 cK/\Qz w0 b w' l cK/\Mw true b w w':=by
 obtain⟨q,sl,hB,zo⟩:=h.set;refine(MN hB ok).mono ?_;rintro _ w1 ⟨rfl,cG,u7⟩;have hu:Up st ok 0 (st.1||!ok,st.2):=by
  refine⟨?_,λe=>aac⟩;cases e:st.1
  ·have:=(h.i e).2;have h2:¬400<st.2+((0:Nat):Int):=aG
   rw[bI h2,Bool.or_false]
  simp
 exact⟨rfl,_,hu,zo w1 _ cG u7 λe=>hu.le (λe=>(h.i e).1) e⟩
theorem mG(h:Qz w0 b w l st)(s:aJ)(hs:s.length<9223372036854775807):aB au 143 #[rp b,ah (T s)] w λe w'=>e=aq (ah (T s))/\∃cK,Up st (fi s) 0 cK/\Qz w0 b w' l cK/\Mw true b w w':=by
 refine ret (agP _ _ _ _ ?_);refine(R9 s hs).mono ?_;rintro _ w1 ⟨rfl,cG⟩;refine⟨_,rfl,(j7 (h.only cG) _).mono ?_⟩;rintro _ w2 ⟨rfl,cK,h1,h2,h3⟩;exact⟨rfl,rfl,cK,h1,h2,(Mw.only h.lb cG).trans h3⟩
theorem MO(h:Qz w0 b w l st){F:aL}{x:Ex}{cs:aK}(hx:rE false w F x cs)(hn:okN x)(hs:E6 x<=1759218604441)(hE:Er w0)(hT:Tb w0):
  aB au 207 #[rp b,aj cs.toArray] w λe w'=>e=aq (ah (T (Di x)))/\∃cK,Up st (Bi x) 0 cK/\Qz w0 b w' l cK/\Mw true b w w':=by
 obtain⟨xs,rfl⟩:=jo hx;refine ret (ag3 _ _ _ _ _ _ _ _ _ ?_);intro k0 w1 gU fD cG;have t1:=(h.z true).al cG gU fD;refine(WO ((jm false).keep hx λk _ bT=>cG.block k bT aac) hn hs (hE.only t1.o) (hT.only t1.o)).mono ?_;rintro _ w2 ⟨rfl,dk⟩;have t2:=t1.q dk;refine⟨_,rfl,t1.sq dk aac,(j7 t2.toQz _).mono ?_⟩;rintro _ w3 ⟨rfl,cK,h1,h2,h3⟩;rw[show ar #[]=T []from rfl,mM]at h1;have e:(!decide (Di x=[]))=Bi x:=by unfold Bi;rw[decide_not]
 rw[e]at h1;exact⟨rfl,t2.sm h3 aac,rfl,cK,h1,h2,(t2.nx h2 h3).m⟩
theorem MP(h:Qz w0 b w l st){F:aL}{x:Ex}{cs:aK}(hx:rE false w F x cs):
  aB au 208 #[rp b,aj cs.toArray] w λe w'=>e=aq (ak #[])/\∃cK,Up st (yK x) 0 cK/\Qz w0 b w' l cK/\Mw true b w w':=by
 have fy:∃xs:Sl,cs=tB x.k x.n x.s x.op xs x.a/\xs.n=x.gp.length:=by
  obtain⟨d,hx⟩:=hx;cases d with
  | zero=>exact hx.elim
  | succ d=>
   obtain⟨sl,h1,h2,_⟩:=hx;exact⟨sl,h1,h2.len⟩
 obtain⟨xs,rfl,hl⟩:=fy;refine ret (ag2 _ _ _ _ _ _ _ _ _ ?_);intro k0 w1 gU fD cG;have t1:=(h.z true).al cG gU fD;refine(j7 t1.toQz _).mono ?_;rintro _ w3 ⟨rfl,cK,h1,h2,h3⟩;rw[show ar #[]=T []from rfl,mM,hl]at h1;exact⟨rfl,t1.sm h3 aac,rfl,cK,h1,h2,(t1.nx h2 h3).m⟩
theorem MQ(h:Qz w0 b w l st):aB au 146 #[rp b] w λe w'=>e=aq (ao (decide (16384<l.length)))/\w'=w:=by
 refine ret (agS _ _ _ ?_);obtain⟨q,sl,hq,hB,hb⟩:=h.ex;refine(Y5 _ (λv w'=>v=O ae (l.length:Int)/\w'=w) w ?_).mono ?_
 ·rw[J9];exact⟨sl,Blk.eh hB 1 rfl,by rw[hb.len],rfl⟩
 rintro _ w1 ⟨v,rfl,rfl,rfl⟩;refine⟨_,rfl,?_,rfl⟩;congr 1;rw[bW];simp;omega
end
def SN(a:Ac):Nat:=E6 a.x+(a.n.length+1)
def ky:List Ac->Nat
 | []=>0
 | a::l=>SN a+ky l
theorem HQ{a:Ac}:∀{l:List Ac},a∈l->SN a<=ky l
 | [],h=>aaB
 | x::l,h=>by
  rw[ky];rcases aV.1 h with rfl | h
  ·omega
  have:=HQ h;omega
theorem oB:∀(l:List Ac),l.length<=ky l
 | []=>bh _
 | a::l=>by
  have:=oB l;rw[ky,bn];unfold SN;omega
def HR(l:List (aJ)):Nat:=(l.map λs=>s.length+1).sum
def OW(m:Mv):Nat:=(ky m.acts+E6 m.g)+(HR m.tg+(m.ev.length+1))
theorem MR(x:Ex):(Di x).length<=16384:=by
 by_cases h:Di x=[]
 ·rw[h];exact bh _
 obtain⟨h1,h2,h3⟩:=Sw h;refine cy λhc=>?_;have e:Di x=vK (Gl x) x false []:=h2;rw[<-e]at h3;unfold pf at h3;have:dC (Di x)=([],2, -1):=by rw[dC,bc aG]
 rw[this,bc aN]at h3;exact absurd h3 (show ¬(2:Int)=0 by decide)
theorem rG{s:aJ}(h:fi s=true):ne s=true:=by
 unfold fi at h;simp only[aR]at h;have:=(aP h.1.1.1).1;unfold ne;rw[bI this];rfl
theorem ahu{x:Ex}(h:Bi x=true):ne (Di x)=true:=by
 unfold ne;rw[bI (aP h)];rfl
theorem pw{x:aJ}(h:ne x=true)(ws:List (aJ)):fW (x::ws)=x++Lib.joinTail [32] (ws.filter ne):=by
 unfold fW;rw[mz,h,bc rfl,Lib.join_cons]
theorem fQ(x:aJ)(r:List (aJ)):Lib.joinTail [32] (x::r)=32::(x++Lib.joinTail [32] r):=by
 unfold Lib.joinTail;rw[bH,dy];rfl
theorem mj:Lib.joinTail [32] []=[]:=rfl
theorem fR{x:aJ}(h:ne x=true)(ws:List (aJ)):(x::ws).filter ne=x::ws.filter ne:=by rw[mz,h,bc rfl]
theorem SO(ws:List (aJ)):([]::ws).filter ne=ws.filter ne:=by rw[mz,aY aN]
def Vq(a:Ac):List (aJ):=if a.k=2 then[lk,a.n]else[if a.k=1 then uE else nL,a.n,[61],Di a.x]
theorem Zr{a:Ac}(h:nj a=true):fW (Vq a)++[59]=Qg a:=by
 unfold nj at h;simp only[aR]at h;obtain⟨⟨h1,h2⟩,h3⟩:=h;unfold Vq Qg;by_cases hk:a.k=2
 ·rw[bc hk,bc hk,pw aN,fR (rG h2),eI,fQ,mj];simp
 rw[aY hk]at h3;have hw:ne (if a.k=1 then uE else nL)=true:=by split<;>decide
 rw[aY hk,aY hk,pw hw,fR (rG h2),fR aN,fR (ahu h3),eI,fQ,fQ,fQ,mj];simp
theorem WX(a:Ac):(fW (Vq a)).length<=16398+a.n.length:=by
 refine bf (iU _) ?_;have:=MR a.x;unfold Vq;split
 ·simp only[bH,fV,cE,iL];show 5+1+(a.n.length+1+0)<=_;omega
 simp only[bH,fV,cE,iL];have:(if a.k=1 then uE else nL).length<=4:=by split<;>decide
 show _+1+(a.n.length+1+(1+1+(_+1+0)))<=_;omega
section
variable {w0 w:ay} {b:Nat} {l:aJ} {st:St}
theorem ahv(h:Qz w0 b w l st){F:aL}{a:Ac}{cs:aK}(hx:uT false w F a cs)(hF:∀k,F k->k<w0.heap.size)(hn:Zl a)(hs:SN a<=1759218604441)(hE:Er w0)(hT:Tb w0):
  aB au 206 #[rp b,aj cs.toArray] w λe w'=>∃s cK,e=aq (ah (T s))/\s.length<=16400+a.n.length/\(nj a=true->s=Qg a)/\Up st (nj a) 0 cK/\Qz w0 b w' l cK/\Mw true b w w':=by
 obtain⟨xc,rfl,hx⟩:=hx;obtain⟨xs,rfl⟩:=jo hx;unfold SN at hs;refine(ag1 ⟨b,0,none⟩ a.k (T a.n) a.x.k a.x.n (T a.x.s) a.x.op xs a.x.a a.a (λv w'=>∃s cK,v=ah (T s)/\s.length<=16400+a.n.length/\(nj a=true->s=Qg a)/\Up st (nj a) 0 cK/\Qz w0 b w' l cK/\Mw true b w w') w ?_).mono (by
  rintro e w' ⟨v,rfl,s,cK,rfl,h⟩;exact⟨s,cK,rfl,h⟩)
 intro k0 w1 gU fD cG;have t1:=(h.z true).al cG gU fD;obtain⟨q,w2,g,cs,e1,dk,B9,PR,pF,XZ⟩:=SM w1 [[],uE,lk,nL] (n:=4) (parts:=#[.mk 0 (ah (ar #[])),.mk 1 (ah (ar #[115,101,116])),.mk 2 (ah (ar #[114,97,105,115,101])),.mk 3 (ah (ar #[101,109,105,116]))]) rfl rfl aN aN;have t2:=t1.al dk B9 PR;have tail:=WX a;refine⟨q,w2,e1,t1.sq dk aac,λhc=>?_,λhc=>?_⟩
 ·refine(j7 t2.toQz false).mono ?_;rintro _ w3 ⟨rfl,cK,u1,u2,u3⟩;have hk:nj a=false:=by
   unfold nj;have:¬(1<=a.k/\a.k<=3):=by
    simp only[bU,bL]at hc;omega
   rw[bI this];rfl
  exact⟨rfl,t2.sm u3 aac,[],cK,rfl,bh _,λe=>(by rw[hk]at e;cases e),by rw[hk];exact u1,u2,(t2.nx u2 u3).m⟩
 have F6:1<=a.k/\a.k<=3:=by
  simp only[ii,dv]at hc;omega
 have hwd:∀x,[[],uE,lk,nL][a.k.toNat]? =some x->dE q a.k 1 ⟨g,a.k.toNat,none⟩/\∀w',aH w' g 9 cs->aE w' ⟨g,a.k.toNat,none⟩ [ah (T x)]:=λx hx=>by
  have:=XZ _ x hx;rwa[jV aG]at this
 refine⟨λoh=>?_,λoh w8 fX=>?_⟩
 ·have hk:a.k=2:=aeH
  have hW:Vq a=[lk,a.n]:=by unfold Vq;rw[bc hk]
  refine(MP t2.toQz ((jm false).keep hx λk hk _=>h.arg t2.toQz (hF k hk))).mono ?_;rintro _ w3 ⟨rfl,TV,u1,u2,u3⟩;have t3:=t2.nx u2 u3;refine⟨rfl,t2.sm u3 aac,λw4 dK=>⟨λk=>k∈[k0,g],aac,?_⟩⟩;have t4:=t3.q dK;obtain⟨y1,y2⟩:=hwd lk (by rw[hk];rfl);have sS:aH w4 g 9 cs:=(t3.sq (ks':=[g]) dK aac g aac).trans ((t2.sm (ks':=[g]) u3 aac g aac).trans pF);refine⟨_,y1,aac,_,y2 w4 sS,(mG t4.toQz a.n aG).mono ?_⟩;rintro _ w5 ⟨rfl,Yt,v1,v2,v3⟩;have t5:=t4.nx v2 v3;obtain⟨q6,w6,e6,eH,_,hj⟩:=Dp w5 [lk,a.n] (n:=2) (parts:=#[.mk 0 (ah (T lk)),.mk 1 (ah (T a.n))]) rfl rfl aN aN (by rw[<-hW];omega);have z6:=eH.size;refine⟨_,rfl,t4.sm v3 aac,bS.of (t4.sm v3 aac),q6,w6,e6,t5.sq eH aac,bS.of (t5.sq eH aac),hj.mono ?_⟩;rintro _ w7 ⟨rfl,hP7⟩;have fN:=tJ eH hP7;have t7:=t5.q fN;have hU:=u1.tr v1;have mr:nj a=(yK a.x&&fi a.n):=by
   unfold nj;rw[bc hk,bJ F6,cT,Bool.and_comm]
  rw[<-mr]at hU;rw[<-hW];refine⟨_,rfl,t5.sj z6 hP7 aac,bS.of (t5.sj z6 hP7 aac),abQ,fW (Vq a)++[59],Yt,acN,aaE,λmr=>Zr mr,hU,t7.toQz,t7.m⟩
 have hk:a.k≠2:=aeH
 have hW:Vq a=[if a.k=1 then uE else nL,a.n,[61],Di a.x]:=by unfold Vq;rw[aY hk]
 have t8:=t2.q fX;obtain⟨y1,y2⟩:=hwd (if a.k=1 then uE else nL) (by
  by_cases h1:a.k=1
  ·rw[bc h1,h1];rfl
  rw[aY h1,show a.k=3 by omega];rfl)
 have ve:aH w8 g 9 cs:=(t2.sq (ks':=[g]) fX aac g aac).trans pF;refine⟨λk=>k∈[k0,g],aac,_,y1,aac,_,y2 w8 ve,aac,(mG t8.toQz a.n aG).mono ?_⟩;rintro _ w9 ⟨rfl,st9,u1,u2,u3⟩;have t9:=t8.nx u2 u3;refine⟨_,rfl,t8.sm u3 aac,bS.of (t8.sm u3 aac),(MO t9.toQz ((jm false).keep hx λk hk _=>h.arg t9.toQz (hF k hk)) hn aG hE hT).mono ?_⟩;rintro _ dL ⟨rfl,ap8,v1,v2,v3⟩;have t10:=t9.nx v2 v3;obtain⟨q11,dN,e11,dX,_,hj⟩:=Dp dL [if a.k=1 then uE else nL,a.n,[61],Di a.x] (n:=4) (parts:=#[.mk 0 (ah (T (if a.k=1 then uE else nL))),.mk 1 (ah (T a.n)),.mk 2 (ah (T [61])),.mk 3 (ah (T (Di a.x)))]) rfl rfl aN aN (by rw[<-hW];omega);have D1:=dX.size;refine⟨_,rfl,t9.sm v3 aac,bS.of (t9.sm v3 aac),q11,dN,e11,t10.sq dX aac,bS.of (t10.sq dX aac),hj.mono ?_⟩;rintro _ eT ⟨rfl,UW⟩;have fk:=tJ dX UW;have t12:=t10.q fk;have hU:=u1.tr v1;have mr:nj a=(fi a.n&&Bi a.x):=by
  unfold nj;rw[aY hk,bJ F6,cT]
 rw[<-mr]at hU;rw[<-hW];refine⟨_,rfl,t10.sj D1 UW aac,bS.of (t10.sj D1 UW aac),abQ,fW (Vq a)++[59],ap8,acN,aaE,λmr=>Zr mr,hU,t12.toQz,t12.m⟩
end
theorem Up.bad{st cK:St}{c c':Bool}{n n':Nat}(h:Up st c n cK)(e:cK.1=true)(hc:c'=true->c=true)(hn:n<=n'):Up st c' n' cK:=by
 refine⟨?_,λe2=>by rw[e]at e2;cases e2⟩;rw[e];refine Eq.symm (cy λhk=>?_);obtain⟨a1,a2,a3⟩:=or3 (eu.2 hk).symm;have a3:=aX a3;have:=h.w;rw[e,a1,hc a2,bI (show ¬400<st.2+(n:Int) by omega)]at this;cases this
theorem wB:∀(l m:List Ac),ky (l++m)=ky l+ky m
 | [],m=>by rw[cF];show _=0+_;omega
 | a::l,m=>by rw[cp,ky,ky,wB l m];omega
theorem abO(a:Ac):ne (Qg a)=true:=by
 have:Qg a≠[]:=by unfold Qg;split<;>simp
 unfold ne;rw[bI this];rfl
theorem SP:∀l:List Ac,Lib.joinTail [32] ((l.map Qg).filter ne)=WQ l
 | []=>rfl
 | a::l=>by rw[bH,fR (abO a),fQ,SP l,WQ]
theorem abP(x y:List (aJ)):Lib.joinTail [32] (x++y)=Lib.joinTail [32] x++Lib.joinTail [32] y:=by
 unfold Lib.joinTail;rw[dh,Gf]
theorem ahw(l:List Ac):fW ([123]::(l.map Qg++[[125]]))=GW l:=by
 rw[pw aN,eC,abP,SP];rfl
theorem Zs{w:ay}{B:Nat}{s:Sl}{ws:List (aJ)}(h:Own lD 1 9 B w (λ_=>True) s ws)(x:aJ)(hB:B<=w.heap.size)(hm:ws.length<=1073741824):
  ∃y w1,(aw 132 1 #[.mk 0 (ah (T x))]).run au w=.ok (Sl.v y) w1/\aA [] w w1/\∃s' w2,(Builtin.append_ #[132,132] 132 #[Sl.v s,Sl.v y]).run au w1=.ok (Sl.v s') w2/\
   Own lD 1 9 B w2 (λ_=>True) s' (ws++[x])/\∃gs,aA gs w1 w2/\∀g,g∈gs->s.a=some ⟨g,0,none⟩/\B<=g:=by
 obtain⟨y,w1,e1,cG,s',w2,e2,ny,⟨gs,dk,sH⟩,_⟩:=jG (P:=au) (t:=132) (ty:=132) (e:=9) (i:=Tryz.t9) (bytes:=16) (size:=1) (v:=ah (T x)) (x:=x) (G:=λ_=>False) (by kernel_rfl) (by kernel_rfl) rfl rfl rfl rfl aN aN aN dJ h hB rfl rfl (λk hk _=>hk.elim) aG;exact⟨y,w1,e1,cG,s',w2,e2,ny.mono dJ λk _=>trivial,gs,dk,λg hg=>⟨(sH g hg).1,(sH g hg).2.1⟩⟩
theorem _root_.Go.Kt.Own.far{w w':ay}{B b:Nat}{s:Sl}{ws:List (aJ)}(h:Own lD 1 9 B w (λ_=>True) s ws)(hO:aA [b] w w')(hb:b<B):Own lD 1 9 B w' (λ_=>True) s ws:=by
 rcases h with⟨rfl,rfl⟩ | ⟨g,css,tail,h1,h2,h4,h5,h6,h7,h9,h8⟩
 ·exact .inl ⟨rfl,rfl⟩
 have e:∀{l:List (aJ)} {css:List (aK)},lV lD 1 w (λk=>True/\k≠g) l css->lV lD 1 w' (λk=>True/\k≠g) l css:=fun{l}=>by
  induction l with
  | nil=>intro css h;cases css with | nil=>trivial | cons _ _=>exact h
  | cons x l ih=>intro css h;cases css with | nil=>exact h | cons c css=>exact⟨h.1,ih h.2⟩
 exact .inr ⟨g,css,tail,h1,h2,hO.blk h4 aae,h5,h6,h7,h9,e h8⟩
theorem SQ{α:Type}{p:α->Bool}{xs:List α}{j:Nat}(h:xs.all p=true):(xs.take j).all p=true:=by
 rw[dF]at h⊢;exact λx hx=>h x (List.mem_of_mem_take hx)
theorem HS(ws:List (aJ))(x:aJ):((ws++[x]).map λl=>l.length+1).sum=(ws.map λl=>l.length+1).sum+(x.length+1):=by
 rw[dh,List.sum_append];simp
section
variable {w0 w:ay} {b:Nat} {l:aJ} {st:St}
theorem Fi(h:Qz w0 b w l st){F:aL}{s:Sl}{xs:List Ac}(hx:aD (uT false) 9 w F s xs)(hF:∀k,F k->k<w0.heap.size)(hn:∀a,a∈xs->Zl a)(hs:ky xs<=16777216)(hE:Er w0)(hT:Tb w0):
  aB au 181 #[rp b,s.v] w λe w'=>∃t cK,e=aq (ah (T t))/\t.length<=16405*ky xs/\(cK.1=false->t=if xs=[]then[]else GW xs)/\Up st (xs.all nj) xs.length cK/\Qz w0 b w' l cK/\Mw true b w w':=by
 refine(ag0 ⟨b,0,none⟩ s (λv w'=>∃t cK,v=ah (T t)/\t.length<=16405*ky xs/\(cK.1=false->t=if xs=[]then[]else GW xs)/\Up st (xs.all nj) xs.length cK/\Qz w0 b w' l cK/\Mw true b w w') w ?_).mono (by
  rintro e w' ⟨v,rfl,s,cK,rfl,h⟩;exact⟨s,cK,rfl,h⟩)
 have fy:=hx.len;have hlz:=oB xs;refine⟨λhc=>?_,λhc=>?_⟩
 ·have hc:s.n=0:=by have:((s.n:Int))=0:=aai;omega
  have:xs=[]:=bR aG;subst this;exact⟨[],st,rfl,bh _,λ_=>(bc rfl).symm,h.up0,h,Mw.refl _ _ _⟩
 have gq:xs≠[]:=λe=>by
  subst e;have:s.n=0:=fy;rw[this]at hc;exact absurd hc aN
 obtain⟨q,sl,hB,zo⟩:=h.set;refine⟨st.2,Blk.eh hB 3 rfl,b,3,_,_,J9 b 3,hB,aac,λw1 cG u7=>⟨_,Blk.eh u7 3 rfl,(MN (q:=q) (sl:=sl) (wr:=st.1) (ac:=av ae (st.2+(s.n:Int))) u7 _).mono ?_⟩⟩;rintro _ w2 ⟨rfl,dk,pF⟩;have hU1:Up st true xs.length (st.1||!decide (av ae (st.2+(s.n:Int))<=400),av ae (st.2+(s.n:Int))):=by
  cases e:st.1
  ·have:=h.i e;have ew:av ae (st.2+(s.n:Int))=st.2+xs.length:=by rw[fy];exact gx aG aG
   rw[ew];refine⟨?_,λ_=>rfl⟩;rw[e];by_cases h4:st.2+(xs.length:Int)<=400
   ·rw[bJ h4,bI aG];rfl
   rw[bI h4,bJ aG];rfl
  exact⟨by rw[e];rfl,λe2=>by cases e2⟩
 obtain⟨h2,PF⟩:=zo w2 _ (cG.trans dk λx hx=>.inl hx) pF λe=>hU1.le (λe=>(h.i e).1) e;generalize (st.1||!decide (av ae (st.2+(s.n:Int))<=400),av ae (st.2+(s.n:Int)))=Gp at*
 have b2:=h2.lb;have hu2:∀k,Bu w2 b k->k<w2.heap.size:=λk hk=>(h2.bu hk).2;obtain⟨q3,w3,e3,dz,ap9,_⟩:=Dp w2 [[123]] (n:=1) (parts:=#[.mk 0 (ah (T [123]))]) rfl rfl aN aN aN;have t3:=(h2.z true).q dz;refine⟨rfl,q3,w3,e3,λl1 w'=>∃ws cK,Own lD 1 9 w2.heap.size w' (λ_=>True) l1 ws/\ws.length<=16777217/\(ws.map λl=>l.length+1).sum<=2+16401*ky xs/\(cK.1=false->ws=[123]::xs.map Qg)/\Up Gp (xs.all nj) 0 cK/\Zq true w0 w2 b w' l cK [],?_,?_⟩
 ·rintro l1 w4 ⟨ws,K0,adT,hwl,hws,htx,hU4,t4⟩;have z4:=t4.m.o.size;obtain⟨y,w5,e5,eJ,s6,w6,e6,aqa,gs,eH,sH⟩:=Zs adT [125] z4 aG;refine⟨y,w5,e5,s6,w6,e6,?_⟩;have t6:=(t4.q eJ).row b2 hu2 (eH.p (F:=λk=>w2.heap.size<=k) λx hx=>.inl (sH x hx).2);have K1:=HS ws [125];have iA:=iU (ws++[[125]]);have VB:([125]:aJ).length=1:=rfl;refine(Bo aqa aG aaE).mono ?_;rintro _ w7 ⟨rfl,hP7⟩;have t7:=t6.row b2 hu2 hP7;have hsz:1<=ky xs:=by
   have:1<=xs.length:=gz.2 gq;omega
  refine⟨_,rfl,fW (ws++[[125]]),K0,rfl,aG,λe=>?_,(hU1.tr hU4).cg aac aac,t7.toQz,PF.trans t7.m⟩;rw[aY gq,htx e];exact ahw xs
 refine⟨λnv l1 i w'=>∃(j:Nat) (ws:List (aJ)) (cK:St),i=j/\j<=xs.length/\nv=xs.length-j/\Own lD 1 9 w2.heap.size w' (λ_=>True) l1 ws/\ws.length<=j+1/\(ws.map λl=>l.length+1).sum<=2+16401*ky (xs.take j)/\(cK.1=false->ws=[123]::(xs.take j).map Qg)/\Up Gp ((xs.take j).all nj) 0 cK/\Zq true w0 w2 b w' l cK [],
  xs.length,⟨0,[[123]],Gp,rfl,bh _,rfl,ap9,ba _,ba _,λ_=>rfl,h2.up0,t3⟩,?_⟩
 rintro nv l4 _ w7 ⟨j,ws,st7,rfl,hj,rfl,Yu,hwl,hws,htx,N1,t7⟩;have z7:=t7.m.o.size;have KF:ky xs=ky (xs.take j)+ky (xs.drop j):=by rw[<-wB,dl]
 refine⟨λhc=>?_,λhc=>?_⟩
 ·have bT:(j:Int)<s.n:=aP hc;have hx7:aD (uT false) 9 w7 F s xs:=SliceF.keep (dT false) hx aN λk hk _=>h.arg t7.toQz (hF k hk);obtain⟨ad,a,cs,g1,g2,g3,g4,g5,g6⟩:=hx7.get (bD j) bT;rw[aU]at g2;have ha:=bB g2;have mJ:xs.take (j+1)=xs.take j++[a]:=by
   rw[bE,g2];rfl
  have UX:ky (xs.take (j+1))=ky (xs.take j)+SN a:=by
   rw[mJ,wB];show _+(SN a+0)=_;omega
  have aum:ky xs=ky (xs.take (j+1))+ky (xs.drop (j+1)):=by rw[<-wB,dl]
  obtain⟨xc,rfl,hxc⟩:=g6;obtain⟨xl,rfl⟩:=jo hxc;refine⟨ad,g1,_,_,_,_,_,_,_,_,_,g5,λk5 w8 CN F5 fX=>?_⟩;have t8:=t7.al fX CN F5;obtain⟨q8,sl8,ve,_⟩:=t8.toQz.set;refine⟨st7.1,Blk.eh ve 2 rfl,λhw=>?_,λhw=>?_⟩
  ·have t8':Zq true w0 w2 b w8 l st7 []:=⟨t8.toQz,t8.m,λk hk=>aeO⟩
   have KZ:=Yu.keep dJ λk hk bT=>fX.block k bT aac;exact⟨ws,st7,KZ,aG,aG,λe=>absurd (hw.symm.trans e) aN,N1.bad hw SQ (ba _),t8'⟩
  refine(ahv t8.toQz ((dT false).keep ⟨_,rfl,hxc⟩ λk _ bT=>fX.block k bT aac) hF (hn a ha) (by have:=HQ ha;omega) hE hT).mono ?_;rintro _ w9 ⟨tx,st9,rfl,hl9,aqb,hU9,h9,hm9⟩;have t9:=t8.nx h9 hm9;have aqc:∀g,l4.a=some ⟨g,0,none⟩->w2.heap.size<=g/\g<w7.heap.size:=λg hg=>by
   rcases Yu with⟨rfl,_⟩ | ⟨g',css,tl,a1,a2,a4,_⟩
   ·cases hg
   rw[a1]at hg;injection hg with hg;injection hg with hg;subst hg;exact⟨a2,a4.lt⟩
  have aqd:Own lD 1 9 w2.heap.size w9 (λ_=>True) l4 ws:=by
   have o1:=Yu.keep dJ (w':=w8) λk hk bT=>fX.block k bT aac;refine(o1.mono (G:=λ_=>True) dJ λ_ _=>trivial).far hm9.ahX b2
  obtain⟨y,dL,e10,dW,NR,dN,e11,UU,gs,dX,sH⟩:=Zs aqd tx (bf z7 (bf fX.size hm9.o.size)) aG;have t10:=t9.q dW;have t11:=t10.row b2 hu2 (dX.p (F:=λk=>w2.heap.size<=k) λx hx=>.inl (sH x hx).2);have NR:ci [k5] dL dN:=dX.same λx hx=>by
   have:=(t10.k x aa3).1;refine⟨this,λhm=>?_⟩;have:=(aqc x (sH x hm).1).2;simp only[aO]at hx;omega
  have K1:=HS ws tx;refine⟨_,rfl,t8.sm hm9 aac,y,dL,e10,t9.sq dW aac,_,dN,e11,NR,xs.length-(j+1),aG,j+1,ws++[tx],st9,aad,aG,rfl,UU,aaE,?_,λe=>?_,(N1.tr hU9).cg ?_ rfl,⟨t11.toQz,t11.m,λk hk=>aeO⟩⟩
  ·rw[K1,UX];have:16400+a.n.length+1<=16401*SN a:=by unfold SN;omega
   omega
  ·obtain⟨e1,e2,_⟩:=hU9.ok e;rw[htx e1,aqb e2,mJ,dh];rfl
  rw[mJ,Ae];simp
 have lz:¬(j:Int)<s.n:=aX hc;have qT:j=xs.length:=aG
 subst qT;rw[bq (ba _)]at hws htx N1;exact⟨ws,st7,Yu,aG,hws,htx,N1,t7⟩
end
theorem an1{w:ay}{F:aL}{s:Sl}{xs:List (aJ)}(h:aD lD 1 w F s xs)(sep:aJ)(hl:(Lib.join xs sep).length<=140737488355328)(hn:xs.length<=140737488355328):
  aB au 202 #[s.v,ah (T sep)] w λe w'=>e=aq (ah (T (Lib.join xs sep)))/\aA [] w w':=by
 have fy:=h.len;have lI:=h.cap;obtain⟨sa,sn,sc⟩:=s;dsimp only at fy lI;subst fy;cases xs with
 | nil=>
  refine(Tryz.strings_Join_none sa sc (T sep) w).mono ?_;rintro _ w2 ⟨rfl,rfl⟩;exact⟨rfl,Only.refl _ _⟩
 | cons x xs=>
  obtain⟨base,cs,g1,g2,g3,g4,g5⟩:=h.at_ 0 x rfl;have g1:sa=some base:=g1;unfold lD at g5;subst g5 g1;have h0:=g4 0 _ rfl;have xx:base.spot=none:=by
   unfold World.cell? at h0;split at h0
   ·split at h0
    ·cases h0
    rename_i hs;have e:((base.add (0*1)).add 0).spot=base.spot:=rfl;rw[e]at hs;cases hb:base.spot with
    | none=>rfl
    | some v=>rw[hb]at hs;simp at hs
   cases h0
  obtain⟨bk,o,sp⟩:=base;dsimp only at xx;subst xx;have bT:bk<w.heap.size:=by
   have e:((Addr.add ⟨bk,o,none⟩ (0*1)).add 0:Addr)=⟨bk,o,none⟩:=aeI
   rw[e]at h0;refine cy λhn=>?_;unfold World.cell? at h0;rw[fm aaw]at h0;cases h0
  have:=Tryz.strings_Join bk o sc ((x::xs).map T) (T sep) w (λj y hj=>by
   rw[ch,gv]at hj;obtain⟨z,hz,rfl⟩:=hj;obtain⟨base,cs,g1,g2,g3,g4,g5⟩:=h.at_ j z hz;unfold lD at g5;subst g5;cases g1;have:=g4 0 _ rfl;have e:((Addr.add ⟨bk,o,none⟩ (j*1)).add 0:Addr)=⟨bk,o+j,none⟩:=aeI
   rw[e]at this;exact this) bT ab4 ab4 (by
   rw[iK];have:((λx:aM=>x.data.toList)∘T)=id:=rfl;rw[this,Qd];exact hl)
  rw[bA]at this;refine this.mono ?_;rintro _ w2 ⟨rfl,hB⟩;refine⟨?_,Only.below hB⟩;rw[iK];have:((λx:aM=>x.data.toList)∘T)=id:=rfl;rw[this,Qd]
theorem MS:∀l:List (aJ),Lib.joinTail [44,32] l=tgT l
 | []=>rfl
 | s::l=>by
  unfold Lib.joinTail;rw[bH,dy];show[44,32]++s++Lib.joinTail [44,32] l=_;rw[MS l];rfl
theorem MT(s:aJ)(l:List (aJ)):(Lib.join (s::l) [44,32]).length<=2*HR (s::l):=by
 have h1:∀l:List (aJ),(tgT l).length<=2*HR l:=λl=>by
  induction l with
  | nil=>exact bh _
  | cons s l ih=>
   unfold HR at ih⊢;rw[bH,cE,tgT,bn,bn,aW];omega
 rw[Lib.join_cons,MS,aW];have:=h1 l;have e:HR (s::l)=(s.length+1)+HR l:=by unfold HR;rw[bH,cE]
 omega
theorem Fj(l:List (aJ)):l.length<=HR l:=by
 unfold HR
 induction l with
 | nil=>exact bh _
 | cons s l ih=>rw[bH,cE,bn];omega
theorem WY{s:aJ}{l:List (aJ)}(h:s∈l):s.length+1<=HR l:=by
 unfold HR
 induction l with
 | nil=>simp at h
 | cons x l ih=>
  rw[bH,cE];rcases aV.1 h with rfl | h
  ·omega
  have:=ih h;omega
def Zu(m:Mv):aJ:=if m.k=1 then fW [JR,m.ev]else if m.k=3 then fW [kQ,Lib.itoa m.wt]else kK
def gdM(m:Mv):aJ:=if m.gd then 91::(Di m.g++[93])else[]
def Qi(m:Mv):aJ:=match m.tg with
 | []=>[]
 | s::l=>45::62::32::(s++tgT l)
theorem HT{n:Int}(h:rf n):(Lib.itoa n).length<=21:=Lib.itoa_length_le n h.1 h.2
theorem WZ(n:Int):ne (Lib.itoa n)=true:=by
 have:Lib.itoa n≠[]:=by
  unfold Lib.itoa;split
  ·simp
  rw[Lib.decDigits];split<;>simp
 unfold ne;rw[bI this];rfl
theorem SR{m:Mv}(h:Bj m=true):fW [Zu m,gdM m,(if m.acts=[]then[]else GW m.acts),Qi m]++[59]=Vn m:=by
 unfold Bj at h;simp only[aR]at h;obtain⟨⟨⟨⟨⟨h1,h2⟩,h3⟩,h4⟩,h5⟩,h6⟩:=h;have hh:Zu m=hdT m/\ne (Zu m)=true:=by
  unfold Zu hdT;by_cases k1:m.k=1
  ·rw[bc k1]at h2;rw[bc k1,bc k1,pw aN,fR (rG h2),eI,fQ,mj,bQ];exact⟨rfl,rfl⟩
  rw[aY k1,aY k1];by_cases k3:m.k=3
  ·rw[bc k3,bc k3,pw aN,fR (WZ _),eI,fQ,mj,bQ];exact⟨rfl,rfl⟩
  rw[aY k3,aY k3];exact⟨rfl,aN⟩
 rw[pw hh.2,hh.1];unfold Vn;rw[bP];congr 1;have e1:Lib.joinTail [32] ([gdM m,(if m.acts=[]then[]else GW m.acts),Qi m].filter ne)=gdT m++((if m.acts=[]then[]else 32::GW m.acts)++(match m.tg with
  | []=>[]
  | s::l=>32::45::62::32::(s++tgT l))):=by
  have eg:∀ws:List (aJ),Lib.joinTail [32] ((gdM m::ws).filter ne)=gdT m++Lib.joinTail [32] (ws.filter ne):=λws=>by
   unfold gdM gdT;cases m.gd
   ·simp only[kB,ka];rw[SO];rfl
   simp only[zC];rw[fR (by rfl),fQ];rfl
  have ea:∀ws:List (aJ),Lib.joinTail [32] (((if m.acts=[]then[]else GW m.acts)::ws).filter ne)=(if m.acts=[]then[]else 32::GW m.acts)++Lib.joinTail [32] (ws.filter ne):=λws=>by
   by_cases ha:m.acts=[]
   ·rw[bc ha,bc ha,SO];rfl
   rw[aY ha,aY ha,fR (by rfl),fQ];rfl
  rw[eg,ea];congr 2;unfold Qi;cases m.tg with
  | nil=>rfl
  | cons s l=>
   rw[fR (by rfl),fQ,eI,mj,bQ]
 rw[e1];simp only[bP]
 all_goals rfl
theorem mvB(m:Mv):((((if m.k=1 then fi m.ev else if m.k=3 then decide (0<=m.wt)else decide (m.k=2))&&((decide (m.ev=[])||(m.k==1))&&((m.wt==0)||(m.k==3))))&&(if m.gd then Bi m.g else yK m.g))&&(m.tg.all fi&&m.acts.all nj))=Bj m:=by
 unfold Bj;generalize (if m.gd then Bi m.g else yK m.g)=A;generalize m.tg.all fi=B;generalize m.acts.all nj=C;generalize fi m.ev=D;by_cases k1:m.k=1
 ·rw[bc k1,bc k1,k1];cases D<;>cases A<;>cases B<;>cases C<;>by_cases hw:m.wt=0<;>simp[hw]
 rw[aY k1,aY k1];by_cases k3:m.k=3
 ·rw[bc k3,k3];cases A<;>cases B<;>cases C<;>by_cases he:m.ev=[]<;>by_cases hw:m.wt=0<;>by_cases hp:0<m.wt<;>simp[hw,he,hp]<;>omega
 rw[aY k3];by_cases k2:m.k=2
 ·rw[k2];cases A<;>cases B<;>cases C<;>by_cases he:m.ev=[]<;>by_cases hw:m.wt=0<;>simp[hw,he]
 have:¬(1<=m.k/\m.k<=3):=aG
 rw[bI this,bI k2];simp
section
variable {w0 w:ay} {b:Nat} {l:aJ} {st:St}
theorem abR(h:Qz w0 b w l st){F:aL}{m:Mv}{cs:aK}(hx:Mm false w F m cs)(hF:∀k,F k->k<w0.heap.size)(hn:mvN m)(hs:OW m<=16777216)(hE:Er w0)(hT:Tb w0):
  aB au 182 #[rp b,aj cs.toArray] w λe w'=>∃t cK,e=aq (ah (T t))/\t.length<=16450*OW m/\(cK.1=false->t=Vn m)/\Up st (Bj m) m.acts.length cK/\Qz w0 b w' l cK/\Mw true b w w':=by
 obtain⟨gc,uK,tg,rfl,hg,Je,sI⟩:=hx;obtain⟨gl,rfl⟩:=jo hg;have Je:=Je.1;have sI:=sI.1;have hsz:=hs;unfold OW at hsz;refine(ag7 ⟨b,0,none⟩ m.k (T m.ev) m.wt m.gd m.g.k m.g.n (T m.g.s) m.g.op gl m.g.a uK tg m.a (λv w'=>∃t cK,v=ah (T t)/\t.length<=16450*OW m/\(cK.1=false->t=Vn m)/\Up st (Bj m) m.acts.length cK/\Qz w0 b w' l cK/\Mw true b w w') w ?_).mono (by
  rintro e w' ⟨v,rfl,s,cK,rfl,h⟩;exact⟨s,cK,rfl,h⟩)
 intro k0 w1 gU fD cG;have t1:=(h.z true).al cG gU fD;have ux:=sI.len;have htn:=Fj m.tg;refine⟨λs0 w'=>∃hd cK,s0=T hd/\hd.length<=30+m.ev.length/\(cK.1=false->hd=Zu m)/\Up st (if m.k=1 then fi m.ev else if m.k=3 then decide (0<=m.wt)else decide (m.k=2)) 0 cK/\Zq true w0 w b w' l cK [k0],?_,λhc=>?_,λhc=>⟨λIW=>?_,λIW=>?_⟩⟩
 ·rintro _ w2 ⟨hd,vF,rfl,zm,hdt,hU2,t2⟩;refine(j7 t2.toQz _).mono ?_;rintro _ w3 ⟨rfl,TV,u1,u2,u3⟩;have t3:=t2.nx u2 u3;have hU3:=hU2.tr u1;rw[show ar #[]=T []from rfl,mM]at hU3;refine⟨rfl,t2.sm u3 aac,λs1 w'=>∃gt cK,s1=T gt/\gt.length<=16386/\(cK.1=false->gt=gdM m)/\Up TV (if m.gd then Bi m.g else yK m.g) 0 cK/\Zq true w0 w b w' l cK [k0],?_,λPZ=>?_,λPZ=>?_⟩
  ·rintro _ w4 ⟨gt,K0,rfl,gtl,gtt,hU4,t4⟩;refine⟨λnv i w'=>∃(j:Nat) (cK:St),i=j/\j<=m.tg.length/\nv=m.tg.length-j/\Up K0 ((m.tg.take j).all fi) 0 cK/\Zq true w0 w b w' l cK [k0],m.tg.length,⟨0,K0,rfl,bh _,rfl,t4.toQz.up0,t4⟩,?_⟩;rintro nv _ w5 ⟨j,Yt,rfl,hj,rfl,hU5,t5⟩;have Yv:aD lD 1 w5 F tg m.tg:=SliceF.keep dJ sI aN λk hk _=>h.arg t5.toQz (hF k hk);refine⟨λhc=>?_,λhc=>?_⟩
   ·have bT:(j:Int)<tg.n:=aP hc;obtain⟨ad,x,cs,g1,g2,g3,g4,g5,g6⟩:=Yv.get (bD j) bT;rw[aU]at g2;unfold lD at g6;subst g6;have hxm:=WY (bB g2);refine⟨ad,g1,_,g5,(mG t5.toQz x aG).mono ?_⟩;rintro _ w6 ⟨rfl,st6,v1,v2,v3⟩;refine⟨_,rfl,t5.sm v3 aac,m.tg.length-(j+1),aG,j+1,st6,aad,aG,rfl,(hU5.tr v1).cg ?_ rfl,t5.nx v2 v3⟩;rw[bE,g2,Ae];simp
   have lz:¬(j:Int)<tg.n:=aX hc;have qT:j=m.tg.length:=aG
   subst qT;rw[bq (ba _)]at hU5;refine⟨λs4 w'=>s4=T (Qi m)/\Zq true w0 w b w' l Yt [k0],?_,λhc=>?_,λhc=>?_⟩
   ·rintro _ w7 ⟨rfl,t7⟩;refine(Fi t7.toQz (SliceF.keep (dT false) Je aN λk hk _=>h.arg t7.toQz (hF k hk)) hF hn.a aG hE hT).mono ?_;rintro _ w8 ⟨bt,st8,rfl,btl,btt,hU8,v2,v3⟩;have t8:=t7.nx v2 v3;have ax8:(Qi m).length<=3+2*HR m.tg:=by
     unfold Qi;cases hm:m.tg with
     | nil=>exact bh _
     | cons s l=>
      have:=MT s l;rw[Lib.join_cons,MS]at this;rw[bn,bn,bn];omega
    have iA:=iU [hd,gt,bt,Qi m];simp only[bH,fV,cE,iL]at iA;have NN:OW m=(ky m.acts+E6 m.g)+(HR m.tg+(m.ev.length+1)):=rfl;obtain⟨q9,w9,e9,gH,_,hj9⟩:=Dp w8 [hd,gt,bt,Qi m] (n:=4) (parts:=#[.mk 0 (ah (T hd)),.mk 1 (ah (T gt)),.mk 2 (ah (T bt)),.mk 3 (ah (T (Qi m)))]) rfl rfl aN aN aG;have z9:=gH.size;refine⟨_,rfl,t7.sm v3 aac,q9,w9,e9,t8.sq gH aac,hj9.mono ?_⟩;rintro _ dL ⟨rfl,UY⟩;have t10:=t8.q (tJ gH UY);have hU:=(hU3.tr hU4).tr (hU5.tr hU8);refine⟨_,rfl,t8.sj z9 UY aac,abQ,fW [hd,gt,bt,Qi m]++[59],st8,acN,aaE,λe=>?_,hU.cg ?_ aG,t10.toQz,t10.m⟩
    ·obtain⟨x5,x8,_⟩:=hU8.ok e;obtain⟨x4,x5',_⟩:=hU5.ok x5;obtain⟨x3,x4',_⟩:=hU4.ok x4;obtain⟨x2,x3',_⟩:=u1.ok x3;obtain⟨x1,x2',_⟩:=hU2.ok x2;rw[hdt x2,gtt x4,btt e];refine SR ?_;obtain⟨_,y,_⟩:=hU.ok e;exact(mvB m).symm.trans y
    exact mvB m
   ·have uI:m.tg≠[]:=λe=>by
     rw[e]at ux;have:tg.n=0:=ux;rw[this]at hc;exact absurd hc aN
    have iA:(Lib.join m.tg [44,32]).length<=2*HR m.tg:=by
     cases hm:m.tg with
     | nil=>exact absurd hm uI
     | cons s l=>exact MT s l
    refine(an1 Yv [44,32] aG aG).mono ?_;rintro _ w7 ⟨rfl,fN⟩;refine⟨_,rfl,t5.sq fN aac,abQ,?_,t5.q fN⟩;rw[show ar #[45,62,32]=T [45,62,32]from rfl,lM];congr 1;unfold Qi;cases hm:m.tg with
    | nil=>exact absurd hm uI
    | cons s l=>
     rw[Lib.join_cons,MS];rfl
   have hz:m.tg=[]:=bR aby;refine⟨?_,t5⟩;unfold Qi;rw[hz]
  ·refine(MO t3.toQz ((jm false).keep hg λk hk _=>h.arg t3.toQz (hF k hk)) hn.g aG hE hT).mono ?_;rintro _ w4 ⟨rfl,K0,v1,v2,v3⟩;have t4:=t3.nx v2 v3;have:=MR m.g;refine⟨_,rfl,t3.sm v3 aac,abQ,?_,91::(Di m.g++[93]),K0,?_,aae,λ_=>by unfold gdM;rw[bc PZ],by rw[bc PZ];exact v1,t4⟩
   ·rw[show ar #[91]=T [91]from rfl,lM,dP,aW,bK];omega
   rw[show ar #[91]=T [91]from rfl,show ar #[93]=T [93]from rfl,lM,lM];rfl
  refine(MP t3.toQz ((jm false).keep hg λk hk _=>h.arg t3.toQz (hF k hk))).mono ?_;rintro _ w4 ⟨rfl,K0,v1,v2,v3⟩;exact⟨rfl,t3.sm v3 aac,[],K0,rfl,bh _,λ_=>by unfold gdM;rw[aY (by rw[PZ];decide)],by rw[aY (by rw[PZ];decide)];exact v1,t3.nx v2 v3⟩
 ·have hk:m.k=1:=aai
  refine(mG t1.toQz m.ev aG).mono ?_;rintro _ w2 ⟨rfl,vF,v1,v2,v3⟩;have t2:=t1.nx v2 v3;have iA:=iU [JR,m.ev];simp only[bH,fV,cE,iL]at iA;have hw:JR.length=2:=rfl;obtain⟨q3,w3,e3,dz,_,Vx⟩:=Dp w2 [JR,m.ev] (n:=2) (parts:=#[.mk 0 (ah (T JR)),.mk 1 (ah (T m.ev))]) rfl rfl aN aN aG;have z3:=dz.size;refine⟨_,rfl,t1.sm v3 aac,q3,w3,e3,t2.sq dz aac,Vx.mono ?_⟩;rintro _ w4 ⟨rfl,hP4⟩;exact⟨_,rfl,t2.sj z3 hP4 aac,_,vF,rfl,aG,λ_=>by unfold Zu;rw[bc hk],by rw[bc hk];exact v1,t2.q (tJ dz hP4)⟩
 ·have kc:m.k≠1:=aai
  have hk:m.k=3:=by simpa using IW
  refine(j7 t1.toQz _).mono ?_;rintro _ w2 ⟨rfl,vF,v1,v2,v3⟩;have t2:=t1.nx v2 v3;refine⟨rfl,t1.sm v3 aac,(zN m.wt hn.w (hT.only t2.o)).mono ?_⟩;rintro _ w3 ⟨rfl,dz⟩;have t3:=t2.q dz;have iA:=iU [kQ,Lib.itoa m.wt];simp only[bH,fV,cE,iL]at iA;have hw:kQ.length=5:=rfl;have IP:=HT hn.w;obtain⟨q4,w4,e4,dK,_,hj4⟩:=Dp w3 [kQ,Lib.itoa m.wt] (n:=2) (parts:=#[.mk 0 (ah (T kQ)),.mk 1 (ah (T (Lib.itoa m.wt)))]) rfl rfl aN aN aG;have z4:=dK.size;refine⟨_,rfl,t2.sq dz aac,q4,w4,e4,t3.sq dK aac,hj4.mono ?_⟩;rintro _ w5 ⟨rfl,hP5⟩;exact⟨_,rfl,t3.sj z4 hP5 aac,_,vF,rfl,aG,λ_=>by unfold Zu;rw[aY kc,bc hk],by rw[aY kc,bc hk];exact v1,t3.q (tJ dK hP5)⟩
 have kc:m.k≠1:=aai
 have zr:m.k≠3:=by simpa using IW
 refine(j7 t1.toQz _).mono ?_;rintro _ w2 ⟨rfl,vF,v1,v2,v3⟩;have t2:=t1.nx v2 v3;refine⟨rfl,t1.sm v3 aac,kK,vF,rfl,by show 6<=_;omega,λ_=>by unfold Zu;rw[aY kc,aY zr],by rw[aY kc,aY zr];exact v1,t2⟩
end
theorem SU{w:ay}{b:Nat}{q:Option Addr}{v1 v2 v3:az}(hq:q=none∨q=some ⟨b,0,none⟩)(h:aH w b 218 [ai q,v1,v2,v3]):
  aB au 199 #[ai (some ⟨b,0,none⟩)] w λe w'=>e=aq (ak #[])/\aA [b] w w'/\aH w' b 218 [ai (some ⟨b,0,none⟩),v1,v2,v3]:=by
 refine ret (Y7 _ _ _ ?_);have Jc:w.shape? b=some (218,4):=by
  unfold World.shape?;unfold aH at h;rw[h];rfl
 refine⟨q,Blk.eh h 0 rfl,λhn=>?_,λhn=>⟨q,Blk.eh h 0 rfl,?_⟩⟩
 ·have NW:=Lib.run_to_unsafe (P:=au) (src:=213) (dst:=281) w ⟨b,0,none⟩ (t:=216) (j:=Tryz.t216) (by kernel_rfl) (by kernel_rfl) (by kernel_rfl) aN Jc (by decide:(0:Nat)<4);have KR:=Lib.run_from_unsafe (P:=au) (src:=281) (dst:=213) w ⟨b,0,none⟩ (u:=216) (j:=Tryz.t216) (by kernel_rfl) (by kernel_rfl) (by kernel_rfl) Jc (by kernel_rfl);exact⟨⟨ai (some ⟨b,0,none⟩),rfl⟩,w,NW,⟨ai (some ⟨b,0,none⟩),rfl⟩,w,Zc _ w,some ⟨b,0,none⟩,w,KR,b,0,_,_,rfl,h,aac,λw3 hO hB=>⟨rfl,hO,hB⟩⟩
 rcases hq with rfl | rfl
 ·cases hn
 exact⟨false,w,Lib.run_neq_ptr_same w _ (te:=216) (j:=Tryz.t216) (by kernel_rfl) (by kernel_rfl),λe=>aeF,λ_=>⟨rfl,Only.refl _ _,h⟩⟩
section
variable {w0 w:ay} {b:Nat} {l:aJ} {st:St}
theorem W0(h:Qz w0 b w l st)(m:aJ)(hm:l.length+m.length<=274877906944):aB au 175 #[ai (some ⟨b,0,none⟩),ah (T m)] w λe w'=>
  e=aq (ak #[O ae (m.length:Int),.nilIface])/\Qz w0 b w' (l++m) st/\Mw false b w w':=by
 refine ret (Y6 _ _ _ _ ?_);obtain⟨q,sl,hq,hB,aao⟩:=h.ex;refine(SU hq hB).mono ?_;rintro _ w1 ⟨rfl,cO,sF⟩;have z0:=cO.size;have hb:=hB.lt;have xn:Bf w1 (b+1) sl l:=aao.keep λg hg hl=>cO.block g hl (by have:=(aao.lt hg).1;simp;omega);obtain⟨s',w2,k1,k2,k3,k4⟩:=L9 xn m aG aG;have z1:=k3.size;have u7:aH w2 b 218 [ai (some ⟨b,0,none⟩),sl.v,ao st.1,O ae st.2]:=k3.blk sF λe=>aec
 have xd:∀g,s'.a=some ⟨g,0,none⟩->b<g:=λg hg=>by
  rcases k4 with e | e
  ·rw[e]at hg;exact(xn.lt hg).1
  rw[e]at hg;injection hg with hg;injection hg with hg;omega
 refine⟨rfl,sl,Blk.eh sF 1 rfl,s',w2,k1,b,1,_,_,rfl,u7,aac,λw3 dk pF=>?_⟩;have pF:aH w3 b 218 [ai (some ⟨b,0,none⟩),s'.v,ao st.1,O ae st.2]:=pF;have jh:aF (λk=>k=b∨(false=false/\Bu w b k)) w w3:=((cO.p (F:=λk=>k=b∨(false=false/\Bu w b k)) λx hx=>.inl (.inl aa3)).trans k3 λk hk=>.inl (.inr ⟨rfl,HP hB hk⟩)).trans (dk.p (F:=λk=>k=b) λx hx=>.inl aa3) λk hk=>.inl (.inl hk);refine⟨by rw[dP],⟨?_,h.lo,⟨_,_,.inr rfl,pF,k2.keep λg hg hl=>dk.block g hl adY⟩,h.i,by rw[aW];exact hm⟩,jh,λk hk=>?_⟩
 ·refine⟨jh.os.trans h.o.os,jh.tape.trans h.o.tape,jh.output.trans h.o.output,bf h.o.size jh.size,λk hk _=>(jh.block k (cq hk h.o.size) ?_).trans (h.o.block k hk aac)⟩;rintro(e | ⟨_,e⟩)
  ·have:=h.lo;omega
  have:=(h.bu e).1;have:=h.lo;omega
 have e:=MM pF hk;rcases k4 with e2 | e2
 ·exact .inl (HP hB (e2▸e))
 rw[e2]at e;injection e with e;injection e with e;exact .inr ⟨rfl,aG⟩
theorem Zq.sl{f g:Bool}{ws w1 w':ay}{ks ks':List Nat}(t:Zq f w0 ws b w l st ks)(hO:aA [] w w1)(m:Mw g b w w')(hk:∀k,k∈ks'->k∈ks):ci ks' w1 w':=λx hx=>
 (t.sm m hk x hx).trans (t.sq hO hk x hx).symm
theorem MU:∀d,Lib.repeatL [32,32] d=OM d
 | 0=>rfl
 | d+1=>by rw[Lib.repeatL,MU d];rfl
theorem MV:∀d,(OM d).length=2*d
 | 0=>rfl
 | d+1=>by rw[OM,bn,bn,MV d];omega
theorem yN(h:Qz w0 b w l st)(ws:List (aJ)){n:Nat}{parts:Array (Nat×az)}(hp:parts=(((ws.map λx=>Value.string (T x)).zipIdx 0).map λx=>(x.2,x.1)).toArray)(hn:ws.length=n)(h0:0<n)(CK:n*1<=16777216)(d:Nat)(hd:d<=12)(hl:(fW ws).length<=274877889536):
  ∃(q:Sl) (w1:ay),(aw 132 n parts).run au w=.ok q.v w1/\aA [] w w1/\aB au 142 #[rp b,O ae (d:Int),q.v] w1 λe w'=>e=aq (ak #[])/\Qz w0 b w' (if st.1 then l else qz l (d,fW ws)) st/\Mw false b w w':=by
 obtain⟨q,w1,e1,aqf,cG⟩:=oy w ws hp hn h0 CK;refine⟨q,w1,e1,cG,?_⟩;have t1:=(h.z true).q cG;have hb:=h.lb;have hbu:∀k,Bu w b k->k<w.heap.size:=λk hk=>(h.bu hk).2;refine ret (agR _ _ _ _ _ ?_);refine(MQ t1.toQz).mono ?_;rintro _ w2 ⟨rfl,rfl⟩;obtain⟨qq,sl,hB,_⟩:=t1.toQz.set;refine⟨_,rfl,st.1,λ_=>Blk.eh hB 2 rfl,λhc w3 dz=>?_,λhc=>?_⟩
 ·simp only[aR,da,dv]at hc;obtain⟨tW,oh⟩:=hc;have t3:=t1.q dz;refine(Tryz.strings_Repeat (T [32,32]) d w3 aG (by show 2*d<=_;omega)).mono ?_;rintro _ w4 ⟨rfl,sS⟩;have dK:=Only.below sS;have t4:=t3.q dK;have adT:=aqf.keep dJ (w':=w4) λk hk bT=>(dz.cr dK).block k bT aac;have zm:=MV d;refine⟨T (OM d),by rw[show(T [32,32]).data.toList=[32,32]from rfl,MU],(Bo adT aG aG).mono ?_⟩;rintro _ w5 ⟨rfl,hP5⟩;have t5:=t4.row hb hbu hP5;refine⟨_,rfl,by rw[dP,dP];omega,by rw[lM,dP,aW];omega,?_⟩;rw[show ar #[10]=T [10]from rfl,lM,lM,show(Addr.add ⟨b,0,none⟩ 0:Addr)=⟨b,0,none⟩from rfl];refine(W0 t5.toQz _ ?_).mono ?_
  ·simp only[aW,bn,cZ];omega
  rintro _ w6 ⟨rfl,h6,m6⟩;refine⟨_,⟨.nilIface,rfl⟩,rfl,rfl,?_,t5.m.up.trans m6⟩;rw[oh,aY aN];unfold qz lnT;rw[aY tW];dsimp only;rw[bP]at h6;exact h6
 refine⟨rfl,?_,t1.m.up⟩;have:(if st.1 then l else qz l (d,fW ws))=l:=by
  cases e:st.1
  ·rw[e]at hc;have hc:16384<l.length:=aai
   rw[aY aN];unfold qz;rw[bc hc]
  rfl
 rw[this];exact t1.toQz
theorem Bt(h:Qz w0 b w l st)(d:Nat)(hd:d<=12)(word text:aJ)(hw:word.length<=100)(hl:text.length<=274877880000):
  aB au 180 #[rp b,O ae (d:Int),ah (T word),ah (T text)] w λe w'=>e=aq (ak #[])/\Qz w0 b w' (if st.1||decide (text=[])then l else qz l (d,fW [word,text])) st/\Mw false b w w':=by
 refine ret (agZ _ _ _ _ _ _ ?_);rw[show ar #[]=T []from rfl,mM];refine⟨λhc=>?_,λhc=>?_⟩
 ·have hc:text≠[]:=aai
  have iA:=iU [word,text];simp only[bH,fV,cE,iL]at iA;obtain⟨q,w1,e1,cG,hj⟩:=yN h [word,text] (n:=2) (parts:=#[.mk 0 (ah (T word)),.mk 1 (ah (T text))]) rfl rfl aN aN d hd aG;refine⟨q,w1,e1,hj.mono ?_⟩;rintro _ w2 ⟨rfl,h2,m2⟩;refine⟨rfl,rfl,?_,m2⟩;rw[bI hc,Bool.or_false];exact h2
 have hc:text=[]:=aai
 refine⟨rfl,?_,Mw.refl _ _ _⟩;rw[bJ hc,K6,bc rfl];exact h
end
end Go.Proofs.YtpbgcbdclnfpnaaGreatDoor.Con
