import Derived.Test.YtpbgcbdclnfpnaaGreatDoorQr6
set_option linter.unusedSectionVars false
set_option linter.unusedSimpArgs false
set_option linter.unusedVariables false
set_option maxHeartbeats 4000000
open Go.Value renaming int->O,string->ah,pointer->ai,agg->aj,tuple->ak,bool->ao
open Go.IntKind renaming i64->ae,wrap->av
open Go.Ending renaming returned->aq
open _root_.ByteArray renaming mk->ar
open _root_.Go.Proofs.Tryz renaming prog->au
open Go.Instr renaming buildSlice->aw
open Go renaming World->ay,Value->az,Calls->aB
open Go.Kt renaming Only->aA,SliceF->aD,Cells->aE,OnlyP->aF,Blk->aH
namespace Go.Proofs.YtpbgcbdclnfpnaaGreatDoor.Con
open Go Go.RowKit Go.Kt Go.Kt.V Go.Proofs.YtpbgcbdclnfpnaaGreatDoor.Vc
structure Fz (bs:List Nat) (w w':ay) (ks:List Nat):Prop where
 o:aA bs w w'
 k:∀x,x∈ks->w.heap.size<=x/\x<w'.heap.size
 lo:∀x,x∈bs->x<w.heap.size
section
variable {bs bs' ks ks':List Nat} {w w1 w2 w':ay} {k0 b:Nat}
theorem Fz.start(lo:∀x,x∈bs->x<w.heap.size):Fz bs w w []:=⟨Only.refl _ _,λ_ h=>aaH,lo⟩
theorem Fz.go(h:Fz bs w w1 ks)(k:aA bs' w1 w2)(hb:∀x,x∈bs'->x∈bs∨x∈ks):Fz bs w w2 ks:=
 ⟨h.o.trans k λx hx=>(hb x hx).imp id λhk=>(h.k x hk).1,λx hx=>⟨(h.k x hx).1,cq (h.k x hx).2 k.size⟩,h.lo⟩
theorem Fz.new(h:Fz bs w w1 ks)(k:aA bs' w1 w2)(hb:∀x,x∈bs'->x∈bs∨w.heap.size<=x):Fz bs w w2 ks:=
 ⟨h.o.trans k hb,λx hx=>⟨(h.k x hx).1,cq (h.k x hx).2 k.size⟩,h.lo⟩
theorem Fz.q(h:Fz bs w w1 ks)(k:aA [] w1 w2):Fz bs w w2 ks:=h.go k λx hx=>adf
theorem Fz.c(h:Fz (b::bs) w w1 ks)(k:aA [b] w1 w2):Fz (b::bs) w w2 ks:=h.go k λx hx=>.inl abr
theorem Fz.f(h:Fz bs w w1 ks)(k:aA [k0] w1 w2)(hk:k0∈ks):Fz bs w w2 ks:=h.go k λx hx=>.inr (by simp at hx;rw[hx];exact hk)
theorem Fz.al(h:Fz bs w w1 ks)(k:aA [] w1 w2)(h1:w1.heap.size<=k0)(h2:k0<w2.heap.size):Fz bs w w2 (k0::ks):=
 ⟨(h.q k).o,λx hx=>by
  rcases aR.1 hx with rfl | hx
  ·exact⟨bf h.o.size h1,h2⟩
  exact(h.q k).k x hx,h.lo⟩
theorem Fz.sm(h:Fz bs w w1 ks)(k:aA bs' w1 w2)(hk:∀x,x∈ks'->x∈ks)(hb:∀x,x∈bs'->x∈bs∨∀y,y∈ks'->y≠x):cj ks' w1 w2:=k.same λx hx=>
 ⟨(h.k x (hk x hx)).2,λhm=>by
  rcases hb x hm with h1 | h1
  ·have:=(h.k x (hk x hx)).1;have:=h.lo x h1;omega
  exact h1 x hx rfl⟩
theorem Fz.sq(h:Fz bs w w1 ks)(k:aA [] w1 w2)(hk:∀x,x∈ks'->x∈ks):cj ks' w1 w2:=h.sm k hk λx hx=>adf
theorem Fz.sc(h:Fz (b::bs) w w1 ks)(k:aA [b] w1 w2)(hk:∀x,x∈ks'->x∈ks):cj ks' w1 w2:=h.sm k hk λx hx=>.inl abr
theorem Fz.ne(h:Fz bs w w1 ks)(hk:k0∈ks)(hb:b∈bs):k0≠b:=λe=>by
 have:=(h.k k0 hk).1;have:=h.lo b hb;omega
end
section
variable {α:Type} {r:Rp α} {w w1 w':ay} {x:α} {cs:aK} {B:Nat}
structure Stay (B:Nat) (w w':ay):Prop where
 sz:w.heap.size<=w'.heap.size
 eq:∀k,B<=k->k<w.heap.size->w'.heap[k]? =w.heap[k]?
theorem Stay.refl B w:Stay B w w:=⟨ba _,λ_ _ _=>rfl⟩
theorem Stay.go{bs}(h:Stay B w w1)(k:aA bs w1 w')(hb:∀x,x∈bs->x<B∨w.heap.size<=x):Stay B w w':=
 ⟨bf h.sz k.size,λi h1 h2=>(k.block i (cq h2 h.sz) λhm=>by have:=hb i hm;omega).trans (h.eq i h1 h2)⟩
theorem Stay.of{bs}(k:aA bs w w')(hb:∀x,x∈bs->x<B∨w.heap.size<=x):Stay B w w':=(Stay.refl B w).go k hb
theorem _root_.Go.Kt.Rp.Ok.stay(hr:r.Ok)(h:r w (Fr B) x cs)(hs:Stay B w w'):r w' (Fr B) x cs:=
 hr.mono (hr.keep (hr.inHeap h) λk hk cd=>hs.eq k hk.1 cd) λk hk=>hk.1
theorem _root_.Go.Kt.Rp.Ok.low(hr:r.Ok)(h:r w (Fr B) x cs){A}(hA:A<=B):r w (Fr A) x cs:=hr.mono h λk hk=>bf hA hk
variable {size:Nat} {e:TypeId} {s:Sl} {xs:List α} {t:Bool}
theorem jR.stay(hr:r.Ok)(h:jR t r size e w (Fr B) s xs)(h0:0<size)(hs:Stay B w w'):jR t r size e w' (Fr B) s xs:=
 ((h.inHeap hr h0).keep hr h0 λk hk cd=>hs.eq k hk.1 cd).mono hr λk hk=>hk.1
theorem jR.low(hr:r.Ok)(h:jR t r size e w (Fr B) s xs){A}(hA:A<=B):jR t r size e w (Fr A) s xs:=h.mono hr λk hk=>bf hA hk
end
abbrev XX(l:Sl)(s:Sx):aK:=[l.v,O ae s.i,O ae s.fc,O ae s.fa,O ae s.v,O ae s.n,O ae s.d,O ae s.m,O ae s.a]
structure Sr (F:aL) (ts:List Tk) (w:ay) (b:Nat) (l:Sl) (s:Sx):Prop where
 blk:aH w b 153 (XX l s)
 tok:aD NB 4 w F l ts
 hF:∀k,F k->k<b
 en:wZ ts
 lt:s.i<ts.length
 sm:ts.length<=16777216
abbrev rp(b:Nat):az:=ai (some ⟨b,0,none⟩)
section
variable {F:aL} {ts:List Tk} {w w':ay} {b:Nat} {l:Sl} {s s':Sx}
theorem Sr.own(h:Sr F ts w b l s){bs}(hO:aA bs w w')(hb:∀x,x∈bs->b<x):Sr F ts w' b l s:=
 ⟨hO.blk h.blk λhm=>(by have:=hb b hm;omega),SliceF.only jH aN h.tok hO λk hk _ hm=>(by have:=h.hF k hk;have:=hb k hm;omega),h.hF,h.en,h.lt,h.sm⟩
theorem Sr.far(h:Sr F ts w b l s){bs}(hO:aA bs w w')(hb:∀x,x∈bs->x≠b/\¬F x):Sr F ts w' b l s:=
 ⟨hO.blk h.blk λhm=>(hb b hm).1 rfl,SliceF.only jH aN h.tok hO λk hk _ hm=>(hb k hm).2 hk,h.hF,h.en,h.lt,h.sm⟩
theorem Sr.aa1(h:Sr F ts w b l s){k0}(hO:aA [k0] w w')(hk:k0≠b/\¬F k0):Sr F ts w' b l s:=h.far hO λx hx=>(by simp at hx;subst hx;exact hk)
theorem Sr.gt(h:Sr F ts w b l s){x}(hx:b<x):x≠b/\¬F x:=⟨aG,λhF=>by have:=h.hF x hF;omega⟩
theorem Sr.only(h:Sr F ts w b l s)(hO:aA [] w w'):Sr F ts w' b l s:=h.own hO λx hx=>adf
theorem Sr.one(h:Sr F ts w b l s){k0}(hO:aA [k0] w w')(hk:b<k0):Sr F ts w' b l s:=h.own hO λx hx=>(by simp at hx;omega)
theorem Sr.nR(h:Sr F ts w b l s)(hO:aA [b] w w')(hB:aH w' b 153 (XX l s'))(hi:s'.i<ts.length):Sr F ts w' b l s':=
 ⟨hB,SliceF.only jH aN h.tok hO λk hk _ hm=>(by have:=h.hF k hk;simp at hm;omega),h.hF,h.en,hi,h.sm⟩
theorem Sr.lb(h:Sr F ts w b l s):b<w.heap.size:=h.blk.lt
theorem Sr.z(h:Sr F ts w b l s):Fz [b] w w []:=Fz.start λx hx=>(by simp at hx;rw[hx];exact h.lb)
theorem Sr.big(h:Sr F ts w b l s):ts.length<=9223372036854775807:=by
 have h1:=h.tok.len;have h2:=h.tok.cap;have h3:=h.tok.big;omega
theorem Sr.wr(h:Sr F ts w b l s):av ae (s.i+1)=((s.i+1:Nat)):=by
 have:=h.big;have:=h.lt;rw[gF aG aG];rfl
theorem Sr.now(h:Sr F ts w b l s):∃ad,dI l s.i 4 ad/\aE w ad [O ae (tk ts s.i).k,ah (T (tk ts s.i).t),O ae (tk ts s.i).n,O ae (tk ts s.i).a]:=by
 have hl:=h.tok.len;have cd:=h.lt;obtain⟨ad,x,cs,g1,g2,g3,g4,g5,g6⟩:=h.tok.get (bE s.i) aG;rw[aV,KV h.lt]at g2;injection g2 with g2;subst g2;subst g6;exact⟨ad,g1,g5⟩
structure Dn (F:aL) (ts:List Tk) (w w':ay) (b:Nat) (l:Sl) (s:Sx):Prop where
 o:aA [b] w w'
 r:Sr F ts w' b l s
theorem Sr.dn(h:Sr F ts w b l s):Dn F ts w w b l s:=⟨Only.refl _ _,h⟩
theorem Dn.q(h:Dn F ts w w' b l s){w2}(k:aA [] w' w2):Dn F ts w w2 b l s:=⟨h.o.cy k,h.r.only k⟩
theorem Dn.nx(h:Dn F ts w w' b l s){w2}{s'}(k:Dn F ts w' w2 b l s'):Dn F ts w w2 b l s':=⟨h.o.trans k.o λx hx=>.inl hx,k.r⟩
theorem Dn.f(h:Dn F ts w w' b l s){w2}{k0}(k:aA [k0] w' w2)(hk:w.heap.size<=k0)(hb:b<w.heap.size):Dn F ts w w2 b l s:=⟨h.o.new k hk,h.r.one k aG⟩
theorem Sr.tk(h:Sr F ts w b l s){ad}(g:dI l s.i 4 ad):aE w ad [O ae (tk ts s.i).k,ah (T (tk ts s.i).t),O ae (tk ts s.i).n,O ae (tk ts s.i).a]:=by
 obtain⟨Ot,g1,g2⟩:=h.now;rw[g.amM g1];exact g2
structure Zt (F:aL) (ts:List Tk) (w w':ay) (b:Nat) (l:Sl) (s:Sx) (ks:List Nat):Prop where
 z:Fz [b] w w' ks
 r:Sr F ts w' b l s
section
variable {w2:ay} {ks ks':List Nat} {k0:Nat}
theorem Sr.zt(h:Sr F ts w b l s):Zt F ts w w b l s []:=⟨h.z,h⟩
theorem Zt.q(h:Zt F ts w w' b l s ks)(k:aA [] w' w2):Zt F ts w w2 b l s ks:=⟨h.z.q k,h.r.only k⟩
theorem Zt.al(h:Zt F ts w w' b l s ks)(k:aA [] w' w2)(h1:w'.heap.size<=k0)(h2:k0<w2.heap.size):Zt F ts w w2 b l s (k0::ks):=⟨h.z.al k h1 h2,h.r.only k⟩
theorem Zt.ad(h:Zt F ts w w' b l s ks)(h1:w.heap.size<=k0)(h2:k0<w'.heap.size):Zt F ts w w' b l s (k0::ks):=⟨⟨h.z.o,λx hx=>by
 rcases aR.1 hx with rfl | hx
 ·exact⟨h1,h2⟩
 exact h.z.k x hx,h.z.lo⟩,h.r⟩
theorem Zt.lt(h:Zt F ts w w' b l s ks)(hk:k0∈ks):b<k0:=cq (h.z.lo b aaa) (h.z.k k0 hk).1
theorem Zt.f(h:Zt F ts w w' b l s ks)(k:aA [k0] w' w2)(hk:k0∈ks):Zt F ts w w2 b l s ks:=⟨h.z.f k hk,h.r.one k (h.lt hk)⟩
theorem Zt.nx(h:Zt F ts w w' b l s ks)(k:Dn F ts w' w2 b l s'):Zt F ts w w2 b l s' ks:=⟨h.z.c k.o,k.r⟩
theorem Zt.dn(h:Zt F ts w w' b l s ks):Dn F ts w w' b l s:=⟨h.z.o,h.r⟩
theorem Zt.up(h:Zt F ts w w' b l s ks)(k:aA [b] w' w2)(hB:aH w2 b 153 (XX l s'))(hi:s'.i<ts.length):Zt F ts w w2 b l s' ks:=⟨h.z.c k,h.r.nR k hB hi⟩
theorem Zt.sq(h:Zt F ts w w' b l s ks)(k:aA [] w' w2)(hk:∀x,x∈ks'->x∈ks):cj ks' w' w2:=h.z.sq k hk
theorem Zt.sc(h:Zt F ts w w' b l s ks)(k:Dn F ts w' w2 b l s')(hk:∀x,x∈ks'->x∈ks):cj ks' w' w2:=h.z.sc k.o hk
theorem Zt.row{gs}(h:Zt F ts w w' b l s ks)(k:aA gs w' w2)(hg:∀x,x∈gs->w.heap.size<=x):Zt F ts w w2 b l s ks:=⟨h.z.new k λx hx=>.inr (hg x hx),h.r.own k λx hx=>cq (h.z.lo b aaa) (hg x hx)⟩
theorem Zt.sr{gs}(h:Zt F ts w w' b l s ks)(k:aA gs w' w2)(hk:∀x,x∈ks'->x∈ks)(hg:∀x,x∈gs->∀y,y∈ks'->y<x):cj ks' w' w2:=h.z.sm k hk λx hx=>.inr λy hy e=>by have:=hg x hx y hy;omega
theorem Zt.ne(h:Zt F ts w w' b l s ks)(hk:k0∈ks):k0≠b:=h.z.ne hk aaa
theorem Stay.q{B}(h:Stay B w w')(k:aA [] w' w2):Stay B w w2:=h.go k λx hx=>adf
theorem Stay.d{B}(h:Stay B w w')(k:Dn F ts w' w2 b l s')(hb:b<B):Stay B w w2:=h.go k.o λx hx=>.inl (by simp at hx;omega)
theorem Stay.f{B}(h:Stay B w w')(k:aA [k0] w' w2)(hk:k0<B∨w.heap.size<=k0):Stay B w w2:=h.go k λx hx=>(by simp at hx;subst hx;exact hk)
end
theorem my(h:Sr F ts w b l s):aB au 93 #[rp b] w λe w'=>e=aq (ao (s.fc==0))/\aA [] w w':=by
 exact ret (ae2 _ _ w ⟨s.fc,Blk.eE h.blk 2 rfl,rfl,Only.refl _ _⟩)
theorem zg(h:Sr F ts w b l s) c:aB au 129 #[rp b,O ae c] w λe w'=>e=aq (ak #[])/\Dn F ts w w' b l (ij ts s c):=by
 refine ret (ae4 _ _ _ _ ?_);refine(my h).mono ?_;rintro _ w0 ⟨rfl,cQ⟩;refine⟨_,rfl,λhc w1 cJ=>?_,λhc=>?_⟩
 ·have hc:=aaw
  have h1:=h.only (cQ.cy cJ);obtain⟨ad,g1,g2⟩:=h1.now;refine⟨l,Blk.eE h1.blk 0 rfl,_,Blk.eE h1.blk 1 rfl,ad,g1,_,g2.eE 3 _ rfl,b,2,_,_,rfl,h1.blk,aaa,λw2 dw qG=>⟨rfl,((cQ.cy cJ).weaken (bs':=[b]) λ_ h=>aaH).trans dw λx hx=>.inl hx,?_⟩⟩;unfold ij;rw[aZ hc];exact h1.nR (s':={s with fc:=c,fa:=(tk ts s.i).a}) dw qG h.lt
 unfold ij;rw[aX aaw];exact⟨rfl,h.dn.q cQ⟩
theorem sV(h:Sr F ts w b l s):aB au 94 #[rp b] w λe w'=>e=aq (ak #[])/\Dn F ts w w' b l (lc ts s):=by
 refine ret (ae3 _ _ _ ?_);obtain⟨ad,g1,g2⟩:=h.now;refine⟨λw'=>Dn F ts w w' b l (if(tk ts s.i).k=5 then ij ts s 3 else s),λw0 h0=>(zg h0.r 4).mono ?_,l,Blk.eE h.blk 0 rfl,_,Blk.eE h.blk 1 rfl,ad,g1,_,g2.eE 0 _ rfl,λhc w2 dw=>?_,λhc w2 dw=>?_⟩
 ·rintro _ w1 ⟨rfl,h1⟩;refine⟨rfl,rfl,h0.nx ?_⟩;unfold lc;split at h1
  ·rename_i e;rw[aZ e];exact h1
  rename_i e;rw[aX e];exact h1
 ·refine(zg (h.only dw) 3).mono ?_;rintro _ w3 ⟨rfl,h3⟩;have hc:=aaw
  refine⟨rfl,?_⟩;rw[aZ hc];exact(h.dn.q dw).nx h3
 rw[aX aaw];exact h.dn.q dw
theorem afP{s}{w}{G}{l}(h:aD lz 1 w G s l) c:
  aB au 170 #[Sl.v s,ah (T c)] w λr w'=>r=aq (O ae (if uo c l<l.length then uo c l else -1))/\w'=w:=by
 refine ret (XD _ _ _ _ ?_);have fl:=h.len;have qF:=h.big;have lC:=h.cap;refine⟨λnv i w'=>∃n,n<=l.length/\i=n/\nv=l.length-n/\uo c l=n+uo c (l.drop n)/\w'=w,l.length,⟨0,bB _,rfl,rfl,by rw[fi,bM],rfl⟩,?_⟩;rintro nv _ _ ⟨n,hn,rfl,rfl,hp,rfl⟩;refine⟨λhc=>?_,λhc=>?_⟩
 ·have cd:=aP hc;obtain⟨ad,x,cs,g1,g2,g3,g4,g5,g6⟩:=h.get (bE n) cd;rw[aV]at g2;subst g6;have hd:l.drop n=x::l.drop (n+1):=by rw[gC (be.1 g2).1,(be.1 g2).2]
  rw[hd,uo]at hp;refine⟨ad,g1,_,g5,?_⟩;dsimp only;rw[mE];refine⟨λhe=>⟨?_,rfl⟩,λhe=>⟨l.length-_,aG,n+1,aG,aaq,rfl,?_,rfl⟩⟩
  ·have he:=aP he;rw[aZ he]at hp;rw[aZ aG,hp,fE]
  rw[aX (aY he)]at hp;omega
 have mQ:=aY hc;rw[aX aG];exact⟨rfl,rfl⟩
theorem AV(h:Sr F ts w b l s){G}{q}{ss}(hs:aD lz 1 w G q ss):aB au 131 #[rp b,q.v] w λe w'=>e=aq (O ae (dk ts s ss))/\aA [] w w':=by
 refine ret (ae1 _ _ _ _ ?_);intro w0 cQ;have h0:=h.only cQ;obtain⟨ad,g1,g2⟩:=h0.now;refine⟨λ_=>True,trivial,l,Blk.eE h0.blk 0 rfl,trivial,_,Blk.eE h0.blk 1 rfl,ad,g1,trivial,_,_,_,_,g2,λk0 w1 hk iy cJ=>?_⟩;refine(my (h0.only cJ)).mono ?_;rintro _ w2 ⟨rfl,dw⟩;have pG:=(cQ.cy cJ).cy dw;have PB:((!(s.fc==0))||(((tk ts s.i).k !=2)&&((tk ts s.i).k !=4)))=decide (s.fc≠0∨((tk ts s.i).k≠2/\(tk ts s.i).k≠4)):=by
  rw[bT];simp
 refine⟨_,rfl,dw.same aab,?_⟩;dsimp only;rw[PB];refine⟨λhc=>?_,λhc=>?_⟩
 ·unfold dk;rw[aZ (aP hc)];exact⟨rfl,pG⟩
 refine(afP (SliceF.only dH aN hs pG aaa) (tk ts s.i).t).mono ?_;rintro _ w3 ⟨rfl,rfl⟩;refine⟨_,rfl,cj.refl _ _,?_,pG⟩;unfold dk;rw[aX (aY hc)];have hl:=hs.len;have hb:=hs.big;have hcp:=hs.cap;split
 ·rw[gF aG aG];rfl
 rfl
theorem LD(h:Sr F ts w b l s) ss {n} {parts} (hp:parts=(((ss.map λx=>Value.string (T x)).zipIdx 0).map λx=>(x.2,x.1)).toArray) (hn:ss.length=n) (h0:0<n) (BU:n*1<=16777216):
  ∃(q:Sl) (w0:ay),(aw 132 n parts).run au w=.ok q.v w0/\aA [] w w0/\aB au 131 #[rp b,q.v] w0 λe w'=>e=aq (O ae (dk ts s ss))/\aA [] w0 w':=by
 obtain⟨q,w0,k1,k2,k3⟩:=og w ss hp hn h0 BU;exact⟨q,w0,k1,k3,AV (h.only k3) (vF k2)⟩
theorem VD(h:Sr F ts w b l s){G}{q}{ss}(hs:aD lz 1 w G q ss):aB au 90 #[rp b,q.v] w λe w'=>e=aq (O ae (dk ts s ss))/\Dn F ts w w' b l (if dk ts s ss=0 then s else dJ s):=by
 refine ret (ae0 _ _ _ _ ?_);refine(AV h hs).mono ?_;rintro _ w0 ⟨rfl,cQ⟩;have h0:=h.only cQ;refine⟨_,rfl,λw'=>Dn F ts w w' b l _,λw1 h1=>⟨rfl,h1⟩,λhc=>?_,λhc=>?_⟩
 ·have hc:dk ts s ss≠0:=abt
  refine⟨_,Blk.eE h0.blk 1 rfl,b,1,_,_,rfl,h0.blk,aaa,λw2 dw qG=>?_⟩;rw[aX hc];rw[h.wr]at qG;exact⟨(cQ.weaken (bs':=[b]) λ_ h=>aaH).trans dw λx hx=>.inl hx,h0.nR (s':=dJ s) dw qG (h.en.next h.lt (dB hc).2)⟩
 have hc:dk ts s ss=0:=abN
 rw[aZ hc];exact h.dn.q cQ
theorem CF(h:Sr F ts w b l s) ss {n} {parts} (hp:parts=(((ss.map λx=>Value.string (T x)).zipIdx 0).map λx=>(x.2,x.1)).toArray) (hn:ss.length=n) (h0:0<n) (BU:n*1<=16777216):
  ∃(q:Sl) (w0:ay),(aw 132 n parts).run au w=.ok q.v w0/\aA [] w w0/\aB au 90 #[rp b,q.v] w0 λe w'=>e=aq (O ae (dk ts s ss))/\Dn F ts w0 w' b l (if dk ts s ss=0 then s else dJ s):=by
 obtain⟨q,w0,k1,k2,k3⟩:=og w ss hp hn h0 BU;exact⟨q,w0,k1,k3,VD (h.only k3) (vF k2)⟩
theorem LF(h:Sr F ts w b l s){G}{q}{x}(hs:aD lz 1 w G q [x])(hG:∀k,G k->k≠b):aB au 88 #[rp b,q.v] w λe w'=>e=aq (ak #[])/\Dn F ts w w' b l (eP ts s x):=by
 refine ret (aeZ _ _ _ _ ?_);have hn:q.n=1:=hs.len;refine⟨λnv i w'=>(i=0/\nv=1/\w'=w)∨(i=1/\nv=0/\Dn F ts w w' b l (eP ts s x)),1,.inl ⟨rfl,rfl,rfl⟩,?_⟩;rintro nv i w0 (⟨rfl,rfl,rfl⟩ | ⟨rfl,rfl,hD⟩)
 ·refine⟨λ_=>?_,λhc=>absurd (aY hc) aG⟩;refine⟨λw'=>Dn F ts w0 w' b l _,λw1 h1=>⟨0,aN,.inr ⟨rfl,rfl,h1⟩⟩,?_⟩;obtain⟨ad,y,cs,g1,g2,g3,g4,g5,g6⟩:=hs.get (i:=0) aN aG;simp at g2;subst g2;subst g6;obtain⟨q0,w2,k1,k2,k3⟩:=CF h [x] (n:=1) (parts:=#[_]) rfl rfl aN aN;refine⟨ad,g1,_,g5,q0,w2,k1,k3.mono ?_⟩;rintro _ w3 ⟨rfl,h3⟩;have h03:=(h.dn.q k2).nx h3;refine⟨_,rfl,λhc=>?_,λhc=>?_⟩
  ·have hc:dk ts s [x]=0:=by have:=aaw;omega
   rw[aZ hc]at h03;refine(sV h03.r).mono ?_;rintro _ w4 ⟨rfl,h4⟩;refine⟨rfl,?_⟩;unfold eP;rw[aZ hc];exact h03.nx h4
  have hc:dk ts s [x]≠0:=λe=>by rw[e]at hc;simp at hc
  rw[aX hc]at h03;unfold eP;rw[aX hc];exact h03
 exact⟨λhc=>absurd (aP hc) aG,λ_=>⟨rfl,hD⟩⟩
theorem qt(h:Sr F ts w b l s) x:∃(q:Sl) (w0:ay),(aw 132 1 #[.mk 0 (ah (T x))]).run au w=.ok q.v w0/\aA [] w w0/\aB au 88 #[rp b,q.v] w0 λe w'=>e=aq (ak #[])/\Dn F ts w0 w' b l (eP ts s x):=by
 obtain⟨q,w0,k1,k2,k3⟩:=og w [x] (n:=1) (parts:=#[_]) rfl rfl aN aN;exact⟨q,w0,k1,k3,LF (h.only k3) (vF k2) λk hk e=>(by have:=hk.1;have:=h.lb;omega)⟩
theorem vO(h:Sr F ts w b l s){k}(Da:k≠5):aB au 130 #[rp b,O ae k] w λe w'=>e=aq (ik ts s k).1.v/\Dn F ts w w' b l (ik ts s k).2:=by
 refine ret (ae7 _ _ _ _ ?_);intro k0 w0 hk iy cQ;have h0:=h.only cQ;obtain⟨ad,g1,g2⟩:=h0.now;refine⟨λ_=>True,trivial,l,Blk.eE h0.blk 0 rfl,trivial,_,Blk.eE h0.blk 1 rfl,ad,g1,trivial,_,_,_,_,g2,λk1 w1 j9 jW cJ=>?_⟩;have z1:=(h.z.al cQ hk iy).al cJ j9 jW;refine(my (h0.only cJ)).mono ?_;rintro _ w2 ⟨rfl,dw⟩;have z2:=z1.q dw;have hl:=h.lb;have d2:=h.dn.q ((cQ.cy cJ).cy dw);have PB:((!(s.fc==0))||((tk ts s.i).k !=k))=decide (s.fc≠0∨(tk ts s.i).k≠k):=by
  rw[bT];simp
 refine⟨_,rfl,z1.sq dw aaa,?_⟩;dsimp only;rw[PB];refine⟨λhc=>(sV d2.r).mono ?_,λhc=>?_⟩
 ·rintro _ w3 ⟨rfl,h3⟩;refine⟨rfl,z2.sc h3.o aaa,λw4 dL=>?_⟩;unfold ik;rw[aZ (aP hc)];exact⟨rfl,(d2.nx h3).f dL hk hl⟩
 refine⟨_,Blk.eE d2.r.blk 1 rfl,b,1,_,_,rfl,d2.r.blk,aaa,z2.ne aaa aaa,z2.ne aaa aaa,λw5 eK xL w6 eI=>?_⟩;have hc:=aY hc;unfold ik;rw[aX hc];simp at hc;rw[h.wr]at xL;have d5:Dn F ts w w5 b l (dJ s):=⟨d2.o.trans eK λx hx=>.inl hx,d2.r.nR eK xL (h.en.next h.lt (by rw[hc.2];exact Da))⟩
 exact⟨rfl,d5.f eI hk hl⟩
theorem vP(h:Sr F ts w b l s):aB au 172 #[rp b] w λe w'=>e=aq (ah (T (ju ts s).1))/\Dn F ts w w' b l (ju ts s).2:=by
 refine ret (afc _ _ _ ?_);refine(vO h (k:=1) aN).mono ?_;rintro _ w0 ⟨rfl,h0⟩;exact⟨_,_,_,_,rfl,rfl,h0⟩
theorem _root_.Go.Kt.Blk.Pc{w}{b}{t}{cs}{v}(h:aH w b t cs) j (hx:cs[j]? =some v):aE w ⟨b,j,none⟩ [v]:=by
 have:=Blk.eE h j hx;rwa[fI,bM]at this
theorem Ep(h:Sr F ts w b l s) j x c u (hx:(XX l s)[j]? =some (.int ae x)) (Bz:(XX l (ij ts s c))[j]? =some (.int ae x)) (hui:u.i=s.i)
  (hu:XX l u=cx (XX l (if x=0 then ij ts s c else s)) j [O ae (zd x)]):aB au 128 #[rp b,ai (some ⟨b,j,none⟩),O ae c] w λe w'=>e=aq (ak #[])/\Dn F ts w w' b l u:=by
 refine ret (ae6 _ _ _ _ _ ?_);refine⟨λw'=>Dn F ts w w' b l (if x=0 then ij ts s c else s),λw0 h0=>?_,_,rfl,x,Blk.Pc h.blk j hx,λhc=>?_,λhc=>?_⟩
 ·refine⟨_,rfl,x,Blk.Pc h0.r.blk j (by split<;>assumption),_,rfl,b,j,_,_,rfl,h0.r.blk,(be.1 hx).1,λw1 cJ uw=>⟨rfl,h0.o.trans cJ λx hx=>.inl hx,h0.r.nR cJ (s':=u) ?_ (by rw[hui];exact h.lt)⟩⟩;rw[hu];exact uw
 ·refine(zg h c).mono ?_;rintro _ w2 ⟨rfl,h2⟩;have hc:=aaw
  rw[aZ hc];exact⟨rfl,h2⟩
 rw[aX aaw];exact h.dn
theorem aag(h:Sr F ts w b l s):aB au 128 #[rp b,ai (some ⟨b,8,none⟩),O ae 2] w λe w'=>e=aq (ak #[])/\Dn F ts w w' b l (uL ts s):=
 Ep h 8 s.a 2 _ rfl ac7 (Eb s) (by unfold uL ij;split<;>(try split)<;>rfl)
theorem aah(h:Sr F ts w b l s):aB au 128 #[rp b,ai (some ⟨b,7,none⟩),O ae 2] w λe w'=>e=aq (ak #[])/\Dn F ts w w' b l (sO ts s):=
 Ep h 7 s.m 2 _ rfl ac7 (Ec s) (by unfold sO ij;split<;>(try split)<;>rfl)
theorem aai(h:Sr F ts w b l s):aB au 128 #[rp b,ai (some ⟨b,5,none⟩),O ae 2] w λe w'=>e=aq (ak #[])/\Dn F ts w w' b l (GC ts s):=
 Ep h 5 s.n 2 _ rfl ac7 (by unfold GC;split;exact D7 2;rfl) (by unfold GC ij;split<;>(try split)<;>rfl)
theorem aaj(h:Sr F ts w b l s):aB au 128 #[rp b,ai (some ⟨b,4,none⟩),O ae 2] w λe w'=>e=aq (ak #[])/\Dn F ts w w' b l (GD ts s):=
 Ep h 4 s.v 2 _ rfl ac7 (by unfold GD;split;exact D7 2;rfl) (by unfold GD ij;split<;>(try split)<;>rfl)
theorem LH(h:Sr F ts w b l s):aB au 195 #[rp b] w λe w'=>∃cs,e=aq (aj cs.toArray)/\rE true w' (Fr w.heap.size) (qj ts s).1 cs/\Dn F ts w w' b l (qj ts s).2:=by
 refine(afd ⟨b,0,none⟩ (λv w'=>∃cs,v=(aj cs.toArray)/\rE true w' (Fr w.heap.size) (qj ts s).1 cs/\Dn F ts w w' b l (qj ts s).2) w ?_).mono (by
  rintro e w' ⟨v,rfl,cs,rfl,h⟩;exact⟨cs,rfl,h⟩)
 intro k0 w0 hk iy cQ;have hl:=h.lb;have z0:=h.z.al cQ hk iy;refine(my (h.only cQ)).mono ?_;rintro _ w1 ⟨rfl,cJ⟩;have z1:=z0.q cJ;have d1:=h.dn.q (cQ.cy cJ);refine⟨_,rfl,z0.sq cJ aaa,λhc w2 dw=>?_,λhc w3 dE=>?_⟩
 ·have hc:s.fc≠0:=aaw
  unfold qj;rw[aZ hc];exact⟨_,rfl,rE0 _ _ _,d1.f dw hk hl⟩
 have hc:¬s.fc≠0:=aaw
 have z3:=z1.q dE;have d3:=d1.q dE;refine⟨λk=>k=b,λw4 dL=>⟨rfl,l,Blk.eE (d3.q dL).r.blk 0 rfl,λw5 eK=>⟨rfl,_,Blk.eE ((d3.q dL).q eK).r.blk 1 rfl,λw6 eI=>?_⟩⟩⟩;have z6:=((z3.q dL).q eK).q eI;have d6:=((d3.q dL).q eK).q eI;have hb6:=d6.r.big;have cd:=h.lt;refine(K0 d6.r.tok s.i ⟨aG,aG⟩).mono ?_;rintro _ w7 ⟨cs,rfl,hX,hj,fL⟩;have d7:=d6.q fL;obtain⟨sl,oI,_⟩:=hX.cells;have hsz:w3.heap.size<=w6.heap.size:=((dL.cy eK).cy eI).size;refine⟨_,_,_,_,sl,_,_,_,_,by rw[oI],z6.sq fL aaa,ny.MF fL,bP.only fL,λw8 fV k1 j9 jW Un=>?_⟩;obtain⟨d,hX⟩:=hX.xg;have hx7:rE true w7 (λk=>w6.heap.size<=k/\k<w7.heap.size) (dF ts s.i).1 cs:=⟨d,hX⟩
 have avt:=bf z3.o.size j9;have avu:=aG
 have d8:=d7.q fV;have zz6:=z6.o.size;have zz0:=z0.k k0 aaa;have zw0:=((cJ.cy dE).cy ((dL.cy eK).cy eI)).size;have hx8:∀{bs:List Nat} {w9:ay},aA bs w8 w9->(∀x,x∈bs->x=k1∨x=k0∨x=b)->rE true w9 (Fr w.heap.size) (dF ts s.i).1 cs:=λgy hb9=>
  (jb true).mono ((jb true).keep hx7 λk M5 cd=>(gy.block k (cq cd fV.size) λhm=>by
   rcases hb9 k hm with rfl | rfl | rfl
   ·have:=Un.one;omega
   ·omega
   omega).trans (fV.block k cd aaa)) λk M5=>by have:=M5.1;show w.heap.size<=k;omega
 unfold qj;rw[aX hc];refine⟨λh1 w9 gy=>?_,λh1 fp fu=>?_⟩
 ·have h1:(dF ts s.i).2.2.1≠0:=abv
  have d9:Dn F ts w w9 b l s:=⟨d8.o.trans gy λx hx=>.inr aaJ,d8.r.own gy λx hx=>aaJ⟩
  refine⟨b,2,_,_,rfl,d9.r.blk,aaa,aG,aG,λdR eO uf dS ey=>?_⟩;rw[aZ h1];have d10:Dn F ts w dR b l {s with fc:=(dF ts s.i).2.2.1,fa:=(dF ts s.i).2.2.2}:=⟨d9.o.trans eO λx hx=>.inl hx,d9.r.nR eO uf h.lt⟩
  refine⟨cs,by rw[oI],?_,d10.f ey hk hl⟩;exact hx8 (bs:=[k1,k0,b]) (((gy.weaken (bs':=[k1,k0,b]) λx hx=>.inl abD).trans eO λx hx=>.inl abr).trans ey λx hx=>.inl aaQ) aaa
 have h1:¬(dF ts s.i).2.2.1≠0:=abv
 have d12:Dn F ts w fp b l s:=⟨d8.o.trans fu λx hx=>.inr aaJ,d8.r.own fu λx hx=>aaJ⟩
 obtain⟨hj0,Pj⟩:=hj abv;have ej:((dF ts s.i).2.1.toNat)=(dF ts s.i).2.1:=jM hj0;refine⟨b,1,_,_,rfl,d12.r.blk,aaa,aG,aG,λfD eL Bw fP eH=>?_⟩;rw[aX h1];have d13:Dn F ts w fD b l {s with i:=(dF ts s.i).2.1.toNat}:=⟨d12.o.trans eL λx hx=>.inl hx,d12.r.nR eL (by dsimp only[XX];rw[ej];exact Bw) abh⟩
 refine⟨cs,by rw[oI],?_,d13.f eH hk hl⟩;exact hx8 (bs:=[k1,k0,b]) (((fu.weaken (bs':=[k1,k0,b]) λx hx=>.inl (by simp at hx⊢;omega)).trans eL λx hx=>.inl (by simp[aO]at hx;simp[hx])).trans eH λx hx=>.inl (by simp[aO]at hx;simp[hx])) aaa
end
theorem afQ{n:Nat}(h:((n:Int)==0)=true):n=0:=abi
theorem afR{n:Nat}(h:((n:Int)==0)=false):n≠0:=λe=>by rw[e]at h;simp at h
theorem NS{n:Nat}(h:decide ((n:Int)>0)=false):n=0:=by have:=aY h;omega
theorem NT{n:Nat}(h:decide ((n:Int)>0)=true):n≠0:=by have:=aP h;omega
section
variable {F:aL} {ts:List Tk} {w w':ay} {b:Nat} {l:Sl} {s s':Sx}
theorem aak(h:Sr F ts w b l s):aB au 198 #[rp b] w λe w'=>∃cs,e=aq (aj cs.toArray)/\uq true w' (Fr w.heap.size) (rL ts s).1 cs/\Dn F ts w w' b l (rL ts s).2:=by
 refine(afi ⟨b,0,none⟩ (λv w'=>∃cs,v=(aj cs.toArray)/\uq true w' (Fr w.heap.size) (rL ts s).1 cs/\Dn F ts w w' b l (rL ts s).2) w ?_).mono (by
  rintro e w' ⟨v,rfl,cs,rfl,h⟩;exact⟨cs,rfl,h⟩)
 intro k0 w0 hk iy cQ;have t0:=h.zt.al cQ hk iy;obtain⟨ad,g1,_⟩:=h.now;refine⟨λ_=>True,λw1 cJ=>⟨trivial,l,Blk.eE (t0.q cJ).r.blk 0 rfl,λw2 dw=>⟨trivial,_,Blk.eE ((t0.q cJ).q dw).r.blk 1 rfl,ad,g1,λw3 dE=>?_⟩⟩⟩;have t3:=((t0.q cJ).q dw).q dE;refine⟨trivial,_,(t3.r.tk g1).eE 3 _ rfl,λw4 dL=>?_⟩;have t4:=t3.q dL;obtain⟨q,w5,e1,nc,eK⟩:=og w4 [ua,lf,nD] (n:=3) (parts:=#[(0,ah (T ua)),(1,ah (T lf)),(2,ah (T nD))]) rfl rfl aN aN;refine⟨q,w5,e1,t4.sq eK aaa,ny.MF eK,bP.only eK,λw6 eI=>?_⟩;have t6:=(t4.q eK).q eI;refine(AV t6.r (SliceF.only dH aN (vF nc) eI aaa)).mono ?_;rintro _ w7 ⟨rfl,fL⟩;have t7:=t6.q fL;refine⟨_,rfl,t6.sq fL aaa,ny.MF fL,bP.only fL,λw8 fV k1 j9 jW Un=>?_⟩;have t8:=(t7.q fV).ad (bf t0.z.o.size j9) jW;refine⟨λhc w9 gy=>?_,λhc fp fu=>?_⟩
 ·have t9:=t8.f gy aaa;refine(sV t9.r).mono ?_;rintro _ dR ⟨rfl,TH⟩;refine⟨rfl,t9.sc TH aaa,λdS ey=>?_⟩;have hc:=afQ hc;unfold rL;rw[aZ hc,hc];exact⟨_,rfl,⟨sM 0 0 [] 0 Sl.nil 0,rfl,rE0 _ _ _⟩,((t9.nx TH).f ey aaa).dn⟩
 have hc:=afR hc;have t12:=t8.f fu aaa;refine(aag t12.r).mono ?_;rintro _ fD ⟨rfl,wB⟩;have t13:=t12.nx wB;refine⟨rfl,t12.sc wB aaa,(my t13.r).mono ?_⟩;rintro _ fP ⟨rfl,eH⟩;have t14:=t13.q eH;unfold rL;rw[aX hc];refine⟨_,rfl,t13.sq eH aaa,λhf iP iX=>?_,λhf=>?_⟩
 ·have hf:(uL ts s).fc≠0:=acT
  rw[aZ hf];exact⟨_,rfl,⟨sM 0 0 [] 0 Sl.nil 0,rfl,rE0 _ _ _⟩,(t14.f iX aaa).dn⟩
 have hf:¬(uL ts s).fc≠0:=acT
 rw[aX hf];refine⟨_,Blk.eE t14.r.blk 1 rfl,b,1,_,_,rfl,t14.r.blk,aaa,t14.ne aaa,t14.ne aaa,λjl je TI=>?_⟩;rw[t14.r.wr]at TI;have t16:Zt F ts w jl b l (dJ (uL ts s)) [k1,k0]:=t14.up je TI (h.en.next t14.r.lt (by rw[Eb];exact(dB hc).2));refine(vP t16.r).mono ?_;rintro _ gN ⟨rfl,Py⟩;have t17:=t16.nx Py;refine⟨_,rfl,t16.sc Py aaa,λjL kT=>?_⟩;have t18:=t17.f kT aaa;generalize (ju ts (dJ (uL ts s))).2=u at*
 generalize (ju ts (dJ (uL ts s))).1=nm at*
 generalize dk ts s [ua,lf,nD]=kk at*
 generalize (tk ts s.i).a=aa at*
 refine⟨λi4 s1 i5 i6 s2 i7 l2 i8 i9 w'=>∃(x:Ex) (u':Sx),i4=(kk:Int)/\s1=T nm/\i9=aa/\rE true w' (Fr jL.heap.size) x [O ae i5,O ae i6,ah s2,O ae i7,l2.v,O ae i8]/\Zt F ts w w' b l u' [k1,k0]/\NK ts u kk nm aa=(⟨kk,nm,x,aa⟩,eP ts u' [59])/\jL.heap.size<=w'.heap.size,?_,λuY=>?_,λuY=>?_⟩
 ·rintro i4 s1 i5 i6 s2 i7 l2 i8 i9 jU ⟨x,u',rfl,rfl,rfl,hx,t19,hT,hsz⟩;obtain⟨q,jm,e1,kU,hm⟩:=qt t19.r [59];refine⟨q,jm,e1,t19.sq kU aaa,hm.mono ?_⟩;rintro _ lm ⟨rfl,h21⟩;have t20:=t19.q kU;refine⟨rfl,t20.sc h21 aaa,λoA xO=>?_⟩;rw[hT];have zk:=t18.z.k k0 aaa;have zs:=t18.z.o.size;have zb:=t18.r.lb;refine⟨_,rfl,⟨[O ae i5,O ae i6,ah s2,O ae i7,l2.v,O ae i8],rfl,?_⟩,((t20.nx h21).f xO aaa).dn⟩;exact(jb true).low ((jb true).stay hx ((((Stay.refl _ _).q kU).d h21 zb).f xO (.inl zk.2))) zs
 ·have uY:¬kk=2:=λe=>by rw[e]at uY;simp at uY
  obtain⟨q,oB,e1,kl,hm⟩:=qt t18.r [61];refine⟨q,oB,e1,t18.sq kl aaa,hm.mono ?_⟩;rintro _ nT ⟨rfl,h24⟩;have t23:=t18.q kl;have t24:=t23.nx h24;refine⟨rfl,t23.sc h24 aaa,(LH t24.r).mono ?_⟩;rintro _ mh ⟨cs,rfl,hx,WR⟩;obtain⟨sl,rfl⟩:=jc hx;have t25:=t24.nx WR;refine⟨_,_,_,_,sl,_,rfl,t24.sc WR aaa,λpq iz=>?_⟩;have z24:jL.heap.size<=nT.heap.size:=bf kl.size h24.o.size;have zk:=t18.z.k k1 aaa;refine⟨_,_,rfl,rfl,rfl,(jb true).low ((jb true).stay hx ((Stay.refl _ _).f iz (.inl aG))) z24,t25.f iz aaa,?_,bf z24 (bf WR.o.size iz.size)⟩;unfold NK;rw[aX uY]
 have uY:(kk:Int)=2:=by simpa using uY
 have uY:kk=2:=aG
 refine⟨Gx,u,rfl,rfl,rfl,rE0 _ _ _,t18,?_,ba _⟩;unfold NK;rw[aZ uY]
abbrev AcO(B:Nat)(w:ay)(la:Sl)(acc:List Ac):Prop:=Own (uq true) 9 211 B w (Fr B) la acc
structure Br (F:aL) (ts:List Tk) (w w':ay) (b:Nat) (l:Sl) (k0 k1 B:Nat) (s:Sx) (acc:List Ac) (la:Sl):Prop where
 r:Sr F ts w' b l s
 b0:aH w' k0 147 [rp b]
 b1:aH w' k1 23 [la.v]
 own:AcO B w' la acc
 o:∃gs,aA (b::k1::gs) w w'/\∀x,x∈gs->B<=x
 n0:b<k0
 n1:b<k1
 n01:k0≠k1
 l0:k0<B
 l1:k1<B
 lB:B<=w'.heap.size
section
variable {k0 k1 B:Nat} {acc:List Ac} {la:Sl} {w2:ay}
theorem Br.nx(h:Br F ts w w' b l k0 k1 B s acc la)(k:Dn F ts w' w2 b l s'):Br F ts w w2 b l k0 k1 B s' acc la:=by
 have n0:=h.n0;have n1:=h.n1;have l0:=h.l0;obtain⟨gs,h1,h2⟩:=h.o;exact⟨k.r,k.o.blk h.b0 abd,k.o.blk h.b1 abd,h.own.stay (dV true) k.o λx hx=>.inl aaD,
  ⟨gs,h1.trans k.o λx hx=>.inl aaQ,h2⟩,n0,n1,h.n01,l0,h.l1,bf h.lB k.o.size⟩
theorem Br.q(h:Br F ts w w' b l k0 k1 B s acc la)(k:aA [] w' w2):Br F ts w w2 b l k0 k1 B s acc la:=h.nx (h.r.dn.q k)
theorem aal(h:Br F ts w w' b l k0 k1 B s acc la)(hm:acc.length<ts.length):aB au 197 #[ai (some ⟨k1,0,none⟩),ai (some ⟨k0,0,none⟩)] w' λe w2=>e=aq (ak #[])/\∃Dd,Br F ts w w2 b l k0 k1 B (rL ts s).2 (acc++[(rL ts s).1]) Dd:=by
 refine ret (afh _ _ _ _ ?_);intro w0 cQ;have h0:=h.q cQ;have n1:=h.n1;have l1:=h.l1;refine⟨λk=>k=k1,rfl,la,h0.b1.Pc 0 rfl,_,h0.b0.Pc 0 rfl,(aak h0.r).mono ?_⟩;rintro _ w1 ⟨cs,rfl,hx,h1⟩;have qC:=h0.nx h1;generalize M6:(rL ts s).1=ac at*
 generalize (rL ts s).2=s1 at*
 have Bz:=hx;obtain⟨xc,rfl,Ow⟩:=Bz;obtain⟨sl,rfl⟩:=jc Ow;have BU:=h.r.sm;have Yv:=h0.own.len;obtain⟨y,w2,e2,dw,Dd,w3,e3,nc,⟨gs,dE,rR⟩,_⟩:=jr (P:=au) (t:=23) (ty:=23) (e:=211) (i:=Tryz.t211) (bytes:=104) (size:=9) (v:=aj (acv ac.k ac.n (sM ac.x.k ac.x.n ac.x.s ac.x.op sl ac.x.a) ac.a).toArray) (x:=ac) (G:=Fr w0.heap.size) (by kernel_rfl) (by kernel_rfl) rfl rfl rfl rfl aN aN aN (dV true) qC.own qC.lB rfl hx (λk hk _=>⟨bf h0.lB hk,h0.own.new hk⟩) aG;have TJ:aA gs w1 w3:=(dw.weaken (bs':=gs) λ_ h=>aaH).trans dE λx hx=>.inl hx;have qI:∀g,g∈gs->B<=g:=λg hg=>(rR g hg).2.1;refine⟨_,_,_,_,_,_,sl,_,_,rfl,λk hk cd=>(by subst hk;exact h1.o.block k cd abd),y,w2,e2,bP.only dw,Dd,w3,e3,λk hk cd=>(by subst hk;exact dE.block k cd λhm=>(by have:=qI k hm;omega)),k1,0,_,_,rfl,TJ.blk qC.b1 (λhm=>by have:=qI k1 hm;omega),aaa,λw4 dL uA=>⟨rfl,Dd,?_⟩⟩;have n0:=h.n0;have n01:=h.n01;have l0:=h.l0;have z3:=TJ.size;have z4:=dL.size;have hlB:=qC.lB;have hOb:∀{x:Nat},x<B->x≠k1->w4.heap[x]? =w1.heap[x]? :=λhx hn=>(dL.block _ aG acq).trans (TJ.block _ aG λhm=>(by have:=qI _ hm;omega));obtain⟨gs0,o1,o2⟩:=qC.o;have hr3:Sr F ts w3 b l s1:=qC.r.own TJ λx hx=>(by have:=qI x hx;omega)
 refine⟨hr3.one dL n1,(hOb l0 n01).trans qC.b0,uA,?_,⟨gs++gs0,(((o1.weaken (bs':=b::k1::(gs++gs0)) λx hx=>.inl (by simp only[aR,ci]at hx⊢;rcases hx with hx | hx | hx<;>simp[hx])).trans TJ λx hx=>.inl ady)).trans dL λx hx=>.inl aaQ,λx hx=>?_⟩,n0,n1,n01,l0,l1,aG⟩
 ·refine((nc.mono (dV true) λk hk=>?_).stay (dV true) dL λx hx=>.inl aaD);rcases hk with hk | hk
  ·exact hk
  exact bf hlB hk
 rcases ci.1 hx with hx | hx
 ·exact qI x hx
 exact o2 x hx
theorem RA(f:Nat)(h:Br F ts w w' b l k0 k1 B s acc la)(hf:mu ts s<f)(hm:acc.length+mu ts s<=ts.length):
  aB au 196 #[rp b,ah (ar #[125]),.func (.func 197) #[] #[ai (some ⟨k1,0,none⟩),ai (some ⟨k0,0,none⟩)]] w' λe w2=>e=aq (ak #[])/\∃Dd,Br F ts w w2 b l k0 k1 B (sP ts f acc s).2 (sP ts f acc s).1 Dd:=by
 refine ret (afj ⟨b,0,none⟩ _ ⟨.func (.func 197) #[] #[ai (some ⟨k1,0,none⟩),ai (some ⟨k0,0,none⟩)],rfl⟩ (λv w2=>v=(ak #[])/\∃Dd,Br F ts w w2 b l k0 k1 B (sP ts f acc s).2 (sP ts f acc s).1 Dd) w' ?_);generalize ach:sP ts f acc s=res;refine⟨λnv w2=>∃s' TK Dd,Br F ts w w2 b l k0 k1 B s' TK Dd/\sP ts nv TK s'=res/\mu ts s'<nv/\TK.length+mu ts s'<=ts.length,f,⟨s,acc,la,h,ach,hf,hm⟩,?_⟩;rintro nv w0 ⟨s',TK,Dd,h0,hR,hf0,MS⟩;obtain⟨m,rfl⟩:∃m,nv=m+1:=⟨nv-1,aG⟩
 rw[sP]at hR;refine⟨λbo w2=>(bo=true/\s'.fc=0/\dk ts s' [[125]]=0/\Br F ts w w2 b l k0 k1 B s' TK Dd)∨(bo=false/\Br F ts w w2 b l k0 k1 B res.2 res.1 Dd),?_,(my h0.r).mono ?_⟩
 ·rintro bo w1 (⟨rfl,hfc,hw,h1⟩ | ⟨rfl,h1⟩)
  ·refine⟨λ_=>⟨197,[],[_,_],rfl,fC (by kernel_rfl),?_⟩,λhh=>(by cases hh)⟩;rw[aX (by simp[hfc]),aX (by simp[hw])]at hR;have hmu:=Z6 h0.r.en hfc h0.r.lt;have hmm:mu ts s'<=ts.length:=adt
   refine(aal h1 aG).mono ?_;rintro _ w3 ⟨rfl,la2,h3⟩;exact⟨rfl,m,aG,_,_,la2,h3,hR,aG,abo⟩
  exact⟨λhh=>(by cases hh),λ_=>⟨rfl,Dd,h1⟩⟩
 rintro _ w4 ⟨rfl,dL⟩;have h4:=h0.q dL;refine⟨_,rfl,λhc=>?_,λhc=>?_⟩
 ·have hc:s'.fc=0:=aaw
  rw[aX (by simp[hc])]at hR;obtain⟨q,w5,e1,eK,hk⟩:=CF h4.r [[125]] (n:=1) (parts:=#[(0,ah (T [125]))]) rfl rfl aN aN;refine⟨q,w5,e1,hk.mono ?_⟩;rintro _ w6 ⟨rfl,h6⟩;have h6:=(h4.q eK).nx h6;refine⟨_,rfl,?_⟩;by_cases hw:dk ts s' [[125]]=0
  ·rw[aZ hw]at h6;exact .inl ⟨by rw[hw];rfl,hc,hw,h6⟩
  rw[aX hw]at h6;rw[aZ hw]at hR;subst hR;exact .inr ⟨by simpa using hw,h6⟩
 have hc:s'.fc≠0:=aaw
 rw[aZ hc]at hR;subst hR;exact .inr ⟨rfl,h4⟩
end
theorem AW(h:Sr F ts w b l s):aB au 173 #[rp b] w λe w'=>∃la:Sl,e=aq la.v/\jR true (uq true) 9 211 w' (Fr w.heap.size) la (ji ts s).1/\Dn F ts w w' b l (ji ts s).2:=by
 refine(afg ⟨b,0,none⟩ (λv w'=>∃la:Sl,v=la.v/\jR true (uq true) 9 211 w' (Fr w.heap.size) la (ji ts s).1/\Dn F ts w w' b l (ji ts s).2) w ?_).mono (by
  rintro e w' ⟨v,rfl,cs,rfl,h⟩;exact⟨cs,rfl,h⟩)
 intro k0 k1 w0 hY fA j9 jW cQ;have t0:=((h.zt.q cQ).ad hY fA).ad j9 jW;obtain⟨q,w1,e1,cJ,hm⟩:=qt t0.r [123];refine⟨q,w1,e1,t0.sq cJ aaa,hm.mono ?_⟩;rintro _ w2 ⟨rfl,h2⟩;have t1:=t0.q cJ;have t2:=t1.nx h2;refine⟨rfl,t1.sc h2 aaa,λrQ uw=>?_⟩;have hb:=h.lb;have hB:Br F ts w2 w2 b l k0 k1 w2.heap.size (eP ts s [123]) [] Sl.nil:=
  ⟨t2.r,rQ,uw,Own.nil _ _ _ _ _ _,⟨[],Only.refl _ _,λ_ h=>aaH⟩,aG,aG,λe=>(by subst e;have:=rQ.symm.trans uw;simp at this),rQ.lt,uw.lt,ba _⟩
 refine(RA (ts.length+1) hB adt (by rw[di,bM];unfold mu;split<;>omega)).mono ?_;rintro _ w3 ⟨rfl,la,h3⟩;have z2:=t2.z.o.size;obtain⟨gs,o1,o2⟩:=h3.o;refine⟨rfl,_,h3.b0,_,h3.b1,la,rfl,?_,?_,h3.r⟩
 ·exact(h3.own.sl (dV true) λk hk=>hk).low (dV true) z2
 exact t2.z.o.trans o1 λx hx=>by
  simp only[aR]at hx;rcases hx with rfl | rfl | hx
  ·exact .inl aaa
  ·exact .inr j9
  exact .inr (bf z2 (o2 x hx))
end
section
variable {F:aL} {ts:List Tk} {w w':ay} {b:Nat} {l:Sl} {s s':Sx}
structure MvX (A:Nat) (w:ay) (m:Mv) (k:Int) (ev:aM) (wt:Int) (gd:Bool) (gc:aK) (uh:Sl) (a:Int):Prop where
 e1:k=m.k
 e2:ev=T m.ev
 e3:wt=m.wt
 e4:gd=m.gd
 e5:a=m.a
 g:rE true w (Fr A) m.g gc
 x:jR true (uq true) 9 211 w (Fr A) uh m.acts
theorem MvX.stay{A:Nat}{m:Mv}{k:Int}{ev:aM}{wt:Int}{gd:Bool}{gc:aK}{uh:Sl}{a:Int}(h:MvX A w m k ev wt gd gc uh a)(hs:Stay A w w'):MvX A w' m k ev wt gd gc uh a:=
 ⟨h.e1,h.e2,h.e3,h.e4,h.e5,(jb true).stay h.g hs,h.x.stay (dV true) aN hs⟩
theorem rD(ts:List Tk)(s:Sx):mu ts s<=ts.length:=adt
theorem AX(h:Sr F ts w b l s){ss:List (aJ)}(hw:dk ts s ss≠0):s.i+1<ts.length:=h.en.next h.lt (dB hw).2
theorem VE(h:Sr F ts w b l s)(k:Int)(hk:(tk ts s.i).k≠5):aB au 171 #[rp b,O ae k] w λe w'=>∃cs,e=aq (aj cs.toArray)/\Ll true w' (Fr w.heap.size) (oh ts k s).1 cs/\Dn F ts w w' b l (oh ts k s).2:=by
 refine(afb ⟨b,0,none⟩ k (λv w'=>∃cs,v=(aj cs.toArray)/\Ll true w' (Fr w.heap.size) (oh ts k s).1 cs/\Dn F ts w w' b l (oh ts k s).2) w ?_).mono (by
  rintro e w' ⟨v,rfl,cs,rfl,h⟩;exact⟨cs,rfl,h⟩)
 intro k0 w0 hY fA cQ;have t0:=h.zt.al cQ hY fA;obtain⟨ad,g1,g2⟩:=t0.r.now;refine⟨λ_=>True,trivial,l,Blk.eE t0.r.blk 0 rfl,trivial,_,Blk.eE t0.r.blk 1 rfl,ad,g1,trivial,_,g2.eE 3 _ rfl,λk1 w1 j9 jW cJ=>?_⟩;have t1:=t0.al cJ j9 jW;refine(aah t1.r).mono ?_;rintro _ w2 ⟨rfl,h2⟩;have t2:=t1.nx h2;refine⟨rfl,t1.sc h2 aaa,(my t2.r).mono ?_⟩;rintro _ w3 ⟨rfl,dE⟩;have t3:=t2.q dE;unfold oh;refine⟨_,rfl,t2.sq dE aaa,λhf w4 dL=>?_,λhf=>?_⟩
 ·have hf:(sO ts s).fc≠0:=acT
  rw[aZ hf];exact⟨_,rfl,⟨sM 0 0 [] 0 Sl.nil 0,Sl.nil,Sl.nil,rfl,rE0 _ _ _,jR.nil _ _ _ _ _ _,jR.nil _ _ _ _ _ _⟩,(t3.f dL aaa).dn⟩
 have hf:¬(sO ts s).fc≠0:=acT
 rw[aX hf];refine⟨_,Blk.eE t3.r.blk 1 rfl,b,1,_,_,rfl,t3.r.blk,aaa,t3.ne aaa,t3.ne aaa,λw5 eK xL=>?_⟩;rw[t3.r.wr]at xL;have t5:Zt F ts w w5 b l (dJ (sO ts s)) [k1,k0]:=t3.up eK xL (h.en.next t3.r.lt (by rw[Ec];exact hk));have hA:=t5.z.o.size;have hA0:=(t5.z.k k0 aaa).2;have hA1:=(t5.z.k k1 aaa).2;have hAb:=t5.r.lb;generalize hAA:w5.heap.size=A at*
 generalize (tk ts s.i).a=aa at*
 generalize dJ (sO ts s)=u0 at*
 generalize hR:(if k=1 then qk ts {XR k aa with ev:=(ju ts u0).1} (ju ts u0).2 else if k=3 then qk ts {XR k aa with wt:=(ik ts u0 3).1.n} (ik ts u0 3).2 else qk ts (XR k aa) u0)=R;have x0:∀{w':ay} {ev:aJ} {wt:Int},MvX A w' {XR k aa with ev:=ev,wt:=wt} k (T ev) wt false (sM 0 0 [] 0 Sl.nil 0) Sl.nil aa:=⟨rfl,rfl,rfl,rfl,rfl,rE0 _ _ _,jR.nil _ _ _ _ _ _⟩
 refine⟨λi3 s0 i4 b1 i5 i6 s1 i7 l1 i8 l2 l3 i9 w'=>∃(m:Mv) (u:Sx),MvX A w' m i3 s0 i4 b1 [O ae i5,O ae i6,ah s1,O ae i7,l1.v,O ae i8] l2 i9/\m.gd=false/\m.tg=[]/\l3=Sl.nil/\Zt F ts w w' b l u [k1,k0]/\qk ts m u=R/\A<=w'.heap.size,?_,λhc=>?_,λhc=>⟨λnZ=>?_,λnZ=>?_⟩⟩;rotate_left
 ·have hc:k=1:=aaw
  refine(vP t5.r).mono ?_;rintro _ w32 ⟨rfl,h32⟩;have t32:=t5.nx h32;refine⟨_,rfl,t5.sc h32 aaa,λw33 ahD=>?_⟩;rw[aZ hc]at hR;exact⟨_,_,x0,rfl,rfl,rfl,t32.f ahD aaa,hR,by rw[<-hAA];exact bf h32.o.size ahD.size⟩
 ·have hc:¬k=1:=aaw
  have nZ:k=3:=adL
  refine(vO t5.r (k:=3) aN).mono ?_;rintro _ w34 ⟨rfl,h34⟩;have t34:=t5.nx h34;refine⟨_,_,_,_,rfl,t5.sc h34 aaa,λw35 ahE=>?_⟩;rw[aX hc,aZ nZ]at hR;exact⟨_,_,x0,rfl,rfl,rfl,t34.f ahE aaa,hR,by rw[<-hAA];exact bf h34.o.size ahE.size⟩
 ·have hc:¬k=1:=aaw
  have nZ:¬k=3:=adL
  rw[aX hc,aX nZ]at hR;exact⟨_,_,x0,rfl,rfl,rfl,t5,hR,oQ hAA.symm⟩
 rintro i3 s0 i4 b1 i5 i6 s1 i7 l1 i8 l2 l3 i9 w6 ⟨m,u,hx,OJ,rS,rfl,t6,hR,z6⟩;unfold qk at hR;obtain⟨q,nT,e1,BX,hm⟩:=CF t6.r [[91]] (n:=1) (parts:=#[(0,ah (T [91]))]) rfl rfl aN aN;have t24:=t6.q BX;refine⟨λi3 s0 i4 b1 i5 i6 s1 i7 l1 i8 l2 l3 i9 w'=>∃(m:Mv) (u:Sx),MvX A w' m i3 s0 i4 b1 [O ae i5,O ae i6,ah s1,O ae i7,l1.v,O ae i8] l2 i9/\m.tg=[]/\l3=Sl.nil/\Zt F ts w w' b l u [k1,k0]/\Cx ts m u=R/\A<=w'.heap.size,?_,q,nT,e1,t6.sq BX aaa,hm.mono ?_⟩;rotate_left
 ·rintro _ mh ⟨rfl,WR⟩;have t25:=t24.nx WR;have s25:Stay A w6 mh:=((Stay.refl A w6).q BX).d WR hAb;refine⟨_,rfl,t24.sc WR aaa,λhc pq iz=>?_,λhc Uo Ty=>?_⟩
  ·have rN:=NT hc;rw[aX rN]at hR t25;have t26:=t25.f iz aaa;have s26:=s25.f iz (.inl hA1);have z26:=s26.sz;refine(LH t26.r).mono ?_;rintro _ tU ⟨cs,rfl,hg,h27⟩;obtain⟨sl,rfl⟩:=jc hg;have t27:=t26.nx h27;refine⟨_,_,_,_,sl,_,rfl,t26.sc h27 aaa,λyv ug=>?_⟩;have t28:=t27.f ug aaa;obtain⟨q2,BW,e2,tv,Po⟩:=qt t28.r [93];have t29:=t28.q tv;refine⟨q2,BW,e2,t28.sq tv aaa,Po.mono ?_⟩;rintro _ Pv ⟨rfl,h30⟩;have t30:=t29.nx h30;have s30:=(((s26.d h27 hAb).f ug (.inl hA1)).q tv).d h30 hAb;refine⟨rfl,t29.sc h30 aaa,{m with gd:=true,g:=(qj ts (dJ u)).1},_,⟨hx.e1,hx.e2,hx.e3,hc,hx.e5,?_,hx.x.stay (dV true) aN s30⟩,rS,rfl,t30,hR,bf z6 s30.sz⟩;exact(jb true).low ((jb true).stay hg ((((Stay.refl _ _).f ug (.inl aG)).q tv).d h30 aG)) aG
  have rN:=NS hc;rw[aZ rN]at hR t25;have s31:=s25.f Ty (.inl hA1);have OK:=hx.stay s31;exact⟨m,u,⟨OK.e1,OK.e2,OK.e3,by rw[hc,OJ],OK.e5,OK.g,OK.x⟩,rS,rfl,t25.f Ty aaa,hR,bf z6 s31.sz⟩
 clear hx OJ rS t6 hR z6 hm t24;rintro i3 s0 i4 b1 i5 i6 s1 i7 l1 i8 l2 l3 i9 w7 ⟨m,u,hx,rS,rfl,t7,hR,z7⟩;unfold Cx at hR;obtain⟨q,jm,e1,kU,hm⟩:=LD t7.r [[123]] (n:=1) (parts:=#[(0,ah (T [123]))]) rfl rfl aN aN;have t20:=t7.q kU;refine⟨λi3 s0 i4 b1 i5 i6 s1 i7 l1 i8 l2 l3 i9 w'=>∃(m:Mv) (u:Sx),MvX A w' m i3 s0 i4 b1 [O ae i5,O ae i6,ah s1,O ae i7,l1.v,O ae i8] l2 i9/\l3=Sl.nil/\Zt F ts w w' b l u [k1,k0]/\GH ts m u=R/\A<=w'.heap.size,?_,q,jm,e1,t7.sq kU aaa,hm.mono ?_⟩;rotate_left
 ·rintro _ lm ⟨rfl,kK⟩;have t21:=t20.q kK;have s21:Stay A w7 lm:=((Stay.refl A w7).q kU).q kK;have z21:=s21.sz;refine⟨_,rfl,t20.sq kK aaa,λhc=>(AW t21.r).mono ?_,λhc=>?_⟩
  ·rw[aX (NT hc)]at hR;rintro _ oA ⟨la,rfl,hla,h22⟩;have t22:=t21.nx h22;refine⟨la,rfl,t21.sc h22 aaa,λoB kl=>?_⟩;have s23:=(s21.d h22 hAb).f kl (.inl hA1);refine⟨{m with acts:=(ji ts u).1},_,⟨hx.e1,hx.e2,hx.e3,hx.e4,hx.e5,(jb true).stay hx.g s23,?_⟩,rfl,t22.f kl aaa,hR,bf z7 s23.sz⟩;exact(hla.stay (dV true) aN ((Stay.refl _ _).f kl (.inl aG))).low (dV true) aG
  rw[aZ (NS hc)]at hR;exact⟨m,u,hx.stay s21,rfl,t21,hR,bf z7 z21⟩
 clear hx rS t7 hR z7 hm t20;rintro i17 s4 i18 b3 i19 i20 s5 i21 l7 i22 l8 l9 i23 w8 ⟨m,u,hx,rfl,t8,hR,z8⟩;unfold GH at hR;have hb8:b<w8.heap.size:=aG
 refine⟨λnv sg i24 s7 i25 b4 i26 i27 s8 i28 l10 i29 pK rG i30 w'=>∃(x:aJ) (acc:List (aJ)) (u':Sx),sg=T x/\MvX A w8 m i24 s7 i25 b4 [O ae i26,O ae i27,ah s8,O ae i28,l10.v,O ae i29] pK i30/\Stay A w8 w'/\Own lz 1 9 w8.heap.size w' (Fr w8.heap.size) rG acc/\Zt F ts w w' b l u' [k1,k0]/\xZ ts nv x acc u'=xZ ts (ts.length+1) [45,62] [] u/\mu ts u'<nv/\acc.length+mu ts u'<=ts.length,ts.length+1,⟨[45,62],[],u,rfl,hx,Stay.refl _ _,Own.nil _ _ _ _ _ _,t8,rfl,vd (rD _ _),adv⟩,?_⟩;clear hx;rintro nv sg i24 s7 i25 b4 i26 i27 s8 i28 l10 i29 pK rG i30 w9 ⟨x,acc,u',rfl,hx,hS,nc,t9,hT,hf1,Pq⟩;obtain⟨m',rfl⟩:∃m',nv=m'+1:=⟨nv-1,aG⟩
 rw[xZ]at hT;obtain⟨q,dR,e1,eO,Po⟩:=CF t9.r [x] (n:=1) (parts:=#[(0,ah (T x))]) rfl rfl aN aN;have t10:=t9.q eO;refine⟨q,dR,e1,t9.sq eO aaa,Po.mono ?_⟩;rintro _ dS ⟨rfl,Ie⟩;have t11:=t10.nx Ie;refine⟨_,rfl,t10.sc Ie aaa,λhc fp fu=>?_,λhc=>?_⟩
 ·have hc:=NT hc;rw[aX hc]at hT t11;have t12:=t11.q fu;refine⟨λk=>k=k1,rfl,(vP t12.r).mono ?_⟩;rintro _ fD ⟨rfl,wB⟩;have t13:=t12.nx wB;have gy:aA [b] w9 fD:=(((eO.weaken (bs':=[b]) λ_ h=>aaH).trans Ie.o λx hx=>.inl hx).cy fu).trans wB.o λx hx=>.inl hx;have zS:=hS.sz;have z9:=gy.size;have BU:=h.sm;have Dc:=rD ts u';have hmu:=pe h.en (dB hc).1 t9.r.lt (dB hc).2 (pd h.en (s:=dJ u')).toOn0;obtain⟨y,fP,e2,eH,Dd,iP,e3,ahG,⟨gs,iX,rR⟩,_⟩:=jr (P:=au) (t:=132) (ty:=132) (e:=9) (i:=Tryz.t9) (bytes:=16) (size:=1) (v:=ah (T (ju ts (dJ u')).1)) (x:=(ju ts (dJ u')).1) (G:=λ_=>False) (by kernel_rfl) (by kernel_rfl) rfl rfl rfl rfl aN aN aN dH (nc.stay dH gy λx hx=>.inl aaD) (bf zS z9) rfl rfl (λk hk _=>hk.elim) aG;have qI:∀g,g∈gs->w8.heap.size<=g:=λg hg=>(rR g hg).2.1;have z8w:=t8.z.o.size;have t14:=t13.q eH;have t15:=t14.row iX λx hx=>bf z8w (qI x hx);have nk:=t8.ne (k0:=k1) aaa;refine⟨_,rfl,t12.sc wB aaa,λk hk cd=>(by subst hk;exact wB.o.block k cd (by simpa using nk)),y,fP,e2,t13.sq eH aaa,bP.only eH,Dd,iP,e3,t14.sr iX aaa (λx hx y hy=>?_),λk hk cd=>(by subst hk;exact iX.block k cd λhm=>(by have:=qI k hm;omega)),λjl je=>⟨m',aG,[44],_,_,rfl,hx,?_,?_,t15.f je aaa,hT,aG,?_⟩⟩
  ·have:=qI x hx;simp only[aR,bn,cm]at hy;omega
  ·exact(((hS.go gy λx hx=>.inl aaD).q eH).go iX λx hx=>.inr (qI x hx)).f je (.inl hA1)
  ·refine((ahG.mono dH λk hk=>?_).stay dH je λx hx=>.inl aaD);rcases hk with hk | hk
   ·exact hk
   exact bf (bf zS z9) hk
  rw[aW,bO];omega
 have hc:=NS hc;rw[aZ hc]at hT t11;obtain⟨q2,gN,e2,lp,WB⟩:=qt t11.r [59];have t17:=t11.q lp;refine⟨q2,gN,e2,t11.sq lp aaa,WB.mono ?_⟩;rintro _ jL ⟨rfl,h18⟩;have t18:=t17.nx h18;refine⟨rfl,t17.sc h18 aaa,λjU jD=>?_⟩;rw[<-hT]at hR;rw[<-hR];have s9:∀{B:Nat},b<B->k0<B->Stay B w9 jU:=λhb hk=>((((Stay.refl _ _).q eO).d Ie hb).q lp).d h18 hb |>.f jD (.inl hk);have s19:Stay A w8 jU:=(((((hS.q eO).d Ie hAb).q lp).d h18 hAb).f jD (.inl hA0))
 refine⟨mvv m.k m.ev m.wt m.gd [O ae i26,O ae i27,ah s8,O ae i28,l10.v,O ae i29] pK rG m.a,by rw[hx.e1,hx.e2,hx.e3,hx.e4,hx.e5];rfl,⟨_,_,_,rfl,(jb true).low ((jb true).stay hx.g s19) hA,(hx.x.stay (dV true) aN s19).low (dV true) hA,?_⟩,(t18.f jD aaa).dn⟩;exact((nc.sl dH λk hk=>hk).stay dH aN (s9 hb8 aG)).low dH aG
end
theorem LI{iZ xs:aK}{j:Nat}{v:az}(h:xs[j]? =some v):(iZ++xs)[iZ.length+j]? =some v:=by
 rw[bX aG,ez];exact h
theorem lZ(iZ xs vs:aK)(j:Nat):cx (iZ++xs) (iZ.length+j) vs=iZ++cx xs j vs:=by
 unfold cx;rw[Ux,eU,Uy];simp only[bR]
structure NbO (B:Nat) (w:ay) (n:Nb) (en lv mv:Sl):Prop where
 en:jR true (uq true) 9 211 w (λk=>B<=k/\mv.a≠some ⟨k,0,none⟩) en n.en
 lv:jR true (uq true) 9 211 w (λk=>B<=k/\mv.a≠some ⟨k,0,none⟩) lv n.lv
 mv:Own (Ll true) 13 134 B w (Fr B) mv n.mv
section
variable {B:Nat} {w w':ay} {n:Nb} {en lv mv:Sl}
theorem NbO.go(h:NbO B w n en lv mv){bs:List Nat}(k:aA bs w w')(hb:∀x,x∈bs->x<B):NbO B w' n en lv mv:=
 ⟨h.en.keep (dV true) aN λi hi cd=>k.block i cd λhm=>(by have:=hb i hm;omega),h.lv.keep (dV true) aN λi hi cd=>k.block i cd λhm=>(by have:=hb i hm;omega),h.mv.stay (mT true) k λx hx=>.inl (hb x hx)⟩
theorem NbO.zm(h:NbO B w n en lv mv){gs:List Nat}{tW:Sl}{m:Mv}(nc:Own (Ll true) 13 134 B w' (λk=>Fr B k∨w.heap.size<=k) tW (n.mv++[m]))(k:aA gs w w')(rR:∀g,g∈gs->mv.a=some ⟨g,0,none⟩)(ha:tW.a=mv.a∨∃g,tW.a=some ⟨g,0,none⟩/\w.heap.size<=g)(hB:B<=w.heap.size):NbO B w' {n with mv:=n.mv++[m]} en lv tW:=by
 have go:∀{la:Sl} {xs:List Ac},jR true (uq true) 9 211 w (λk=>B<=k/\mv.a≠some ⟨k,0,none⟩) la xs->jR true (uq true) 9 211 w' (λk=>B<=k/\tW.a≠some ⟨k,0,none⟩) la xs:=λhx=>
  ((hx.inHeap (dV true) aN).keep (dV true) aN λi hi cd=>k.block i cd λhm=>hi.1.2 (rR i hm)).mono (dV true) λi hi=>⟨hi.1.1,by
   rcases ha with ha | ⟨g,ha,hg⟩
   ·rw[ha];exact hi.1.2
   rw[ha];intro e;injection e with e;injection e with e;have:=hi.2;omega⟩
 exact⟨go h.en,go h.lv,nc.mono (mT true) λi hi=>hi.elim id λhi=>bf hB hi⟩
theorem NbO.agm(h:NbO B w n en lv mv){A:Nat}{la:Sl}{xs:List Ac}(hx:jR true (uq true) 9 211 w (Fr A) la xs)(hA:B<=A)(hm:∀k,A<=k->mv.a≠some ⟨k,0,none⟩):NbO B w {n with en:=xs} la lv mv:=
 ⟨hx.mono (dV true) λk hk=>⟨bf hA hk,hm k hk⟩,h.lv,h.mv⟩
theorem NbO.agn(h:NbO B w n en lv mv){A:Nat}{la:Sl}{xs:List Ac}(hx:jR true (uq true) 9 211 w (Fr A) la xs)(hA:B<=A)(hm:∀k,A<=k->mv.a≠some ⟨k,0,none⟩):NbO B w {n with lv:=xs} en la mv:=
 ⟨h.en,hx.mono (dV true) λk hk=>⟨bf hA hk,hm k hk⟩,h.mv⟩
end
abbrev NU(h:OI):aK:=[ao false,ao h.i,ao h.e,ao h.l]
structure Cl (F:aL) (ts:List Tk) (w w':ay) (b:Nat) (l:Sl) (g t:Nat) (iZ:aK) (kh B:Nat) (s:Sx) (n:Nb) (h:OI) (en lv mv:Sl):Prop where
 r:Sr F ts w' b l s
 nb:aH w' g t (iZ++oC n.k n.nm n.ini n.dft en lv mv Sl.nil n.a)
 hb:aH w' kh 205 (NU h)
 no:NbO B w' n en lv mv
 o:∃gs,aA (b::g::kh::gs) w w'/\∀x,x∈gs->B<=x
 ng:g≠b/\¬F g
 nh:b<kh
 gh:g≠kh
 gB:g<B
 hB:kh<B
 lB:B<=w'.heap.size
section
variable {F:aL} {ts:List Tk} {w w' w2:ay} {b:Nat} {l:Sl} {g t:Nat} {iZ:aK} {kh B:Nat} {s s':Sx} {n n':Nb} {h h':OI} {en lv mv yP yQ tW:Sl}
theorem Cl.nx(c:Cl F ts w w' b l g t iZ kh B s n h en lv mv)(k:Dn F ts w' w2 b l s'):Cl F ts w w2 b l g t iZ kh B s' n h en lv mv:=by
 have ng:=c.ng;have nh:=c.nh;have gB:=c.gB;have hBl:=c.hB;obtain⟨gs,h1,h2⟩:=c.o;exact⟨k.r,k.o.blk c.nb abd,k.o.blk c.hb abd,c.no.go k.o λx hx=>aaD,
  ⟨gs,h1.trans k.o λx hx=>.inl aaQ,h2⟩,ng,nh,c.gh,gB,c.hB,bf c.lB k.o.size⟩
theorem Cl.q(c:Cl F ts w w' b l g t iZ kh B s n h en lv mv)(k:aA [] w' w2):Cl F ts w w2 b l g t iZ kh B s n h en lv mv:=c.nx (c.r.dn.q k)
theorem Cl.st(c:Cl F ts w w' b l g t iZ kh B s n h en lv mv)(k:aA [g] w' w2)(hB:aH w2 g t (iZ++oC n'.k n'.nm n'.ini n'.dft yP yQ tW Sl.nil n'.a))(no:NbO B w' n' yP yQ tW):Cl F ts w w2 b l g t iZ kh B s n' h yP yQ tW:=by
 obtain⟨gs,h1,h2⟩:=c.o;have gB:=c.gB;exact⟨c.r.aa1 k c.ng,hB,k.blk c.hb (by simpa using λe=>c.gh e.symm),no.go k λx hx=>aaD,⟨gs,h1.trans k λx hx=>.inl aaQ,h2⟩,c.ng,c.nh,c.gh,gB,c.hB,bf c.lB k.size⟩
theorem Cl.hd(c:Cl F ts w w' b l g t iZ kh B s n h en lv mv)(k:aA [kh] w' w2)(hB:aH w2 kh 205 (NU h')):Cl F ts w w2 b l g t iZ kh B s n h' en lv mv:=by
 obtain⟨gs,h1,h2⟩:=c.o;have hB':=c.hB;exact⟨c.r.one k c.nh,k.blk c.nb (by simpa using c.gh),hB,c.no.go k λx hx=>aaD,⟨gs,h1.trans k λx hx=>.inl aaQ,h2⟩,c.ng,c.nh,c.gh,c.gB,hB',bf c.lB k.size⟩
def afS(h:OI)(j:Nat):Bool:=if j=1 then h.i else if j=2 then h.e else h.l
def RB(h:OI)(j:Nat):OI:=if j=1 then{h with i:=true}else if j=2 then{h with e:=true}else{h with l:=true}
theorem j3{j:Nat}(h0:j≠0)(h3:j<=3):j=1∨j=2∨j=3:=aG
theorem NV(c:Cl F ts w w' b l g t iZ kh B s n h en lv mv)(hm:n.mv.length<ts.length):aB au 132 #[rp b,ai (some ⟨g,iZ.length,none⟩),ai (some ⟨kh,0,none⟩)] w' λe w2=>e=aq (ao (fg ts n h s).1)/\
  ∃yP yQ tW,Cl F ts w w2 b l g t iZ kh B (fg ts n h s).2.2.2 (fg ts n h s).2.1 (fg ts n h s).2.2.1 yP yQ tW:=by
 refine ret (afa _ _ _ _ _ ?_);have BU:=c.r.sm;obtain⟨q,w0,e1,cQ,MS⟩:=LD c.r [IX,kA,kF] (n:=3) (parts:=#[(0,ah (T IX)),(1,ah (T kA)),(2,ah (T kF))]) rfl rfl aN aN;refine⟨q,w0,e1,MS.mono ?_⟩;rintro _ w1 ⟨rfl,cJ⟩;have c1:=(c.q cQ).q cJ;refine⟨_,rfl,λhc w2 dw=>?_,λhc=>?_⟩
 ·have hc:=NT hc;have c2:=c1.q dw;have pJ:fg ts n h s=(true,{n with mv:=n.mv++[(oh ts (dk ts s [IX,kA,kF]:Nat) s).1]},h,(oh ts (dk ts s [IX,kA,kF]:Nat) s).2):=by
   unfold fg;rw[aZ hc]
  rw[pJ];refine⟨λk=>k=g,_,rfl,rfl,mv,c2.nb.Pc (iZ.length+6) (LI rfl),(VE c2.r _ (dB hc).2).mono ?_⟩;rintro _ w3 ⟨cs,rfl,hx,h3⟩;have c3:=c2.nx h3;generalize (oh ts (dk ts s [IX,kA,kF]:Nat) s).1=m at*
  generalize (oh ts (dk ts s [IX,kA,kF]:Nat) s).2=u at*
  have Bz:=hx;obtain⟨gc,uh,tg,rfl,hg,_,_⟩:=Bz;obtain⟨sl,rfl⟩:=jc hg;have ng:=c.ng;have gB:=c.gB;obtain⟨y,w4,e2,dL,tW,w5,e3,nc,⟨gs,eK,rR⟩,ha⟩:=jr (P:=au) (t:=24) (ty:=24) (e:=134) (i:=Tryz.t134) (bytes:=168) (size:=13) (v:=aj (mvv m.k m.ev m.wt m.gd (sM m.g.k m.g.n m.g.s m.g.op sl m.g.a) uh tg m.a).toArray) (x:=m) (G:=Fr w2.heap.size) (by kernel_rfl) (by kernel_rfl) rfl rfl rfl rfl aN aN aN (mT true) c3.no.mv c3.lB rfl hx (λk hk _=>⟨bf c2.lB hk,c2.no.mv.new hk⟩) aG;have yO:aA gs w3 w5:=(dL.weaken (bs':=gs) λ_ h=>aaH).trans eK λx hx=>.inl hx;have qI:∀x,x∈gs->B<=x:=λx hx=>(rR x hx).2.1;have hn:g∉gs:=λhm=>by have:=qI g hm;omega
  have xL:=yO.blk c3.nb hn;refine⟨_,_,_,_,_,_,_,_,sl,_,uh,tg,_,rfl,λk hk cd=>(by subst hk;exact h3.o.block k cd abd),y,w4,e2,bP.only dL,tW,w5,e3,λk hk cd=>(by subst hk;exact eK.block k cd hn),_,rfl,g,_,_,_,rfl,xL,aaa,λw6 eI M1=>⟨rfl,en,lv,tW,?_⟩⟩;rw[lZ]at M1;have no5:=c3.no.zm nc yO (λx hx=>(rR x hx).1) ha c3.lB;obtain⟨gs0,o1,o2⟩:=c3.o;have nh:=c.nh;have hBB:=c.hB;have lB:=c3.lB;have hgh:=c.gh;have z5:=yO.size;have z6:=eI.size;exact⟨(c3.r.own yO λx hx=>(by have:=qI x hx;omega)).aa1 eI ng,M1,(eI.block kh (by have:=c3.hb.lt;omega) abd).trans (yO.blk c3.hb λhm=>(by have:=qI kh hm;omega)),
   no5.go eI λx hx=>aaD,⟨gs++gs0,((o1.weaken (bs':=b::g::kh::(gs++gs0)) λx hx=>.inl (by simp only[aR,ci]at hx⊢;rcases hx with hx | hx | hx | hx<;>simp[hx])).trans yO λx hx=>.inl ady).trans eI λx hx=>.inl aaQ,λx hx=>(ci.1 hx).elim (qI x) (o2 x)⟩,ng,nh,hgh,gB,hBB,aG⟩
 have hc:=NS hc;obtain⟨q,w7,e1,fL,MS⟩:=LD c1.r [im,j6,j7] (n:=3) (parts:=#[(0,ah (T im)),(1,ah (T j6)),(2,ah (T j7))]) rfl rfl aN aN;refine⟨q,w7,e1,MS.mono ?_⟩;rintro _ w8 ⟨rfl,fV⟩;have c8:=(c1.q fL).q fV;have kB:dk ts s [im,j6,j7]<=3:=GI _;refine⟨_,rfl,λhj=>?_,λhj=>?_⟩
 ·have hj:=afQ hj;have pJ:fg ts n h s=(false,n,h,s):=by unfold fg;rw[aX aaw,hj];rfl
  rw[pJ];exact⟨rfl,_,_,_,c8⟩
 have hj:=afR hj;have WV:=AX c.r hj;have pJ:fg ts n h s=(if afS h (dk ts s [im,j6,j7])then(false,n,h,lc ts s)else if dk ts s [im,j6,j7]=1 then(true,{n with ini:=(ju ts (dJ s)).1},RB h 1,eP ts (ju ts (dJ s)).2 [59])else if dk ts s [im,j6,j7]=2 then(true,{n with en:=(ji ts (dJ s)).1},RB h 2,(ji ts (dJ s)).2)else(true,{n with lv:=(ji ts (dJ s)).1},RB h 3,(ji ts (dJ s)).2)):=by
  unfold fg;rw[aX aaw];rcases j3 hj kB with e | e | e<;>rw[e]<;>rfl
 rw[pJ];generalize dk ts s [im,j6,j7]=j at*
 have Bx:(NU h)[j]? =some (ao (afS h j)):=by rcases j3 hj kB with e | e | e<;>rw[e]<;>rfl
 have hp:Ku ⟨kh,0,none⟩ (j:Int) 4 1 ⟨kh,j,none⟩:=⟨aG,aG,by rw[fI,aV];simp⟩
 refine⟨_,rfl,⟨kh,j,none⟩,hp,_,c8.hb.Pc j Bx,λhh=>?_,λhh=>?_⟩
 ·rw[aZ hh];refine(sV c8.r).mono ?_;rintro _ w9 ⟨rfl,h9⟩;exact⟨rfl,rfl,_,_,_,c8.nx h9⟩
 rw[aX adx];refine⟨_,rfl,⟨kh,j,none⟩,hp,kh,j,_,_,rfl,c8.hb,by show j+1<=4;omega,λdR eO uf=>?_⟩;have c10:Cl F ts w dR b l g t iZ kh B s n (RB h j) en lv mv:=c8.hd eO (by
  have e:cx (NU h) j [ao true]=NU (RB h j):=by rcases j3 hj kB with e | e | e<;>rw[e]<;>rfl
  rwa[e]at uf)
 refine⟨_,Blk.eE c10.r.blk 1 rfl,b,1,_,_,rfl,c10.r.blk,aaa,λdS ey HR=>?_⟩;rw[c.r.wr]at HR;have Uu:=c10.nx (s':=dJ s) ⟨ey,c10.r.nR ey HR WV⟩;refine⟨λw'=>∃yP yQ tW,Cl F ts w w' b l g t iZ kh B _ _ _ yP yQ tW,λfp Ff=>⟨by split<;>(try split)<;>rfl,Ff⟩,λPj=>?_,λPj=>⟨λYw=>?_,λYw=>?_⟩⟩
 ·have e1:j=1:=by have:(j:Int)=1:=(by simpa using Pj);omega
  subst e1;rw[aZ rfl];refine(vP Uu.r).mono ?_;rintro _ fD ⟨rfl,wB⟩;have c13:=Uu.nx wB;refine⟨_,rfl,_,rfl,g,_,_,_,rfl,c13.nb,aaa,λfP eH HQ=>?_⟩;rw[lZ]at HQ;have c14:=c13.st (n':={n with ini:=(ju ts (dJ s)).1}) eH HQ ⟨c13.no.en,c13.no.lv,c13.no.mv⟩;obtain⟨q,iP,e1,iX,MS⟩:=qt c14.r [59];refine⟨q,iP,e1,MS.mono ?_⟩;rintro _ jl ⟨rfl,h16⟩;exact⟨rfl,_,_,_,(c14.q iX).nx h16⟩
 ·have e1:j=2:=by have:(j:Int)=2:=(by simpa using Yw);omega
  subst e1;rw[aX aN,aZ rfl];refine(AW Uu.r).mono ?_;rintro _ gN ⟨la,rfl,hla,Py⟩;have c17:=Uu.nx Py;refine⟨la,rfl,_,rfl,g,_,_,_,rfl,c17.nb,aaa,λjL kT TL=>?_⟩;rw[lZ]at TL;exact⟨_,_,_,c17.st (n':={n with en:=(ji ts (dJ s)).1}) kT TL (c17.no.agm hla Uu.lB λk hk=>Uu.no.mv.new hk)⟩
 have e0:j≠1:=λe=>by rw[e]at Pj;simp at Pj
 have e1:j=3:=by have:¬(j:Int)=2:=(by simpa using Yw);omega
 subst e1;rw[aX aN,aX aN];refine(AW Uu.r).mono ?_;rintro _ jU ⟨la,rfl,hla,h19⟩;have c19:=Uu.nx h19;refine⟨la,rfl,_,rfl,g,_,_,_,rfl,c19.nb,aaa,λjm kU ahJ=>?_⟩;rw[lZ]at ahJ;exact⟨_,_,_,c19.st (n':={n with lv:=(ji ts (dJ s)).1}) kU ahJ (c19.no.agn hla Uu.lB λk hk=>Uu.no.mv.new hk)⟩
end
section
variable {F:aL} {ts:List Tk} {w w' w2:ay} {b:Nat} {l:Sl} {s s':Sx}
theorem GY(h:Sr F ts w b l s)(k:Int):aB au 89 #[rp b,O ae k] w λe w'=>e=aq (aj (oC (fh ts k s).1.k (fh ts k s).1.nm [] [] Sl.nil Sl.nil Sl.nil Sl.nil (fh ts k s).1.a).toArray)/\Dn F ts w w' b l (fh ts k s).2:=by
 refine ret (ae5 _ _ _ _ ?_);intro k0 k1 w0 hY fA j9 jW cQ;have t0:=((h.zt.q cQ).ad hY fA).ad j9 jW;obtain⟨ad,g1,g2⟩:=t0.r.now;refine⟨λw'=>Zt F ts w w' b l (rC ts s) [k1,k0],λw1 t1=>(vO t1.r (k:=1) aN).mono ?_,l,Blk.eE t0.r.blk 0 rfl,_,Blk.eE t0.r.blk 1 rfl,ad,g1,_,g2.eE 0 _ rfl,λhc w5 eK=>?_,λhc w8 fV=>?_⟩
 ·rintro _ w2 ⟨rfl,h2⟩;have t2:=t1.nx h2;refine⟨_,_,_,_,rfl,t1.sc h2 aaa,λk2 w3 uY xM dE n1 n2 n3=>⟨λk=>k=k2,rfl,λe=>n3 e,λe=>n3 e,λw4 dL=>⟨rfl,?_⟩⟩⟩;have t3:=t2.q dE;have z3:=t3.z.go dL λx hx=>.inr abD;exact⟨z3.o,t3.r.own dL λx hx=>t3.lt abD⟩
 ·have hc:(tk ts s.i).k=1:=aaw
  have t5:=t0.q eK;unfold rC;rw[aZ hc];refine(aai t5.r).mono ?_;rintro _ w6 ⟨rfl,h6⟩;have t6:=t5.nx h6;refine⟨rfl,t5.sc h6 aaa,_,Blk.eE t6.r.blk 6 rfl,λhd=>?_,λhd=>?_⟩
  ·rw[aZ (by simpa using hd)];refine(zg t6.r 21).mono ?_;rintro _ w7 ⟨rfl,h7⟩;exact⟨rfl,t6.sc h7 aaa,t6.nx h7⟩
  rw[aX (by simpa using hd)];exact t6
 have hc:¬(tk ts s.i).k=1:=aaw
 unfold rC;rw[aX hc];exact t0.q fV
def XY(F:aL)(ts:List Tk)(b:Nat)(l:Sl)(f:Nat)(d:Int):Prop:=∀(k:Int) (u:Sx) (w:ay),Sr F ts w b l u->u.d=d->aB au 133 #[rp b,O ae k] w λe w'=>∃cs,e=aq (aj cs.toArray)/\pC true f w' (Fr w.heap.size) (lg ts f k u).1 cs/\Dn F ts w w' b l (lg ts f k u).2
theorem RC{f:Nat}(hf:0<f)(w:ay)(G:aL):pC true f w G NJ (oC 0 [] [] [] Sl.nil Sl.nil Sl.nil Sl.nil 0):=by
 obtain⟨m,rfl⟩:∃m,f=m+1:=⟨f-1,aG⟩
 exact⟨_,_,_,_,rfl,⟨jR.nil _ _ _ _ _ _,jR.nil _ _ _ _ _ _,jR.nil _ _ _ _ _ _⟩,jR.nil _ _ _ _ _ _⟩
abbrev XZ(f B:Nat)(w:ay)(s:Sl)(xs:List Nd):Prop:=Own (pC true f) 9 27 B w (Fr B) s xs
theorem CG{f B g t:Nat}{iZ:aK}{n1:Nb}{en lv mv l2 l8:Sl}{acc:List Nd}{x:Nd}{k:Int}{nm ini dft:aJ}{a b1 b2 b3:Sl}{at_:Int}{k0:Nat}{Q:ay->Prop}{H:aL}
  (hx:pC true f w H x (oC k nm ini dft a b1 b2 b3 at_)) (hH:∀i,H i->i<w.heap.size->Fr B i/\l8.a≠some ⟨i,0,none⟩) (hH':∀i,H i->B<=i) (nc:XZ f B w l8 (acc++[NJ])) (hn:l2.n=acc.length)
  (xG:aH w g t (iZ++oC n1.k n1.nm n1.ini n1.dft en lv mv l2 n1.a)) (hg:g<B) (hY:k0<B) (hgk:k0≠g)
  (hQ:∀w',aH w' g t (iZ++oC n1.k n1.nm n1.ini n1.dft en lv mv l8 n1.a)->XZ f B w' l8 (acc++[x])->(∃gk,B<=gk/\aA [g,gk] w w')->Q w'):
  ∃p1:Addr,dI l8 (l2.n:Int) 9 p1/\∃p2:Addr,(some (⟨g,iZ.length,none⟩:Addr))=(some p2)/\
   (∃xJ FA:Nat,∃z2:aK,∃MX:Nat,p1=⟨xJ,FA,none⟩/\aH w xJ MX z2/\(FA+9)<=z2.length/\k0≠xJ/\
    ∀iP:ay,aA [xJ] w iP->aH iP xJ MX (cx z2 FA [O ae k,ah (T nm),ah (T ini),ah (T dft),a.v,b1.v,b2.v,b3.v,O ae at_])->∃C9 Ps:Nat,∃z3:aK,∃k18:Nat,(p2.add 7)=⟨C9,Ps,none⟩/\
    aH iP C9 k18 z3/\(Ps+1)<=z3.length/\k0≠C9/\∀jl:ay,aA [C9] iP jl->aH jl C9 k18 (cx z3 Ps [l8.v])->Q jl)/\
   ∃HO FB:Nat,∃z4:aK,∃k21:Nat,(p2.add 7)=⟨HO,FB,none⟩/\aH w HO k21 z4/\(FB+1)<=z4.length/\k0≠HO/\
    ∀gN:ay,aA [HO] w gN->aH gN HO k21 (cx z4 FB [l8.v])->∃Tm k23:Nat,∃z5:aK,∃k24:Nat,p1=⟨Tm,k23,none⟩/\
    aH gN Tm k24 z5/\(k23+9)<=z5.length/\k0≠Tm/\∀jL:ay,aA [Tm] gN jL->aH jL Tm k24 (cx z5 k23 [O ae k,ah (T nm),ah (T ini),ah (T dft),a.v,b1.v,b2.v,b3.v,O ae at_])->Q jL:=by
 have cd:l2.n<(acc++[NJ]).length:=abo
 have yM:(acc++[NJ]).set l2.n x=acc++[x]:=by rw[hn,BA _ _ (ba _),Kf];rfl
 obtain⟨gk,cells,a1,a2,a3,a4,a5⟩:=Own.store (cX true f) nc cd (vs:=oC k nm ini dft a b1 b2 b3 at_) rfl hx hH aN;have hgB:=(nc.blk a1).1;dsimp only at hgB;refine⟨_,a2,_,rfl,⟨gk,l2.n*9,cells,_,rfl,a3,a4,aG,λiP iX aci=>⟨g,iZ.length+7,_,t,rfl,iX.blk xG abd,aaa,hgk,λjl je TI=>?_⟩⟩,g,iZ.length+7,_,t,rfl,xG,aaa,hgk,λgN lp ahL=>?_⟩
 ·rw[lZ]at TI;have o15:=a5 iP iX aci;rw[yM]at o15;exact hQ jl TI (o15.stay (cX true f) je λx hx=>.inl aaD) ⟨gk,hgB,(iX.weaken (bs':=[g,gk]) λx hx=>.inl aaQ).trans je λx hx=>.inl aaQ⟩
 rw[lZ]at ahL;have z17:=lp.size;have ahM:XZ f B gN l8 (acc++[NJ]):=nc.stay (cX true f) lp λx hx=>.inl aaD;have aoj:pC true f gN (λi=>H i/\i<w.heap.size) x (oC k nm ini dft a b1 b2 b3 at_):=(cX true f).keep ((cX true f).inHeap hx) λi hi cd=>lp.block i cd (by have:=hH' i hi.1;simp only[aO];omega);obtain⟨gk',acj,c1,c2,c3,c4,c5⟩:=Own.store (cX true f) ahM cd (vs:=oC k nm ini dft a b1 b2 b3 at_) rfl aoj (λi hi _=>hH i hi.1 hi.2) aN;have e:gk'=gk:=by
  rw[a1]at c1;injection c1 with c1;injection c1 with c1;exact c1.symm
 subst e;refine⟨gk',l2.n*9,acj,_,rfl,c3,c4,aG,λjL kT TL=>?_⟩;have o18:=c5 jL kT TL;rw[yM]at o18;exact hQ jL (kT.blk ahL abd) o18 ⟨gk',hgB,(lp.weaken (bs':=[g,gk']) λx hx=>.inl aaQ).trans kT λx hx=>.inl aaQ⟩
structure Kd (F:aL) (ts:List Tk) (w w':ay) (b:Nat) (l:Sl) (g t:Nat) (iZ:aK) (f B B2:Nat) (n:Nb) (en lv mv:Sl) (s:Sx) (acc:List Nd) (kids:Sl):Prop where
 r:Sr F ts w' b l s
 nb:aH w' g t (iZ++oC n.k n.nm n.ini n.dft en lv mv kids n.a)
 no:Ed true w' (λk=>B<=k/\k<B2) n en lv mv
 kd:XZ f B2 w' kids acc
 o:aA [b,g] w w'
 lB:B2<=w'.heap.size
section
variable {g t:Nat} {iZ:aK} {f B B2:Nat} {n:Nb} {en lv mv kids:Sl} {acc:List Nd}
theorem Kd.nx(h:Kd F ts w w' b l g t iZ f B B2 n en lv mv s acc kids)(MY:g≠b)(hb:b<B)(hB:B<=B2)(k:Dn F ts w' w2 b l s'):Kd F ts w w2 b l g t iZ f B B2 n en lv mv s' acc kids:=
 ⟨k.r,k.o.blk h.nb abd,h.no.keep λi hi cd=>k.o.block i cd abd,h.kd.stay (cX true f) k.o λx hx=>.inl aaD,
  h.o.trans k.o λx hx=>.inl aaQ,bf h.lB k.o.size⟩
end
end
section
variable {F:aL} {ts:List Tk} {w w' w2:ay} {b:Nat} {l:Sl} {s s':Sx}
structure Cl0 (F:aL) (ts:List Tk) (w w':ay) (b:Nat) (l:Sl) (g t:Nat) (iZ:aK) (kh B:Nat) (s:Sx) (n:Nb) (en lv mv:Sl):Prop where
 r:Sr F ts w' b l s
 nb:aH w' g t (iZ++oC n.k n.nm n.ini n.dft en lv mv Sl.nil n.a)
 no:NbO B w' n en lv mv
 o:∃gs,aA (b::g::kh::gs) w w'/\∀x,x∈gs->B<=x
 ng:g≠b/\¬F g
 nh:b<kh
 gh:g≠kh
 gB:g<B
 hB:kh<B
 lB:B<=w'.heap.size
section
variable {g t:Nat} {iZ:aK} {kh B:Nat} {n:Nb} {h:OI} {en lv mv:Sl}
theorem Cl.c0(c:Cl F ts w w' b l g t iZ kh B s n h en lv mv):Cl0 F ts w w' b l g t iZ kh B s n en lv mv:=⟨c.r,c.nb,c.no,c.o,c.ng,c.nh,c.gh,c.gB,c.hB,c.lB⟩
theorem Cl0.cl(c:Cl0 F ts w w' b l g t iZ kh B s n en lv mv)(hb:aH w' kh 205 (NU h)):Cl F ts w w' b l g t iZ kh B s n h en lv mv:=⟨c.r,c.nb,hb,c.no,c.o,c.ng,c.nh,c.gh,c.gB,c.hB,c.lB⟩
theorem Cl0.nx(c:Cl0 F ts w w' b l g t iZ kh B s n en lv mv)(k:Dn F ts w' w2 b l s'):Cl0 F ts w w2 b l g t iZ kh B s' n en lv mv:=by
 have ng:=c.ng;have gB:=c.gB;have nh:=c.nh;have hBl:=c.hB;obtain⟨gs,h1,h2⟩:=c.o;exact⟨k.r,k.o.blk c.nb abd,c.no.go k.o λx hx=>aaD,
  ⟨gs,h1.trans k.o λx hx=>.inl aaQ,h2⟩,ng,c.nh,c.gh,gB,c.hB,bf c.lB k.o.size⟩
theorem Cl0.q(c:Cl0 F ts w w' b l g t iZ kh B s n en lv mv)(k:aA [] w' w2):Cl0 F ts w w2 b l g t iZ kh B s n en lv mv:=c.nx (c.r.dn.q k)
theorem Cl0.sc(c:Cl0 F ts w w' b l g t iZ kh B s n en lv mv)(k:Dn F ts w' w2 b l s'):cj [kh] w' w2:=k.o.same λx hx=>by
 have:=c.nh;have:=c.hB;have:=c.lB;simp only[aO]at hx⊢;omega
theorem Cl0.sq(c:Cl0 F ts w w' b l g t iZ kh B s n en lv mv)(k:aA [] w' w2):cj [kh] w' w2:=c.sc (c.r.dn.q k)
end
theorem I5(n:Nb)(h:OI)(s:Sx):(fg ts n h s).2.1.mv.length<=n.mv.length+1:=by
 unfold fg;split
 ·dsimp only;rw[aW,bO];omega
 split
 ·exact iC _
 ·split<;>exact iC _
 ·split<;>exact iC _
 split<;>exact iC _
theorem LJ{f:Nat}(h:Sr F ts w b l s){g t:Nat}{iZ:aK}{n:Nb}(Fg:n.en=[])(HV:n.lv=[])(rW:n.mv=[])(hB:aH w g t (iZ++oC n.k n.nm n.ini n.dft Sl.nil Sl.nil Sl.nil Sl.nil n.a))(hg:g≠b/\¬F g)(hd:InI s.d)(hN:s.fc=0->0<f/\XY F ts b l f (zd s.d)):
  aB au 92 #[rp b,ai (some ⟨g,iZ.length,none⟩)] w λe w'=>e=aq (ak #[])/\∃cs,aH w' g t (iZ++cs)/\pC true (f+1) w' (Fr w.heap.size) (rB ts (lg ts f) n s).1 cs/\aA [b,g] w w'/\Sr F ts w' b l (rB ts (lg ts f) n s).2:=by
 refine ret (ae9 _ _ _ _ ?_);intro k0 w0 hY fA cQ;have t0:=h.zt.al cQ hY fA;have hgw:=hB.lt;have hbw:=h.lb;refine⟨_,Blk.eE t0.r.blk 6 rfl,b,6,_,_,rfl,t0.r.blk,aaa,t0.ne aaa,λw1 cJ uw=>?_⟩;have t1:Zt F ts w w1 b l {s with d:=zd s.d} [k0]:=t0.up cJ uw h.lt;have nb1:aH w1 g t (iZ++oC n.k n.nm n.ini n.dft Sl.nil Sl.nil Sl.nil Sl.nil n.a):=cJ.blk (cQ.blk hB aaa) abd;have zw1:=t1.z.o.size;have zk:=(t1.z.k k0 aaa).2;generalize hBB:w1.heap.size=B at*
 have hgB:g<B:=aG
 have c1:Cl0 F ts w w1 b l g t iZ k0 B {s with d:=zd s.d} n Sl.nil Sl.nil Sl.nil:=⟨t1.r,nb1,⟨by rw[Fg];exact jR.nil _ _ _ _ _ _,by rw[HV];exact jR.nil _ _ _ _ _ _,by rw[rW];exact Own.nil _ _ _ _ _ _⟩,
  ⟨[],t1.z.o.weaken λx hx=>.inl aaQ,λx hx=>adf⟩,hg,aG,aG,hgB,zk,oQ hBB.symm⟩
 have hbB:b<B:=aG
 unfold rB;dsimp only;generalize hC:kf ts (ts.length+1) n ⟨false,false,false⟩ {s with d:=zd s.d}=C;have ahN:On ts {s with d:=zd s.d} C.2:=by rw[<-hC];exact uN h.en _ _ _ _
 refine⟨λnv b0 b1 b2 b3 w'=>∃(n':Nb) (hd:OI) (s':Sx) (en lv mv:Sl),b0=false/\b1=hd.i/\b2=hd.e/\b3=hd.l/\Cl0 F ts w w' b l g t iZ k0 B s' n' en lv mv/\kf ts nv n' hd s'=C/\mu ts s'<nv/\n'.mv.length+mu ts s'<=ts.length,ts.length+1,
  ⟨n,⟨false,false,false⟩,_,_,_,_,rfl,rfl,rfl,rfl,c1,hC,vd (rD _ _),by rw[rW,di,bM];exact rD _ _⟩,?_⟩
 rintro nv _ _ _ _ w2 ⟨n',hd',s',en,lv,mv,rfl,rfl,rfl,rfl,c2,hR,hf1,Pq⟩;obtain⟨m,rfl⟩:∃m,nv=m+1:=⟨nv-1,aG⟩
 rw[kf]at hR;refine⟨λb4 b5 b6 b7 b8 w'=>(b4=true/\∃(n':Nb) (hd:OI) (s':Sx) (en lv mv:Sl),b5=false/\b6=hd.i/\b7=hd.e/\b8=hd.l/\Cl0 F ts w w' b l g t iZ k0 B s' n' en lv mv/\kf ts m n' hd s'=C/\mu ts s'<m/\n'.mv.length+mu ts s'<=ts.length)∨
  (b4=false/\∃(en lv mv:Sl),Cl0 F ts w w' b l g t iZ k0 B C.2 C.1 en lv mv),?_,(my c2.r).mono ?_⟩
 rotate_left
 ·rintro _ BW ⟨rfl,tv⟩;have c29:=c2.q tv;refine⟨_,rfl,c2.sq tv,λhc hBk=>?_,λhc=>?_⟩
  ·have hc:s'.fc=0:=aaw
   rw[aX (by simp[hc])]at hR;have Dc:=rD ts s';have cd:=c2.r.lt;have avF:0<mu ts s':=by unfold mu;rw[aZ hc];omega
   have fl:=I5 (ts:=ts) n' hd' s';refine(NV (c29.cl (h:=hd') hBk) aG).mono ?_;rintro _ Pv ⟨rfl,yP,yQ,tW,c30⟩;refine⟨_,rfl,_,_,_,_,c30.hb,?_⟩;cases pJ:(fg ts n' hd' s').1 with
   | true=>
    rw[aZ pJ]at hR;have hmu:=NN h.en n' hd' hc cd pJ;exact .inl ⟨rfl,_,_,_,_,_,_,rfl,rfl,rfl,rfl,c30.c0,hR,aG,aG⟩
   | false=>
    rw[aX (by rw[pJ];decide)]at hR;refine .inr ⟨rfl,yP,yQ,tW,?_⟩;rw[<-hR];exact c30.c0
  have hc:s'.fc≠0:=aaw
  rw[aZ hc]at hR;refine .inr ⟨rfl,en,lv,mv,?_⟩;rw[<-hR];exact c29
 clear hR hf1 Pq c2;rintro b4 b5 b6 b7 b8 w3 (⟨rfl,hh⟩ | ⟨rfl,en,lv,mv,c3⟩)
 ·exact⟨λ_=>⟨m,OZ _,hh⟩,λhh=>(by cases hh)⟩
 refine⟨λhh=>(by cases hh),λ_=>?_⟩;generalize C.1=n1 at*
 generalize C.2=s1 at*
 have hsB:B<=w3.heap.size:=c3.lB;have no3:Ed true w3 (λk=>B<=k/\k<w3.heap.size) n1 en lv mv:=
  ⟨(c3.no.en.inHeap (dV true) aN).mono (dV true) λk hk=>⟨hk.1.1,hk.2⟩,(c3.no.lv.inHeap (dV true) aN).mono (dV true) λk hk=>⟨hk.1.1,hk.2⟩,(c3.no.mv.sl (mT true) λk hk=>hk).inHeap (mT true) aN⟩
 obtain⟨gs3,o3,o3'⟩:=c3.o;have o3:aA [b,g] w w3:=o3.weaken λx hx=>by
  simp only[aR]at hx;rcases hx with rfl | rfl | rfl | hx
  ·exact .inl aaa
  ·exact .inl aaa
  ·exact .inr hY
  exact .inr (bf zw1 (o3' x hx))
 have k3:Kd F ts w w3 b l g t iZ f B w3.heap.size n1 en lv mv s1 [] Sl.nil:=⟨c3.r,c3.nb,no3,Own.nil _ _ _ _ _ _,o3,ba _⟩
 generalize qG:w3.heap.size=B2 at*
 clear c3 no3 o3 o3' hC;generalize hK:vM ts (lg ts f) (ts.length+1) [] s1=K;have sk:∀{u u':ay} {x y:Sx},B2<=u.heap.size->Dn F ts u u' b l y->cj [k0] u u':=λhz k=>k.o.same λx hx=>by
  simp only[aO]at hx⊢;omega
 have TM:∀{u u':ay} {x y:Sx} {acc:List Nd} {kids:Sl},Kd F ts w u b l g t iZ f B B2 n1 en lv mv x acc kids->Dn F ts u u' b l y->Kd F ts w u' b l g t iZ f B B2 n1 en lv mv y acc kids:=λa k=>a.nx hg.1 hbB hsB k;have go:∀{u:ay} {x:Sx} {acc:List Nd} {kids:Sl},Kd F ts w u b l g t iZ f B B2 n1 en lv mv x acc kids->∃(q:Sl) (u2:ay),(aw 132 4 #[.mk 0 (ah (ar #[115,116,97,116,101])),.mk 1 (ah (ar #[112,97,114,97,108,108,101,108])),.mk 2 (ah (ar #[104,105,115,116,111,114,121])),.mk 3 (ah (ar #[100,101,101,112]))]).run au u=.ok q.v u2/\cj [k0] u u2/\aB au 131 #[rp b,q.v] u2 λe u3=>e=aq (O ae (dk ts x rf:Nat))/\cj [k0] u2 u3/\Kd F ts w u3 b l g t iZ f B B2 n1 en lv mv x acc kids:=fun{u x acc kids} a=>by
  obtain⟨q,u2,e1,hO,hm⟩:=LD a.r rf (n:=4) (parts:=#[(0,ah (T D6)),(1,ah (T tI)),(2,ah (T vL)),(3,ah (T K7))]) rfl rfl aN aN;have a2:=TM a (a.r.dn.q hO);refine⟨q,u2,e1,sk (x:=x) a.lB (a.r.dn.q hO),hm.mono ?_⟩;rintro _ u3 ⟨rfl,dE⟩;exact⟨rfl,sk (x:=x) a2.lB (a2.r.dn.q dE),TM a2 (a2.r.dn.q dE)⟩
 obtain⟨q,w4,e1,hs4,hm4⟩:=go k3;refine⟨q,w4,e1,hs4,hm4.mono ?_⟩;rintro _ w5 ⟨rfl,M3,k5⟩;refine⟨_,rfl,M3,λnv i2 _ _ _ _ w'=>∃(s':Sx) (acc:List Nd) (kids:Sl),i2=((dk ts s' rf:Nat):Int)/\Kd F ts w w' b l g t iZ f B B2 n1 en lv mv s' acc kids/\vM ts (lg ts f) nv acc s'=K/\mu ts s'<nv/\acc.length+mu ts s'<=ts.length/\s'.d=zd s.d/\(s'.fc=0->s.fc=0),ts.length+1,
  ⟨s1,[],Sl.nil,rfl,k5,hK,vd (rD _ _),adv,ahN.d,λe=>(ahN.le e).1⟩,?_⟩
 clear M3 k5 hm4 hs4 e1 k3 hK;rintro nv _ b9 YD b11 b12 w6 ⟨s',acc,kids,rfl,k6,hR,hf1,Pq,hd6,hz6⟩;obtain⟨m',rfl⟩:∃m',nv=m'+1:=⟨nv-1,aG⟩
 rw[vM]at hR;have hkb:k0≠b:=t0.ne aaa;have YO:k0≠g:=aG
 refine⟨λhc=>?_,λhc=>?_⟩
 ·have hc:=NT hc;rw[aX hc]at hR;obtain⟨hfc,Da⟩:=dB hc;obtain⟨hf0,hNC⟩:=hN (hz6 hfc);have cd:=k6.r.lt;refine⟨_,Blk.eE k6.r.blk 1 rfl,b,1,_,_,rfl,k6.r.blk,aaa,hkb,λw7 fL hB7=>?_⟩;rw[k6.r.wr]at hB7;have k7:=TM k6 (y:=dJ s') ⟨fL,k6.r.nR fL hB7 (AX k6.r hc)⟩;have BU:=h.sm;have hmul:=rD ts s';have TN:=Lj h.en f (dk ts s' rf:Nat) (dJ s') (by show InI s'.d;rw[hd6];exact PZ _);have hmu:=pe h.en hfc cd Da TN.toOn0;generalize dk ts s' rf=kk at*
  generalize hNx:lg ts f (kk:Int) (dJ s')=N at*
  have aom:N.2.d=zd s.d:=TN.d.trans hd6;have aon:N.2.fc=0->s.fc=0:=λe=>hz6 (TN.le e).1;refine⟨λ_ _ _ _ w'=>∃lK,Kd F ts w w' b l g t iZ f B B2 n1 en lv mv N.2 (acc++[N.1]) lK,λb13 b14 b15 b16 w8 h8=>?_,λdS ey=>?_⟩
  ·obtain⟨lK,k8⟩:=h8;obtain⟨q,w9,e1,hs9,hm9⟩:=go k8;refine⟨q,w9,e1,hs9,hm9.mono ?_⟩;rintro _ dR ⟨rfl,aoo,pL⟩;exact⟨_,rfl,aoo,m',OZ _,_,_,_,rfl,pL,hR,aG,abo,aom,aon⟩
  have rP:=TM k7 (k7.r.dn.q ey);have Fa:=rP.lB;have uV:∀{u:ay},Sr F ts u b l (dJ s')->aB au 133 #[rp b,O ae (kk:Int)] u λe w'=>∃cs,e=aq (aj cs.toArray)/\pC true f w' (Fr u.heap.size) N.1 cs/\Dn F ts u w' b l N.2:=λhu=>by
   have:=hNC (kk:Int) (dJ s') _ hu hd6;rw[hNx]at this;exact this
  have De:∀{u u':ay} {bs:List Nat},aA bs u u'->(∀x,x∈bs->x≠g)->bP (λk=>k=g) u u':=λhO hb k hk cd=>by subst hk;exact hO.block k cd λhm=>hb k hm rfl
  have zc:Value.cells (aj (oC 0 [] [] [] Sl.nil Sl.nil Sl.nil Sl.nil 0).toArray)=(oC 0 [] [] [] Sl.nil Sl.nil Sl.nil Sl.nil 0).toArray:=rfl;have hz:∀(u:ay),∃(y:Sl) (u2:ay),(aw 25 1 #[.mk 0 (aj (oC 0 [] [] [] Sl.nil Sl.nil Sl.nil Sl.nil 0).toArray)]).run au u=.ok y.v u2/\Own (pC true f) 9 27 u.heap.size u2 (λ_=>False) y [NJ]/\aA [] u u2:=λu=>by
   obtain⟨y,u2,a1,a2,a3,_⟩:=kP (P:=au) (t:=25) (e:=27) (i:=Tryz.t27) (w:=u) (F:=λ_=>False) (r:=pC true f) (size:=9) (vs:=[aj (oC 0 [] [] [] Sl.nil Sl.nil Sl.nil Sl.nil 0).toArray]) (xs:=[NJ]) (len:=1) (parts:=#[(0,aj (oC 0 [] [] [] Sl.nil Sl.nil Sl.nil Sl.nil 0).toArray)]) (by kernel_rfl) (by kernel_rfl) rfl rfl aN rfl rfl aN aN (cX true f) ⟨⟨rfl,RC hf0 _ _⟩,trivial⟩;exact⟨y,u2,a1,a2,a3⟩
  have ahP:∀{u:ay} {y:Sl} {A:Nat},B2<=A->XZ f B2 u kids acc->(∀k,A<=k->kids.a≠some ⟨k,0,none⟩)->aD (pC true f) 9 u (Fr A) y [NJ]->A<=u.heap.size->∃(s8:Sl) (u2:ay),(Builtin.append_ #[25,25] 25 #[kids.v,y.v]).run au u=.ok s8.v u2/\XZ f B2 u2 s8 (acc++[NJ])/\(∃gs,aA gs u u2/\∀x,x∈gs->B2<=x/\x<A)/\(∀k,A<=k->k<u.heap.size->s8.a≠some ⟨k,0,none⟩):=fun{u y A} hA ho hk hy hAu=>by
   obtain⟨s8,u2,a1,a2,gs,a3,a4,a5⟩:=vg (P:=au) (t:=25) (ty:=25) (e:=27) (i:=Tryz.t27) (bytes:=160) (size:=9) (y:=y) (ys:=[NJ]) (by kernel_rfl) (by kernel_rfl) rfl rfl rfl rfl (cX true f) ho (hy.mono (cX true f) λk iy=>⟨bf hA iy,hk k iy⟩) (bf hA hAu) (by rw[bO];omega) aN;refine⟨s8,u2,a1,a2,⟨gs,a3,λx hx=>⟨(a4 x hx).2.1,?_⟩⟩,λk h1 h2=>?_⟩
   ·exact O0 λkB=>hk x kB (a4 x hx).1
   rcases a5 with a5 | a5
   ·rw[a5];exact hk k h1
   rw[a5];intro e;injection e with e;injection e with e;omega
  have WU:∀{u:ay} {s8:Sl},Sr F ts u b l N.2->aH u g t (iZ++oC n1.k n1.nm n1.ini n1.dft en lv mv kids n1.a)->Ed true u (λk=>B<=k/\k<B2) n1 en lv mv->aA [b,g] w u->B2<=u.heap.size->XZ f B2 u s8 (acc++[NJ])->∀w',aH w' g t (iZ++oC n1.k n1.nm n1.ini n1.dft en lv mv s8 n1.a)->XZ f B2 w' s8 (acc++[N.1])->(∃gk,B2<=gk/\aA [g,gk] u w')->∃lK,Kd F ts w w' b l g t iZ f B B2 n1 en lv mv N.2 (acc++[N.1]) lK:=λhr xG hno ho hz _ w' h1 h2 ⟨gk,h3,h4⟩=>
   ⟨_,hr.far h4 λx hx=>(by
    simp only[aR,bn,cm]at hx;rcases hx with rfl | rfl
    ·exact hg
    ·exact hr.gt aG),h1,hno.keep λi hi cd=>h4.block i cd (by simp only[aR,bn,cm];omega),h2,ho.trans h4 λx hx=>by
    simp only[aR,bn,cm]at hx⊢;omega,bf hz h4.size⟩
  refine⟨λk=>k=g,_,rfl,rfl,kids,rP.nb.Pc (iZ.length+7) (LI rfl),(uV rP.r).mono ?_,?_⟩
  ·rintro _ fp ⟨cs,rfl,hx,Ff⟩;have MW:=TM rP Ff;have Bz:=hx;obtain⟨f',rfl⟩:∃f',f=f'+1:=⟨f-1,aG⟩
   obtain⟨xe,xl,xm,xk,rfl,_⟩:=Bz;obtain⟨y,fD,e2,hy,eL⟩:=hz fp;have xJ:=TM MW (MW.r.dn.q eL);obtain⟨s8,fP,e3,JV,⟨gs,eH,rR⟩,hs8⟩:=ahP (u:=fD) (y:=y) (A:=dS.heap.size) Fa xJ.kd (λk hk=>rP.kd.new hk) ((hy.slice (cX true _)).mono (cX true _) λk hk=>(by
    rcases hk with hk | hk
    ·exact hk.elim
    exact bf Ff.o.size hk.1)) (bf Ff.o.size eL.size)
   have Ig:∀x,x∈gs->x≠g:=λx hx=>acU
   have z14:=eH.size;have WO:=xJ.lB;have z12:=Ff.o.size;refine⟨_,_,_,_,xe,xl,xm,xk,_,rfl,sk (x:=s') rP.lB Ff,De Ff.o abd,y,fD,e2,sk (x:=s') MW.lB (MW.r.dn.q eL),De eL aaa,s8,fP,e3,eH.same (λx hx=>?_),De eH Ig,?_⟩
   ·simp only[aO]at hx;subst hx;exact⟨aG,λhm=>by have:=(rR x hm).1;omega⟩
   refine CG (H:=λk=>dS.heap.size<=k/\k<fp.heap.size) (acc:=acc) ?_ (λk hk _=>⟨bf Fa hk.1,hs8 k hk.1 (cq hk.2 eL.size)⟩) (λk hk=>bf Fa hk.1) JV rP.kd.len (eH.blk xJ.nb λhm=>Ig g hm rfl) aG aG YO (WU (xJ.r.own eH λx hx=>acU) (eH.blk xJ.nb λhm=>Ig g hm rfl) (xJ.no.keep λi hi cd=>eH.block i cd λhm=>(by have:=(rR i hm).1;omega)) (xJ.o.trans eH λx hx=>.inr (by have:=(rR x hx).1;have:=rP.o.size;omega)) (bf WO z14) JV);refine(cX true _).keep ((cX true _).inHeap hx) λk hk cd=>?_;exact(eH.block k (cq cd eL.size) λhm=>by have:=(rR k hm).2;have:=hk.1;omega).trans (eL.block k cd aaa)
  obtain⟨y,jU,e2,hy,jD⟩:=hz dS;have HO:=TM rP (rP.r.dn.q jD);refine⟨y,jU,e2,sk (x:=s') rP.lB (rP.r.dn.q jD),De jD aaa,(uV HO.r).mono ?_⟩;rintro _ jm ⟨cs,rfl,hx,h20⟩;have FB:=TM HO h20;have Bz:=hx;obtain⟨f',rfl⟩:∃f',f=f'+1:=⟨f-1,aG⟩
  obtain⟨xe,xl,xm,xk,rfl,_⟩:=Bz;have aoq:=(((hy.slice (cX true _)).inHeap (cX true _) aN).keep (cX true _) aN (w':=jm) λk hk cd=>h20.o.block k cd (by
   rcases hk.1 with hk | hk
   ·exact hk.elim
   ·have:=hk.1;simp only[aO];omega)).mono (cX true _) (G:=Fr dS.heap.size) λk hk=>(by
   rcases hk.1 with hk | hk
   ·exact hk.elim
   exact hk.1)
  obtain⟨s8,lm,e3,JV,⟨gs,kK,rR⟩,hs8⟩:=ahP (u:=jm) (y:=y) (A:=dS.heap.size) Fa FB.kd (λk hk=>rP.kd.new hk) aoq (bf jD.size h20.o.size);have Ig:∀x,x∈gs->x≠g:=λx hx=>acU
  have z21:=kK.size;have z20:=FB.lB;have z19:=jD.size;refine⟨_,_,_,_,xe,xl,xm,xk,_,rfl,sk (x:=s') HO.lB h20,De h20.o abd,s8,lm,e3,kK.same (λx hx=>?_),De kK Ig,?_⟩
  ·simp only[aO]at hx;subst hx;exact⟨aG,λhm=>by have:=(rR x hm).1;omega⟩
  refine CG (H:=λk=>jU.heap.size<=k/\k<jm.heap.size) (acc:=acc) ?_ (λk hk _=>⟨by show B2<=k;omega,hs8 k aG hk.2⟩) (λk hk=>aG) JV rP.kd.len (kK.blk FB.nb λhm=>Ig g hm rfl) aG aG YO (WU (FB.r.own kK λx hx=>acU) (kK.blk FB.nb λhm=>Ig g hm rfl) (FB.no.keep λi hi cd=>kK.block i cd λhm=>(by have:=(rR i hm).1;omega)) (FB.o.trans kK λx hx=>.inr (by have:=(rR x hx).1;have:=rP.o.size;omega)) (bf z20 z21) JV);refine(cX true _).keep ((cX true _).inHeap hx) λk hk cd=>?_;exact kK.block k cd λhm=>by have:=(rR k hm).2;have:=hk.1;omega
 have hc:=NS hc;rw[aZ hc]at hR;refine⟨_,Blk.eE k6.r.blk 6 rfl,b,6,_,_,rfl,k6.r.blk,aaa,hkb,λpq iz aos=>?_⟩;have WJ:=TM k6 (y:={s' with d:=inc s'.d}) ⟨iz,k6.r.nR iz aos k6.r.lt⟩;obtain⟨q,tU,e1,pH,hm⟩:=qt WJ.r [125];have k27:=TM WJ (WJ.r.dn.q pH);refine⟨q,tU,e1,sk (x:=s') WJ.lB (WJ.r.dn.q pH),hm.mono ?_⟩;rintro _ yv ⟨rfl,h28⟩;have Tn:=TM k27 h28;refine⟨rfl,sk (x:=s') k27.lB h28,rfl,_,Tn.nb,?_,Tn.o,?_⟩
 ·rw[<-hR];refine⟨en,lv,mv,kids,rfl,Tn.no.mono λk hk=>bf zw1 hk.1,(Tn.kd.sl (cX true f) λk hk=>hk).low (cX true f) aG⟩
 rw[<-hR];exact Tn.r
end
def Tk.Good(t:Tk):Prop:=(t.k=2->∃c r,t.t=c::r/\iH c=true)/\(t.k=4->∃c r,t.t=c::r/\iH c=false)/\0<=t.n/\t.n<=9223372036854775807
theorem RD{m:aJ}{q:Tq}(h:vG m=.ok q):q.1≠5/\∀a,Tk.Good ⟨q.1,q.2.1,q.2.2.1,a⟩:=by
 cases m with
 | nil=>cases h
 | cons c r=>
  simp only[vG]at h;split at h
  ·rename_i hc;unfold uk at h;split at h
   ·cases h
   injection h with h;subst h;have hw:iH c=true:=by unfold iH;rw[hc];rfl
   refine⟨by dsimp only;split<;>decide,λa=>⟨λ_=>?_,λh4=>?_,abl,abl⟩⟩
   ·dsimp only;rw[eN,aZ hw];exact⟨c,_,rfl,hw⟩
   dsimp only at h4;split at h4<;>exact absurd h4 aN
  rename_i hl;split at h
  ·rename_i hc;unfold Ax at h;split at h
   ·cases h
   split at h
   ·cases h
   injection h with h;subst h;refine⟨abl,λa=>⟨λh=>absurd h abl,λh=>absurd h abl,abh,?_⟩⟩;dsimp only;unfold gW;split
   ·dsimp only;decide
   split
   ·dsimp only;decide
   split
   ·dsimp only;omega
   dsimp only;decide
  rename_i hd;unfold ul at h;split at h
  ·cases h
  rename_i hs;injection h with h;subst h;refine⟨abl,λa=>⟨λh=>absurd h abl,λ_=>?_,abl,abl⟩⟩;obtain⟨n,hn⟩:∃n,nB (c::r)=n+1:=⟨nB (c::r)-1,aG⟩
  dsimp only;rw[hn,eB];refine⟨c,_,rfl,?_⟩;unfold iH;rw[fT];exact⟨adH,by simpa using hd⟩
theorem GZ{l:aJ}:∀(n i:Nat),i<=l.length->l.length-i<=n->∀r,vI l i=.ok r->∃(fr:List Tk) (a:Int),r=fr++[⟨5,[],0,a⟩]/\(∀t,t∈fr->t.k≠5/\t.Good)/\r.length<=l.length-i+1
 | n,i,hi,hn,r,h=>by
  rw[qe hi]at h;split at h
  ·injection h with h;exact⟨[],_,h.symm,λt ht=>(by cases ht),by rw[<-h,bO];omega⟩
  split at h
  ·cases h
  rename_i q hq;have q1:=vH hq;have q2:=DY hq;rw[cM]at q2;split at h
  ·cases h
  rename_i r' Uv;injection h with h;subst h
  match n,hn with
  | 0,hn=>omega
  | n+1,hn=>
   obtain⟨fr,a,e,hf,hl⟩:=GZ n _ aG aG _ Uv;have hg:=RD hq;refine⟨_::fr,a,by rw[e];rfl,λt ht=>?_,by rw[bp];omega⟩;rcases aR.1 ht with rfl | ht
   ·exact⟨hg.1,hg.2 _⟩
   exact hf t ht
theorem VF{fr:List Tk}{a:Int}(h:∀t,t∈fr->t.k≠5):wZ (fr++[⟨5,[],0,a⟩]):=λi hi=>by
 rw[aW,bO]at hi;unfold tk;by_cases hl:i<fr.length
 ·rw[bK hl,aQ hl,jY,aW,bO];exact⟨λe=>absurd e (h _ (eF hl)),λe=>aG⟩
 have e:i=fr.length:=aG
 subst e;rw[bX (ba _),Kf,aW,bO];exact⟨λ_=>rfl,λ_=>rfl⟩
theorem LK{l:aJ}:∀(n i:Nat),i<=l.length->l.length-i<=n->∀x,vI l i=.error x->x.1≠0
 | n,i,hi,hn,x,h=>by
  rw[qe hi]at h;split at h
  ·cases h
  split at h
  ·rename_i e hq;injection h with h;subst h;exact KU hq
  rename_i q hq;have q1:=vH hq;have q2:=DY hq;rw[cM]at q2;split at h
  ·rename_i y hy;injection h with h;subst h
   match n,hn with
   | 0,hn=>omega
   | n+1,hn=>exact LK n _ aG aG _ hy
  cases h
theorem I6{l:aJ}(h:(dC l).2.1=0):wZ (dC l).1/\(∀t,t∈(dC l).1->t.Good)/\0<(dC l).1.length/\(dC l).1.length<=16385:=by
 unfold dC at h⊢;split at h
 ·cases h
 rename_i hl;rw[aX hl];cases hr:vI l 0 with
 | error x=>
  rw[hr]at h;exact absurd h (LK l.length 0 (bB _) aG _ hr)
 | ok r=>
  obtain⟨fr,a,e,hf,hn⟩:=GZ l.length 0 (bB _) aG r hr;dsimp only;subst e;refine⟨VF λt ht=>(hf t ht).1,λt ht=>?_,abo,aG⟩;rcases ci.1 ht with ht | ht
  ·exact(hf t ht).2
  simp only[aO]at ht;subst ht;exact⟨λh=>absurd h abl,λh=>absurd h abl,abl,abl⟩
section
variable {F:aL} {ts:List Tk} {w w' w2:ay} {b:Nat} {l:Sl} {s s':Sx}
theorem LM:∀(f:Nat) (d:Int),0<=d->d<f->d<=9223372036854775807->XY F ts b l f d
 | 0,d,h0,h1,_=>aG
 | f+1,d,h0,h1,h2=>by
  intro k u w h hd;refine(afk ⟨b,0,none⟩ k (λv w'=>∃cs,v=(aj cs.toArray)/\pC true (f+1) w' (Fr w.heap.size) (lg ts (f+1) k u).1 cs/\Dn F ts w w' b l (lg ts (f+1) k u).2) w ?_).mono (by
   rintro e w' ⟨v,rfl,cs,rfl,h⟩;exact⟨cs,rfl,h⟩)
  intro k0 w0 hY fA cQ;have t0:=h.zt.al cQ hY fA;refine(GY t0.r k).mono ?_;rintro _ w1 ⟨rfl,h1'⟩;have t1:=t0.nx h1';have TN:=AJ h.en k u;have hnd:=Vv (ts:=ts) (k:=k) (s:=u);rw[lg];have xG:(fh ts k u).1.ini=[]/\(fh ts k u).1.dft=[]/\(fh ts k u).1.en=[]/\(fh ts k u).1.lv=[]/\(fh ts k u).1.mv=[]:=⟨rfl,rfl,rfl,rfl,rfl⟩
  generalize fh ts k u=N at*
  obtain⟨nb,u1⟩:=N;dsimp only at*
  obtain⟨i1,i2,i3,i4,i5⟩:=xG;obtain⟨nk,nnm,aot,aou,nen,nlv,nmv,na⟩:=nb;dsimp only at i1 i2 i3 i4 i5;subst i1 i2 i3 i4 i5;dsimp only at*
  refine⟨_,_,_,_,Sl.nil,Sl.nil,Sl.nil,Sl.nil,_,rfl,t0.sc h1' aaa,λhc k1 w2 j9 jW dw=>?_,λhc k2 dR uY xM eO=>?_⟩
  ·rw[aZ abt];have t2:=t1.al dw j9 jW;obtain⟨q,w3,e1,dE,hm⟩:=qt t2.r [45,62];have t3:=t2.q dE;refine⟨q,w3,e1,t2.sq dE aaa,hm.mono ?_⟩;rintro _ w4 ⟨rfl,h4⟩;have t4:=t3.nx h4;refine⟨rfl,t3.sc h4 aaa,(vP t4.r).mono ?_⟩;rintro _ w5 ⟨rfl,h5⟩;have t5:=t4.nx h5;refine⟨_,rfl,t4.sc h5 aaa,λw6 eI=>?_⟩;have t6:=t5.f eI aaa;obtain⟨q,w7,e1,fL,hm⟩:=qt t6.r [59];have t7:=t6.q fL;refine⟨q,w7,e1,t6.sq fL aaa,hm.mono ?_⟩;rintro _ w8 ⟨rfl,h8⟩;have t8:=t7.nx h8;refine⟨rfl,t7.sc h8 aaa,λw9 gy=>⟨_,rfl,⟨Sl.nil,Sl.nil,Sl.nil,Sl.nil,rfl,⟨jR.nil _ _ _ _ _ _,jR.nil _ _ _ _ _ _,jR.nil _ _ _ _ _ _⟩,jR.nil _ _ _ _ _ _⟩,(t8.f gy aaa).dn⟩⟩
  rw[aX abN];have t10:=t1.al eO uY xM;obtain⟨q,dS,e1,ey,hm⟩:=qt t10.r [123];have t11:=t10.q ey;refine⟨q,dS,e1,t10.sq ey aaa,hm.mono ?_⟩;rintro _ fp ⟨rfl,Ff⟩;have t12:=t11.nx Ff;have hms:=io (s:=u1) h.en [123];refine⟨rfl,t11.sc Ff aaa,λhB _=>?_⟩;have hsd:(eP ts u1 [123]).d=d:=hms.d.trans (TN.d.trans hd);refine(LJ (f:=f) t12.r (iZ:=[]) (n:=⟨nk,nnm,[],[],[],[],[],na⟩) rfl rfl rfl hB (t12.r.gt (t12.lt aaa)) (by rw[hsd];exact⟨aG,h2⟩) (λhf=>?_)).mono ?_
  ·have hd0:=hnd (hms.le hf).1;rw[hd]at hd0;have Ul:zd d=d-1:=by unfold zd;rw[gF aG aG]
   rw[hsd,Ul];exact⟨aG,LM f (d-1) aG aG aG⟩
  rintro _ fD ⟨rfl,cs,Bw,hx,eL,aow⟩;have Bz:=hx;obtain⟨xe,xl,xm,xk,rfl,_⟩:=Bz;have WO:Fz [b] w fD [k2,k0]:=t12.z.go eL λx hx=>abD
  have l2:=t12.lt (k0:=k2) aaa;have l0:=t12.lt (k0:=k0) aaa;have k0l:=(t1.z.k k0 aaa).2;refine⟨rfl,t12.z.sm eL aaa (λx hx=>?_),_,_,_,_,xe,xl,xm,xk,_,Bw,λfP eH HQ=>⟨_,rfl,?_,?_⟩⟩
  ·simp only[aR,bn,cm]at hx;rcases hx with rfl | rfl
   ·exact .inl aaa
   exact .inr λy hy=>by simp only[aO]at hy;omega
  ·refine(cX true _).low ((cX true _).stay hx ((Stay.refl _ _).f eH (.inl ?_))) t12.z.o.size;have:=(t12.z.k k0 aaa).2;exact this
  exact⟨(WO.f eH aaa).o,aow.one eH l0⟩
theorem aam(h:Sr F ts w b l s)(hg:∀t,t∈ts->t.Good):aB au 91 #[rp b] w λe w'=>e=aq (aj #[ah (T (uM ts s).1.n),O ae (uM ts s).1.v,O ae (uM ts s).1.a])/\Dn F ts w w' b l (uM ts s).2:=by
 refine ret (ae8 _ _ _ ?_);intro k0 w0 hY fA cQ;have t0:=h.zt.al cQ hY fA;obtain⟨ad,g1,g2⟩:=t0.r.now;unfold uM;dsimp only;generalize u7:(if(tk ts s.i).k=1 then GD ts s else s)=s1;refine⟨λw'=>Zt F ts w w' b l s1 [k0],λw1 t1=>(vO t1.r (k:=1) aN).mono ?_,l,Blk.eE t0.r.blk 0 rfl,_,Blk.eE t0.r.blk 1 rfl,ad,g1,_,g2.eE 0 _ rfl,λhc fp fu=>?_,λhc fP eH=>?_⟩
 ·rintro _ w2 ⟨rfl,h2⟩;have t2:=t1.nx h2;refine⟨_,_,_,_,rfl,t1.sc h2 aaa,λk1 w3 j9 jW dE=>?_⟩;have t3:=t2.al dE j9 jW;obtain⟨q,w4,e1,dL,hm⟩:=qt t3.r [61];have t4:=t3.q dL;refine⟨q,w4,e1,t3.sq dL aaa,hm.mono ?_⟩;rintro _ w5 ⟨rfl,h5⟩;have t5:=t4.nx h5;refine⟨rfl,t4.sc h5 aaa,?_⟩;obtain⟨q,w6,e1,eI,hm⟩:=CF t5.r [[45]] (n:=1) (parts:=#[(0,ah (T [45]))]) rfl rfl aN aN;have t6:=t5.q eI;refine⟨q,w6,e1,t5.sq eI aaa,hm.mono ?_⟩;rintro _ w7 ⟨rfl,h7⟩;have t7:=t6.nx h7;generalize hgg:dk ts (eP ts (ik ts s1 1).2 [61]) [[45]]=gg at*
  have WW:gg<=1:=by rw[<-hgg];exact GI _
  refine⟨_,rfl,t6.sc h7 aaa,(vO t7.r (k:=3) aN).mono ?_⟩;rintro _ w8 ⟨rfl,h8⟩;have t8:=t7.nx h8;refine⟨_,_,_,_,rfl,t7.sc h8 aaa,?_⟩;obtain⟨q,w9,e1,gy,hm⟩:=qt t8.r [59];have t9:=t8.q gy;refine⟨q,w9,e1,t8.sq gy aaa,hm.mono ?_⟩;rintro _ dR ⟨rfl,TH⟩;refine⟨rfl,t9.sc TH aaa,λdS ey=>⟨?_,((t9.nx TH).f ey aaa).dn⟩⟩;have hn:∀u:Sx,0<=(ik ts u 3).1.n/\(ik ts u 3).1.n<=9223372036854775807:=λu=>by
   unfold ik;split
   ·exact⟨oa 0,(by decide:(0:Int)<=9223372036854775807)⟩
   unfold tk;cases hx:ts[u.i]? with
   | none=>exact⟨oa 0,(by decide:(0:Int)<=9223372036854775807)⟩
   | some t=>exact(hg t (bD hx)).2.2
  obtain⟨n0,n1⟩:=hn (if gg=0 then eP ts (ik ts s1 1).2 [61]else dJ (eP ts (ik ts s1 1).2 [61]));generalize (ik ts (if gg=0 then eP ts (ik ts s1 1).2 [61]else dJ (eP ts (ik ts s1 1).2 [61])) 3).1.n=x at*
  have e:av ae ((av ae (1-(av ae (2*(gg:Int)))))*x)=if gg=0 then x else av ae (-x):=by
   rcases(by omega:gg=0∨gg=1)with rfl | rfl
   ·rw[aZ rfl];show av ae (1*x)=x;rw[Int.one_mul,gF aG aG]
   rw[aX aN];show av ae (-1*x)=_;rw[Int.neg_one_mul]
  rw[e]
 ·refine(aaj (t0.q fu).r).mono ?_;rintro _ fD ⟨rfl,wB⟩;refine⟨rfl,(t0.q fu).sc wB aaa,?_⟩;rw[<-u7,aZ aaw];exact(t0.q fu).nx wB
 rw[<-u7,aX aaw];exact t0.q eH
end
theorem X1(w:ay)(F:aL):ChR true 15 w F ch0 Sl.nil (oC 0 [] [] [] Sl.nil Sl.nil Sl.nil Sl.nil 0):=⟨jR.nil _ _ _ _ _ _,RC aN _ _⟩
theorem ChR.stay{d:Nat}{w w':ay}{B:Nat}{c:Ch}{vs:Sl}{cs:aK}(h:ChR true d w (Fr B) c vs cs)(hs:Stay B w w'):ChR true d w' (Fr B) c vs cs:=⟨h.vars.stay gv aN hs,(cX true d).stay h.root hs⟩
theorem ChR.low{d:Nat}{w:ay}{A B:Nat}{c:Ch}{vs:Sl}{cs:aK}(h:ChR true d w (Fr B) c vs cs)(hA:A<=B):ChR true d w (Fr A) c vs cs:=⟨h.vars.low gv hA,(cX true d).low h.root hA⟩
theorem aan{ts:List Tk}(hE:wZ ts){s:Sx}{ss:List (aJ)}(hi:s.i<ts.length)(hw:dk ts s ss≠0):mu ts (uM ts (dJ s)).2<mu ts s:=
 pe hE (dB hw).1 hi (dB hw).2 (Re hE (dJ s)).toOn0
theorem G0{w:ay}(l:aJ)(hE:Er w):aB au 56 #[ah (T l)] w λe w'=>
  ∃(vs:Sl) (cs:aK),e=aq (ak #[aj (vs.v::cs).toArray,aj #[O ae (dK l).2.1,O ae (dK l).2.2]])/\ChR true 15 w' (Fr w.heap.size) (dK l).1 vs cs/\aA [] w w':=by
 refine(aeF (T l) (λv w'=>∃(vs:Sl) (cs:aK),v=(ak #[aj (vs.v::cs).toArray,aj #[O ae (dK l).2.1,O ae (dK l).2.2]])/\ChR true 15 w' (Fr w.heap.size) (dK l).1 vs cs/\aA [] w w') w ?_).mono (by
  rintro e w' ⟨v,rfl,vs,cs,rfl,h⟩;exact⟨vs,cs,rfl,h⟩)
 generalize hP:dK l=P;unfold dK at hP;intro k0 k1 w0 hY fA j9 jW cQ;have z0:=cQ.size;refine(Gs l (hE.only cQ)).mono ?_;rintro _ w1 ⟨rs,rfl,hT,cJ⟩;have z1:=cJ.size;have jV:=cQ.cy cJ;have tOk:=I6 (l:=l);have aox:∀{w2 w3:ay},aA [] w1 w2->aA [k1,k0] w2 w3->aA [] w w3:=λdw dE=>((jV.cy dw).trans dE λx hx=>.inr aaJ)
 refine⟨rs,_,_,rfl,cJ.same aab,λhc k2 w2 uY xM dw n1 n2 n3=>⟨λk=>k=k2,rfl,λe=>n2 e,λe=>n3 e,λw3 dE=>?_⟩,λhc k3 k4 k5 w4 zo xN zq BZ Da HU dL=>?_⟩
 ·have hc:(dC l).2.1≠0:=aaw
  rw[aZ hc]at hP;subst hP;exact⟨Sl.nil,_,rfl,X1 _ _,aox dw dE⟩
 have hc:(dC l).2.1=0:=aaw
 obtain⟨hEn,OJ,ahS,fl⟩:=tOk hc;rw[aX aaw]at hP;have aoy:=((hT.sl.inHeap jH aN).mono jH (G:=λk=>w0.heap.size<=k/\k<w1.heap.size) λk hk=>⟨hk.1.1,hk.2⟩)
 generalize (dC l).1=ts at*
 clear tOk hT;have z4:=dL.size;obtain⟨q,w5,e1,hq,eK⟩:=og w4 [gR] (n:=1) (parts:=#[(0,ah (T gR))]) rfl rfl aN aN;have z5:=eK.size;refine⟨q,w5,e1,eK.same aab,λxL n04 n14 n34 n54=>?_⟩;have r5:Sr (λk=>w0.heap.size<=k/\k<w1.heap.size) ts w5 k4 rs H5:=⟨xL,SliceF.only jH aN aoy (dL.cy eK) aaa,λk hk=>ade,hEn,ahS,aG⟩
 have Pm:∀k,(λk=>w0.heap.size<=k/\k<w1.heap.size) k->k<w1.heap.size:=λk hk=>hk.2;generalize (λk=>w0.heap.size<=k/\k<w1.heap.size)=F at*
 have w5w:aA [] w w5:=(jV.cy dL).cy eK;have sm:∀{u u':ay} {x:Sx},w5.heap.size<=u.heap.size->Dn F ts u u' k4 rs x->cj [k0,k1,k3,k5] u u':=λhz d=>d.o.same (by
  intro x hx;simp only[aR,bn,cm]at hx⊢;omega)
 have sq:∀{u u':ay},w5.heap.size<=u.heap.size->aA [] u u'->cj [k0,k1,k3,k4,k5] u u':=λhz o=>o.same λx hx=>⟨by
  simp only[aR,bn,cm]at hx;omega,aaa⟩
 have oD:∀{u u':ay} {x:Sx},aA [] w u->Dn F ts u u' k4 rs x->aA [] w u':=λo d=>o.trans d.o λx hx=>.inr aaD;have o5:∀{u u':ay},aA [] w u->aA [k5] u u'->aA [] w u':=λo d=>o.trans d λx hx=>.inr aaD;have r55:∀{u u':ay} {x:Sx},Sr F ts u k4 rs x->aA [k5] u u'->Sr F ts u' k4 rs x:=λr o=>r.aa1 o ⟨n54,λhF=>by have:=Pm _ hF;omega⟩;have H8:=xL.lt;refine(LF r5 (vF hq) λk hk e=>(by have:=hk.1;omega)).mono ?_;rintro _ w6 ⟨rfl,h6⟩;have z6:=h6.o.size;refine⟨rfl,sm (ba _) h6,rs,_,_,_,_,_,_,_,_,h6.r.blk,(GY h6.r 1).mono ?_⟩;rintro _ w7 ⟨rfl,h7⟩;have z7:=h7.o.size;have hC:AH ts=(⟨(yd ts (ts.length+1) [] (eP ts (fh ts 1 (eP ts H5 gR)).2 [123])).1,(rB ts (lg ts 14) (fh ts 1 (eP ts H5 gR)).1 (yd ts (ts.length+1) [] (eP ts (fh ts 1 (eP ts H5 gR)).2 [123])).2).1⟩,NL ts (rB ts (lg ts 14) (fh ts 1 (eP ts H5 gR)).1 (yd ts (ts.length+1) [] (eP ts (fh ts 1 (eP ts H5 gR)).2 [123])).2).2):=rfl;have xG:(fh ts 1 (eP ts H5 gR)).1.ini=[]/\(fh ts 1 (eP ts H5 gR)).1.dft=[]/\(fh ts 1 (eP ts H5 gR)).1.en=[]/\(fh ts 1 (eP ts H5 gR)).1.lv=[]/\(fh ts 1 (eP ts H5 gR)).1.mv=[]:=⟨rfl,rfl,rfl,rfl,rfl⟩
 have on7:On ts H5 (fh ts 1 (eP ts H5 gR)).2:=(io hEn _).trans (AJ hEn _ _);generalize fh ts 1 (eP ts H5 gR)=N at*
 obtain⟨⟨nk,nnm,aot,aou,nen,nlv,nmv,na⟩,u1⟩:=N;dsimp only at*
 obtain⟨i1,i2,i3,i4,i5⟩:=xG;subst i1 i2 i3 i4 i5;refine⟨_,_,_,_,Sl.nil,Sl.nil,Sl.nil,Sl.nil,_,rfl,sm z6 h7,rs,_,_,_,_,_,_,_,_,h7.r.blk,λw8 fV uB=>?_⟩;have z8:=fV.size;have r8:=r55 h7.r fV;have w8w:=o5 (oD (oD w5w h6) h7) fV;obtain⟨q,w9,e1,gy,hm⟩:=qt r8 [123];have z9:=gy.size;refine⟨q,w9,e1,sq aG gy,hm.mono ?_⟩;rintro _ dR ⟨rfl,TH⟩;have Pu:=TH.o.size;have aoz:=oD (w8w.cy gy) TH;have aoA:On ts H5 (eP ts u1 [123]):=on7.trans (io hEn _);clear hm;generalize eP ts u1 [123]=u2 at*
 generalize hV:yd ts (ts.length+1) [] u2=V at*
 generalize hB:dR.heap.size=B at*
 refine⟨rfl,sm aG TH,rs,_,_,_,_,_,_,_,_,TH.r.blk,λnv l10 i28 s3 s4 s5 pK rG xI yN i29 BE i30 i31 i32 i33 i34 i35 i36 i37 w'=>∃(u:Sx) (acc:List Vr),i28=nk/\s3=T nnm/\s4=T []/\s5=T []/\pK=Sl.nil/\rG=Sl.nil/\xI=Sl.nil/\yN=Sl.nil/\i29=na/\Sr F ts w' k4 rs u/\Own T9 3 119 B w' (Fr B) l10 acc/\yd ts nv acc u=V/\mu ts u<nv/\acc.length+mu ts u<=ts.length/\aA [] w w'/\B<=w'.heap.size/\u.d=12,
  ts.length+1,⟨u2,[],rfl,rfl,rfl,rfl,rfl,rfl,rfl,rfl,rfl,TH.r,Own.nil _ _ _ _ _ _,hV,vd (rD _ _),adv,aoz,oQ hB.symm,aoA.d⟩,?_⟩
 clear hV;rintro nv l10 nk2 _ _ _ _ _ _ _ na2 BE i30 i31 i32 i33 i34 i35 i36 i37 dS ⟨u,acc,rfl,rfl,rfl,rfl,rfl,rfl,rfl,rfl,rfl,r11,TP,hR,hf1,Pq,aoB,zB,hud⟩;obtain⟨m,rfl⟩:∃m,nv=m+1:=⟨nv-1,aG⟩
 rw[yd]at hR;obtain⟨q,fp,e1,fu,hm⟩:=CF r11 [GF] (n:=1) (parts:=#[(0,ah (T GF))]) rfl rfl aN aN;have z12:=fu.size;refine⟨q,fp,e1,sq aG fu,hm.mono ?_⟩;rintro _ fD ⟨rfl,wB⟩;have WO:=wB.o.size;have ack:=oD (aoB.cy fu) wB;have YP:Own T9 3 119 B fD (Fr B) l10 acc:=(TP.stay gv fu λx hx=>adf).stay gv wB.o λx hx=>.inl aaD;refine⟨_,rfl,sm aG wB,rs,_,_,_,_,_,_,_,_,wB.r.blk,λtu fP eH HQ=>?_,λtu Bw m05 m15 m35=>?_⟩
 ·have tu:=NT tu;rw[aX tu]at hR wB;have z14:=eH.size;have r14:=wB.r.only eH;refine⟨λk=>k=k5,rfl,(aam r14 OJ).mono ?_⟩;rintro _ iP ⟨rfl,PA⟩;have z15:=PA.o.size;have hmu:=aan hEn r11.lt tu;have TN:=Re hEn (dJ u);generalize uM ts (dJ u)=X at*
  obtain⟨x,u'⟩:=X;dsimp only at*
  have Dc:=rD ts u;have ahT:Own T9 3 119 B iP (Fr B) l10 acc:=(YP.stay gv eH λx hx=>adf).stay gv PA.o λx hx=>.inl aaD;obtain⟨y,jl,e2,je,Dd,gN,e3,nc,⟨gs,lp,rR⟩,_⟩:=jr (P:=au) (t:=22) (ty:=22) (e:=119) (i:=Tryz.t119) (bytes:=32) (size:=3) (v:=aj #[ah (T x.n),O ae x.v,O ae x.a]) (x:=x) (G:=λ_=>False) (by kernel_rfl) (by kernel_rfl) rfl rfl rfl rfl aN aN aN gv ahT aG rfl rfl (λk hk _=>hk.elim) aG;have qI:∀g,g∈gs->B<=g:=λg hg=>(rR g hg).2.1;have z16:=je.size;have z17:=lp.size;refine⟨_,_,_,rfl,sm aG PA,rs,_,_,_,_,_,_,_,_,PA.r.blk,λk hk cd=>(by subst hk;exact PA.o.block k cd abd),y,jl,e2,sq aG je,bP.only je,Dd,gN,e3,lp.same (λx hx=>?_),λk hk cd=>(by subst hk;exact lp.block k cd λhm=>(by have:=qI k hm;omega)),λjL kT TL=>?_⟩
  ·simp only[aR,bn,cm]at hx;exact⟨aG,λhm=>by have:=qI x hm;omega⟩
  have z18:=kT.size;have r17:Sr F ts gN k4 rs u':=(PA.r.only je).own lp λx hx=>(by have:=qI x hx;omega)
  refine⟨m,OZ _,u',acc++[x],rfl,rfl,rfl,rfl,rfl,rfl,rfl,rfl,rfl,r55 r17 kT,?_,hR,aG,abo,o5 (((oD (ack.cy eH) PA).cy je).trans lp λx hx=>.inr (by have:=qI x hx;have:=ack.size;omega)) kT,aG,TN.d.trans hud⟩;refine(nc.mono gv λk hk=>?_).stay gv kT λx hx=>.inl aaD;rcases hk with hk | hk
  ·exact hk
  show B<=k;omega
 have tu:=NS tu;rw[aZ tu]at hR wB;subst hR;dsimp only at hC;have r13:=wB.r;refine(LJ (f:=14) r13 (iZ:=[l10.v]) (n:=⟨nk2,nnm,[],[],[],[],[],na2⟩) rfl rfl rfl Bw ⟨n54,λhF=>(by have:=Pm _ hF;omega)⟩ (by rw[hud];exact⟨aN,aN⟩) (λ_=>by
  rw[hud];exact⟨aN,LM 14 11 aN aN aN⟩)).mono ?_
 generalize rB ts (lg ts 14) ⟨nk2,nnm,[],[],[],[],[],na2⟩ u=D at*
 obtain⟨root,s1⟩:=D;dsimp only at hC;rw[hC]at hP;dsimp only at hP;rintro _ jU ⟨rfl,cs,ahU,hx,jD,r19⟩;dsimp only at*
 have z19:=jD.size;have aoE:aA [] w jU:=ack.trans jD λx hx=>.inr aaJ;have aoF:Stay B fD jU:=Stay.of jD λx hx=>.inl aaJ;have c19:ChR true 15 jU (Fr w5.heap.size) ⟨acc,root⟩ l10 cs:=⟨((YP.sl gv λk hk=>hk).stay gv aN aoF).low gv aG,(cX true 15).low hx aG⟩
 have Bz:=hx;obtain⟨xe,xl,xm,xk,rfl,_⟩:=Bz;have sm3:∀{u u':ay} {bs:List Nat},w5.heap.size<=u.heap.size->aA bs u u'->(∀x,x∈bs->x=k4∨x=k5)->cj [k0,k1,k3] u u':=λhz o hb=>o.same λx hx=>⟨aaJ,λhm=>by have:=hb x hm;simp only[aR,bn,cm]at hx;omega⟩
 refine⟨rfl,sm3 aG jD aaa,rs,_,_,_,_,_,_,_,_,r19.blk,l10,_,_,_,_,xe,xl,xm,xk,_,ahU,?_⟩;have st:∀{u u':ay} {x:Sx},Sr F ts u k4 rs x->aH u k5 29 (l10.v::oC root.b.k root.b.nm root.b.ini root.b.dft xe xl xm xk root.b.a)->aA [] w u->ChR true 15 u (Fr w5.heap.size) ⟨acc,root⟩ l10 (oC root.b.k root.b.nm root.b.ini root.b.dft xe xl xm xk root.b.a)->∀{y:Sx},Dn F ts u u' k4 rs y->Sr F ts u' k4 rs y/\aH u' k5 29 (l10.v::oC root.b.k root.b.nm root.b.ini root.b.dft xe xl xm xk root.b.a)/\aA [] w u'/\ChR true 15 u' (Fr w5.heap.size) ⟨acc,root⟩ l10 (oC root.b.k root.b.nm root.b.ini root.b.dft xe xl xm xk root.b.a):=fun{u u' x} a1 a2 a3 a4 {y} d=>
  ⟨d.r,d.o.blk a2 abd,oD a3 d,a4.stay (Stay.of d.o λx hx=>.inl aaD)⟩
 refine⟨λl27 i67 Oy MV WD l28 l29 l30 l31 i68 l32 i69 i70 i71 i72 i73 i74 i75 i76 jm=>w5.heap.size<=jm.heap.size/\Sr F ts jm k4 rs (NL ts s1)/\aH jm k5 29 (l10.v::oC root.b.k root.b.nm root.b.ini root.b.dft xe xl xm xk root.b.a)/\aA [] w jm/\ChR true 15 jm (Fr w5.heap.size) ⟨acc,root⟩ l10 (oC root.b.k root.b.nm root.b.ini root.b.dft xe xl xm xk root.b.a),?_,?_⟩
 ·rintro l27 i67 Oy MV WD l28 l29 l30 l31 i68 l32 i69 i70 i71 i72 i73 i74 i75 i76 jm ⟨z20,a1,a2,a3,a4⟩;refine(my a1).mono ?_;rintro _ lm ⟨rfl,kK⟩;obtain⟨b1,b2,b3,b4⟩:=st a1 a2 a3 a4 (a1.dn.q kK);have z21:=kK.size;refine⟨_,rfl,sm3 z20 kK aaa,rs,_,_,_,_,_,_,_,_,b1.blk,l10,_,_,_,_,xe,xl,xm,xk,_,b2,λhf oA xO _ _ p01 p03 p04 p05 p13 p14 p15 p34 p35 p45=>⟨λk=>k=k4,rfl,λe=>p04 e,λe=>p14 e,λoB kl _ _=>?_⟩,λhf nT BX _ _=>?_⟩
  ·have hf:(NL ts s1).fc≠0:=acT
   rw[aZ hf]at hP;subst hP;exact⟨Sl.nil,_,rfl,X1 _ _,(b3.cy xO).trans kl λx hx=>.inr aaJ⟩
  have hf:¬(NL ts s1).fc≠0:=acT
  rw[aX hf]at hP;subst hP;refine⟨l10,_,rfl,(b4.stay (Stay.of BX λx hx=>.inl aaJ)).low w5w.size,b3.trans BX λx hx=>.inr aaJ⟩
 refine⟨λb1 WG i87 YA s17 s18 WH WI YC l43 i88 l44 i89 i90 i91 i92 i93 i94 i95 i96 mh=>b1=decide (s1.fc=0/\(tk ts s1.i).k≠5)/\w5.heap.size<=mh.heap.size/\Sr F ts mh k4 rs s1/\aH mh k5 29 (l10.v::oC root.b.k root.b.nm root.b.ini root.b.dft xe xl xm xk root.b.a)/\aA [] w mh/\ChR true 15 mh (Fr w5.heap.size) ⟨acc,root⟩ l10 (oC root.b.k root.b.nm root.b.ini root.b.dft xe xl xm xk root.b.a),?_,λtU pH _ _=>?_⟩
 ·rintro b1 WG i87 YA s17 s18 WH WI YC l43 i88 l44 i89 i90 i91 i92 i93 i94 i95 i96 mh ⟨rfl,z25,a1,a2,a3,a4⟩;unfold NL;refine⟨λhb=>(sV a1).mono ?_,λhb=>?_⟩
  ·rw[aZ (aP hb)];rintro _ pq ⟨rfl,h26⟩;obtain⟨b1,b2,b3,b4⟩:=st a1 a2 a3 a4 h26;have z26:=h26.o.size;exact⟨rfl,sm3 z25 h26.o aaa,rs,_,_,_,_,_,_,_,_,b1.blk,l10,_,_,_,_,xe,xl,xm,xk,_,b2,aG,b1,b2,b3,b4⟩
  rw[aX (aY hb)];exact⟨z25,a1,a2,a3,a4⟩
 have z27:=pH.size;obtain⟨a1,a2,a3,a4⟩:=st r19 ahU aoE c19 (r19.dn.q pH);refine(my a1).mono ?_;rintro _ yv ⟨rfl,ug⟩;obtain⟨b1,b2,b3,b4⟩:=st a1 a2 a3 a4 (a1.dn.q ug);have z28:=ug.size;obtain⟨ad,g1,g2⟩:=b1.now;refine⟨_,rfl,sm3 aG ug aaa,rs,_,_,_,_,_,_,_,_,b1.blk,l10,_,_,_,_,xe,xl,xm,xk,_,b2,λhb=>⟨ad,g1,_,g2.eE 0 _ rfl,?_,aG,b1,b2,b3,b4⟩,λhb=>⟨?_,aG,b1,b2,b3,b4⟩⟩
 ·have hb:s1.fc=0:=abj
  rw[bT];simp[hb]
 have hb:¬s1.fc=0:=abj
 simp[hb]
def Bu(w:ay)(b k:Nat):Prop:=∃n c,w.cell? ⟨b,1,none⟩=some (.slice (some ⟨k,0,none⟩) n c)
structure Mw (f:Bool) (b:Nat) (w w':ay):Prop where
 o:aF (λk=>k=b∨(f=false/\Bu w b k)) w w'
 u:∀k,Bu w' b k->Bu w b k∨(f=false/\w.heap.size<=k)
abbrev St:=Bool×Int
structure Qz (w0:ay) (b:Nat) (w:ay) (l:aJ) (st:St):Prop where
 o:aA [] w0 w
 lo:w0.heap.size<=b
 ex:∃(q:Option Addr) (sl:Sl),(q=none∨q=some ⟨b,0,none⟩)/\aH w b 218 [ai q,sl.v,ao st.1,O ae st.2]/\Bf w (b+1) sl l
 i:st.1=false->0<=st.2/\st.2<=400
 big:l.length<=274877906944
structure Up (st:St) (c:Bool) (n:Nat) (cN:St):Prop where
 w:cN.1=((st.1||!c)||decide (400<st.2+n))
 a:cN.1=false->cN.2=st.2+n
theorem or3{a b c:Bool}(h:false=((a||!b)||c)):a=false/\b=true/\c=false:=by
 revert h;cases a<;>cases b<;>cases c<;>decide
theorem Up.ok{st cN:St}{c:Bool}{n:Nat}(h:Up st c n cN)(e:cN.1=false):st.1=false/\c=true/\cN.2=st.2+n/\¬400<st.2+(n:Int):=by
 obtain⟨a,b,d⟩:=or3 (e.symm.trans h.w);exact⟨a,b,h.a e,aY d⟩
theorem Up.tr{st cN acm:St}{c c':Bool}{n n':Nat}(h:Up st c n cN)(k:Up cN c' n' acm):Up st (c&&c') (n+n') acm:=by
 cases e:acm.1 with
 | false=>
  obtain⟨k1,k2,k3,k4⟩:=k.ok e;obtain⟨h1,h2,h3,h4⟩:=h.ok k1;have h5:¬400<st.2+((n+n':Nat):Int):=aG
  refine⟨?_,λ_=>aG⟩;rw[e,h1,h2,k2,bH h5];rfl
 | true=>
  refine⟨?_,λe2=>by rw[e]at e2;cases e2⟩;rw[e];refine Eq.symm (cr λhn=>?_);obtain⟨a1,a2,a3⟩:=or3 (ft.2 hn).symm;rw[aU]at a2;have a3:=aY a3;have h5:¬400<st.2+(n:Int):=aG
  have e1:cN.1=false:=by rw[h.w,a1,a2.1,bH h5];rfl
  have e2:=h.a e1;have h6:¬400<cN.2+(n':Int):=aG
  have:=k.w;rw[e,e1,a2.2,bH h6]at this;cases this
theorem Up.cg{st cN:St}{c c':Bool}{n n':Nat}(h:Up st c n cN)(e:c=c')(en:n=n'):Up st c' n' cN:=by subst e en;exact h
theorem Up.le{st cN:St}{c:Bool}{n:Nat}(h:Up st c n cN)(h0:st.1=false->0<=st.2)(e:cN.1=false):0<=cN.2/\cN.2<=400:=by
 obtain⟨a,b,d,h2⟩:=h.ok e;have:=h0 a;omega
section
variable {f g:Bool} {w0 ws w w' w1 tt:ay} {b k:Nat} {l l':aJ} {st cN:St} {ks ks':List Nat}
theorem Mw.refl(f:Bool)(b:Nat)(w:ay):Mw f b w w:=⟨OnlyP.refl _ _,λ_ h=>.inl h⟩
theorem Mw.trans(h:Mw f b w w')(k:Mw f b w' tt):Mw f b w tt:=by
 have z:=h.o.size;refine⟨h.o.trans k.o λx hx=>?_,λx hx=>?_⟩
 ·rcases hx with hx | ⟨ef,hx⟩
  ·exact .inl (.inl hx)
  rcases h.u x hx with e | ⟨_,e⟩
  ·exact .inl (.inr ⟨ef,e⟩)
  exact .inr e
 rcases k.u x hx with e | ⟨ef,e⟩
 ·exact h.u x e
 exact .inr ⟨ef,aG⟩
theorem Mw.up(h:Mw f b w w'):Mw false b w w':=⟨h.o.mono λk _ hk=>hk.elim .inl λe=>.inr ⟨rfl,e.2⟩,λk hk=>(h.u k hk).elim .inl λe=>.inr ⟨rfl,e.2⟩⟩
theorem Mw.ago(h:Mw true b w w'):aA [b] w w':=h.o.agi λk hk=>hk.elim (λe=>.inl (by rw[e];simp)) λe=>(by cases e.1)
theorem vQ(h:w'.heap[b]? =w.heap[b]?){k:Nat}(hb:Bu w' b k):Bu w b k:=by
 obtain⟨n,c,hc⟩:=hb;refine⟨n,c,?_⟩;unfold World.cell? at hc⊢;rw[h]at hc;exact hc
theorem Qz.lb(h:Qz w0 b w l st):b<w.heap.size:=by
 obtain⟨q,sl,_,hB,_⟩:=h.ex;exact hB.lt
theorem Qz.arg(h:Qz w0 b w l st)(h':Qz w0 b w' l' cN){k:Nat}(hk:k<w0.heap.size):w'.heap[k]? =w.heap[k]? :=(h'.o.block k hk aaa).trans (h.o.block k hk aaa).symm
theorem Mw.only(hb:b<w.heap.size)(h:aA [] w w'):Mw f b w w':=⟨h.p0,λk hk=>.inl (vQ (h.block b hb aaa) hk)⟩
theorem LN{q v2 v3:az}{t:TypeId}{sl:Sl}(hB:aH w b t [q,sl.v,v2,v3]){k:Nat}(h:Bu w b k):sl.a=some ⟨k,0,none⟩:=by
 obtain⟨n,c,hc⟩:=h;have:=Blk.eE hB 1 rfl 0 sl.v rfl;have e:(Addr.add ⟨b,0,none⟩ 1).add 0=⟨b,1,none⟩:=adM
 rw[e,hc]at this;have:(Value.slice (some ⟨k,0,none⟩) n c)=.slice sl.a sl.n sl.c:=zw this;injection this with e1 _ _;exact e1.symm
theorem G1{q v2 v3:az}{t:TypeId}{sl:Sl}(hB:aH w b t [q,sl.v,v2,v3]){k:Nat}(h:sl.a=some ⟨k,0,none⟩):Bu w b k:=by
 have:=Blk.eE hB 1 rfl 0 sl.v rfl;have e:(Addr.add ⟨b,0,none⟩ 1).add 0=⟨b,1,none⟩:=adM
 rw[e]at this;refine⟨sl.n,sl.c,?_⟩;rw[this,<-h]
theorem Qz.bu(h:Qz w0 b w l st){k:Nat}(hk:Bu w b k):b<k/\k<w.heap.size:=by
 obtain⟨q,sl,_,hB,hb⟩:=h.ex;have:=hb.lt (LN hB hk);omega
theorem Qz.only(h:Qz w0 b w l st)(hO:aA [] w w'):Qz w0 b w' l st:=by
 obtain⟨q,sl,hq,hB,hb⟩:=h.ex;exact⟨h.o.cy hO,h.lo,⟨q,sl,hq,hO.blk hB aaa,hb.keep λg _ hl=>hO.block g hl aaa⟩,h.i,h.big⟩
structure Zq (f:Bool) (w0 ws:ay) (b:Nat) (w:ay) (l:aJ) (st:St) (ks:List Nat):Prop extends Qz w0 b w l st where
 m:Mw f b ws w
 k:∀k,k∈ks->k<w.heap.size/\k≠b/\¬Bu w b k
theorem Qz.z(f:Bool)(h:Qz w0 b w l st):Zq f w0 w b w l st []:=⟨h,Mw.refl f b w,λk hk=>adS⟩
theorem Zq.q(t:Zq f w0 ws b w l st ks)(hO:aA [] w w'):Zq f w0 ws b w' l st ks:=by
 have hb:=t.toQz.lb;refine⟨t.toQz.only hO,t.m.trans (Mw.only hb hO),λk hk=>?_⟩;obtain⟨h1,h2,h3⟩:=t.k k hk;exact⟨cq h1 hO.size,h2,λh=>h3 (vQ (hO.block b hb aaa) h)⟩
theorem Zq.al(t:Zq f w0 ws b w l st ks)(hO:aA [] w w')(h1:w.heap.size<=k)(h2:k<w'.heap.size):Zq f w0 ws b w' l st (k::ks):=by
 have hb:=t.toQz.lb;have t':=t.q hO;refine⟨t'.toQz,t'.m,λx hx=>?_⟩;rcases aR.1 hx with rfl | hx
 ·exact⟨h2,aG,λh=>by have:=(t.toQz.bu (vQ (hO.block b hb aaa) h)).2;omega⟩
 exact t'.k x hx
theorem Zq.nx(t:Zq f w0 ws b w l st ks)(p:Qz w0 b w' l' cN)(m:Mw f b w w'):Zq f w0 ws b w' l' cN ks:=by
 refine⟨p,t.m.trans m,λk hk=>?_⟩;obtain⟨h1,h2,h3⟩:=t.k k hk;exact⟨cq h1 m.o.size,h2,λh=>(m.u k h).elim h3 λe=>by have:=e.2;omega⟩
theorem Zq.sq(t:Zq f w0 ws b w l st ks)(hO:aA [] w w')(hk:∀k,k∈ks'->k∈ks):cj ks' w w':=hO.same λx hx=>⟨(t.k x (hk x hx)).1,aaa⟩
theorem Zq.sm(t:Zq f w0 ws b w l st ks)(m:Mw g b w w')(hk:∀k,k∈ks'->k∈ks):cj ks' w w':=m.o.same λx hx=>⟨(t.k x (hk x hx)).1,λh=>h.elim (t.k x (hk x hx)).2.1 λe=>(t.k x (hk x hx)).2.2 e.2⟩
theorem Zq.sj(t:Zq f w0 ws b w l st ks)(hz:w.heap.size<=w1.heap.size)(h:aF (λk=>w.heap.size<=k) w1 w')(hk:∀k,k∈ks'->k∈ks):cj ks' w1 w':=h.same λx hx=>by
 have:=(t.k x (hk x hx)).1;exact⟨aG,aG⟩
theorem Zq.row(t:Zq true w0 ws b w l st ks)(hb:b<ws.heap.size)(hu:∀k,Bu ws b k->k<ws.heap.size)(hO:aF (λk=>ws.heap.size<=k) w w'):Zq true w0 ws b w' l st ks:=by
 have hB:=t.toQz.lb;have hlo:=t.lo;have hkb:∀k,Bu w b k->Bu ws b k:=λk hk=>(t.m.u k hk).elim id λe=>(by cases e.1)
 have Pk:=hO.block b hB aG;obtain⟨q,sl,hq,hBl,hbf⟩:=t.ex;refine⟨⟨⟨hO.os.trans t.o.os,hO.tape.trans t.o.tape,hO.output.trans t.o.output,bf t.o.size hO.size,λk hk _=>(hO.block k (cq hk t.o.size) aG).trans (t.o.block k hk aaa)⟩,hlo,⟨q,sl,hq,Pk.trans hBl,hbf.keep λg hg hl=>hO.block g hl λe=>(by have:=hu g (hkb g (G1 hBl hg));omega)⟩,t.i,t.big⟩,⟨t.m.o.trans hO λk hk=>.inr hk,λk hk=>.inl (hkb k (vQ Pk hk))⟩,λk hk=>?_⟩;obtain⟨h1,h2,h3⟩:=t.k k hk;exact⟨cq h1 hO.size,h2,λh=>h3 (vQ Pk h)⟩
theorem bP.of{ks:List Nat}(h:cj ks w w'):bP (λk=>k∈ks) w w':=λk hk _=>h k hk
theorem sW{w2:ay}(h1:aA [] w w1)(h2:aF (λk=>w.heap.size<=k) w1 w2):aA [] w w2:=(h1.oH h2).only λ_ h=>h
end
theorem RE(w:ay)(ws:List (aJ)){n:Nat}{parts:Array (Nat×az)}(hp:parts=(((ws.map λx=>Value.string (T x)).zipIdx 0).map λx=>(x.2,x.1)).toArray)(hn:ws.length=n)(h0:0<n)(BU:n*1<=16777216):
  ∃(q:Sl) (w1:ay) (g:Nat) (cs:aK),(aw 132 n parts).run au w=.ok q.v w1/\aA [] w w1/\w.heap.size<=g/\g<w1.heap.size/\aH w1 g 9 cs/\
   ∀(i:Nat) x,ws[i]? =some x->dI q (i:Int) 1 ⟨g,i,none⟩/\∀w',aH w' g 9 cs->aE w' ⟨g,i,none⟩ [ah (T x)]:=by
 obtain⟨q,w1,k1,k2,k3⟩:=og w ws hp hn h0 BU;rcases k2 with⟨_,e⟩ | ⟨g,css,tail,a1,a2,a4,a5,a6,a7,a9,a8⟩
 ·subst e;simp at hn;omega
 have MQ:=I4 a8;refine⟨q,w1,g,_,k1,k3,a2,a4.lt,a4,λi x hx=>⟨⟨⟨g,0,none⟩,a1,bE i,?_,?_⟩,λw' hB=>Blk.Pc hB i ?_⟩⟩
 ·have:=(be.1 hx).1;omega
 ·rw[fI,aV,ka,bM]
 have:(ws.map λx=>Value.string (T x))[i]? =some (ah (T x)):=adO
 rw[MQ,bK (be.1 this).1,this]
section
variable {w0 w:ay} {b:Nat} {l:aJ} {st:St}
theorem I7(b j:Nat):(Addr.add ⟨b,0,none⟩ j:Addr)=⟨b,j,none⟩:=by rw[fI,bM]
theorem Qz.set(h:Qz w0 b w l st):∃(q:Option Addr) (sl:Sl),aH w b 218 [ai q,sl.v,ao st.1,O ae st.2]/\
  ∀(w':ay) (cN:St),aA [b] w w'->aH w' b 218 [ai q,sl.v,ao cN.1,O ae cN.2]->(cN.1=false->0<=cN.2/\cN.2<=400)->Qz w0 b w' l cN/\Mw true b w w':=by
 obtain⟨q,sl,hq,hB,hb⟩:=h.ex;refine⟨q,sl,hB,λw1 Fv cJ uw hi=>⟨⟨⟨cJ.os.trans h.o.os,cJ.tape.trans h.o.tape,cJ.output.trans h.o.output,bf h.o.size cJ.size,λk hk _=>(cJ.block k (cq hk h.o.size) (by have:=h.lo;simp;omega)).trans (h.o.block k hk aaa)⟩,h.lo,⟨q,sl,hq,uw,hb.keep λg hg hl=>cJ.block g hl (by have:=(hb.lt hg).1;simp;omega)⟩,hi,h.big⟩,?_⟩⟩;exact⟨cJ.p λx hx=>.inl (.inl abq),λk hk=>.inl (G1 hB (LN uw hk))⟩
theorem Qz.up0(h:Qz w0 b w l st):Up st true 0 st:=by
 refine⟨?_,λ_=>aaa⟩;cases e:st.1
 ·have:=(h.i e).2;have h2:¬400<st.2+((0:Nat):Int):=aG
  rw[bH h2];rfl
 rfl
theorem LO{q:Option Addr}{sl:Sl}{wr:Bool}{ac:Int}(hB:aH w b 218 [ai q,sl.v,ao wr,O ae ac])(ok:Bool):aB au 141 #[rp b,ao ok] w λe w'=>
  e=aq (ak #[])/\aA [b] w w'/\aH w' b 218 [ai q,sl.v,ao (wr||!ok),O ae ac]:=by
 refine ret (afm _ _ _ _ ?_);exact⟨wr,Blk.eE hB 2 rfl,b,2,_,_,I7 b 2,hB,aaa,λw1 cJ uw=>⟨rfl,cJ,uw⟩⟩
theorem jT(h:Qz w0 b w l st)(ok:Bool):aB au 141 #[rp b,ao ok] w λe w'=>e=aq (ak #[])/\∃cN,Up st ok 0 cN/\Qz w0 b w' l cN/\Mw true b w w':=by
 obtain⟨q,sl,hB,yM⟩:=h.set;refine(LO hB ok).mono ?_;rintro _ w1 ⟨rfl,cJ,uw⟩;have hu:Up st ok 0 (st.1||!ok,st.2):=by
  refine⟨?_,λe=>aaa⟩;cases e:st.1
  ·have:=(h.i e).2;have h2:¬400<st.2+((0:Nat):Int):=aG
   rw[bH h2,Bool.or_false]
  simp
 exact⟨rfl,_,hu,yM w1 _ cJ uw λe=>hu.le (λe=>(h.i e).1) e⟩
theorem mz(h:Qz w0 b w l st)(s:aJ)(hs:s.length<9223372036854775807):aB au 143 #[rp b,ah (T s)] w λe w'=>e=aq (ah (T s))/\∃cN,Up st (eZ s) 0 cN/\Qz w0 b w' l cN/\Mw true b w w':=by
 refine ret (afn _ _ _ _ ?_);refine(Q5 s hs).mono ?_;rintro _ w1 ⟨rfl,cJ⟩;refine⟨_,rfl,(jT (h.only cJ) _).mono ?_⟩;rintro _ w2 ⟨rfl,cN,h1,h2,h3⟩;exact⟨rfl,rfl,cN,h1,h2,(Mw.only h.lb cJ).trans h3⟩
theorem LP(h:Qz w0 b w l st){F:aL}{x:Ex}{cs:aK}(hx:rE false w F x cs)(hn:Z8 x)(hs:Ef x<=1759218604441)(hE:Er w0)(hT:Tb w0):
  aB au 207 #[rp b,aj cs.toArray] w λe w'=>e=aq (ah (T (Cz x)))/\∃cN,Up st (AM x) 0 cN/\Qz w0 b w' l cN/\Mw true b w w':=by
 obtain⟨xs,rfl⟩:=jc hx;refine ret (afu _ _ _ _ _ _ _ _ _ ?_);intro k0 w1 hY fA cJ;have t1:=(h.z true).al cJ hY fA;refine(Vy ((jb false).keep hx λk _ cd=>cJ.block k cd aaa) hn hs (hE.only t1.o) (hT.only t1.o)).mono ?_;rintro _ w2 ⟨rfl,dw⟩;have t2:=t1.q dw;refine⟨_,rfl,t1.sq dw aaa,(jT t2.toQz _).mono ?_⟩;rintro _ w3 ⟨rfl,cN,h1,h2,h3⟩;rw[show ar #[]=T []from rfl,mE]at h1;have e:(!decide (Cz x=[]))=AM x:=by unfold AM;rw[decide_not]
 rw[e]at h1;exact⟨rfl,t2.sm h3 aaa,rfl,cN,h1,h2,(t2.nx h2 h3).m⟩
theorem LQ(h:Qz w0 b w l st){F:aL}{x:Ex}{cs:aK}(hx:rE false w F x cs):
  aB au 208 #[rp b,aj cs.toArray] w λe w'=>e=aq (ak #[])/\∃cN,Up st (ye x) 0 cN/\Qz w0 b w' l cN/\Mw true b w w':=by
 have fl:∃xs:Sl,cs=sM x.k x.n x.s x.op xs x.a/\xs.n=x.fZ.length:=by
  obtain⟨d,hx⟩:=hx;cases d with
  | zero=>exact hx.elim
  | succ d=>
   obtain⟨sl,h1,h2,_⟩:=hx;exact⟨sl,h1,h2.len⟩
 obtain⟨xs,rfl,hl⟩:=fl;refine ret (alc _ _ _ _ _ _ _ _ _ ?_);intro k0 w1 hY fA cJ;have t1:=(h.z true).al cJ hY fA;refine(jT t1.toQz _).mono ?_;rintro _ w3 ⟨rfl,cN,h1,h2,h3⟩;rw[show ar #[]=T []from rfl,mE,hl]at h1;exact⟨rfl,t1.sm h3 aaa,rfl,cN,h1,h2,(t1.nx h2 h3).m⟩
theorem LR(h:Qz w0 b w l st):aB au 146 #[rp b] w λe w'=>e=aq (ao (decide (16384<l.length)))/\w'=w:=by
 refine ret (afq _ _ _ ?_);obtain⟨q,sl,hq,hB,hb⟩:=h.ex;refine(XF _ (λv w'=>v=O ae (l.length:Int)/\w'=w) w ?_).mono ?_
 ·rw[I7];exact⟨sl,Blk.eE hB 1 rfl,by rw[hb.len],rfl⟩
 rintro _ w1 ⟨v,rfl,rfl,rfl⟩;refine⟨_,rfl,?_,rfl⟩;congr 1;rw[bT];simp;omega
end
def RF(a:Ac):Nat:=Ef a.x+(a.n.length+1)
def kg:List Ac->Nat
 | []=>0
 | a::l=>RF a+kg l
theorem G2{a:Ac}:∀{l:List Ac},a∈l->RF a<=kg l
 | [],h=>abk
 | x::l,h=>by
  rw[kg];rcases aR.1 h with rfl | h
  ·omega
  have:=G2 h;omega
theorem oo:∀(l:List Ac),l.length<=kg l
 | []=>bB _
 | a::l=>by
  have:=oo l;rw[kg,bp];unfold RF;omega
def G3(l:List (aJ)):Nat:=(l.map λs=>s.length+1).sum
def NW(m:Mv):Nat:=(kg m.acts+Ef m.g)+(G3 m.tg+(m.ev.length+1))
theorem LS(x:Ex):(Cz x).length<=16384:=by
 by_cases h:Cz x=[]
 ·rw[h];exact bB _
 obtain⟨h1,h2,h3⟩:=Rn h;refine cr λhc=>?_;have e:Cz x=u5 (Fu x) x false []:=h2;rw[<-e]at h3;unfold oY at h3;have:dC (Cz x)=([],2, -1):=by rw[dC,aZ aG]
 rw[this,aZ aN]at h3;exact absurd h3 (show ¬(2:Int)=0 by decide)
theorem ri{s:aJ}(h:eZ s=true):ne s=true:=by
 unfold eZ at h;simp only[aU]at h;have:=(aP h.1.1.1).1;unfold ne;rw[bH this];rfl
theorem afT{x:Ex}(h:AM x=true):ne (Cz x)=true:=by
 unfold ne;rw[bH (aP h)];rfl
theorem pj{x:aJ}(h:ne x=true)(ws:List (aJ)):fO (x::ws)=x++Lib.joinTail [32] (ws.filter ne):=by
 unfold fO;rw[ml,h,aZ rfl,Lib.join_cons]
theorem fJ(x:aJ)(r:List (aJ)):Lib.joinTail [32] (x::r)=32::(x++Lib.joinTail [32] r):=by
 unfold Lib.joinTail;rw[bG,dy];rfl
theorem ma:Lib.joinTail [32] []=[]:=rfl
theorem fK{x:aJ}(h:ne x=true)(ws:List (aJ)):(x::ws).filter ne=x::ws.filter ne:=by rw[ml,h,aZ rfl]
theorem RG(ws:List (aJ)):([]::ws).filter ne=ws.filter ne:=by rw[ml,aX aN]
def Ue(a:Ac):List (aJ):=if a.k=2 then[lf,a.n]else[if a.k=1 then ua else nD,a.n,[61],Cz a.x]
theorem X2{a:Ac}(h:mU a=true):fO (Ue a)++[59]=O5 a:=by
 unfold mU at h;simp only[aU]at h;obtain⟨⟨h1,h2⟩,h3⟩:=h;unfold Ue O5;by_cases hk:a.k=2
 ·rw[aZ hk,aZ hk,pj aN,fK (ri h2),eG,fJ,ma];simp
 rw[aX hk]at h3;have hw:ne (if a.k=1 then ua else nD)=true:=by split<;>decide
 rw[aX hk,aX hk,pj hw,fK (ri h2),fK aN,fK (afT h3),eG,fJ,fJ,fJ,ma];simp
theorem VG(a:Ac):(fO (Ue a)).length<=16398+a.n.length:=by
 refine bf (iK _) ?_;have:=LS a.x;unfold Ue;split
 ·simp only[bG,fN,cD,iB];show 5+1+(a.n.length+1+0)<=_;omega
 simp only[bG,fN,cD,iB];have:(if a.k=1 then ua else nD).length<=4:=by split<;>decide
 show _+1+(a.n.length+1+(1+1+(_+1+0)))<=_;omega
section
variable {w0 w:ay} {b:Nat} {l:aJ} {st:St}
theorem afU(h:Qz w0 b w l st){F:aL}{a:Ac}{cs:aK}(hx:uq false w F a cs)(hF:∀k,F k->k<w0.heap.size)(hn:XW a)(hs:RF a<=1759218604441)(hE:Er w0)(hT:Tb w0):
  aB au 206 #[rp b,aj cs.toArray] w λe w'=>∃s cN,e=aq (ah (T s))/\s.length<=16400+a.n.length/\(mU a=true->s=O5 a)/\Up st (mU a) 0 cN/\Qz w0 b w' l cN/\Mw true b w w':=by
 obtain⟨xc,rfl,hx⟩:=hx;obtain⟨xs,rfl⟩:=jc hx;unfold RF at hs;refine(alb ⟨b,0,none⟩ a.k (T a.n) a.x.k a.x.n (T a.x.s) a.x.op xs a.x.a a.a (λv w'=>∃s cN,v=ah (T s)/\s.length<=16400+a.n.length/\(mU a=true->s=O5 a)/\Up st (mU a) 0 cN/\Qz w0 b w' l cN/\Mw true b w w') w ?_).mono (by
  rintro e w' ⟨v,rfl,s,cN,rfl,h⟩;exact⟨s,cN,rfl,h⟩)
 intro k0 w1 hY fA cJ;have t1:=(h.z true).al cJ hY fA;obtain⟨q,w2,g,cs,e1,dw,Bs,OC,qG,Wu⟩:=RE w1 [[],ua,lf,nD] (n:=4) (parts:=#[.mk 0 (ah (ar #[])),.mk 1 (ah (ar #[115,101,116])),.mk 2 (ah (ar #[114,97,105,115,101])),.mk 3 (ah (ar #[101,109,105,116]))]) rfl rfl aN aN;have t2:=t1.al dw Bs OC;have tail:=VG a;refine⟨q,w2,e1,t1.sq dw aaa,λhc=>?_,λhc=>?_⟩
 ·refine(jT t2.toQz false).mono ?_;rintro _ w3 ⟨rfl,cN,u1,u2,u3⟩;have hk:mU a=false:=by
   unfold mU;have:¬(1<=a.k/\a.k<=3):=by
    simp only[bU,bJ]at hc;omega
   rw[bH this];rfl
  exact⟨rfl,t2.sm u3 aaa,[],cN,rfl,bB _,λe=>(by rw[hk]at e;cases e),by rw[hk];exact u1,u2,(t2.nx u2 u3).m⟩
 have M5:1<=a.k/\a.k<=3:=by
  simp only[fT,dq]at hc;omega
 have hwd:∀x,[[],ua,lf,nD][a.k.toNat]? =some x->dI q a.k 1 ⟨g,a.k.toNat,none⟩/\∀w',aH w' g 9 cs->aE w' ⟨g,a.k.toNat,none⟩ [ah (T x)]:=λx hx=>by
  have:=Wu _ x hx;rwa[jM aG]at this
 refine⟨λnZ=>?_,λnZ w8 fV=>?_⟩
 ·have hk:a.k=2:=adL
  have hW:Ue a=[lf,a.n]:=by unfold Ue;rw[aZ hk]
  refine(LQ t2.toQz ((jb false).keep hx λk hk _=>h.arg t2.toQz (hF k hk))).mono ?_;rintro _ w3 ⟨rfl,SI,u1,u2,u3⟩;have t3:=t2.nx u2 u3;refine⟨rfl,t2.sm u3 aaa,λw4 dL=>⟨λk=>k∈[k0,g],aaa,?_⟩⟩;have t4:=t3.q dL;obtain⟨y1,y2⟩:=hwd lf (by rw[hk];rfl);have uA:aH w4 g 9 cs:=(t3.sq (ks':=[g]) dL aaa g aaa).trans ((t2.sm (ks':=[g]) u3 aaa g aaa).trans qG);refine⟨_,y1,aaa,_,y2 w4 uA,(mz t4.toQz a.n aG).mono ?_⟩;rintro _ w5 ⟨rfl,WX,v1,v2,v3⟩;have t5:=t4.nx v2 v3;obtain⟨q6,w6,e6,eI,_,hj⟩:=CE w5 [lf,a.n] (n:=2) (parts:=#[.mk 0 (ah (T lf)),.mk 1 (ah (T a.n))]) rfl rfl aN aN (by rw[<-hW];omega);have z6:=eI.size;refine⟨_,rfl,t4.sm v3 aaa,bP.of (t4.sm v3 aaa),q6,w6,e6,t5.sq eI aaa,bP.of (t5.sq eI aaa),hj.mono ?_⟩;rintro _ w7 ⟨rfl,WY⟩;have fL:=sW eI WY;have t7:=t5.q fL;have hU:=u1.tr v1;have mP:mU a=(ye a.x&&eZ a.n):=by
   unfold mU;rw[aZ hk,bL M5,db,Bool.and_comm]
  rw[<-mP]at hU;rw[<-hW];refine⟨_,rfl,t5.sj z6 WY aaa,bP.of (t5.sj z6 WY aaa),abC,fO (Ue a)++[59],WX,acG,abo,λmP=>X2 mP,hU,t7.toQz,t7.m⟩
 have hk:a.k≠2:=adL
 have hW:Ue a=[if a.k=1 then ua else nD,a.n,[61],Cz a.x]:=by unfold Ue;rw[aX hk]
 have t8:=t2.q fV;obtain⟨y1,y2⟩:=hwd (if a.k=1 then ua else nD) (by
  by_cases h1:a.k=1
  ·rw[aZ h1,h1];rfl
  rw[aX h1,show a.k=3 by omega];rfl)
 have uB:aH w8 g 9 cs:=(t2.sq (ks':=[g]) fV aaa g aaa).trans qG;refine⟨λk=>k∈[k0,g],aaa,_,y1,aaa,_,y2 w8 uB,aaa,(mz t8.toQz a.n aG).mono ?_⟩;rintro _ w9 ⟨rfl,st9,u1,u2,u3⟩;have t9:=t8.nx u2 u3;refine⟨_,rfl,t8.sm u3 aaa,bP.of (t8.sm u3 aaa),(LP t9.toQz ((jb false).keep hx λk hk _=>h.arg t9.toQz (hF k hk)) hn aG hE hT).mono ?_⟩;rintro _ dR ⟨rfl,aoG,v1,v2,v3⟩;have t10:=t9.nx v2 v3;obtain⟨q11,dS,e11,ey,_,hj⟩:=CE dR [if a.k=1 then ua else nD,a.n,[61],Cz a.x] (n:=4) (parts:=#[.mk 0 (ah (T (if a.k=1 then ua else nD))),.mk 1 (ah (T a.n)),.mk 2 (ah (T [61])),.mk 3 (ah (T (Cz a.x)))]) rfl rfl aN aN (by rw[<-hW];omega);have Fa:=ey.size;refine⟨_,rfl,t9.sm v3 aaa,bP.of (t9.sm v3 aaa),q11,dS,e11,t10.sq ey aaa,bP.of (t10.sq ey aaa),hj.mono ?_⟩;rintro _ fp ⟨rfl,OL⟩;have fu:=sW ey OL;have t12:=t10.q fu;have hU:=u1.tr v1;have mP:mU a=(eZ a.n&&AM a.x):=by
  unfold mU;rw[aX hk,bL M5,db]
 rw[<-mP]at hU;rw[<-hW];refine⟨_,rfl,t10.sj Fa OL aaa,bP.of (t10.sj Fa OL aaa),abC,fO (Ue a)++[59],aoG,acG,abo,λmP=>X2 mP,hU,t12.toQz,t12.m⟩
end
theorem Up.bad{st cN:St}{c c':Bool}{n n':Nat}(h:Up st c n cN)(e:cN.1=true)(hc:c'=true->c=true)(hn:n<=n'):Up st c' n' cN:=by
 refine⟨?_,λe2=>by rw[e]at e2;cases e2⟩;rw[e];refine Eq.symm (cr λhk=>?_);obtain⟨a1,a2,a3⟩:=or3 (ft.2 hk).symm;have a3:=aY a3;have:=h.w;rw[e,a1,hc a2,bH (show ¬400<st.2+(n:Int) by omega)]at this;cases this
theorem vR:∀(l m:List Ac),kg (l++m)=kg l+kg m
 | [],m=>by rw[cE];show _=0+_;omega
 | a::l,m=>by rw[cp,kg,kg,vR l m];omega
theorem aao(a:Ac):ne (O5 a)=true:=by
 have:O5 a≠[]:=by unfold O5;split<;>simp
 unfold ne;rw[bH this];rfl
theorem RH:∀l:List Ac,Lib.joinTail [32] ((l.map O5).filter ne)=Vz l
 | []=>rfl
 | a::l=>by rw[bG,fK (aao a),fJ,RH l,Vz]
theorem aap(x y:List (aJ)):Lib.joinTail [32] (x++y)=Lib.joinTail [32] x++Lib.joinTail [32] y:=by
 unfold Lib.joinTail;rw[dc,Fl]
theorem afV(l:List Ac):fO ([123]::(l.map O5++[[125]]))=FX l:=by
 rw[pj aN,eu,aap,RH];rfl
theorem X3{w:ay}{B:Nat}{s:Sl}{ws:List (aJ)}(h:Own lz 1 9 B w (λ_=>True) s ws)(x:aJ)(hB:B<=w.heap.size)(hm:ws.length<=1073741824):
  ∃y w1,(aw 132 1 #[.mk 0 (ah (T x))]).run au w=.ok (Sl.v y) w1/\aA [] w w1/\∃s' w2,(Builtin.append_ #[132,132] 132 #[Sl.v s,Sl.v y]).run au w1=.ok (Sl.v s') w2/\
   Own lz 1 9 B w2 (λ_=>True) s' (ws++[x])/\∃gs,aA gs w1 w2/\∀g,g∈gs->s.a=some ⟨g,0,none⟩/\B<=g:=by
 obtain⟨y,w1,e1,cJ,s',w2,e2,nc,⟨gs,dw,rR⟩,_⟩:=jr (P:=au) (t:=132) (ty:=132) (e:=9) (i:=Tryz.t9) (bytes:=16) (size:=1) (v:=ah (T x)) (x:=x) (G:=λ_=>False) (by kernel_rfl) (by kernel_rfl) rfl rfl rfl rfl aN aN aN dH h hB rfl rfl (λk hk _=>hk.elim) aG;exact⟨y,w1,e1,cJ,s',w2,e2,nc.mono dH λk _=>trivial,gs,dw,λg hg=>⟨(rR g hg).1,(rR g hg).2.1⟩⟩
theorem _root_.Go.Kt.Own.far{w w':ay}{B b:Nat}{s:Sl}{ws:List (aJ)}(h:Own lz 1 9 B w (λ_=>True) s ws)(hO:aA [b] w w')(hb:b<B):Own lz 1 9 B w' (λ_=>True) s ws:=by
 rcases h with⟨rfl,rfl⟩ | ⟨g,css,tail,h1,h2,h4,h5,h6,h7,h9,h8⟩
 ·exact .inl ⟨rfl,rfl⟩
 have e:∀{l:List (aJ)} {css:List (aK)},lO lz 1 w (λk=>True/\k≠g) l css->lO lz 1 w' (λk=>True/\k≠g) l css:=fun{l}=>by
  induction l with
  | nil=>intro css h;cases css with | nil=>trivial | cons _ _=>exact h
  | cons x l ih=>intro css h;cases css with | nil=>exact h | cons c css=>exact⟨h.1,ih h.2⟩
 exact .inr ⟨g,css,tail,h1,h2,hO.blk h4 aab,h5,h6,h7,h9,e h8⟩
theorem RI{α:Type}{p:α->Bool}{xs:List α}{j:Nat}(h:xs.all p=true):(xs.take j).all p=true:=by
 rw[dY]at h⊢;exact λx hx=>h x (List.mem_of_mem_take hx)
theorem G4(ws:List (aJ))(x:aJ):((ws++[x]).map λl=>l.length+1).sum=(ws.map λl=>l.length+1).sum+(x.length+1):=by
 rw[dc,List.sum_append];simp
section
variable {w0 w:ay} {b:Nat} {l:aJ} {st:St}
theorem Es(h:Qz w0 b w l st){F:aL}{s:Sl}{xs:List Ac}(hx:aD (uq false) 9 w F s xs)(hF:∀k,F k->k<w0.heap.size)(hn:∀a,a∈xs->XW a)(hs:kg xs<=16777216)(hE:Er w0)(hT:Tb w0):
  aB au 181 #[rp b,s.v] w λe w'=>∃t cN,e=aq (ah (T t))/\t.length<=16405*kg xs/\(cN.1=false->t=if xs=[]then[]else FX xs)/\Up st (xs.all mU) xs.length cN/\Qz w0 b w' l cN/\Mw true b w w':=by
 refine(ala ⟨b,0,none⟩ s (λv w'=>∃t cN,v=ah (T t)/\t.length<=16405*kg xs/\(cN.1=false->t=if xs=[]then[]else FX xs)/\Up st (xs.all mU) xs.length cN/\Qz w0 b w' l cN/\Mw true b w w') w ?_).mono (by
  rintro e w' ⟨v,rfl,s,cN,rfl,h⟩;exact⟨s,cN,rfl,h⟩)
 have fl:=hx.len;have hlz:=oo xs;refine⟨λhc=>?_,λhc=>?_⟩
 ·have hc:s.n=0:=by have:((s.n:Int))=0:=aaw;omega
  have:xs=[]:=bQ aG;subst this;exact⟨[],st,rfl,bB _,λ_=>(aZ rfl).symm,h.up0,h,Mw.refl _ _ _⟩
 have fX:xs≠[]:=λe=>by
  subst e;have:s.n=0:=fl;rw[this]at hc;exact absurd hc aN
 obtain⟨q,sl,hB,yM⟩:=h.set;refine⟨st.2,Blk.eE hB 3 rfl,b,3,_,_,I7 b 3,hB,aaa,λw1 cJ uw=>⟨_,Blk.eE uw 3 rfl,(LO (q:=q) (sl:=sl) (wr:=st.1) (ac:=av ae (st.2+(s.n:Int))) uw _).mono ?_⟩⟩;rintro _ w2 ⟨rfl,dw,qG⟩;have hU1:Up st true xs.length (st.1||!decide (av ae (st.2+(s.n:Int))<=400),av ae (st.2+(s.n:Int))):=by
  cases e:st.1
  ·have:=h.i e;have ew:av ae (st.2+(s.n:Int))=st.2+xs.length:=by rw[fl];exact gF aG aG
   rw[ew];refine⟨?_,λ_=>rfl⟩;rw[e];by_cases h4:st.2+(xs.length:Int)<=400
   ·rw[bL h4,bH aG];rfl
   rw[bH h4,bL aG];rfl
  exact⟨by rw[e];rfl,λe2=>by cases e2⟩
 obtain⟨h2,Po⟩:=yM w2 _ (cJ.trans dw λx hx=>.inl hx) qG λe=>hU1.le (λe=>(h.i e).1) e;generalize (st.1||!decide (av ae (st.2+(s.n:Int))<=400),av ae (st.2+(s.n:Int)))=Fv at*
 have b2:=h2.lb;have hu2:∀k,Bu w2 b k->k<w2.heap.size:=λk hk=>(h2.bu hk).2;obtain⟨q3,w3,e3,dE,aoH,_⟩:=CE w2 [[123]] (n:=1) (parts:=#[.mk 0 (ah (T [123]))]) rfl rfl aN aN aN;have t3:=(h2.z true).q dE;refine⟨rfl,q3,w3,e3,λl1 w'=>∃ws cN,Own lz 1 9 w2.heap.size w' (λ_=>True) l1 ws/\ws.length<=16777217/\(ws.map λl=>l.length+1).sum<=2+16401*kg xs/\(cN.1=false->ws=[123]::xs.map O5)/\Up Fv (xs.all mU) 0 cN/\Zq true w0 w2 b w' l cN [],?_,?_⟩
 ·rintro l1 w4 ⟨ws,JW,aco,hwl,hws,htx,hU4,t4⟩;have z4:=t4.m.o.size;obtain⟨y,w5,e5,eK,s6,w6,e6,aoI,gs,eI,rR⟩:=X3 aco [125] z4 aG;refine⟨y,w5,e5,s6,w6,e6,?_⟩;have t6:=(t4.q eK).row b2 hu2 (eI.p (F:=λk=>w2.heap.size<=k) λx hx=>.inl (rR x hx).2);have JX:=G4 ws [125];have iY:=iK (ws++[[125]]);have hl1:([125]:aJ).length=1:=rfl;refine(AU aoI aG abo).mono ?_;rintro _ w7 ⟨rfl,WY⟩;have t7:=t6.row b2 hu2 WY;have hsz:1<=kg xs:=by
   have:1<=xs.length:=gq.2 fX;omega
  refine⟨_,rfl,fO (ws++[[125]]),JW,rfl,aG,λe=>?_,(hU1.tr hU4).cg aaa aaa,t7.toQz,Po.trans t7.m⟩;rw[aX fX,htx e];exact afV xs
 refine⟨λnv l1 i w'=>∃(j:Nat) (ws:List (aJ)) (cN:St),i=j/\j<=xs.length/\nv=xs.length-j/\Own lz 1 9 w2.heap.size w' (λ_=>True) l1 ws/\ws.length<=j+1/\(ws.map λl=>l.length+1).sum<=2+16401*kg (xs.take j)/\(cN.1=false->ws=[123]::(xs.take j).map O5)/\Up Fv ((xs.take j).all mU) 0 cN/\Zq true w0 w2 b w' l cN [],
  xs.length,⟨0,[[123]],Fv,rfl,bB _,rfl,aoH,ba _,ba _,λ_=>rfl,h2.up0,t3⟩,?_⟩
 rintro nv l4 _ w7 ⟨j,ws,YQ,rfl,hj,rfl,WZ,hwl,hws,htx,M7,t7⟩;have z7:=t7.m.o.size;have JC:kg xs=kg (xs.take j)+kg (xs.drop j):=by rw[<-vR,du]
 refine⟨λhc=>?_,λhc=>?_⟩
 ·have cd:(j:Int)<s.n:=aP hc;have hx7:aD (uq false) 9 w7 F s xs:=SliceF.keep (dV false) hx aN λk hk _=>h.arg t7.toQz (hF k hk);obtain⟨ad,a,cs,g1,g2,g3,g4,g5,g6⟩:=hx7.get (bE j) cd;rw[aV]at g2;have ha:=bD g2;have nI:xs.take (j+1)=xs.take j++[a]:=by
   rw[bF,g2];rfl
  have hsa:kg (xs.take (j+1))=kg (xs.take j)+RF a:=by
   rw[nI,vR];show _+(RF a+0)=_;omega
  have asy:kg xs=kg (xs.take (j+1))+kg (xs.drop (j+1)):=by rw[<-vR,du]
  obtain⟨xc,rfl,hxc⟩:=g6;obtain⟨xl,rfl⟩:=jc hxc;refine⟨ad,g1,_,_,_,_,_,_,_,_,_,g5,λk5 w8 Da HU fV=>?_⟩;have t8:=t7.al fV Da HU;obtain⟨q8,sl8,uB,_⟩:=t8.toQz.set;refine⟨YQ.1,Blk.eE uB 2 rfl,λhw=>?_,λhw=>?_⟩
  ·have t8':Zq true w0 w2 b w8 l YQ []:=⟨t8.toQz,t8.m,λk hk=>adS⟩
   have JV:=WZ.keep dH λk hk cd=>fV.block k cd aaa;exact⟨ws,YQ,JV,aG,aG,λe=>absurd (hw.symm.trans e) aN,M7.bad hw RI (ba _),t8'⟩
  refine(afU t8.toQz ((dV false).keep ⟨_,rfl,hxc⟩ λk _ cd=>fV.block k cd aaa) hF (hn a ha) (by have:=G2 ha;omega) hE hT).mono ?_;rintro _ w9 ⟨tx,st9,rfl,hl9,aoJ,YR,h9,hm9⟩;have t9:=t8.nx h9 hm9;have aoK:∀g,l4.a=some ⟨g,0,none⟩->w2.heap.size<=g/\g<w7.heap.size:=λg hg=>by
   rcases WZ with⟨rfl,_⟩ | ⟨g',css,tl,a1,a2,a4,_⟩
   ·cases hg
   rw[a1]at hg;injection hg with hg;injection hg with hg;subst hg;exact⟨a2,a4.lt⟩
  have aoL:Own lz 1 9 w2.heap.size w9 (λ_=>True) l4 ws:=by
   have o1:=WZ.keep dH (w':=w8) λk hk cd=>fV.block k cd aaa;refine(o1.mono (G:=λ_=>True) dH λ_ _=>trivial).far hm9.ago b2
  obtain⟨y,dR,e10,eO,MV,dS,e11,TP,gs,ey,rR⟩:=X3 aoL tx (bf z7 (bf fV.size hm9.o.size)) aG;have t10:=t9.q eO;have t11:=t10.row b2 hu2 (ey.p (F:=λk=>w2.heap.size<=k) λx hx=>.inl (rR x hx).2);have MV:cj [k5] dR dS:=ey.same λx hx=>by
   have:=(t10.k x abq).1;refine⟨this,λhm=>?_⟩;have:=(aoK x (rR x hm).1).2;simp only[aO]at hx;omega
  have JX:=G4 ws tx;refine⟨_,rfl,t8.sm hm9 aaa,y,dR,e10,t9.sq eO aaa,_,dS,e11,MV,xs.length-(j+1),aG,j+1,ws++[tx],st9,aaq,aG,rfl,TP,abo,?_,λe=>?_,(M7.tr YR).cg ?_ rfl,⟨t11.toQz,t11.m,λk hk=>adS⟩⟩
  ·rw[JX,hsa];have:16400+a.n.length+1<=16401*RF a:=by unfold RF;omega
   omega
  ·obtain⟨e1,e2,_⟩:=YR.ok e;rw[htx e1,aoJ e2,nI,dc];rfl
  rw[nI,zx];simp
 have mQ:¬(j:Int)<s.n:=aY hc;have qJ:j=xs.length:=aG
 subst qJ;rw[bq (ba _)]at hws htx M7;exact⟨ws,YQ,WZ,aG,hws,htx,M7,t7⟩
end
theorem amu{w:ay}{F:aL}{s:Sl}{xs:List (aJ)}(h:aD lz 1 w F s xs)(sep:aJ)(hl:(Lib.join xs sep).length<=140737488355328)(hn:xs.length<=140737488355328):
  aB au 202 #[s.v,ah (T sep)] w λe w'=>e=aq (ah (T (Lib.join xs sep)))/\aA [] w w':=by
 have fl:=h.len;have lC:=h.cap;obtain⟨sa,sn,sc⟩:=s;dsimp only at fl lC;subst fl;cases xs with
 | nil=>
  refine(Tryz.strings_Join_none sa sc (T sep) w).mono ?_;rintro _ w2 ⟨rfl,rfl⟩;exact⟨rfl,Only.refl _ _⟩
 | cons x xs=>
  obtain⟨base,cs,g1,g2,g3,g4,g5⟩:=h.at_ 0 x rfl;have g1:sa=some base:=g1;unfold lz at g5;subst g5 g1;have h0:=g4 0 _ rfl;have wI:base.spot=none:=by
   unfold World.cell? at h0;split at h0
   ·split at h0
    ·cases h0
    rename_i hs;have e:((base.add (0*1)).add 0).spot=base.spot:=rfl;rw[e]at hs;cases hb:base.spot with
    | none=>rfl
    | some v=>rw[hb]at hs;simp at hs
   cases h0
  obtain⟨bk,o,sp⟩:=base;dsimp only at wI;subst wI;have cd:bk<w.heap.size:=by
   have e:((Addr.add ⟨bk,o,none⟩ (0*1)).add 0:Addr)=⟨bk,o,none⟩:=adM
   rw[e]at h0;refine cr λhn=>?_;unfold World.cell? at h0;rw[ff abh]at h0;cases h0
  have:=Tryz.strings_Join bk o sc ((x::xs).map T) (T sep) w (λj y hj=>by
   rw[bW,gj]at hj;obtain⟨z,hz,rfl⟩:=hj;obtain⟨base,cs,g1,g2,g3,g4,g5⟩:=h.at_ j z hz;unfold lz at g5;subst g5;cases g1;have:=g4 0 _ rfl;have e:((Addr.add ⟨bk,o,none⟩ (j*1)).add 0:Addr)=⟨bk,o+j,none⟩:=adM
   rw[e]at this;exact this) cd abS abS (by
   rw[iA];have:((λx:aM=>x.data.toList)∘T)=id:=rfl;rw[this,O2];exact hl)
  rw[bA]at this;refine this.mono ?_;rintro _ w2 ⟨rfl,hB⟩;refine⟨?_,Only.below hB⟩;rw[iA];have:((λx:aM=>x.data.toList)∘T)=id:=rfl;rw[this,O2]
theorem LU:∀l:List (aJ),Lib.joinTail [44,32] l=Z9 l
 | []=>rfl
 | s::l=>by
  unfold Lib.joinTail;rw[bG,dy];show[44,32]++s++Lib.joinTail [44,32] l=_;rw[LU l];rfl
theorem LV(s:aJ)(l:List (aJ)):(Lib.join (s::l) [44,32]).length<=2*G3 (s::l):=by
 have h1:∀l:List (aJ),(Z9 l).length<=2*G3 l:=λl=>by
  induction l with
  | nil=>exact bB _
  | cons s l ih=>
   unfold G3 at ih⊢;rw[bG,cD,Z9,bp,bp,aW];omega
 rw[Lib.join_cons,LU,aW];have:=h1 l;have e:G3 (s::l)=(s.length+1)+G3 l:=by unfold G3;rw[bG,cD]
 omega
theorem Et(l:List (aJ)):l.length<=G3 l:=by
 unfold G3
 induction l with
 | nil=>exact bB _
 | cons s l ih=>rw[bG,cD,bp];omega
theorem VH{s:aJ}{l:List (aJ)}(h:s∈l):s.length+1<=G3 l:=by
 unfold G3
 induction l with
 | nil=>simp at h
 | cons x l ih=>
  rw[bG,cD];rcases aR.1 h with rfl | h
  ·omega
  have:=ih h;omega
def X4(m:Mv):aJ:=if m.k=1 then fO [IX,m.ev]else if m.k=3 then fO [kF,Lib.itoa m.wt]else kA
def gdM(m:Mv):aJ:=if m.gd then 91::(Cz m.g++[93])else[]
def O7(m:Mv):aJ:=match m.tg with
 | []=>[]
 | s::l=>45::62::32::(s++Z9 l)
theorem G5{n:Int}(h:InI n):(Lib.itoa n).length<=21:=Lib.itoa_length_le n h.1 h.2
theorem VI(n:Int):ne (Lib.itoa n)=true:=by
 have:Lib.itoa n≠[]:=by
  unfold Lib.itoa;split
  ·simp
  rw[Lib.decDigits];split<;>simp
 unfold ne;rw[bH this];rfl
theorem RJ{m:Mv}(h:AN m=true):fO [X4 m,gdM m,(if m.acts=[]then[]else FX m.acts),O7 m]++[59]=Ub m:=by
 unfold AN at h;simp only[aU]at h;obtain⟨⟨⟨⟨⟨h1,h2⟩,h3⟩,h4⟩,h5⟩,h6⟩:=h;have hh:X4 m=hdT m/\ne (X4 m)=true:=by
  unfold X4 hdT;by_cases k1:m.k=1
  ·rw[aZ k1]at h2;rw[aZ k1,aZ k1,pj aN,fK (ri h2),eG,fJ,ma,bS];exact⟨rfl,rfl⟩
  rw[aX k1,aX k1];by_cases k3:m.k=3
  ·rw[aZ k3,aZ k3,pj aN,fK (VI _),eG,fJ,ma,bS];exact⟨rfl,rfl⟩
  rw[aX k3,aX k3];exact⟨rfl,aN⟩
 rw[pj hh.2,hh.1];unfold Ub;rw[bR];congr 1;have e1:Lib.joinTail [32] ([gdM m,(if m.acts=[]then[]else FX m.acts),O7 m].filter ne)=gdT m++((if m.acts=[]then[]else 32::FX m.acts)++(match m.tg with
  | []=>[]
  | s::l=>32::45::62::32::(s++Z9 l))):=by
  have eg:∀ws:List (aJ),Lib.joinTail [32] ((gdM m::ws).filter ne)=gdT m++Lib.joinTail [32] (ws.filter ne):=λws=>by
   unfold gdM gdT;cases m.gd
   ·simp only[kq,jX];rw[RG];rfl
   simp only[yS];rw[fK (by rfl),fJ];rfl
  have ea:∀ws:List (aJ),Lib.joinTail [32] (((if m.acts=[]then[]else FX m.acts)::ws).filter ne)=(if m.acts=[]then[]else 32::FX m.acts)++Lib.joinTail [32] (ws.filter ne):=λws=>by
   by_cases ha:m.acts=[]
   ·rw[aZ ha,aZ ha,RG];rfl
   rw[aX ha,aX ha,fK (by rfl),fJ];rfl
  rw[eg,ea];congr 2;unfold O7;cases m.tg with
  | nil=>rfl
  | cons s l=>
   rw[fK (by rfl),fJ,eG,ma,bS]
 rw[e1];simp only[bR]
 all_goals rfl
theorem mvB(m:Mv):((((if m.k=1 then eZ m.ev else if m.k=3 then decide (0<=m.wt)else decide (m.k=2))&&((decide (m.ev=[])||(m.k==1))&&((m.wt==0)||(m.k==3))))&&(if m.gd then AM m.g else ye m.g))&&(m.tg.all eZ&&m.acts.all mU))=AN m:=by
 unfold AN;generalize (if m.gd then AM m.g else ye m.g)=A;generalize m.tg.all eZ=B;generalize m.acts.all mU=C;generalize eZ m.ev=D;by_cases k1:m.k=1
 ·rw[aZ k1,aZ k1,k1];cases D<;>cases A<;>cases B<;>cases C<;>by_cases hw:m.wt=0<;>simp[hw]
 rw[aX k1,aX k1];by_cases k3:m.k=3
 ·rw[aZ k3,k3];cases A<;>cases B<;>cases C<;>by_cases he:m.ev=[]<;>by_cases hw:m.wt=0<;>by_cases hp:0<m.wt<;>simp[hw,he,hp]<;>omega
 rw[aX k3];by_cases k2:m.k=2
 ·rw[k2];cases A<;>cases B<;>cases C<;>by_cases he:m.ev=[]<;>by_cases hw:m.wt=0<;>simp[hw,he]
 have:¬(1<=m.k/\m.k<=3):=aG
 rw[bH this,bH k2];simp
section
variable {w0 w:ay} {b:Nat} {l:aJ} {st:St}
theorem aar(h:Qz w0 b w l st){F:aL}{m:Mv}{cs:aK}(hx:Ll false w F m cs)(hF:∀k,F k->k<w0.heap.size)(hn:mvN m)(hs:NW m<=16777216)(hE:Er w0)(hT:Tb w0):
  aB au 182 #[rp b,aj cs.toArray] w λe w'=>∃t cN,e=aq (ah (T t))/\t.length<=16450*NW m/\(cN.1=false->t=Ub m)/\Up st (AN m) m.acts.length cN/\Qz w0 b w' l cN/\Mw true b w w':=by
 obtain⟨gc,uh,tg,rfl,hg,M6,rS⟩:=hx;obtain⟨gl,rfl⟩:=jc hg;have M6:=M6.1;have rS:=rS.1;have hsz:=hs;unfold NW at hsz;refine(afy ⟨b,0,none⟩ m.k (T m.ev) m.wt m.gd m.g.k m.g.n (T m.g.s) m.g.op gl m.g.a uh tg m.a (λv w'=>∃t cN,v=ah (T t)/\t.length<=16450*NW m/\(cN.1=false->t=Ub m)/\Up st (AN m) m.acts.length cN/\Qz w0 b w' l cN/\Mw true b w w') w ?_).mono (by
  rintro e w' ⟨v,rfl,s,cN,rfl,h⟩;exact⟨s,cN,rfl,h⟩)
 intro k0 w1 hY fA cJ;have t1:=(h.z true).al cJ hY fA;have tT:=rS.len;have htn:=Et m.tg;refine⟨λs0 w'=>∃hd cN,s0=T hd/\hd.length<=30+m.ev.length/\(cN.1=false->hd=X4 m)/\Up st (if m.k=1 then eZ m.ev else if m.k=3 then decide (0<=m.wt)else decide (m.k=2)) 0 cN/\Zq true w0 w b w' l cN [k0],?_,λhc=>?_,λhc=>⟨λTQ=>?_,λTQ=>?_⟩⟩
 ·rintro _ w2 ⟨hd,uU,rfl,yL,hdt,hU2,t2⟩;refine(jT t2.toQz _).mono ?_;rintro _ w3 ⟨rfl,SI,u1,u2,u3⟩;have t3:=t2.nx u2 u3;have hU3:=hU2.tr u1;rw[show ar #[]=T []from rfl,mE]at hU3;refine⟨rfl,t2.sm u3 aaa,λs1 w'=>∃gt cN,s1=T gt/\gt.length<=16386/\(cN.1=false->gt=gdM m)/\Up SI (if m.gd then AM m.g else ye m.g) 0 cN/\Zq true w0 w b w' l cN [k0],?_,λOJ=>?_,λOJ=>?_⟩
  ·rintro _ w4 ⟨gt,JW,rfl,gtl,gtt,hU4,t4⟩;refine⟨λnv i w'=>∃(j:Nat) (cN:St),i=j/\j<=m.tg.length/\nv=m.tg.length-j/\Up JW ((m.tg.take j).all eZ) 0 cN/\Zq true w0 w b w' l cN [k0],m.tg.length,⟨0,JW,rfl,bB _,rfl,t4.toQz.up0,t4⟩,?_⟩;rintro nv _ w5 ⟨j,WX,rfl,hj,rfl,hU5,t5⟩;have W0:aD lz 1 w5 F tg m.tg:=SliceF.keep dH rS aN λk hk _=>h.arg t5.toQz (hF k hk);refine⟨λhc=>?_,λhc=>?_⟩
   ·have cd:(j:Int)<tg.n:=aP hc;obtain⟨ad,x,cs,g1,g2,g3,g4,g5,g6⟩:=W0.get (bE j) cd;rw[aV]at g2;unfold lz at g6;subst g6;have hxm:=VH (bD g2);refine⟨ad,g1,_,g5,(mz t5.toQz x aG).mono ?_⟩;rintro _ w6 ⟨rfl,st6,v1,v2,v3⟩;refine⟨_,rfl,t5.sm v3 aaa,m.tg.length-(j+1),aG,j+1,st6,aaq,aG,rfl,(hU5.tr v1).cg ?_ rfl,t5.nx v2 v3⟩;rw[bF,g2,zx];simp
   have mQ:¬(j:Int)<tg.n:=aY hc;have qJ:j=m.tg.length:=aG
   subst qJ;rw[bq (ba _)]at hU5;refine⟨λs4 w'=>s4=T (O7 m)/\Zq true w0 w b w' l WX [k0],?_,λhc=>?_,λhc=>?_⟩
   ·rintro _ w7 ⟨rfl,t7⟩;refine(Es t7.toQz (SliceF.keep (dV false) M6 aN λk hk _=>h.arg t7.toQz (hF k hk)) hF hn.a aG hE hT).mono ?_;rintro _ w8 ⟨bt,st8,rfl,btl,btt,hU8,v2,v3⟩;have t8:=t7.nx v2 v3;have avY:(O7 m).length<=3+2*G3 m.tg:=by
     unfold O7;cases hm:m.tg with
     | nil=>exact bB _
     | cons s l=>
      have:=LV s l;rw[Lib.join_cons,LU]at this;rw[bp,bp,bp];omega
    have iY:=iK [hd,gt,bt,O7 m];simp only[bG,fN,cD,iB]at iY;have MR:NW m=(kg m.acts+Ef m.g)+(G3 m.tg+(m.ev.length+1)):=rfl;obtain⟨q9,w9,e9,gy,_,hj9⟩:=CE w8 [hd,gt,bt,O7 m] (n:=4) (parts:=#[.mk 0 (ah (T hd)),.mk 1 (ah (T gt)),.mk 2 (ah (T bt)),.mk 3 (ah (T (O7 m)))]) rfl rfl aN aN aG;have z9:=gy.size;refine⟨_,rfl,t7.sm v3 aaa,q9,w9,e9,t8.sq gy aaa,hj9.mono ?_⟩;rintro _ dR ⟨rfl,ah3⟩;have t10:=t8.q (sW gy ah3);have hU:=(hU3.tr hU4).tr (hU5.tr hU8);refine⟨_,rfl,t8.sj z9 ah3 aaa,abC,fO [hd,gt,bt,O7 m]++[59],st8,acG,abo,λe=>?_,hU.cg ?_ aG,t10.toQz,t10.m⟩
    ·obtain⟨x5,x8,_⟩:=hU8.ok e;obtain⟨x4,x5',_⟩:=hU5.ok x5;obtain⟨x3,x4',_⟩:=hU4.ok x4;obtain⟨x2,x3',_⟩:=u1.ok x3;obtain⟨x1,x2',_⟩:=hU2.ok x2;rw[hdt x2,gtt x4,btt e];refine RJ ?_;obtain⟨_,y,_⟩:=hU.ok e;exact(mvB m).symm.trans y
    exact mvB m
   ·have ue:m.tg≠[]:=λe=>by
     rw[e]at tT;have:tg.n=0:=tT;rw[this]at hc;exact absurd hc aN
    have iY:(Lib.join m.tg [44,32]).length<=2*G3 m.tg:=by
     cases hm:m.tg with
     | nil=>exact absurd hm ue
     | cons s l=>exact LV s l
    refine(amu W0 [44,32] aG aG).mono ?_;rintro _ w7 ⟨rfl,fL⟩;refine⟨_,rfl,t5.sq fL aaa,abC,?_,t5.q fL⟩;rw[show ar #[45,62,32]=T [45,62,32]from rfl,lG];congr 1;unfold O7;cases hm:m.tg with
    | nil=>exact absurd hm ue
    | cons s l=>
     rw[Lib.join_cons,LU];rfl
   have hz:m.tg=[]:=bQ abN;refine⟨?_,t5⟩;unfold O7;rw[hz]
  ·refine(LP t3.toQz ((jb false).keep hg λk hk _=>h.arg t3.toQz (hF k hk)) hn.g aG hE hT).mono ?_;rintro _ w4 ⟨rfl,JW,v1,v2,v3⟩;have t4:=t3.nx v2 v3;have:=LS m.g;refine⟨_,rfl,t3.sm v3 aaa,abC,?_,91::(Cz m.g++[93]),JW,?_,aab,λ_=>by unfold gdM;rw[aZ OJ],by rw[aZ OJ];exact v1,t4⟩
   ·rw[show ar #[91]=T [91]from rfl,lG,dP,aW,bO];omega
   rw[show ar #[91]=T [91]from rfl,show ar #[93]=T [93]from rfl,lG,lG];rfl
  refine(LQ t3.toQz ((jb false).keep hg λk hk _=>h.arg t3.toQz (hF k hk))).mono ?_;rintro _ w4 ⟨rfl,JW,v1,v2,v3⟩;exact⟨rfl,t3.sm v3 aaa,[],JW,rfl,bB _,λ_=>by unfold gdM;rw[aX (by rw[OJ];decide)],by rw[aX (by rw[OJ];decide)];exact v1,t3.nx v2 v3⟩
 ·have hk:m.k=1:=aaw
  refine(mz t1.toQz m.ev aG).mono ?_;rintro _ w2 ⟨rfl,uU,v1,v2,v3⟩;have t2:=t1.nx v2 v3;have iY:=iK [IX,m.ev];simp only[bG,fN,cD,iB]at iY;have hw:IX.length=2:=rfl;obtain⟨q3,w3,e3,dE,_,Ui⟩:=CE w2 [IX,m.ev] (n:=2) (parts:=#[.mk 0 (ah (T IX)),.mk 1 (ah (T m.ev))]) rfl rfl aN aN aG;have z3:=dE.size;refine⟨_,rfl,t1.sm v3 aaa,q3,w3,e3,t2.sq dE aaa,Ui.mono ?_⟩;rintro _ w4 ⟨rfl,hP4⟩;exact⟨_,rfl,t2.sj z3 hP4 aaa,_,uU,rfl,aG,λ_=>by unfold X4;rw[aZ hk],by rw[aZ hk];exact v1,t2.q (sW dE hP4)⟩
 ·have j9:m.k≠1:=aaw
  have hk:m.k=3:=by simpa using TQ
  refine(jT t1.toQz _).mono ?_;rintro _ w2 ⟨rfl,uU,v1,v2,v3⟩;have t2:=t1.nx v2 v3;refine⟨rfl,t1.sm v3 aaa,(za m.wt hn.w (hT.only t2.o)).mono ?_⟩;rintro _ w3 ⟨rfl,dE⟩;have t3:=t2.q dE;have iY:=iK [kF,Lib.itoa m.wt];simp only[bG,fN,cD,iB]at iY;have hw:kF.length=5:=rfl;have Ib:=G5 hn.w;obtain⟨q4,w4,e4,dL,_,hj4⟩:=CE w3 [kF,Lib.itoa m.wt] (n:=2) (parts:=#[.mk 0 (ah (T kF)),.mk 1 (ah (T (Lib.itoa m.wt)))]) rfl rfl aN aN aG;have z4:=dL.size;refine⟨_,rfl,t2.sq dE aaa,q4,w4,e4,t3.sq dL aaa,hj4.mono ?_⟩;rintro _ w5 ⟨rfl,W3⟩;exact⟨_,rfl,t3.sj z4 W3 aaa,_,uU,rfl,aG,λ_=>by unfold X4;rw[aX j9,aZ hk],by rw[aX j9,aZ hk];exact v1,t3.q (sW dL W3)⟩
 have j9:m.k≠1:=aaw
 have zo:m.k≠3:=by simpa using TQ
 refine(jT t1.toQz _).mono ?_;rintro _ w2 ⟨rfl,uU,v1,v2,v3⟩;have t2:=t1.nx v2 v3;refine⟨rfl,t1.sm v3 aaa,kA,uU,rfl,by show 6<=_;omega,λ_=>by unfold X4;rw[aX j9,aX zo],by rw[aX j9,aX zo];exact v1,t2⟩
end
theorem RL{w:ay}{b:Nat}{q:Option Addr}{v1 v2 v3:az}(hq:q=none∨q=some ⟨b,0,none⟩)(h:aH w b 218 [ai q,v1,v2,v3]):
  aB au 199 #[ai (some ⟨b,0,none⟩)] w λe w'=>e=aq (ak #[])/\aA [b] w w'/\aH w' b 218 [ai (some ⟨b,0,none⟩),v1,v2,v3]:=by
 refine ret (XH _ _ _ ?_);have Ic:w.shape? b=some (218,4):=by
  unfold World.shape?;unfold aH at h;rw[h];rfl
 refine⟨q,Blk.eE h 0 rfl,λhn=>?_,λhn=>⟨q,Blk.eE h 0 rfl,?_⟩⟩
 ·have JL:=Lib.run_to_unsafe (P:=au) (src:=213) (dst:=281) w ⟨b,0,none⟩ (t:=216) (j:=Tryz.t216) (by kernel_rfl) (by kernel_rfl) (by kernel_rfl) aN Ic (by decide:(0:Nat)<4);have JM:=Lib.run_from_unsafe (P:=au) (src:=281) (dst:=213) w ⟨b,0,none⟩ (u:=216) (j:=Tryz.t216) (by kernel_rfl) (by kernel_rfl) (by kernel_rfl) Ic (by kernel_rfl);exact⟨⟨ai (some ⟨b,0,none⟩),rfl⟩,w,JL,⟨ai (some ⟨b,0,none⟩),rfl⟩,w,XN _ w,some ⟨b,0,none⟩,w,JM,b,0,_,_,rfl,h,aaa,λw3 hO hB=>⟨rfl,hO,hB⟩⟩
 rcases hq with rfl | rfl
 ·cases hn
 exact⟨false,w,Lib.run_neq_ptr_same w _ (te:=216) (j:=Tryz.t216) (by kernel_rfl) (by kernel_rfl),λe=>adJ,λ_=>⟨rfl,Only.refl _ _,h⟩⟩
section
variable {w0 w:ay} {b:Nat} {l:aJ} {st:St}
theorem VJ(h:Qz w0 b w l st)(m:aJ)(hm:l.length+m.length<=274877906944):aB au 175 #[ai (some ⟨b,0,none⟩),ah (T m)] w λe w'=>
  e=aq (ak #[O ae (m.length:Int),.nilIface])/\Qz w0 b w' (l++m) st/\Mw false b w w':=by
 refine ret (XG _ _ _ _ ?_);obtain⟨q,sl,hq,hB,YS⟩:=h.ex;refine(RL hq hB).mono ?_;rintro _ w1 ⟨rfl,cQ,rQ⟩;have z0:=cQ.size;have hb:=hB.lt;have wA:Bf w1 (b+1) sl l:=YS.keep λg hg hl=>cQ.block g hl (by have:=(YS.lt hg).1;simp;omega);obtain⟨s',w2,k1,k2,k3,k4⟩:=K4 wA m aG aG;have z1:=k3.size;have uw:aH w2 b 218 [ai (some ⟨b,0,none⟩),sl.v,ao st.1,O ae st.2]:=k3.blk rQ λe=>ads
 have wx:∀g,s'.a=some ⟨g,0,none⟩->b<g:=λg hg=>by
  rcases k4 with e | e
  ·rw[e]at hg;exact(wA.lt hg).1
  rw[e]at hg;injection hg with hg;injection hg with hg;omega
 refine⟨rfl,sl,Blk.eE rQ 1 rfl,s',w2,k1,b,1,_,_,rfl,uw,aaa,λw3 dw qG=>?_⟩;have qG:aH w3 b 218 [ai (some ⟨b,0,none⟩),s'.v,ao st.1,O ae st.2]:=qG;have iW:aF (λk=>k=b∨(false=false/\Bu w b k)) w w3:=((cQ.p (F:=λk=>k=b∨(false=false/\Bu w b k)) λx hx=>.inl (.inl abq)).trans k3 λk hk=>.inl (.inr ⟨rfl,G1 hB hk⟩)).trans (dw.p (F:=λk=>k=b) λx hx=>.inl abq) λk hk=>.inl (.inl hk);refine⟨by rw[dP],⟨?_,h.lo,⟨_,_,.inr rfl,qG,k2.keep λg hg hl=>dw.block g hl ado⟩,h.i,by rw[aW];exact hm⟩,iW,λk hk=>?_⟩
 ·refine⟨iW.os.trans h.o.os,iW.tape.trans h.o.tape,iW.output.trans h.o.output,bf h.o.size iW.size,λk hk _=>(iW.block k (cq hk h.o.size) ?_).trans (h.o.block k hk aaa)⟩;rintro(e | ⟨_,e⟩)
  ·have:=h.lo;omega
  have:=(h.bu e).1;have:=h.lo;omega
 have e:=LN qG hk;rcases k4 with e2 | e2
 ·exact .inl (G1 hB (e2▸e))
 rw[e2]at e;injection e with e;injection e with e;exact .inr ⟨rfl,aG⟩
theorem Zq.sl{f g:Bool}{ws w1 w':ay}{ks ks':List Nat}(t:Zq f w0 ws b w l st ks)(hO:aA [] w w1)(m:Mw g b w w')(hk:∀k,k∈ks'->k∈ks):cj ks' w1 w':=λx hx=>
 (t.sm m hk x hx).trans (t.sq hO hk x hx).symm
theorem LW:∀d,Lib.repeatL [32,32] d=NP d
 | 0=>rfl
 | d+1=>by rw[Lib.repeatL,LW d];rfl
theorem LX:∀d,(NP d).length=2*d
 | 0=>rfl
 | d+1=>by rw[NP,bp,bp,LX d];omega
theorem yh(h:Qz w0 b w l st)(ws:List (aJ)){n:Nat}{parts:Array (Nat×az)}(hp:parts=(((ws.map λx=>Value.string (T x)).zipIdx 0).map λx=>(x.2,x.1)).toArray)(hn:ws.length=n)(h0:0<n)(BU:n*1<=16777216)(d:Nat)(hd:d<=12)(hl:(fO ws).length<=274877889536):
  ∃(q:Sl) (w1:ay),(aw 132 n parts).run au w=.ok q.v w1/\aA [] w w1/\aB au 142 #[rp b,O ae (d:Int),q.v] w1 λe w'=>e=aq (ak #[])/\Qz w0 b w' (if st.1 then l else qo l (d,fO ws)) st/\Mw false b w w':=by
 obtain⟨q,w1,e1,aoN,cJ⟩:=og w ws hp hn h0 BU;refine⟨q,w1,e1,cJ,?_⟩;have t1:=(h.z true).q cJ;have hb:=h.lb;have hbu:∀k,Bu w b k->k<w.heap.size:=λk hk=>(h.bu hk).2;refine ret (afp _ _ _ _ _ ?_);refine(LR t1.toQz).mono ?_;rintro _ w2 ⟨rfl,rfl⟩;obtain⟨qq,sl,hB,_⟩:=t1.toQz.set;refine⟨_,rfl,st.1,λ_=>Blk.eE hB 2 rfl,λhc w3 dE=>?_,λhc=>?_⟩
 ·simp only[aU,dj,dq]at hc;obtain⟨tu,nZ⟩:=hc;have t3:=t1.q dE;refine(Tryz.strings_Repeat (T [32,32]) d w3 aG (by show 2*d<=_;omega)).mono ?_;rintro _ w4 ⟨rfl,uA⟩;have dL:=Only.below uA;have t4:=t3.q dL;have aco:=aoN.keep dH (w':=w4) λk hk cd=>(dE.cy dL).block k cd aaa;have yL:=LX d;refine⟨T (NP d),by rw[show(T [32,32]).data.toList=[32,32]from rfl,LW],(AU aco aG aG).mono ?_⟩;rintro _ w5 ⟨rfl,W3⟩;have t5:=t4.row hb hbu W3;refine⟨_,rfl,by rw[dP,dP];omega,by rw[lG,dP,aW];omega,?_⟩;rw[show ar #[10]=T [10]from rfl,lG,lG,show(Addr.add ⟨b,0,none⟩ 0:Addr)=⟨b,0,none⟩from rfl];refine(VJ t5.toQz _ ?_).mono ?_
  ·simp only[aW,bp,di];omega
  rintro _ w6 ⟨rfl,h6,m6⟩;refine⟨_,⟨.nilIface,rfl⟩,rfl,rfl,?_,t5.m.up.trans m6⟩;rw[nZ,aX aN];unfold qo lnT;rw[aX tu];dsimp only;rw[bR]at h6;exact h6
 refine⟨rfl,?_,t1.m.up⟩;have:(if st.1 then l else qo l (d,fO ws))=l:=by
  cases e:st.1
  ·rw[e]at hc;have hc:16384<l.length:=aaw
   rw[aX aN];unfold qo;rw[aZ hc]
  rfl
 rw[this];exact t1.toQz
theorem AY(h:Qz w0 b w l st)(d:Nat)(hd:d<=12)(word text:aJ)(hw:word.length<=100)(hl:text.length<=274877880000):
  aB au 180 #[rp b,O ae (d:Int),ah (T word),ah (T text)] w λe w'=>e=aq (ak #[])/\Qz w0 b w' (if st.1||decide (text=[])then l else qo l (d,fO [word,text])) st/\Mw false b w w':=by
 refine ret (aft _ _ _ _ _ _ ?_);rw[show ar #[]=T []from rfl,mE];refine⟨λhc=>?_,λhc=>?_⟩
 ·have hc:text≠[]:=aaw
  have iY:=iK [word,text];simp only[bG,fN,cD,iB]at iY;obtain⟨q,w1,e1,cJ,hj⟩:=yh h [word,text] (n:=2) (parts:=#[.mk 0 (ah (T word)),.mk 1 (ah (T text))]) rfl rfl aN aN d hd aG;refine⟨q,w1,e1,hj.mono ?_⟩;rintro _ w2 ⟨rfl,h2,m2⟩;refine⟨rfl,rfl,?_,m2⟩;rw[bH hc,Bool.or_false];exact h2
 have hc:text=[]:=aaw
 refine⟨rfl,?_,Mw.refl _ _ _⟩;rw[bL hc,Kb,aZ rfl];exact h
end
end Go.Proofs.YtpbgcbdclnfpnaaGreatDoor.Con
