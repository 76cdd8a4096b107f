import Derived.Test.YtmhoiicofhlgbaaGreatDoorQf4
set_option linter.unusedSectionVars false
namespace Go.Proofs.YtmhoiicofhlgbaaGreatDoor.Con
open Go.Value renaming int->O,string->ab,pointer->ae,agg->ah,tuple->ai,bool->aj
open Go.IntKind renaming i64->U,wrap->ar
open Go.Ending renaming returned->ak
open _root_.ByteArray renaming mk->ao
open _root_.Go.Proofs.Tryz renaming prog->aq
open Go.Instr renaming buildSlice->au
open Go renaming World->av,Value->aw,Calls->az
open Go.Kt renaming Only->ay,SliceF->aA,Cells->aB,OnlyP->aD,Blk->aF
open Go Go.RowKit Go.Kt Go.Kt.V Go.Proofs.YtmhoiicofhlgbaaGreatDoor.Vc
set_option linter.unusedSimpArgs false
set_option linter.unusedVariables false
set_option maxHeartbeats 4000000
def opn(wr:Bool)(l:aH):aH:=if wr then l++[40]else l
def clo(wr:Bool)(l:aH):aH:=if wr then l++[41]else l
def nY:Nat->Ex->Bool->aH->aH
 | 0,_,_,l=>l
 | d+1,x,wr,l=>if 16384<l.length then l else clo wr (
  if x.k=1 then opn wr l++Lib.itoa x.n
  else if x.k=2 then opn wr l++x.s
  else if x.k=3 then opn wr l++([105,110,40]++x.s++[41])
  else if x.k=4 then(match x.dj with
   | [y]=>nY d y (decide (bN y<6)) (opn wr l++dD x.op.toNat)
   | _=>l)
  else(match x.dj with
   | [y,z]=>nY d z (decide (bN z<=bN x)) (nY d y (decide (bN y<bN x)) (opn wr l)++([32]++dD x.op.toNat++[32]))
   | _=>l))
section
variable {x:Ex}
theorem uh{n:Int}{s:aH}{op len:Int}(h:Lc n s op len x=true):x.n=n/\x.s=s/\x.op=op/\(x.dj.length:Int)=len:=by
 simp only[Lc,aP,dz,bA]at h;exact⟨h.1.1.1,h.1.1.2,h.1.2,h.2⟩
theorem jg(h:gn x=true)(hk:x.k=2∨x.k=3):cY x.s=true:=by
 have h1:x.k≠1:=by omega
 rw[gn,if_neg h1,if_pos hk,aP]at h;exact h.1
theorem sf(h:gn x=true)(hk:x.k=4):∃y,x.dj=[y]/\(x.op=14∨x.op=15):=by
 rw[gn,if_neg (by omega),if_neg (by omega),if_pos hk]at h;obtain⟨_,_,h3,h4⟩:=uh h;obtain⟨y,hy⟩:=List.length_eq_one_iff.1 (show x.dj.length=1 by omega);refine⟨y,hy,?_⟩;by_cases DI:x.op=15
 ·exact .inr DI
 ·rw[if_neg DI]at h3;exact .inl h3
theorem oo(h:gn x=true)(h1:x.k≠1)(h2:x.k≠2)(h3:x.k≠3)(h4:x.k≠4):x.k=5/\∃y z,x.dj=[y,z]/\1<=x.op/\x.op<=13:=by
 rw[gn,if_neg h1,if_neg (by omega),if_neg h4]at h;split at h
 ·rename_i h5;rw[aP]at h;obtain⟨h6,h7⟩:=h;obtain⟨_,_,_,h8⟩:=uh h7;have h6:eL x.op≠6:=by simpa using h6
  have h2l:x.dj.length=2:=by omega
  obtain⟨y,z,hy⟩:∃y z,x.dj=[y,z]:=by
   match hm:x.dj,h2l with
   | [y,z],_=>exact⟨y,z,rfl⟩
  refine⟨h5,y,z,hy,?_⟩;unfold eL at h6;refine bC fun hn=>h6 ?_;rw[if_neg (by omega),if_neg (by omega),if_neg (by omega),if_neg (by omega),if_neg (by omega),if_neg (by omega)]
 ·cases h
theorem gA{s:aH}(h:cY s=true):s.length<=24:=by
 unfold cY at h;simp only[aP]at h;exact(aQ h.1.1.1).2
theorem ku(n:Nat):(dD n).length<=2:=by
 rcases kC n 16 with h | h
 ·have:∀q,q<16->(dD q).length<=2:=by decide
  exact this n h
 ·unfold dD;rw[cK (by exact h)];decide
theorem Jk(wr:Bool)(l:aH):(opn wr l).length<=l.length+1:=by
 unfold opn;cases wr<;>simp
theorem Sz(wr:Bool)(l:aH):(clo wr l).length<=l.length+1:=by
 unfold clo;cases wr<;>simp
theorem qL:∀(d:Nat) {x:Ex} (wr:Bool) (l:aH),cw d x=true->jQ d x->(nY d x wr l).length<=l.length+40*lA d x
 | 0,x,wr,l,h,_=>by cases h
 | d+1,x,wr,l,h,⟨hn,hs⟩=>by
  rw[cw,aP]at h;obtain⟨hh,ha⟩:=h;have h1:=Jk wr l;rw[nY,lA];split
  ·omega
  refine bh (Sz _ _) ?_;split
  ·rw[aN];have:=Lib.itoa_length_le x.n hn.1 hn.2;omega
  ·split
   ·rename_i hk;rw[aN];have:=gA (jg hh (.inl hk));omega
   ·split
    ·rename_i hk;rw[aN,aN,aN];have:=gA (jg hh (.inr hk));simp only[aR,aZ];omega
    ·split
     ·rename_i hk;obtain⟨y,hy,_⟩:=sf hh hk;rw[hy]at ha hs⊢;dsimp only;simp only[iT,cR,nN]at ha⊢;have:=qL d (decide (bN y<6)) (opn wr l++dD x.op.toNat) ha (hs y (by simp));rw[aN]at this;have:=ku x.op.toNat;omega
     ·rename_i k1 k2 k3 k4;obtain⟨hk,y,z,hy,_⟩:=oo hh k1 k2 k3 k4;rw[hy]at ha hs⊢;dsimp only;simp only[iT,cR,nN,aP]at ha⊢;have a1:=qL d (decide (bN y<bN x)) (opn wr l) ha.1 (hs y (by simp));have a2:=qL d (decide (bN z<=bN x)) (nY d y (decide (bN y<bN x)) (opn wr l)++([32]++dD x.op.toNat++[32])) ha.2 (hs z (by simp));rw[aN,aN,aN]at a2;have:=ku x.op.toNat;simp only[aR,aZ]at a2;omega
end
structure Pz (d:Nat) (F G:aJ) (k0 b:Nat) (sub sn:Sl) (subs:List Ex) (w:av) (sl:Sl) (l:aH):Prop where
 pg:Pg G w b sl sn l
 tb:Tb w
 own:k0≠b/\sl.a≠some ⟨k0,0,none⟩/\k0<w.heap.size
 sb:aA (nM d) 6 w F sub subs
 hF:∀k,F k->k<b
 hT:3<b
section
variable {d:Nat} {F G:aJ} {k0 b:Nat} {sx sn sl gL:Sl} {subs:List Ex} {w w' rn:av} {l l':aH}
theorem Pg.out(h:Pg G w b sl sn l){k:Nat}(hk:k<b):¬(k=b∨sl.a=some ⟨k,0,none⟩):=by
 rintro(e | e)
 ·omega
 ·have:=(h.buf.lt e).1;omega
theorem Pz.only(h:Pz d F G k0 b sx sn subs w sl l)(hO:ay [] w w'):Pz d F G k0 b sx sn subs w' sl l:=by
 have z:=hO.size;exact⟨h.pg.only hO,h.tb.only hO,⟨h.own.1,h.own.2.1,by have:=h.own.2.2;omega⟩,SliceF.only (dW d) (by decide) h.sb hO (by simp),h.hF,h.hT⟩
theorem Pz.mv(h:Pz d F G k0 b sx sn subs w sl l)(hp:Pg G w' b gL sn l')(hm:ii b sl w gL w'):Pz d F G k0 b sx sn subs w' gL l'/\bS [k0] w w'/\bO (fun k=>k<b∨k=k0) w w':=by
 have z:=hm.1.size;obtain⟨o1,o2,o3⟩:=h.own;refine⟨⟨hp,h.tb.keep fun bQ=>hm.1.block _ bQ (h.pg.out h.hT),⟨o1,fun e=>?_,by omega⟩,SliceF.rc (dW d) (by decide) h.sb hm.1 fun k hk _=>h.pg.out (h.hF k hk),h.hF,h.hT⟩,hm.same o1 o2 o3,fun k hk bQ=>hm.1.block k bQ ?_⟩
 ·rcases hm.2 k0 e with e | e
  ·exact o2 e
  ·omega
 ·rcases hk with hk | rfl
  ·exact h.pg.out hk
  ·rintro(e | e)
   ·exact o1 e
   ·exact o2 e
theorem ii.after(h:ii b sl w' gL rn)(hO:ay [] w w'):ii b sl w gL rn:=(ii.only hO).trans h
theorem Pz.same(h:Pz d F G k0 b sx sn subs w sl l)(hO:ay [] w w'):bS [k0] w w':=hO.same (by have:=h.own.2.2;simp;omega)
theorem Pz.sig(h:Pz d F G k0 b sx sn subs w sl l){op:Int}(h0:0<=op)(h1:op<16):∃ad,dl sn op 1 ad/\aB w ad [ab (T (dD op.toNat))]:=by
 have hn:=h.pg.sig.len;have hol:tL.length=16:=rfl;obtain⟨ad,x,cs,g1,g2,g3,g4,g5,g6⟩:=h.pg.sig.get h0 (by omega);unfold jB at g6;subst g6;have hx:dD op.toNat=x:=by unfold dD;rw[g2];rfl
 subst hx;exact⟨ad,g1,g5⟩
theorem Pz.sub(h:Pz d F G k0 b sx sn subs w sl l){i:Nat}{y:Ex}(hy:subs[i]? =some y):∃ad sy,dl sx (i:Int) 6 ad/\ad.block<b/\aB w ad (j6 y.k y.n y.s y.op sy y.a)/\nM d w F y (j6 y.k y.n y.s y.op sy y.a):=by
 have hn:=h.sb.len;have bQ:=(bc.1 hy).1;obtain⟨ad,x,cs,g1,g2,g3,g4,g5,g6⟩:=h.sb.get (ba i) (by omega);rw[aX,hy]at g2;injection g2 with g2;subst g2;obtain⟨sy,rfl⟩:=jV g6;exact⟨ad,sy,g1,h.hF _ g3,g5,g6⟩
end
abbrev PgC(d:Nat):Prop:=∀{G F:aJ} {w:av} {b:Nat} {sl sn:Sl} {l:aH} {x:Ex} {cs:aI} (wr:Bool),cw d x=true->jQ d x->nM d w F x cs->(∀k,F k->k<b)->Tb w->3<b->Pg G w b sl sn l->l.length+40*lA d x<=70368744177664->
 az aq 264 #[ae (some ⟨b,0,none⟩),ah cs.toArray,aj wr] w fun e w'=>∃gL,e=ak (ai #[])/\Pg G w' b gL sn (nY d x wr l)/\ii b sl w gL w'
theorem inb(s:aH):ao #[105,110,40]++T s++ao #[41]=T ([105,110,40]++s++[41]):=by
 rw[show ao #[105,110,40]=T [105,110,40]from rfl,show ao #[41]=T [41]from rfl,dZ,dZ]
theorem blb(s:aH):ao #[32]++T s++ao #[32]=T ([32]++s++[32]):=by
 rw[show ao #[32]=T [32]from rfl,dZ,dZ]
theorem YR(c:aK)(s:aH):(c++T s).size=c.size+s.length:=by
 rw[show c=T c.data.toList from wl c,dZ,bW,bW,aN]
theorem kR.mono{P:Program}{f:FuncId}{a:Array aw}{w:av}{Q Q':aG}(h:kR P f a w Q)(hq:∀v w',Q v w'->Q' v w'):kR P f a w Q':=fun c cs hc=>by
 obtain⟨e,u',w',fr,⟨h1,v,h2,h3⟩,h4⟩:=h c cs hc;exact⟨e,u',w',fr,⟨h1,v,h2,hq _ _ h3⟩,h4⟩
theorem uD:∀d,PgC d
 | 0,_,_,_,_,_,_,_,_,_,_,_,_,h,_,_,_,_,_=>h.elim
 | d+1,G,F,w,b,sl,sG,l,x,cs,wr,ri,⟨Rj,Rk⟩,⟨xs,h1,h2⟩,hF,hT,XC,hP,ey=>by
  subst h1;refine(agm ⟨b,0,none⟩ x.k x.n (T x.s) x.op xs x.a wr (fun v w'=>∃gL,v=ai #[]/\Pg G w' b gL sG (nY (d+1) x wr l)/\ii b sl w gL w') w ?_).mono (by
   rintro e w' ⟨v,rfl,s,rfl,h⟩;exact⟨s,rfl,h⟩)
  have hx:nM (d+1) w F x (j6 x.k x.n x.s x.op xs x.a):=⟨xs,rfl,h2⟩
  rw[cw,aP]at ri;obtain⟨hh,ha⟩:=ri;rw[lA]at ey;intro k0 w0 gD dQ ch;have hb:=hP.lb;have WZ:Pz d F G k0 b xs sG x.dj w0 sl l:=⟨hP.only ch,hT.only ch,⟨by omega,fun e=>by have:=(hP.buf.lt e).2;omega,dQ⟩,SliceF.only (dW d) (by decide) h2 ch (by simp),hF,XC⟩
  refine(V1 WZ.pg).mono ?_;rintro _ w1 ⟨rfl,rfl⟩;refine⟨_,rfl,fun _ _=>rfl,fun hc=>⟨sl,rfl,?_,(ii.only ch)⟩,fun hc=>?_⟩
  ·rw[nY,if_pos (by have:=aQ hc;omega)];exact WZ.pg
  have hc:¬16384<l.length:=by have:=aU hc;omega
  have KC:nY (d+1) x wr l=clo wr (
  if x.k=1 then opn wr l++Lib.itoa x.n
  else if x.k=2 then opn wr l++x.s
  else if x.k=3 then opn wr l++([105,110,40]++x.s++[41])
  else if x.k=4 then(match x.dj with
   | [y]=>nY d y (decide (bN y<6)) (opn wr l++dD x.op.toNat)
   | _=>l)
  else(match x.dj with
   | [y,z]=>nY d z (decide (bN z<=bN x)) (nY d y (decide (bN y<bN x)) (opn wr l)++([32]++dD x.op.toNat++[32]))
   | _=>l)):=by rw[nY,if_neg hc]
  have hol:=Jk wr l;refine⟨fun hw=>(Sw WZ.pg 40 (by omega)).mono ?_,fun hw=>?_⟩
  ·rintro _ w2 ⟨Qc,rfl,P1,tF⟩;obtain⟨DJ,L0,_⟩:=WZ.mv P1 tF;have Qe:l++[40]=opn wr l:=by unfold opn;rw[if_pos hw]
   rw[Qe]at DJ;refine⟨⟨.nilIface,rfl⟩,rfl,L0,?_⟩;have fin:∀{DZ:Sl} {w5:av} {m:aH},Pz d F G k0 b xs sG x.dj w5 DZ m->ii b Qc w2 DZ w5->nY (d+1) x wr l=clo wr m->m.length<=l.length+40*(1+nN (lA d) x.dj)->kR aq 296 #[ae (some ((⟨b,0,none⟩:Addr).add 0)),.int .u8 41] w5 fun _ w'=>∃gL,(Value.tuple #[])=ai #[]/\Pg G w' b gL sG (nY (d+1) x wr l)/\ii b sl w gL w':=by
    intro DZ w5 m Ia A4 he Qf;have hd:=Sy Ia.pg 41 (by omega);refine kR.mono hd ?_;rintro v w' ⟨gL,hv,hp',hm'⟩;refine⟨gL,rfl,?_,((tF.after ch).trans A4).trans hm'⟩;rw[he];unfold clo;rw[if_pos hw];exact hp'
   refine⟨fun hk w3 dh=>?_,fun k1=>⟨fun hk w7 fN=>?_,fun k2=>⟨fun hk=>⟨?_,?_,fun dw dM=>?_⟩,fun k3=>⟨fun hk eU dL=>?_,fun k4=>(oT (show nM (d+1) _ F x (j6 x.k x.n x.s x.op xs x.a)from⟨xs,rfl,DJ.sb⟩)).mono ?_⟩⟩⟩⟩
   ·have hk:x.k=1:=by simpa using hk
    have XD:=DJ.only dh;refine(yt x.n Rj XD.tb).mono ?_;rintro _ w4 ⟨rfl,dI⟩;have hz4:=XD.only dI;have hl:=Lib.itoa_length_le x.n Rj.1 Rj.2;refine⟨_,rfl,XD.same dI,(pe hz4.pg (Lib.itoa x.n) (by omega)).mono ?_⟩;rintro _ w5 ⟨DZ,rfl,Qg,A4⟩;obtain⟨Ia,KD,_⟩:=hz4.mv Qg A4;exact⟨_,⟨.nilIface,rfl⟩,rfl,KD,fin Ia ((A4.after dI).after dh) (by rw[KC,if_pos hk]) (by rw[aN];omega)⟩
   ·have hk:x.k=2:=by simpa using hk
    have k1:x.k≠1:=by omega
    have hz7:=DJ.only fN;have hl:=gA (jg hh (.inl hk));refine(pe hz7.pg x.s (by omega)).mono ?_;rintro _ w8 ⟨DZ,rfl,Qg,A4⟩;obtain⟨Ia,KD,_⟩:=hz7.mv Qg A4;exact⟨_,⟨.nilIface,rfl⟩,rfl,KD,fin Ia (A4.after fN) (by rw[KC,if_neg k1,if_pos hk]) (by rw[aN];omega)⟩
   ·have hk:x.k=3:=by simpa using hk
    have hl:=gA (jg hh (.inr hk));rw[bW];omega
   ·have hk:x.k=3:=by simpa using hk
    have hl:=gA (jg hh (.inr hk));rw[YR];have:(ao #[105,110,40]).size=3:=rfl;omega
   ·have hk:x.k=3:=by simpa using hk
    have hl:=gA (jg hh (.inr hk));have Qh:=DJ.only dM;have uO:([105,110,40]++x.s++[41]:aH).length=x.s.length+4:=by
     rw[aN,aN];simp only[aR,aZ];omega
    rw[inb];refine(pe Qh.pg _ (by omega)).mono ?_;rintro _ dJ ⟨DZ,rfl,Qg,A4⟩;obtain⟨Ia,KD,_⟩:=Qh.mv Qg A4;exact⟨_,⟨.nilIface,rfl⟩,rfl,KD,fin Ia (A4.after dM) (by rw[KC,if_neg (by omega),if_neg (by omega),if_pos hk]) (by rw[aN];omega)⟩
   ·have hk:x.k=4:=by simpa using hk
    obtain⟨y,hy,oB⟩:=sf hh hk;have XE:nN (lA d) x.dj=lA d y:=by rw[hy];simp[nN]
    have XF:cw d y=true:=by rw[hy]at ha;simpa[iT]using ha
    have A5:jQ d y:=Rk y (by rw[hy];simp);have Qi:=ku x.op.toNat;have DK:=DJ.only dL;obtain⟨q,hq,hB⟩:=DK.pg.blk;obtain⟨ad,g1,g2⟩:=DK.sig (op:=x.op) (by omega) (by omega);refine⟨sG,Blk.ec hB 2 rfl,ad,g1,_,g2,(pe DK.pg (dD x.op.toNat) (by omega)).mono ?_⟩;rintro _ fM ⟨L4,rfl,XG,Qj⟩;obtain⟨XH,XI,_⟩:=DK.mv XG Qj;refine⟨_,⟨.nilIface,rfl⟩,rfl,XI,fun iy kB=>?_⟩;have Ib:=XH.only kB;obtain⟨p1,sy,e1,e2,e3,e4⟩:=Ib.sub (i:=0) (y:=y) (by rw[hy];rfl);refine⟨fun k=>k<b∨k=k0,.inr rfl,p1,e1,.inl e2,_,_,_,_,_,_,e3,p1,e1,_,_,_,_,_,_,e3,(oT e4).mono ?_⟩;rintro _ jK ⟨rfl,kc⟩;have Ic:=Ib.only kc;have Zp:=qL d (decide (bN y<6)) (opn wr l++dD x.op.toNat) XF A5;rw[aN]at Zp;refine⟨_,rfl,Ib.same kc,bO.only kc,(uD d (decide (bN y<6)) XF A5 (fP e4 kc) hF Ic.tb XC Ic.pg (by rw[aN];omega)).mono ?_⟩;rintro _ iZ ⟨ai7,rfl,XJ,Qk⟩;obtain⟨XK,XM,XN⟩:=Ic.mv XJ Qk;exact⟨rfl,XM,XN,fin XK ((Qj.after dL).trans ((Qk.after kc).after kB)) (by rw[KC,if_neg (by omega),if_neg (by omega),if_neg (by omega),if_pos hk,hy]) (by omega)⟩
   ·rintro _ kf ⟨rfl,lO⟩;have k1:x.k≠1:=by simpa using k1
    have k2:x.k≠2:=by simpa using k2
    have k3:x.k≠3:=by simpa using k3
    have k4:x.k≠4:=by simpa using k4
    obtain⟨hk,y,z,hy,P0,Gz⟩:=oo hh k1 k2 k3 k4;have XE:nN (lA d) x.dj=lA d y+lA d z:=by rw[hy];simp[nN]
    have xa:cw d y=true/\cw d z=true:=by rw[hy]at ha;simpa[iT]using ha
    have A5:jQ d y:=Rk y (by rw[hy];simp);have Rl:jQ d z:=Rk z (by rw[hy];simp);have Qi:=ku x.op.toNat;have XO:=DJ.only lO;refine⟨_,rfl,DJ.same lO,fun jL lJ=>?_⟩;have Ie:=XO.only lJ;obtain⟨p1,sy,e1,e2,e3,e4⟩:=Ie.sub (i:=0) (y:=y) (by rw[hy];rfl);refine⟨fun k=>k<b∨k=k0,.inr rfl,p1,e1,.inl e2,_,_,_,_,_,_,e3,p1,e1,_,_,_,_,_,_,e3,(oT e4).mono ?_⟩;rintro _ mX ⟨rfl,ja⟩;have Ig:=Ie.only ja;have Zp:=qL d (decide (bN y<bN x)) (opn wr l) xa.1 A5;refine⟨_,rfl,Ie.same ja,bO.only ja,(uD d (decide (bN y<bN x)) xa.1 A5 (fP e4 ja) hF Ig.tb XC Ig.pg (by omega)).mono ?_⟩;rintro _ qS ⟨ai8,rfl,XP,Ql⟩;obtain⟨XQ,XR,XS⟩:=Ig.mv XP Ql;refine⟨rfl,XR,XS,fun rh sM=>?_⟩;have DL:=XQ.only sM;obtain⟨q,hq,hB⟩:=DL.pg.blk;obtain⟨ad,g1,g2⟩:=DL.sig (op:=x.op) (by omega) (by omega);have uO:([32]++dD x.op.toNat++[32]:aH).length=(dD x.op.toNat).length+2:=by
     rw[aN,aN];simp only[aR,aZ];omega
    have xP:(ao #[32]).size=1:=rfl;refine⟨sG,Blk.ec hB 2 rfl,ad,g1,_,g2,by rw[bW];omega,by rw[YR];omega,?_⟩;rw[blb];refine(pe DL.pg _ (by omega)).mono ?_;rintro _ tG ⟨ai9,rfl,XU,Qm⟩;obtain⟨XV,XW,_⟩:=DL.mv XU Qm;refine⟨_,⟨.nilIface,rfl⟩,rfl,XW,fun po DE=>?_⟩;have Ih:=XV.only DE;obtain⟨p2,sz,f1,f2,f3,f4⟩:=Ih.sub (i:=1) (y:=z) (by rw[hy];rfl);refine⟨fun k=>k<b∨k=k0,.inr rfl,p2,f1,.inl f2,_,_,_,_,_,_,f3,p2,f1,_,_,_,_,_,_,f3,(oT f4).mono ?_⟩;rintro _ qT ⟨rfl,jF⟩;have Ii:=Ih.only jF;have XX:=qL d (decide (bN z<=bN x)) (nY d y (decide (bN y<bN x)) (opn wr l)++([32]++dD x.op.toNat++[32])) xa.2 Rl;rw[aN,uO]at XX;refine⟨_,rfl,Ih.same jF,bO.only jF,(uD d (decide (bN z<=bN x)) xa.2 Rl (fP f4 jF) hF Ii.tb XC Ii.pg (by rw[aN,uO];omega)).mono ?_⟩;rintro _ tW ⟨aja,rfl,XY,Qn⟩;obtain⟨XZ,X1,X2⟩:=Ii.mv XY Qn;exact⟨rfl,X1,X2,fin XZ (((Ql.after ja).after lJ).after lO |>.trans ((Qm.after sM).trans ((Qn.after jF).after DE))) (by rw[KC,if_neg k1,if_neg k2,if_neg k3,if_neg k4,hy]) (by omega)⟩
  ·have Qe:l=opn wr l:=by unfold opn;rw[hw];rfl
   have DJ:Pz d F G k0 b xs sG x.dj w1 sl (opn wr l):=by rw[<-Qe];exact WZ
   have fin:∀{DZ:Sl} {w5:av} {m:aH},Pz d F G k0 b xs sG x.dj w5 DZ m->ii b sl w1 DZ w5->nY (d+1) x wr l=clo wr m->m.length<=l.length+40*(1+nN (lA d) x.dj)->∃gL,(Value.tuple #[])=ai #[]/\Pg G w5 b gL sG (nY (d+1) x wr l)/\ii b sl w gL w5:=by
    intro DZ w5 m Ia A4 he Qf;refine⟨DZ,rfl,?_,A4.after ch⟩;rw[he];unfold clo;rw[hw];exact Ia.pg
   refine⟨fun hk w3 dh=>?_,fun k1=>⟨fun hk w7 fN=>?_,fun k2=>⟨fun hk=>⟨?_,?_,fun dw dM=>?_⟩,fun k3=>⟨fun hk eU dL=>?_,fun k4=>(oT (show nM (d+1) _ F x (j6 x.k x.n x.s x.op xs x.a)from⟨xs,rfl,DJ.sb⟩)).mono ?_⟩⟩⟩⟩
   ·have hk:x.k=1:=by simpa using hk
    have XD:=DJ.only dh;refine(yt x.n Rj XD.tb).mono ?_;rintro _ w4 ⟨rfl,dI⟩;have hz4:=XD.only dI;have hl:=Lib.itoa_length_le x.n Rj.1 Rj.2;refine⟨_,rfl,XD.same dI,(pe hz4.pg (Lib.itoa x.n) (by omega)).mono ?_⟩;rintro _ w5 ⟨DZ,rfl,Qg,A4⟩;obtain⟨Ia,KD,_⟩:=hz4.mv Qg A4;exact⟨_,⟨.nilIface,rfl⟩,rfl,KD,fin Ia ((A4.after dI).after dh) (by rw[KC,if_pos hk]) (by rw[aN];omega)⟩
   ·have hk:x.k=2:=by simpa using hk
    have k1:x.k≠1:=by omega
    have hz7:=DJ.only fN;have hl:=gA (jg hh (.inl hk));refine(pe hz7.pg x.s (by omega)).mono ?_;rintro _ w8 ⟨DZ,rfl,Qg,A4⟩;obtain⟨Ia,KD,_⟩:=hz7.mv Qg A4;exact⟨_,⟨.nilIface,rfl⟩,rfl,KD,fin Ia (A4.after fN) (by rw[KC,if_neg k1,if_pos hk]) (by rw[aN];omega)⟩
   ·have hk:x.k=3:=by simpa using hk
    have hl:=gA (jg hh (.inr hk));rw[bW];omega
   ·have hk:x.k=3:=by simpa using hk
    have hl:=gA (jg hh (.inr hk));rw[YR];have:(ao #[105,110,40]).size=3:=rfl;omega
   ·have hk:x.k=3:=by simpa using hk
    have hl:=gA (jg hh (.inr hk));have Qh:=DJ.only dM;have uO:([105,110,40]++x.s++[41]:aH).length=x.s.length+4:=by
     rw[aN,aN];simp only[aR,aZ];omega
    rw[inb];refine(pe Qh.pg _ (by omega)).mono ?_;rintro _ dJ ⟨DZ,rfl,Qg,A4⟩;obtain⟨Ia,KD,_⟩:=Qh.mv Qg A4;exact⟨_,⟨.nilIface,rfl⟩,rfl,KD,fin Ia (A4.after dM) (by rw[KC,if_neg (by omega),if_neg (by omega),if_pos hk]) (by rw[aN];omega)⟩
   ·have hk:x.k=4:=by simpa using hk
    obtain⟨y,hy,oB⟩:=sf hh hk;have XE:nN (lA d) x.dj=lA d y:=by rw[hy];simp[nN]
    have XF:cw d y=true:=by rw[hy]at ha;simpa[iT]using ha
    have A5:jQ d y:=Rk y (by rw[hy];simp);have Qi:=ku x.op.toNat;have DK:=DJ.only dL;obtain⟨q,hq,hB⟩:=DK.pg.blk;obtain⟨ad,g1,g2⟩:=DK.sig (op:=x.op) (by omega) (by omega);refine⟨sG,Blk.ec hB 2 rfl,ad,g1,_,g2,(pe DK.pg (dD x.op.toNat) (by omega)).mono ?_⟩;rintro _ fM ⟨L4,rfl,XG,Qj⟩;obtain⟨XH,XI,_⟩:=DK.mv XG Qj;refine⟨_,⟨.nilIface,rfl⟩,rfl,XI,fun iy kB=>?_⟩;have Ib:=XH.only kB;obtain⟨p1,sy,e1,e2,e3,e4⟩:=Ib.sub (i:=0) (y:=y) (by rw[hy];rfl);refine⟨fun k=>k<b∨k=k0,.inr rfl,p1,e1,.inl e2,_,_,_,_,_,_,e3,p1,e1,_,_,_,_,_,_,e3,(oT e4).mono ?_⟩;rintro _ jK ⟨rfl,kc⟩;have Ic:=Ib.only kc;have Zp:=qL d (decide (bN y<6)) (opn wr l++dD x.op.toNat) XF A5;rw[aN]at Zp;refine⟨_,rfl,Ib.same kc,bO.only kc,(uD d (decide (bN y<6)) XF A5 (fP e4 kc) hF Ic.tb XC Ic.pg (by rw[aN];omega)).mono ?_⟩;rintro _ iZ ⟨ai7,rfl,XJ,Qk⟩;obtain⟨XK,XM,XN⟩:=Ic.mv XJ Qk;exact⟨rfl,XM,XN,fin XK ((Qj.after dL).trans ((Qk.after kc).after kB)) (by rw[KC,if_neg (by omega),if_neg (by omega),if_neg (by omega),if_pos hk,hy]) (by omega)⟩
   ·rintro _ kf ⟨rfl,lO⟩;have k1:x.k≠1:=by simpa using k1
    have k2:x.k≠2:=by simpa using k2
    have k3:x.k≠3:=by simpa using k3
    have k4:x.k≠4:=by simpa using k4
    obtain⟨hk,y,z,hy,P0,Gz⟩:=oo hh k1 k2 k3 k4;have XE:nN (lA d) x.dj=lA d y+lA d z:=by rw[hy];simp[nN]
    have xa:cw d y=true/\cw d z=true:=by rw[hy]at ha;simpa[iT]using ha
    have A5:jQ d y:=Rk y (by rw[hy];simp);have Rl:jQ d z:=Rk z (by rw[hy];simp);have Qi:=ku x.op.toNat;have XO:=DJ.only lO;refine⟨_,rfl,DJ.same lO,fun jL lJ=>?_⟩;have Ie:=XO.only lJ;obtain⟨p1,sy,e1,e2,e3,e4⟩:=Ie.sub (i:=0) (y:=y) (by rw[hy];rfl);refine⟨fun k=>k<b∨k=k0,.inr rfl,p1,e1,.inl e2,_,_,_,_,_,_,e3,p1,e1,_,_,_,_,_,_,e3,(oT e4).mono ?_⟩;rintro _ mX ⟨rfl,ja⟩;have Ig:=Ie.only ja;have Zp:=qL d (decide (bN y<bN x)) (opn wr l) xa.1 A5;refine⟨_,rfl,Ie.same ja,bO.only ja,(uD d (decide (bN y<bN x)) xa.1 A5 (fP e4 ja) hF Ig.tb XC Ig.pg (by omega)).mono ?_⟩;rintro _ qS ⟨ai8,rfl,XP,Ql⟩;obtain⟨XQ,XR,XS⟩:=Ig.mv XP Ql;refine⟨rfl,XR,XS,fun rh sM=>?_⟩;have DL:=XQ.only sM;obtain⟨q,hq,hB⟩:=DL.pg.blk;obtain⟨ad,g1,g2⟩:=DL.sig (op:=x.op) (by omega) (by omega);have uO:([32]++dD x.op.toNat++[32]:aH).length=(dD x.op.toNat).length+2:=by
     rw[aN,aN];simp only[aR,aZ];omega
    have xP:(ao #[32]).size=1:=rfl;refine⟨sG,Blk.ec hB 2 rfl,ad,g1,_,g2,by rw[bW];omega,by rw[YR];omega,?_⟩;rw[blb];refine(pe DL.pg _ (by omega)).mono ?_;rintro _ tG ⟨ai9,rfl,XU,Qm⟩;obtain⟨XV,XW,_⟩:=DL.mv XU Qm;refine⟨_,⟨.nilIface,rfl⟩,rfl,XW,fun po DE=>?_⟩;have Ih:=XV.only DE;obtain⟨p2,sz,f1,f2,f3,f4⟩:=Ih.sub (i:=1) (y:=z) (by rw[hy];rfl);refine⟨fun k=>k<b∨k=k0,.inr rfl,p2,f1,.inl f2,_,_,_,_,_,_,f3,p2,f1,_,_,_,_,_,_,f3,(oT f4).mono ?_⟩;rintro _ qT ⟨rfl,jF⟩;have Ii:=Ih.only jF;have XX:=qL d (decide (bN z<=bN x)) (nY d y (decide (bN y<bN x)) (opn wr l)++([32]++dD x.op.toNat++[32])) xa.2 Rl;rw[aN,uO]at XX;refine⟨_,rfl,Ih.same jF,bO.only jF,(uD d (decide (bN z<=bN x)) xa.2 Rl (fP f4 jF) hF Ii.tb XC Ii.pg (by rw[aN,uO];omega)).mono ?_⟩;rintro _ tW ⟨aja,rfl,XY,Qn⟩;obtain⟨XZ,X1,X2⟩:=Ii.mv XY Qn;exact⟨rfl,X1,X2,fin XZ (((Ql.after ja).after lJ).after lO |>.trans ((Qm.after sM).trans ((Qn.after jF).after DE))) (by rw[KC,if_neg k1,if_neg k2,if_neg k3,if_neg k4,hy]) (by omega)⟩
def mS(d:Nat)(x:Ex):aH:=if cw d x=true then(if(fz (nY d x false [])).2.1≠0 then[]else nY d x false [])else[]
theorem V2{d:Nat}{w:av}{F:aJ}{x:Ex}{cs:aI}(hx:nM d w F x cs)(hl:ug d x)(hn:jQ d x)(hE:Er w)(hT:Tb w)(hc:40*lA d x<=70368744177664):
  az aq 218 #[ah cs.toArray] w fun e w'=>e=ak (ab (T (mS d x)))/\ay [] w w':=by
 obtain⟨xs,rfl⟩:=jV hx;refine ret (v6w _ _ _ _ _ _ _ _ ?_);intro k0 w0 gD dQ ch;have hxi:=(dW d).inHeap hx;refine(Ji d hl (fP hx ch)).mono ?_;rintro _ w1 ⟨rfl,cn⟩;have z0:=ch.size;have z1:=cn.size;have fG:=ch.cd cn;refine⟨_,rfl,cn.same (by simp;omega),fun hs=>?_,fun hs=>(Uf w1).mono ?_⟩
 ·have hs:cw d x=false:=by simpa using hs
  rw[mS,if_neg (by rw[hs];decide)];exact⟨rfl,fG⟩
 have hs:cw d x=true:=by simpa using hs
 rw[mS,if_pos hs];rintro _ w2 ⟨l0,rfl,Th,cG⟩;have z2:=cG.size;refine⟨l0,rfl,cG.same (by simp;omega),fun k1 w3 kg ju dh ru=>?_⟩;have z3:=dh.size;have mw:ay [] w w3:=(fG.cd cG).cd dh;have KC:Pg (fun k=>w1.heap.size<=k/\k<w2.heap.size) w3 k1 Sl.nil l0 []:=⟨⟨none,.inl rfl,ru⟩,.inl ⟨rfl,rfl⟩,SliceF.only cZ (by decide) Th dh (by simp),fun k hk=>by have:=hk.2;omega⟩
 have hT3:=hT.only mw;have Kr:=hT.lt;refine(uD d false hs hn (fP hxi mw) (fun k hk=>by have:=hk.2;omega) hT3 (by omega) KC (by rw[aZ];omega)).mono ?_;rintro _ w4 ⟨X3,rfl,hp4,Zr⟩;have z4:=Zr.1.size;have dI:ay [] w w4:=(mw.wT Zr.1).only fun k hk=>by
  rcases hk with rfl | e
  ·omega
  ·cases e
 obtain⟨q,hq,qs⟩:=hp4.blk;refine⟨rfl,Zr.same (by omega) (fun e=>by cases e) (by omega),q,X3,l0,qs,(N2 hp4.pt).mono ?_⟩;rintro _ w5 ⟨rfl,ht5,eh⟩;have z5:=eh.size;have tX:=eh.blk qs (by omega);have xU:ay [] w w5:=(dI.wT eh).only fun k hk=>by have:=hk.1;omega
 refine⟨_,rfl,eh.same (by simp;omega),q,X3,l0,tX,(VU _ (hE.only xU)).mono ?_⟩;rintro _ w6 ⟨cs,rfl,hX,dR⟩;have z6:=dR.size;obtain⟨xl,rfl,_⟩:=hX.cells;have MA:=dR.blk tX (by simp);have adE:=xU.cd dR;refine⟨_,_,_,_,_,_,_,_,rfl,dR.same (by simp;omega),q,X3,l0,MA,fun hr k2 k3 w7 _ _ _ _ fN _=>?_,fun hr k4 k5 w8 tZ Gh pv Ij fj uR=>?_⟩
 ·rw[if_pos (by simpa using hr)];exact⟨rfl,adE.cd fN⟩
 ·have z8:=fj.size;refine(N2 ((ht5.only dR).only fj)).mono ?_;rintro _ w9 ⟨rfl,ht9,fT⟩;rw[if_neg (by simpa using hr)];have gC:∀k,X3.a=some ⟨k,0,none⟩->k<w4.heap.size:=fun k hk=>(hp4.buf.lt hk).2;refine⟨_,rfl,fT.same fun k hk=>?_,q,X3,l0,fT.blk uR (by omega),rfl,((adE.cd fj).wT fT).only fun k hk=>by have:=hk.1;omega⟩;simp only[aY,bf,cb]at hk;rcases hk with rfl | rfl | rfl
  ·exact⟨by omega,fun h=>by have:=h.1;omega⟩
  ·exact⟨Gh,fun h=>by have:=gC _ h.2;omega⟩
  ·exact⟨Ij,fun h=>by have:=gC _ h.2;omega⟩
mutual
def zR:Ex->Nat
 | .mk _ _ _ _ l _=>Un l+1
def Un:List Ex->Nat
 | []=>0
 | x::l=>max (zR x) (Un l)
end
mutual
def zT:Ex->Nat
 | .mk _ _ s _ l _=>Ld l+(s.length+1)
def Ld:List Ex->Nat
 | []=>0
 | x::l=>zT x+Ld l
end
theorem CW(x:Ex):zR x=Un x.dj+1:=by cases x;rw[zR];rfl
theorem CX(x:Ex):zT x=Ld x.dj+(x.s.length+1):=by cases x;rw[zT];rfl
theorem yv{y:Ex}:∀{l:List Ex},y∈l->zR y<=Un l
 | [],h=>by simp at h
 | x::l,h=>by
  rw[Un];rcases aY.1 h with rfl | h
  ·exact yG _ _
  ·exact bh (yv h) (xf _ _)
theorem Jl{y:Ex}:∀{l:List Ex},y∈l->zT y<=Ld l
 | [],h=>by simp at h
 | x::l,h=>by
  rw[Ld];rcases aY.1 h with rfl | h
  ·omega
  ·have:=Jl h;omega
theorem N3{d:Nat}:∀{l:List Ex},(∀y,y∈l->zR y<=d)->Un l<=d
 | [],_=>by rw[Un];omega
 | x::l,h=>by
  rw[Un];exact Nat.max_le.2 ⟨h x (by simp),N3 fun y hy=>h y (by simp[hy])⟩
theorem CY(x:Ex):1<=zR x:=by rw[CW];omega
theorem Hk{w:av}{F:aJ}:∀{d:Nat} {x:Ex} {cs:aI},nM d w F x cs->zR x<=d
 | 0,_,_,h=>h.elim
 | d+1,x,cs,⟨sl,h1,h2⟩=>by
  rw[CW];refine Me (N3 fun y hy=>?_);obtain⟨j,hj⟩:=jG hy;obtain⟨_,cs,_,_,_,_,h⟩:=h2.at_ j y hj;exact Hk h
theorem zU{f g:Ex->Bool}:∀{l:List Ex},(∀y,y∈l->f y=g y)->iT f l=iT g l
 | [],_=>rfl
 | x::l,h=>by rw[iT,iT,h x (by simp),zU fun y hy=>h y (by simp[hy])]
theorem Ff:∀(d e:Nat) (x:Ex),zR x<=d->zR x<=e->cw d x=cw e x
 | 0,_,x,h,_=>by have:=CY x;omega
 | _,0,x,_,h=>by have:=CY x;omega
 | d+1,e+1,x,h,k=>by
  rw[CW]at h k;rw[cw,cw,zU fun y hy=>Ff d e y (by have:=yv hy;omega) (by have:=yv hy;omega)]
theorem Jm:∀(d e:Nat) (x:Ex) (wr:Bool) (l:aH),zR x<=d->zR x<=e->nY d x wr l=nY e x wr l
 | 0,_,x,_,_,h,_=>by have:=CY x;omega
 | _,0,x,_,_,_,h=>by have:=CY x;omega
 | d+1,e+1,x,wr,l,h,k=>by
  rw[CW]at h k;have hm:∀y,y∈x.dj->zR y<=d/\zR y<=e:=fun y hy=>by have:=yv hy;omega
  rw[nY,nY];cases hx:x.dj with
  | nil=>rfl
  | cons y m=>
   cases m with
   | nil=>
    have hy:=hm y (by rw[hx];simp);dsimp only;rw[Jm d e y _ _ hy.1 hy.2]
   | cons z m=>
    cases m with
    | nil=>
     have hy:=hm y (by rw[hx];simp);have hz:=hm z (by rw[hx];simp);dsimp only;rw[Jm d e y _ _ hy.1 hy.2,Jm d e z _ _ hz.1 hz.2]
    | cons _ _=>rfl
theorem Hl:∀(d:Nat) (x:Ex),lA d x<=zT x
 | 0,x=>bd _
 | d+1,x=>by
  rw[lA,CX];have:∀l:List Ex,nN (lA d) l<=Ld l:=fun l=>by
   induction l with
   | nil=>exact bd _
   | cons y l ih=>rw[nN,Ld];exact jZ (Hl d y) ih
  have:=this x.dj;omega
theorem Hm:∀(d:Nat) (x:Ex),zT x<4611686018427387903->ug d x
 | 0,x,_=>trivial
 | d+1,x,h=>by
  rw[CX]at h;exact⟨by omega,fun y hy=>Hm d y (by have:=Jl hy;omega)⟩
def Lg(x:Ex):Prop:=∀d,jQ d x
def ta(x:Ex):aH:=mS (zR x) x
theorem Jn{d:Nat}{x:Ex}(h:zR x<=d):mS d x=ta x:=by
 unfold ta mS;rw[Ff d (zR x) x h (aW _),Jm d (zR x) x false [] h (aW _)]
theorem Fg{d:Nat}{x:Ex}(h:mS d x≠[]):cw d x=true/\mS d x=nY d x false []/\(fz (nY d x false [])).2.1=0:=by
 unfold mS at h⊢;by_cases hs:cw d x=true
 ·rw[if_pos hs]at h⊢;by_cases hr:(fz (nY d x false [])).2.1≠0
  ·rw[if_pos hr]at h;exact absurd rfl h
  ·rw[if_neg hr];exact⟨hs,rfl,by simpa using hr⟩
 ·rw[if_neg hs]at h;exact absurd rfl h
theorem SA{w:av}{F:aJ}{x:Ex}{cs:aI}(hx:rE false w F x cs)(hn:Lg x)(hs:zT x<=1759218604441)(hE:Er w)(hT:Tb w):
  az aq 218 #[ah cs.toArray] w fun e w'=>e=ak (ab (T (ta x)))/\ay [] w w':=by
 obtain⟨d,h⟩:=hx;have h:=uB h;rw[<-Jn (Hk h)];exact V2 h (Hm d x (by omega)) (hn d) hE hT (by have:=Hl d x;omega)
def mT(x:Ex):Bool:=(((x.k==0&&x.n==0)&&decide (x.s=[]))&&x.op==0)&&((x.dj.length:Int)==0)
def pf(x:Ex):Bool:=decide (ta x≠[])
def fY(a:Ac):Bool:=decide (1<=a.k/\a.k<=3)&&cY a.n&&(if a.k=2 then mT a.x else pf a.x)
def j8(m:Mv):Bool:=
 decide (1<=m.k/\m.k<=3)&&(if m.k=1 then cY m.ev else decide (m.ev=[]))&&(if m.gd then pf m.g else mT m.g)&&m.acts.all fY&&m.tg.all cY&&decide (m.wt=0∨m.k=3/\0<m.wt)
def kZ(k:Int):Bool:=decide (k=3∨k=4)
def tN(b:Nb)(kids:Nat):Bool:=
 cY b.nm&&(if kZ b.k then cY b.dft&&decide (b.ini=[]/\b.en=[]/\b.lv=[]/\b.mv.length=0/\kids=0)
  else decide ((b.k=1∨b.k=2)/\b.dft=[])&&(decide (b.ini=[])||cY b.ini)&&b.en.all fY&&b.lv.all fY&&b.mv.all j8)
mutual
def kw:Nat->Nd->Bool
 | d,.mk b l=>decide (d<12)&&tN b l.length&&iv (d+1) l
def iv:Nat->List Nd->Bool
 | _,[]=>true
 | d,x::l=>kw d x&&iv d l
end
def wg(b:Nb):Nat:=b.en.length+b.lv.length+(b.mv.map fun m=>m.acts.length).sum
mutual
def ke:Nd->Nat
 | .mk _ l=>eZ l+1
def eZ:List Nd->Nat
 | []=>0
 | x::l=>ke x+eZ l
end
mutual
def tf:Nd->Nat
 | .mk b l=>b.mv.length+lC l
def lC:List Nd->Nat
 | []=>0
 | x::l=>tf x+lC l
end
mutual
def th:Nd->Nat
 | .mk b l=>wg b+j9 l
def j9:List Nd->Nat
 | []=>0
 | x::l=>th x+j9 l
end
def pZ(c:Ch):Bool:=
 (c.vars.all fun v=>cY v.n&&decide (v.v≠ -9223372036854775808))&&kw 0 c.root&&decide (c.root.b.k=1/\c.vars.length<=16/\ke c.root<=64/\tf c.root<=200/\th c.root<=400)
def xr(a:Ac):aH:=
 if a.k=2 then iR++32::(a.n++[59])else(if a.k=1 then oC else j7)++32::(a.n++32::61::32::(ta a.x++[59]))
def vB:List Ac->aH
 | []=>[]
 | a::l=>32::(xr a++vB l)
def uc(l:List Ac):aH:=123::(vB l++[32,125])
def Bw:List (aH)->aH
 | []=>[]
 | s::l=>44::32::(s++Bw l)
def QY(m:Mv):aH:=if m.k=1 then xL++32::m.ev else if m.k=3 then gJ++32::Lib.itoa m.wt else fX
def Lh(m:Mv):aH:=if m.gd then 32::91::(ta m.g++[93])else[]
def zV(m:Mv):aH:=
 QY m++(Lh m++((if m.acts=[]then[]else 32::uc m.acts)++((match m.tg with
  | []=>[]
  | s::l=>32::45::62::32::(s++Bw l))++[59])))
def kW(k:Int):aH:=if k=1 then zH else if k=2 then pV else if k=3 then rW else E5
abbrev Ln:=Nat×aH
def tP(d:Nat)(b:Nb):List Ln:=if b.ini=[]then[]else[(d,dX++32::(b.ini++[59]))]
def Jo(d:Nat)(b:Nb):List Ln:=if b.en=[]then[]else[(d,gf++32::uc b.en)]
def Li(d:Nat)(b:Nb):List Ln:=if b.lv=[]then[]else[(d,gj++32::uc b.lv)]
def mvL(d:Nat)(b:Nb):List Ln:=b.mv.map fun m=>(d,zV m)
def AV(d:Nat)(b:Nb):List Ln:=tP d b++(Jo d b++(Li d b++mvL d b))
mutual
def AE:Nat->Nd->List Ln
 | d,.mk b l=>
  if kZ b.k then[(d,kW b.k++32::(b.nm++32::45::62::32::(b.dft++[59])))]
  else(d,kW b.k++32::(b.nm++[32,123]))::(AV (d+1) b++(mU (d+1) l++[(d,[125])]))
def mU:Nat->List Nd->List Ln
 | _,[]=>[]
 | d,x::l=>AE d x++mU d l
end
def QZ(v:Vr):aH:=tM++32::(v.n++32::61::32::(Lib.itoa v.v++[59]))
def yw(c:Ch):List Ln:=
 (0,eS++32::(c.root.b.nm++[32,123]))::((c.vars.map fun v=>(1,QZ v))++(AV 1 c.root.b++(mU 1 c.root.kids++[(0,[125])])))
def si:Nat->aH
 | 0=>[]
 | d+1=>32::32::si d
def V3(p:Ln):aH:=si p.1++(p.2++[10])
def iE(b:aH)(p:Ln):aH:=if 16384<b.length then b else b++V3 p
def dq(b:aH)(L:List Ln):aH:=L.foldl iE b
def xt(L:List Ln):aH:=L.flatMap V3
theorem Jp(b:aH)(p:Ln):b.length<=(iE b p).length:=by
 unfold iE;split
 ·exact aW _
 ·rw[aN];omega
theorem Fh:∀(L:List Ln) (b:aH),b.length<=(dq b L).length
 | [],_=>aW _
 | p::L,b=>bh (Jp b p) (Fh L _)
theorem fm(b:aH)(L M:List Ln):dq b (L++M)=dq (dq b L) M:=uV
theorem qM(b:aH)(p:Ln)(L:List Ln):dq b (p::L)=dq (iE b p) L:=rfl
theorem N4:∀(L:List Ln) (b:aH),(dq b L).length<=16384->dq b L=b++xt L
 | [],b,_=>(bL b).symm
 | p::L,b,h=>by
  rw[qM]at h⊢;have h1:=Fh L (iE b p);have h2:=Jp b p;rw[N4 L _ h];have:iE b p=b++V3 p:=by unfold iE;rw[if_neg (by omega)]
  rw[this,be];rfl
theorem Fi:∀(L:List Ln) (b:aH),16384<b.length->dq b L=b
 | [],_,_=>rfl
 | p::L,b,h=>by
  have:iE b p=b:=by unfold iE;rw[if_pos h]
  rw[qM,this,Fi L b h]
def jh(c:Ch):aH×Int:=
 if pZ c=true then(if 16384<(dq [] (yw c)).length then([],2)else(dq [] (yw c),0))else([],22)
def Bx(a:Ac):Prop:=Lg a.x
structure MC (m:Mv):Prop where
 g:Lg m.g
 a:∀x,x∈m.acts->Bx x
 w:wa m.wt
structure U5 (b:Nb):Prop where
 en:∀a,a∈b.en->Bx a
 lv:∀a,a∈b.lv->Bx a
 mv:∀m,m∈b.mv->MC m
mutual
def xu:Nd->Prop
 | .mk b l=>U5 b/\tQ l
def tQ:List Nd->Prop
 | []=>True
 | x::l=>xu x/\tQ l
end
structure MD (c:Ch):Prop where
 v:∀v,v∈c.vars->wa v.v
 r:xu c.root
def ne(l:aH):Bool:=!decide (l=[])
def fQ(ws:List (aH)):aH:=Lib.join (ws.filter ne) [32]
theorem Only.below{w w':av}(h:Below w.heap.size w w'):ay [] w w':=⟨h.os,h.tape,h.output,h.size,fun k hk _=>h.block k hk⟩
theorem Hn{w:av}{F:aJ}:∀{l:List (aH)} {css:List (aI)},n9 jB 1 w F l css->css.flatten=l.map fun x=>ab (T x)
 | [],[],_=>rfl
 | c::l,d::css,h=>by
  obtain⟨⟨_,h1⟩,h2⟩:=h;unfold jB at h1;subst h1;rw[cJ,Hn h2];rfl
theorem Bz(l:aH)(w:av):az aq 151 #[ab (T l)] w fun e w'=>e=ak (aj (decide (l=[])))/\w'=w:=by
 refine ret (abb _ _ _ ?_);exact⟨by rw[show ao #[]=T []from rfl,iO],rfl⟩
section
variable {w:av} {B:Nat} {F:aJ} {s:Sl} {ws:List (aH)}
theorem N5(h:Own jB 1 9 B w F s ws):az aq 216 #[s.v,.func (.func 151) #[] #[]] w fun e w'=>
  ∃i:Int,e=ak (O U i)/\w'=w/\((i= -1/\ws.filter ne=ws)∨∃n:Nat,i=n/\n<ws.length/\(ws.take (n+1)).filter ne=ws.take n):=by
 refine(aba s ⟨.func (.func 151) #[] #[],rfl⟩ (fun v w'=>∃i:Int,v=O U i/\w'=w/\((i= -1/\ws.filter ne=ws)∨∃n:Nat,i=n/\n<ws.length/\(ws.take (n+1)).filter ne=ws.take n)) w ?_).mono (by
  rintro e w' ⟨v,rfl,i,rfl,h⟩;exact⟨i,rfl,h⟩)
 have hs:=h.slice cZ;have ey:=hs.len;have pq:=hs.big;have nS:=hs.cap;refine⟨fun nv i w'=>∃n:Nat,n<=ws.length/\i=(n:Int)/\nv=ws.length-n/\(ws.take n).filter ne=ws.take n/\w'=w,ws.length,⟨0,bd _,rfl,rfl,rfl,rfl⟩,?_⟩;rintro nv _ w0 ⟨n,hn,rfl,rfl,fy,rfl⟩;refine⟨fun hc=>?_,fun hc=>?_⟩
 ·have bQ:(n:Int)<s.n:=aQ hc;obtain⟨ad,x,cs,g1,g2,g3,g4,g5,g6⟩:=hs.get (ba n) bQ;rw[aX]at g2;unfold jB at g6;subst g6;have ht:ws.take (n+1)=ws.take n++[x]:=by
   rw[bB,g2];rfl
  refine⟨ad,g1,_,g5,151,[],[],rfl,kn (by kernel_rfl),?_⟩;refine(Bz x w0).mono ?_;rintro _ w1 ⟨rfl,rfl⟩;refine⟨_,rfl,fun hb=>⟨_,rfl,rfl,.inr ⟨n,rfl,by omega,?_⟩⟩,fun hb=>⟨ws.length-(n+1),by omega,n+1,by omega,by rw[fH (by omega) (by omega)];rfl,rfl,?_,rfl⟩⟩
  ·have hb:x=[]:=aQ hb;rw[ht,nV,fy,hb];simp[ne]
  ·have hb:x≠[]:=aU hb;rw[ht,nV,fy];simp[ne,hb]
 ·have lR:¬(n:Int)<s.n:=aU hc;rw[bH (by omega)]at fy;exact⟨_,rfl,rfl,.inl ⟨rfl,fy⟩⟩
theorem Lj(h:Own jB 1 9 B w F s ws):az aq 150 #[s.v,.func (.func 151) #[] #[]] w fun e w'=>
  ∃s':Sl,e=ak s'.v/\Own jB 1 9 B w' F s' (ws.filter ne)/\aD (fun k=>B<=k) w w':=by
 refine(aa9 s ⟨.func (.func 151) #[] #[],rfl⟩ (fun v w'=>∃s':Sl,v=s'.v/\Own jB 1 9 B w' F s' (ws.filter ne)/\aD (fun k=>B<=k) w w') w ?_).mono (by
  rintro e w' ⟨v,rfl,s',rfl,h⟩;exact⟨s',rfl,h⟩)
 have ey:=h.len;have nS:=h.cap;have pq:=(h.slice cZ).big;refine(N5 h).mono ?_;rintro _ w0 ⟨i,rfl,rfl,hi⟩;refine⟨i,rfl,fun hc=>?_,fun hc=>?_⟩
 ·rcases hi with⟨_,hf⟩ | ⟨n,rfl,hn,hf⟩
  ·rw[hf];exact⟨s,rfl,h,OnlyP.refl _ _⟩
  ·have:(n:Int)= -1:=eq_of_beq hc;omega
 rcases hi with⟨rfl,_⟩ | ⟨n,rfl,hn,hf⟩
 ·exact absurd hc (by decide)
 refine⟨fun nv a b w'=>∃(L:List (aH)) (p q:Nat),a=p/\b=q/\p<q/\q<=ws.length/\nv=ws.length-q/\L.length=ws.length/\L.take p=(ws.take q).filter ne/\L.drop q=ws.drop q/\Own jB 1 9 B w' F s L/\aD (fun k=>B<=k) w0 w',
  ws.length-(n+1),⟨ws,n,n+1,rfl,by rw[fH (by omega) (by omega)];rfl,by omega,by omega,rfl,rfl,hf.symm,rfl,h,OnlyP.refl _ _⟩,?_⟩
 rintro nv _ _ w1 ⟨L,p,q,rfl,rfl,hpq,hq,rfl,hL,ht,hd,hO,hP⟩;refine⟨fun hc=>?_,fun hc=>?_⟩
 ·have bQ:(q:Int)<s.n:=aQ hc;have hq':q<ws.length:=by omega
  obtain⟨ad,x,cs,g1,g2,g3,g4,g5,g6⟩:=(hO.slice cZ).get (ba q) bQ;rw[aX]at g2;unfold jB at g6;subst g6;have hx:ws[q]? =some x:=by
   rw[<-g2];have e1:=bK (fun l=>l[0]?) hd;simpa using e1.symm
  have hw:ws.take (q+1)=ws.take q++[x]:=by
   rw[bB,hx];rfl
  have hdn:∀M:List (aH),(∀j,q+1<=j->M[j]? =L[j]?)->M.drop (q+1)=ws.drop (q+1):=fun M hM=>by
   apply oH;intro j;rw[fS,fS,hM _ (by omega)];have e1:=bK (fun l=>l[1+j]?) hd;simp only[fS]at e1;rw[show q+1+j=q+(1+j) by omega];exact e1
  refine⟨fun j w2=>∃(M:List (aH)) (p':Nat),j=p'/\p'<q+1/\M.length=ws.length/\M.take p'=(ws.take (q+1)).filter ne/\M.drop (q+1)=ws.drop (q+1)/\Own jB 1 9 B w2 F s M/\aD (fun k=>B<=k) w0 w2,?_,ad,g1,_,g5,151,[],[],rfl,kn (by kernel_rfl),?_⟩
  ·rintro _ w2 ⟨M,p',rfl,m1,m2,m3,m4,m5,m6⟩;exact⟨ws.length-(q+1),by omega,M,p',q+1,rfl,by rw[fH (by omega) (by omega)];rfl,m1,hq',rfl,m2,m3,m4,m5,m6⟩
  refine(Bz x w1).mono ?_;rintro _ w2 ⟨rfl,rfl⟩;refine⟨_,rfl,fun hb=>?_,fun hb=>?_⟩
  ·have hb:x≠[]:=by simpa using hb
   obtain⟨g,cells,b1,b2,b3,b4,b5⟩:=hO.store cZ (n:=p) (by omega) (x:=x) (vs:=[ab (T x)]) (G:=fun _=>False) rfl rfl (fun k hk=>hk.elim) (by decide);refine⟨⟨g,p*1,none⟩,b2,g,p*1,cells,_,rfl,b3,b4,fun w3 dh ru=>⟨L.set p x,p+1,by rw[fH (by omega) (by omega)];rfl,by omega,by rw[nD];exact hL,?_,hdn _ fun j hj=>by rw[List.getElem?_set_ne (by omega)],b5 w3 dh ru,hP.trans (dh.p (F:=fun k=>B<=k) fun k hk=>.inl ?_) fun k hk=>.inl hk⟩⟩
   ·rw[hw,nV,<-ht,bB,List.getElem?_set_self (by omega),List.take_set_of_le (by omega)];simp[ne,hb]
   ·simp only[aO]at hk;subst hk;rcases hO with⟨rfl,_⟩ | ⟨g',_,_,a1,a2,_⟩
    ·cases b1
    ·rw[a1]at b1;injection b1 with b1;injection b1 with b1;omega
  ·have hb:x=[]:=by simpa using hb
   refine⟨L,p,rfl,by omega,hL,?_,hdn _ fun j _=>rfl,hO,hP⟩;rw[hw,nV,<-ht,hb];simp[ne]
 ·have lR:¬(q:Int)<s.n:=aU hc;have hqe:q=ws.length:=by omega
  subst hqe;rw[bH (aW _)]at ht;obtain⟨w2,g,c1,c2,c3,c4⟩:=Own.clear (P:=aq) (t:=52) (ty:=0) (i:=p) cZ (by decide) (by kernel_rfl) (fun w=>Tryz.zeroValue9 w) (by intro v hv;simp[Value.cells]at hv;subst hv;rfl) rfl hO (by omega);refine⟨p,⟨rfl,by omega,nS⟩,w2,c1,p,⟨rfl,by omega⟩,_,rfl,?_,hP.trans (c3.p (F:=fun k=>B<=k) fun k hk=>.inl ?_) fun k hk=>.inl hk⟩
  ·rw[<-ht];exact c4
  ·simp only[aO]at hk;subst hk;rcases hO with⟨rfl,_⟩ | ⟨g',_,_,a1,a2,_⟩
   ·cases c2
   ·rw[a1]at c2;injection c2 with c2;injection c2 with c2;omega
theorem zW(h:Own jB 1 9 B w F s ws)(hl:(fQ ws).length<=140737488355328)(hn:ws.length<=140737488355328):az aq 84 #[s.v] w fun e w'=>e=ak (ab (T (fQ ws)))/\aD (fun k=>B<=k) w w':=by
 refine ret (aa8 _ _ _ ?_);refine(Lj h).mono ?_;rintro _ w1 ⟨s',rfl,hO,hP⟩;refine⟨s',rfl,?_⟩;have ey:=hO.len;have AX:=List.length_filter_le ne ws;have Tz:∀{w2:av},ay [] w1 w2->aD (fun k=>B<=k) w w2:=fun h=>hP.trans h.p0 fun k hk=>.inl hk;rcases hO with⟨rfl,he⟩ | ⟨g,css,tail,a1,a2,a4,a5,a6,a7,a9,a8⟩
 ·refine(Tryz.strings_Join_none none 0 (T [32]) w1).mono ?_;rintro _ w2 ⟨rfl,rfl⟩;refine⟨_,rfl,?_,hP⟩;unfold fQ;rw[he];rfl
 ·obtain⟨sa,sn,sc⟩:=s';dsimp only at a1 a5 a6 a7 a9 ey;subst a1 ey;have Ti:=Hn a8;have:=Tryz.strings_Join g 0 sc ((ws.filter ne).map T) (T [32]) w1 (fun j x hj=>by
   rw[cX,eP]at hj;obtain⟨y,hy,rfl⟩:=hj;have:=a4.cells 0 ((ws.filter ne).map fun x=>Value.string (T x)) (fun j v hj=>by rw[bD,Ti,bJ (bc.1 hj).1];exact hj) j (ab (T y)) (by rw[cX,hy];rfl);rw[fZ]at this;exact this) a4.lt (by rw[bZ];omega) (by rw[bZ];omega) (by
   rw[iH];have:((fun x:aK=>x.data.toList)∘T)=id:=rfl;rw[this,Mh];exact hl)
  rw[bZ]at this;refine this.mono ?_;rintro _ w2 ⟨rfl,hB⟩;refine⟨_,rfl,?_,Tz (Only.below hB)⟩;rw[iH];have:((fun x:aK=>x.data.toList)∘T)=id:=rfl;rw[this,Mh];rfl
end
theorem BA(w:av)(ws:List (aH)){n:Nat}{parts:Array (Nat×aw)}(hp:parts=(((ws.map fun x=>Value.string (T x)).zipIdx 0).map fun x=>(x.2,x.1)).toArray)(hn:ws.length=n)(h0:0<n)(tT:n*1<=16777216)(hl:(fQ ws).length<=140737488355328):
  ∃(q:Sl) (w0:av),(au 52 n parts).run aq w=.ok q.v w0/\ay [] w w0/\Own jB 1 9 w.heap.size w0 (fun _=>True) q ws/\az aq 84 #[q.v] w0 fun e w'=>e=ak (ab (T (fQ ws)))/\aD (fun k=>w.heap.size<=k) w0 w':=by
 obtain⟨q,w0,k1,k2,k3⟩:=jd w ws hp hn h0 tT;exact⟨q,w0,k1,k3,k2,zW k2 hl (by omega)⟩
theorem iU:∀(ws:List (aH)),(fQ ws).length<=(ws.map fun l=>l.length+1).sum:=by
 have h1:∀(r:List (aH)),(Lib.joinTail [32] r).length=(r.map fun l=>l.length+1).sum:=fun r=>by
  induction r with
  | nil=>rfl
  | cons x r ih=>
   unfold Lib.joinTail at ih⊢;rw[bE,cJ,aN,ih,bE,ck];simp
 have h2:∀(r:List (aH)),(Lib.join r [32]).length<=(r.map fun l=>l.length+1).sum:=fun r=>by
  cases r with
  | nil=>exact bd _
  | cons x r=>
   rw[Lib.join_cons,aN,h1,bE,ck];omega
 have h3:∀(r:List (aH)),((r.filter ne).map fun l=>l.length+1).sum<=(r.map fun l=>l.length+1).sum:=fun r=>by
  induction r with
  | nil=>exact aW _
  | cons x r ih=>
   rw[xh,bE,ck];split
   ·rw[bE,ck];omega
   ·omega
 exact fun ws=>bh (h2 _) (h3 ws)
structure Fz (bs:List Nat) (w w':av) (ks:List Nat):Prop where
 o:ay bs w w'
 k:∀x,x∈ks->w.heap.size<=x/\x<w'.heap.size
 lo:∀x,x∈bs->x<w.heap.size
section
variable {bs bs' ks ks':List Nat} {w w1 w2 w':av} {k0 b:Nat}
theorem Fz.start(lo:∀x,x∈bs->x<w.heap.size):Fz bs w w []:=⟨Only.refl _ _,fun _ h=>(by cases h),lo⟩
theorem Fz.go(h:Fz bs w w1 ks)(k:ay bs' w1 w2)(hb:∀x,x∈bs'->x∈bs∨x∈ks):Fz bs w w2 ks:=
 ⟨h.o.trans k fun x hx=>(hb x hx).imp id fun hk=>(h.k x hk).1,fun x hx=>⟨(h.k x hx).1,cD (h.k x hx).2 k.size⟩,h.lo⟩
theorem Fz.new(h:Fz bs w w1 ks)(k:ay bs' w1 w2)(hb:∀x,x∈bs'->x∈bs∨w.heap.size<=x):Fz bs w w2 ks:=
 ⟨h.o.trans k hb,fun x hx=>⟨(h.k x hx).1,cD (h.k x hx).2 k.size⟩,h.lo⟩
theorem Fz.q(h:Fz bs w w1 ks)(k:ay [] w1 w2):Fz bs w w2 ks:=h.go k fun x hx=>(by cases hx)
theorem Fz.c(h:Fz (b::bs) w w1 ks)(k:ay [b] w1 w2):Fz (b::bs) w w2 ks:=h.go k fun x hx=>.inl (by simp only[aO]at hx;simp[hx])
theorem Fz.f(h:Fz bs w w1 ks)(k:ay [k0] w1 w2)(hk:k0∈ks):Fz bs w w2 ks:=h.go k fun x hx=>.inr (by simp only[aO]at hx;rw[hx];exact hk)
theorem Fz.al(h:Fz bs w w1 ks)(k:ay [] w1 w2)(h1:w1.heap.size<=k0)(h2:k0<w2.heap.size):Fz bs w w2 (k0::ks):=
 ⟨(h.q k).o,fun x hx=>by
  rcases aY.1 hx with rfl | hx
  ·exact⟨bh h.o.size h1,h2⟩
  ·exact(h.q k).k x hx,h.lo⟩
theorem Fz.sm(h:Fz bs w w1 ks)(k:ay bs' w1 w2)(hk:∀x,x∈ks'->x∈ks)(hb:∀x,x∈bs'->x∈bs∨∀y,y∈ks'->y≠x):bS ks' w1 w2:=k.same fun x hx=>
 ⟨(h.k x (hk x hx)).2,fun hm=>by
  rcases hb x hm with h1 | h1
  ·have:=(h.k x (hk x hx)).1;have:=h.lo x h1;omega
  ·exact h1 x hx rfl⟩
theorem Fz.sq(h:Fz bs w w1 ks)(k:ay [] w1 w2)(hk:∀x,x∈ks'->x∈ks):bS ks' w1 w2:=h.sm k hk fun x hx=>(by cases hx)
theorem Fz.sc(h:Fz (b::bs) w w1 ks)(k:ay [b] w1 w2)(hk:∀x,x∈ks'->x∈ks):bS ks' w1 w2:=h.sm k hk fun x hx=>.inl (by simp only[aO]at hx;simp[hx])
theorem Fz.ne(h:Fz bs w w1 ks)(hk:k0∈ks)(hb:b∈bs):k0≠b:=fun e=>by
 have:=(h.k k0 hk).1;have:=h.lo b hb;omega
end
section
variable {α:Type} {r:Rp α} {w w1 w':av} {x:α} {cs:aI} {B:Nat}
structure Stay (B:Nat) (w w':av):Prop where
 sz:w.heap.size<=w'.heap.size
 eq:∀k,B<=k->k<w.heap.size->w'.heap[k]? =w.heap[k]?
theorem Stay.refl(B:Nat)(w:av):Stay B w w:=⟨aW _,fun _ _ _=>rfl⟩
theorem Stay.go{bs:List Nat}(h:Stay B w w1)(k:ay bs w1 w')(hb:∀x,x∈bs->x<B∨w.heap.size<=x):Stay B w w':=
 ⟨bh h.sz k.size,fun i h1 h2=>(k.block i (cD h2 h.sz) fun hm=>by have:=hb i hm;omega).trans (h.eq i h1 h2)⟩
theorem Stay.of{bs:List Nat}(k:ay bs w w')(hb:∀x,x∈bs->x<B∨w.heap.size<=x):Stay B w w':=(Stay.refl B w).go k hb
theorem _root_.Go.Kt.Rp.Ok.stay(hr:r.Ok)(h:r w (Fr B) x cs)(hs:Stay B w w'):r w' (Fr B) x cs:=
 hr.mono (hr.keep (hr.inHeap h) fun k hk bQ=>hs.eq k hk.1 bQ) fun k hk=>hk.1
theorem _root_.Go.Kt.Rp.Ok.low(hr:r.Ok)(h:r w (Fr B) x cs){A:Nat}(hA:A<=B):r w (Fr A) x cs:=hr.mono h fun k hk=>bh hA hk
variable {size:Nat} {e:TypeId} {s:Sl} {xs:List α} {t:Bool}
theorem jE.stay(hr:r.Ok)(h:jE t r size e w (Fr B) s xs)(h0:0<size)(hs:Stay B w w'):jE t r size e w' (Fr B) s xs:=
 ((h.inHeap hr h0).keep hr h0 fun k hk bQ=>hs.eq k hk.1 bQ).mono hr fun k hk=>hk.1
theorem jE.low(hr:r.Ok)(h:jE t r size e w (Fr B) s xs){A:Nat}(hA:A<=B):jE t r size e w (Fr A) s xs:=h.mono hr fun k hk=>bh hA hk
end
abbrev Uo(l:Sl)(s:Sx):aI:=[l.v,O U (s.i:Int),O U s.fc,O U s.fa,O U s.v,O U s.n,O U s.d,O U s.m,O U s.a]
structure Sr (F:aJ) (ts:List Tk) (w:av) (b:Nat) (l:Sl) (s:Sx):Prop where
 blk:aF w b 133 (Uo l s)
 tok:aA Bj 4 w F l ts
 hF:∀k,F k->k<b
 en:pb ts
 lt:s.i<ts.length
 sm:ts.length<=16777216
abbrev rp(b:Nat):aw:=ae (some ⟨b,0,none⟩)
section
variable {F:aJ} {ts:List Tk} {w w':av} {b:Nat} {l:Sl} {s s':Sx}
theorem Sr.own(h:Sr F ts w b l s){bs:List Nat}(hO:ay bs w w')(hb:∀x,x∈bs->b<x):Sr F ts w' b l s:=
 ⟨hO.blk h.blk fun hm=>(by have:=hb b hm;omega),SliceF.only gI (by decide) h.tok hO fun k hk _ hm=>(by have:=h.hF k hk;have:=hb k hm;omega),h.hF,h.en,h.lt,h.sm⟩
theorem Sr.PJ(h:Sr F ts w b l s){bs:List Nat}(hO:ay bs w w')(hb:∀x,x∈bs->x≠b/\¬F x):Sr F ts w' b l s:=
 ⟨hO.blk h.blk fun hm=>(hb b hm).1 rfl,SliceF.only gI (by decide) h.tok hO fun k hk _ hm=>(hb k hm).2 hk,h.hF,h.en,h.lt,h.sm⟩
theorem Sr.WO(h:Sr F ts w b l s){k0:Nat}(hO:ay [k0] w w')(hk:k0≠b/\¬F k0):Sr F ts w' b l s:=h.PJ hO fun x hx=>(by simp only[aO]at hx;subst hx;exact hk)
theorem Sr.gt(h:Sr F ts w b l s){x:Nat}(hx:b<x):x≠b/\¬F x:=⟨by omega,fun hF=>by have:=h.hF x hF;omega⟩
theorem Sr.only(h:Sr F ts w b l s)(hO:ay [] w w'):Sr F ts w' b l s:=h.own hO fun x hx=>(by cases hx)
theorem Sr.one(h:Sr F ts w b l s){k0:Nat}(hO:ay [k0] w w')(hk:b<k0):Sr F ts w' b l s:=h.own hO fun x hx=>(by simp only[aO]at hx;omega)
theorem Sr.kz(h:Sr F ts w b l s)(hO:ay [b] w w')(hB:aF w' b 133 (Uo l s'))(hi:s'.i<ts.length):Sr F ts w' b l s':=
 ⟨hB,SliceF.only gI (by decide) h.tok hO fun k hk _ hm=>(by have:=h.hF k hk;simp only[aO]at hm;omega),h.hF,h.en,hi,h.sm⟩
theorem Sr.lb(h:Sr F ts w b l s):b<w.heap.size:=h.blk.lt
theorem Sr.z(h:Sr F ts w b l s):Fz [b] w w []:=Fz.start fun x hx=>(by simp only[aO]at hx;rw[hx];exact h.lb)
theorem Sr.big(h:Sr F ts w b l s):ts.length<=9223372036854775807:=by
 have h1:=h.tok.len;have h2:=h.tok.cap;have h3:=h.tok.big;omega
theorem Sr.wr(h:Sr F ts w b l s):ar U ((s.i:Int)+1)=((s.i+1:Nat):Int):=by
 have:=h.big;have:=h.lt;rw[fH (by omega) (by omega)];rfl
theorem Sr.now(h:Sr F ts w b l s):∃ad,dl l (s.i:Int) 4 ad/\aB w ad [O U (tk ts s.i).k,ab (T (tk ts s.i).t),O U (tk ts s.i).n,O U (tk ts s.i).a]:=by
 have hl:=h.tok.len;have bQ:=h.lt;obtain⟨ad,x,cs,g1,g2,g3,g4,g5,g6⟩:=h.tok.get (ba s.i) (by omega);rw[aX,zy h.lt]at g2;injection g2 with g2;subst g2;unfold Bj at g6;subst g6;exact⟨ad,g1,g5⟩
structure Dn (F:aJ) (ts:List Tk) (w w':av) (b:Nat) (l:Sl) (s:Sx):Prop where
 o:ay [b] w w'
 r:Sr F ts w' b l s
theorem Sr.dn(h:Sr F ts w b l s):Dn F ts w w b l s:=⟨Only.refl _ _,h⟩
theorem Dn.q(h:Dn F ts w w' b l s){w2:av}(k:ay [] w' w2):Dn F ts w w2 b l s:=⟨h.o.cd k,h.r.only k⟩
theorem Dn.nx(h:Dn F ts w w' b l s){w2:av}{s':Sx}(k:Dn F ts w' w2 b l s'):Dn F ts w w2 b l s':=⟨h.o.trans k.o fun x hx=>.inl hx,k.r⟩
theorem Dn.f(h:Dn F ts w w' b l s){w2:av}{k0:Nat}(k:ay [k0] w' w2)(hk:w.heap.size<=k0)(hb:b<w.heap.size):Dn F ts w w2 b l s:=⟨h.o.new k hk,h.r.one k (by omega)⟩
theorem Sr.tk(h:Sr F ts w b l s){ad:Addr}(g:dl l (s.i:Int) 4 ad):aB w ad [O U (tk ts s.i).k,ab (T (tk ts s.i).t),O U (tk ts s.i).n,O U (tk ts s.i).a]:=by
 obtain⟨F3,g1,g2⟩:=h.now;rw[g.Aq g1];exact g2
structure Zt (F:aJ) (ts:List Tk) (w w':av) (b:Nat) (l:Sl) (s:Sx) (ks:List Nat):Prop where
 z:Fz [b] w w' ks
 r:Sr F ts w' b l s
section
variable {w2:av} {ks ks':List Nat} {k0:Nat}
theorem Sr.zt(h:Sr F ts w b l s):Zt F ts w w b l s []:=⟨h.z,h⟩
theorem Zt.q(h:Zt F ts w w' b l s ks)(k:ay [] w' w2):Zt F ts w w2 b l s ks:=⟨h.z.q k,h.r.only k⟩
theorem Zt.al(h:Zt F ts w w' b l s ks)(k:ay [] w' w2)(h1:w'.heap.size<=k0)(h2:k0<w2.heap.size):Zt F ts w w2 b l s (k0::ks):=⟨h.z.al k h1 h2,h.r.only k⟩
theorem Zt.ad(h:Zt F ts w w' b l s ks)(h1:w.heap.size<=k0)(h2:k0<w'.heap.size):Zt F ts w w' b l s (k0::ks):=⟨⟨h.z.o,fun x hx=>by
 rcases aY.1 hx with rfl | hx
 ·exact⟨h1,h2⟩
 ·exact h.z.k x hx,h.z.lo⟩,h.r⟩
theorem Zt.lt(h:Zt F ts w w' b l s ks)(hk:k0∈ks):b<k0:=cD (h.z.lo b (by simp)) (h.z.k k0 hk).1
theorem Zt.f(h:Zt F ts w w' b l s ks)(k:ay [k0] w' w2)(hk:k0∈ks):Zt F ts w w2 b l s ks:=⟨h.z.f k hk,h.r.one k (h.lt hk)⟩
theorem Zt.nx(h:Zt F ts w w' b l s ks)(k:Dn F ts w' w2 b l s'):Zt F ts w w2 b l s' ks:=⟨h.z.c k.o,k.r⟩
theorem Zt.dn(h:Zt F ts w w' b l s ks):Dn F ts w w' b l s:=⟨h.z.o,h.r⟩
theorem Zt.up(h:Zt F ts w w' b l s ks)(k:ay [b] w' w2)(hB:aF w2 b 133 (Uo l s'))(hi:s'.i<ts.length):Zt F ts w w2 b l s' ks:=⟨h.z.c k,h.r.kz k hB hi⟩
theorem Zt.sq(h:Zt F ts w w' b l s ks)(k:ay [] w' w2)(hk:∀x,x∈ks'->x∈ks):bS ks' w' w2:=h.z.sq k hk
theorem Zt.sc(h:Zt F ts w w' b l s ks)(k:Dn F ts w' w2 b l s')(hk:∀x,x∈ks'->x∈ks):bS ks' w' w2:=h.z.sc k.o hk
theorem Zt.row{gs:List Nat}(h:Zt F ts w w' b l s ks)(k:ay gs w' w2)(hg:∀x,x∈gs->w.heap.size<=x):Zt F ts w w2 b l s ks:=⟨h.z.new k fun x hx=>.inr (hg x hx),h.r.own k fun x hx=>cD (h.z.lo b (by simp)) (hg x hx)⟩
theorem Zt.sr{gs:List Nat}(h:Zt F ts w w' b l s ks)(k:ay gs w' w2)(hk:∀x,x∈ks'->x∈ks)(hg:∀x,x∈gs->∀y,y∈ks'->y<x):bS ks' w' w2:=h.z.sm k hk fun x hx=>.inr fun y hy e=>by have:=hg x hx y hy;omega
theorem Zt.ne(h:Zt F ts w w' b l s ks)(hk:k0∈ks):k0≠b:=h.z.ne hk (by simp)
theorem Stay.q{B:Nat}(h:Stay B w w')(k:ay [] w' w2):Stay B w w2:=h.go k fun x hx=>(by cases hx)
theorem Stay.d{B:Nat}(h:Stay B w w')(k:Dn F ts w' w2 b l s')(hb:b<B):Stay B w w2:=h.go k.o fun x hx=>.inl (by simp only[aO]at hx;omega)
theorem Stay.f{B:Nat}(h:Stay B w w')(k:ay [k0] w' w2)(hk:k0<B∨w.heap.size<=k0):Stay B w w2:=h.go k fun x hx=>(by simp only[aO]at hx;subst hx;exact hk)
end
theorem mF(h:Sr F ts w b l s):az aq 78 #[rp b] w fun e w'=>e=ak (aj (s.fc==0))/\ay [] w w':=by
 refine ret (aaJ _ _ _ ?_);exact⟨s.fc,Blk.ec h.blk 2 rfl,rfl,Only.refl _ _⟩
theorem yx(h:Sr F ts w b l s)(c:Int):az aq 139 #[rp b,O U c] w fun e w'=>e=ak (ai #[])/\Dn F ts w w' b l (gY ts s c):=by
 refine ret (aaL _ _ _ _ ?_);refine(mF h).mono ?_;rintro _ w0 ⟨rfl,ch⟩;refine⟨_,rfl,fun hc w1 cn=>?_,fun hc=>?_⟩
 ·have hc:s.fc=0:=by simpa using hc
  have h1:=h.only (ch.cd cn);obtain⟨ad,g1,g2⟩:=h1.now;refine⟨l,Blk.ec h1.blk 0 rfl,_,Blk.ec h1.blk 1 rfl,ad,g1,_,g2.ec 3 _ rfl,b,2,_,_,rfl,h1.blk,by simp,fun w2 cG lm=>⟨rfl,((ch.cd cn).weaken (bs':=[b]) fun _ h=>(by cases h)).trans cG fun x hx=>.inl hx,?_⟩⟩;unfold gY;rw[if_pos hc];exact h1.kz (s':={s with fc:=c,fa:=(tk ts s.i).a}) cG lm h.lt
 ·have hc:s.fc≠0:=by simpa using hc
  unfold gY;rw[if_neg hc];exact⟨rfl,h.dn.q ch⟩
theorem su(h:Sr F ts w b l s):az aq 79 #[rp b] w fun e w'=>e=ak (ai #[])/\Dn F ts w w' b l (jD ts s):=by
 refine ret (aaK _ _ _ ?_);obtain⟨ad,g1,g2⟩:=h.now;refine⟨fun w'=>Dn F ts w w' b l (if(tk ts s.i).k=5 then gY ts s 3 else s),fun w0 h0=>(yx h0.r 4).mono ?_,l,Blk.ec h.blk 0 rfl,_,Blk.ec h.blk 1 rfl,ad,g1,_,g2.ec 0 _ rfl,fun hc w2 cG=>?_,fun hc w2 cG=>?_⟩
 ·rintro _ w1 ⟨rfl,h1⟩;refine⟨rfl,rfl,h0.nx ?_⟩;unfold jD;split at h1
  ·rename_i e;rw[if_pos e];exact h1
  ·rename_i e;rw[if_neg e];exact h1
 ·refine(yx (h.only cG) 3).mono ?_;rintro _ w3 ⟨rfl,h3⟩;have hc:(tk ts s.i).k=5:=by simpa using hc
  refine⟨rfl,?_⟩;rw[if_pos hc];exact(h.dn.q cG).nx h3
 ·have hc:¬(tk ts s.i).k=5:=by simpa using hc
  rw[if_neg hc];exact h.dn.q cG
theorem abB{s:Sl}{w:av}{G:aJ}{l:List (aH)}(h:aA jB 1 w G s l)(c:aH):
  az aq 207 #[Sl.v s,ab (T c)] w fun r w'=>r=ak (O U (if wc c l<l.length then(wc c l:Int)else -1))/\w'=w:=by
 refine ret (T8 _ _ _ _ ?_);have ey:=h.len;have pq:=h.big;have nS:=h.cap;refine⟨fun nv i w'=>∃n:Nat,n<=l.length/\i=(n:Int)/\nv=l.length-n/\wc c l=n+wc c (l.drop n)/\w'=w,l.length,⟨0,bd _,rfl,rfl,by rw[fK,bD],rfl⟩,?_⟩;rintro nv _ _ ⟨n,hn,rfl,rfl,hp,rfl⟩;refine⟨fun hc=>?_,fun hc=>?_⟩
 ·have bQ:(n:Int)<s.n:=aQ hc;obtain⟨ad,x,cs,g1,g2,g3,g4,g5,g6⟩:=h.get (ba n) bQ;rw[aX]at g2;unfold jB at g6;subst g6;have hd:l.drop n=x::l.drop (n+1):=by rw[gF (bc.1 g2).1,(bc.1 g2).2]
  rw[hd,wc]at hp;refine⟨ad,g1,_,g5,?_⟩;dsimp only;rw[iO];refine⟨fun he=>⟨?_,rfl⟩,fun he=>⟨l.length-(n+1),by omega,n+1,by omega,by rw[fH (by omega) (by omega)];rfl,rfl,?_,rfl⟩⟩
  ·have he:c=x:=aQ he;rw[if_pos he]at hp;rw[if_pos (by omega),hp,fp]
  ·have he:c≠x:=aU he;rw[if_neg he]at hp;omega
 ·have lR:¬((n:Int)<s.n):=aU hc;rw[dy (by omega),wc]at hp;rw[if_neg (by omega)];exact⟨rfl,rfl⟩
theorem zX(h:Sr F ts w b l s){G:aJ}{q:Sl}{ss:List (aH)}(hs:aA jB 1 w G q ss):az aq 141 #[rp b,q.v] w fun e w'=>e=ak (O U (cu ts s ss:Nat))/\ay [] w w':=by
 refine ret (aaI _ _ _ _ ?_);intro w0 ch;have h0:=h.only ch;obtain⟨ad,g1,g2⟩:=h0.now;refine⟨fun _=>True,trivial,l,Blk.ec h0.blk 0 rfl,trivial,_,Blk.ec h0.blk 1 rfl,ad,g1,trivial,_,_,_,_,g2,fun k0 w1 hk um cn=>?_⟩;have fG:=ch.cd cn;refine(mF (h0.only cn)).mono ?_;rintro _ w2 ⟨rfl,cG⟩;have js:=fG.cd cG;have Rn:((!(s.fc==0))||(((tk ts s.i).k !=2)&&((tk ts s.i).k !=4)))=decide (s.fc≠0∨((tk ts s.i).k≠2/\(tk ts s.i).k≠4)):=by
  rw[bI];simp
 refine⟨_,rfl,cG.same (by simp;omega),?_⟩;dsimp only;rw[Rn];refine⟨fun hc=>?_,fun hc=>?_⟩
 ·unfold cu;rw[if_pos (aQ hc)];exact⟨rfl,js⟩
 ·refine(abB (SliceF.only cZ (by decide) hs js (by simp)) (tk ts s.i).t).mono ?_;rintro _ w3 ⟨rfl,rfl⟩;refine⟨_,rfl,bS.refl _ _,?_,js⟩;unfold cu;rw[if_neg (aU hc)];have hl:=hs.len;have hb:=hs.big;have hcp:=hs.cap;split
  ·rw[fH (by omega) (by omega)];rfl
  ·rfl
theorem Jq(h:Sr F ts w b l s)(ss:List (aH)){n:Nat}{parts:Array (Nat×aw)}(hp:parts=(((ss.map fun x=>Value.string (T x)).zipIdx 0).map fun x=>(x.2,x.1)).toArray)(hn:ss.length=n)(h0:0<n)(tT:n*1<=16777216):
  ∃(q:Sl) (w0:av),(au 52 n parts).run aq w=.ok q.v w0/\ay [] w w0/\az aq 141 #[rp b,q.v] w0 fun e w'=>e=ak (O U (cu ts s ss:Nat))/\ay [] w0 w':=by
 obtain⟨q,w0,k1,k2,k3⟩:=jd w ss hp hn h0 tT;exact⟨q,w0,k1,k3,zX (h.only k3) (qY k2)⟩
theorem SB(h:Sr F ts w b l s){G:aJ}{q:Sl}{ss:List (aH)}(hs:aA jB 1 w G q ss):az aq 75 #[rp b,q.v] w fun e w'=>e=ak (O U (cu ts s ss:Nat))/\Dn F ts w w' b l (if cu ts s ss=0 then s else db s):=by
 refine ret (aaH _ _ _ _ ?_);refine(zX h hs).mono ?_;rintro _ w0 ⟨rfl,ch⟩;have h0:=h.only ch;refine⟨_,rfl,fun w'=>Dn F ts w w' b l (if cu ts s ss=0 then s else db s),fun w1 h1=>⟨rfl,h1⟩,fun hc=>?_,fun hc=>?_⟩
 ·have hc:cu ts s ss≠0:=by have:=aQ hc;omega
  refine⟨_,Blk.ec h0.blk 1 rfl,b,1,_,_,rfl,h0.blk,by simp,fun w2 cG lm=>?_⟩;rw[if_neg hc];rw[h.wr]at lm;exact⟨(ch.weaken (bs':=[b]) fun _ h=>(by cases h)).trans cG fun x hx=>.inl hx,h0.kz (s':=db s) cG lm (h.en.next h.lt (dm hc).2)⟩
 ·have hc:cu ts s ss=0:=by have:=aU hc;omega
  rw[if_pos hc];exact h.dn.q ch
theorem BB(h:Sr F ts w b l s)(ss:List (aH)){n:Nat}{parts:Array (Nat×aw)}(hp:parts=(((ss.map fun x=>Value.string (T x)).zipIdx 0).map fun x=>(x.2,x.1)).toArray)(hn:ss.length=n)(h0:0<n)(tT:n*1<=16777216):
  ∃(q:Sl) (w0:av),(au 52 n parts).run aq w=.ok q.v w0/\ay [] w w0/\az aq 75 #[rp b,q.v] w0 fun e w'=>e=ak (O U (cu ts s ss:Nat))/\Dn F ts w0 w' b l (if cu ts s ss=0 then s else db s):=by
 obtain⟨q,w0,k1,k2,k3⟩:=jd w ss hp hn h0 tT;exact⟨q,w0,k1,k3,SB (h.only k3) (qY k2)⟩
theorem Jr(h:Sr F ts w b l s){G:aJ}{q:Sl}{x:aH}(hs:aA jB 1 w G q [x])(hG:∀k,G k->k≠b):az aq 73 #[rp b,q.v] w fun e w'=>e=ak (ai #[])/\Dn F ts w w' b l (dS ts s x):=by
 refine ret (aaG _ _ _ _ ?_);have hn:q.n=1:=hs.len;refine⟨fun nv i w'=>(i=0/\nv=1/\w'=w)∨(i=1/\nv=0/\Dn F ts w w' b l (dS ts s x)),1,.inl ⟨rfl,rfl,rfl⟩,?_⟩;rintro nv i w0 (⟨rfl,rfl,rfl⟩ | ⟨rfl,rfl,hD⟩)
 ·refine⟨fun _=>?_,fun hc=>absurd (aU hc) (by omega)⟩;refine⟨fun w'=>Dn F ts w0 w' b l (dS ts s x),fun w1 h1=>⟨0,by decide,.inr ⟨rfl,rfl,h1⟩⟩,?_⟩;obtain⟨ad,y,cs,g1,g2,g3,g4,g5,g6⟩:=hs.get (i:=0) (by decide) (by omega);simp only[Int.toNat_zero,bP,aV]at g2;subst g2;unfold jB at g6;subst g6;obtain⟨q0,w2,k1,k2,k3⟩:=BB h [x] (n:=1) (parts:=#[(0,ab (T x))]) rfl rfl (by decide) (by decide);refine⟨ad,g1,_,g5,q0,w2,k1,k3.mono ?_⟩;rintro _ w3 ⟨rfl,h3⟩;have h03:=(h.dn.q k2).nx h3;refine⟨_,rfl,fun hc=>?_,fun hc=>?_⟩
  ·have hc:cu ts s [x]=0:=by have:((cu ts s [x]:Nat):Int)=0:=(by simpa using hc);omega
   rw[if_pos hc]at h03;refine(su h03.r).mono ?_;rintro _ w4 ⟨rfl,h4⟩;refine⟨rfl,?_⟩;unfold dS;rw[if_pos hc];exact h03.nx h4
  ·have hc:cu ts s [x]≠0:=fun e=>by rw[e]at hc;simp at hc
   rw[if_neg hc]at h03;unfold dS;rw[if_neg hc];exact h03
 ·exact⟨fun hc=>absurd (aQ hc) (by omega),fun _=>⟨rfl,hD⟩⟩
theorem qc(h:Sr F ts w b l s)(x:aH):∃(q:Sl) (w0:av),(au 52 1 #[.mk 0 (ab (T x))]).run aq w=.ok q.v w0/\ay [] w w0/\az aq 73 #[rp b,q.v] w0 fun e w'=>e=ak (ai #[])/\Dn F ts w0 w' b l (dS ts s x):=by
 obtain⟨q,w0,k1,k2,k3⟩:=jd w [x] (n:=1) (parts:=#[(0,ab (T x))]) rfl rfl (by decide) (by decide);exact⟨q,w0,k1,k3,Jr (h.only k3) (qY k2) fun k hk e=>(by have:=hk.1;have:=h.lb;omega)⟩
theorem vC(h:Sr F ts w b l s){k:Int}(pv:k≠5):az aq 140 #[rp b,O U k] w fun e w'=>e=ak (fA ts s k).1.v/\Dn F ts w w' b l (fA ts s k).2:=by
 refine ret (aaO _ _ _ _ ?_);intro k0 w0 hk um ch;have z0:=h.z.al ch hk um;have h0:=h.only ch;obtain⟨ad,g1,g2⟩:=h0.now;refine⟨fun _=>True,trivial,l,Blk.ec h0.blk 0 rfl,trivial,_,Blk.ec h0.blk 1 rfl,ad,g1,trivial,_,_,_,_,g2,fun k1 w1 kg ju cn=>?_⟩;have z1:=z0.al cn kg ju;refine(mF (h0.only cn)).mono ?_;rintro _ w2 ⟨rfl,cG⟩;have z2:=z1.q cG;have hl:=h.lb;have d2:Dn F ts w w2 b l s:=h.dn.q ((ch.cd cn).cd cG);have Rn:((!(s.fc==0))||((tk ts s.i).k !=k))=decide (s.fc≠0∨(tk ts s.i).k≠k):=by
  rw[bI];simp
 refine⟨_,rfl,z1.sq cG (by simp),?_⟩;dsimp only;rw[Rn];refine⟨fun hc=>(su d2.r).mono ?_,fun hc=>?_⟩
 ·rintro _ w3 ⟨rfl,h3⟩;refine⟨rfl,z2.sc h3.o (by simp),fun w4 dI=>?_⟩;unfold fA;rw[if_pos (aQ hc)];exact⟨rfl,(d2.nx h3).f dI hk hl⟩
 ·refine⟨_,Blk.ec d2.r.blk 1 rfl,b,1,_,_,rfl,d2.r.blk,by simp,z2.ne (by simp) (by simp),z2.ne (by simp) (by simp),fun w5 eh tX w6 dR=>?_⟩;have hc:=aU hc;unfold fA;rw[if_neg hc];simp only[not_or,uU]at hc;rw[h.wr]at tX;have d5:Dn F ts w w5 b l (db s):=⟨d2.o.trans eh fun x hx=>.inl hx,d2.r.kz eh tX (h.en.next h.lt (by rw[hc.2];exact pv))⟩
  exact⟨rfl,d5.f dR hk hl⟩
theorem vD(h:Sr F ts w b l s):az aq 209 #[rp b] w fun e w'=>e=ak (ab (T (gZ ts s).1))/\Dn F ts w w' b l (gZ ts s).2:=by
 refine ret (aaT _ _ _ ?_);refine(vC h (k:=1) (by decide)).mono ?_;rintro _ w0 ⟨rfl,h0⟩;exact⟨_,_,_,_,rfl,rfl,h0⟩
theorem _root_.Go.Kt.Blk.UQ{w:av}{b:Nat}{t:TypeId}{cs:aI}{v:aw}(h:aF w b t cs)(j:Nat)(hx:cs[j]? =some v):aB w ⟨b,j,none⟩ [v]:=by
 have:=Blk.ec h j hx;rwa[fZ,bD]at this
theorem CZ(h:Sr F ts w b l s)(j:Nat)(x:Int)(c:Int)(u:Sx)(hx:(Uo l s)[j]? =some (.int U x))(DH:(Uo l (gY ts s c))[j]? =some (.int U x))(hui:u.i=s.i)
  (hu:Uo l u=ca (Uo l (if x=0 then gY ts s c else s)) j [O U (we x)]):az aq 138 #[rp b,ae (some ⟨b,j,none⟩),O U c] w fun e w'=>e=ak (ai #[])/\Dn F ts w w' b l u:=by
 refine ret (aaN _ _ _ _ _ ?_);have hj:j+1<=9:=(bc.1 hx).1;refine⟨fun w'=>Dn F ts w w' b l (if x=0 then gY ts s c else s),fun w0 h0=>?_,_,rfl,x,Blk.UQ h.blk j hx,fun hc=>?_,fun hc=>?_⟩
 ·refine⟨_,rfl,x,Blk.UQ h0.r.blk j (by split<;>assumption),_,rfl,b,j,_,_,rfl,h0.r.blk,hj,fun w1 cn pD=>⟨rfl,h0.o.trans cn fun x hx=>.inl hx,h0.r.kz cn (s':=u) ?_ (by rw[hui];exact h.lt)⟩⟩;rw[hu];exact pD
 ·refine(yx h c).mono ?_;rintro _ w2 ⟨rfl,h2⟩;have hc:x=0:=by simpa using hc
  rw[if_pos hc];exact⟨rfl,h2⟩
 ·have hc:¬x=0:=by simpa using hc
  rw[if_neg hc];exact h.dn
theorem V4(h:Sr F ts w b l s):az aq 138 #[rp b,ae (some ⟨b,8,none⟩),O U 2] w fun e w'=>e=ak (ai #[])/\Dn F ts w w' b l (rV ts s):=
 CZ h 8 s.a 2 _ rfl (by unfold gY;split<;>rfl) (CR s) (by unfold rV gY;split<;>(try split)<;>rfl)
theorem V5(h:Sr F ts w b l s):az aq 138 #[rp b,ae (some ⟨b,7,none⟩),O U 2] w fun e w'=>e=ak (ai #[])/\Dn F ts w w' b l (qK ts s):=
 CZ h 7 s.m 2 _ rfl (by unfold gY;split<;>rfl) (CS s) (by unfold qK gY;split<;>(try split)<;>rfl)
theorem V6(h:Sr F ts w b l s):az aq 138 #[rp b,ae (some ⟨b,5,none⟩),O U 2] w fun e w'=>e=ak (ai #[])/\Dn F ts w w' b l (AR ts s):=
 CZ h 5 s.n 2 _ rfl (by unfold gY;split<;>rfl) (by unfold AR;split;exact CN 2;rfl) (by unfold AR gY;split<;>(try split)<;>rfl)
theorem V7(h:Sr F ts w b l s):az aq 138 #[rp b,ae (some ⟨b,4,none⟩),O U 2] w fun e w'=>e=ak (ai #[])/\Dn F ts w w' b l (AU ts s):=
 CZ h 4 s.v 2 _ rfl (by unfold gY;split<;>rfl) (by unfold AU;split;exact CN 2;rfl) (by unfold AU gY;split<;>(try split)<;>rfl)
theorem Js(h:Sr F ts w b l s):az aq 253 #[rp b] w fun e w'=>∃cs,e=ak (ah cs.toArray)/\rE true w' (Fr w.heap.size) (mR ts s).1 cs/\Dn F ts w w' b l (mR ts s).2:=by
 refine(aaU ⟨b,0,none⟩ (fun v w'=>∃cs,v=(ah cs.toArray)/\rE true w' (Fr w.heap.size) (mR ts s).1 cs/\Dn F ts w w' b l (mR ts s).2) w ?_).mono (by
  rintro e w' ⟨v,rfl,cs,rfl,h⟩;exact⟨cs,rfl,h⟩)
 intro k0 w0 hk um ch;have hl:=h.lb;have z0:=h.z.al ch hk um;refine(mF (h.only ch)).mono ?_;rintro _ w1 ⟨rfl,cn⟩;have z1:=z0.q cn;have d1:Dn F ts w w1 b l s:=h.dn.q (ch.cd cn);refine⟨_,rfl,z0.sq cn (by simp),fun hc w2 cG=>?_,fun hc w3 dh=>?_⟩
 ·have hc:s.fc≠0:=by simpa using hc
  unfold mR;rw[if_pos hc];exact⟨_,rfl,YQ _ _ _,d1.f cG hk hl⟩
 ·have hc:¬s.fc≠0:=by simpa using hc
  have z3:=z1.q dh;have d3:=d1.q dh;refine⟨fun k=>k=b,fun w4 dI=>⟨rfl,l,Blk.ec (d3.q dI).r.blk 0 rfl,fun w5 eh=>⟨rfl,_,Blk.ec ((d3.q dI).q eh).r.blk 1 rfl,fun w6 dR=>?_⟩⟩⟩;have z6:=((z3.q dI).q eh).q dR;have d6:=((d3.q dI).q eh).q dR;have hb6:=d6.r.big;have bQ:=h.lt;refine(I6 d6.r.tok (s.i:Int) ⟨by omega,by omega⟩).mono ?_;rintro _ w7 ⟨cs,rfl,hX,hj,fN⟩;have z7:=z6.q fN;have d7:=d6.q fN;obtain⟨sl,jY,_⟩:=hX.cells;have hsz:w3.heap.size<=w6.heap.size:=((dI.cd eh).cd dR).size;refine⟨_,_,_,_,sl,_,_,_,_,by rw[jY],z6.sq fN (by simp),nu.Km fN,bO.only fN,fun w8 fj k1 kg ju Y4=>?_⟩;obtain⟨d,hX⟩:=hX.xg;have hx7:rE true w7 (fun k=>w6.heap.size<=k/\k<w7.heap.size) (bU ts s.i).1 cs:=⟨d,hX⟩
  have ao2:w.heap.size<=k1:=bh z3.o.size kg;have ao3:b<k1:=by omega
  have d8:=d7.q fj;have zz6:=z6.o.size;have zz0:=z0.k k0 (by simp);have zw0:=((cn.cd dh).cd ((dI.cd eh).cd dR)).size;have hx8:∀{bs:List Nat} {w9:av},ay bs w8 w9->(∀x,x∈bs->x=k1∨x=k0∨x=b)->rE true w9 (Fr w.heap.size) (bU ts s.i).1 cs:=fun fT Zj=>
   (gz true).mono ((gz true).keep hx7 fun k X4 bQ=>(fT.block k (cD bQ fj.size) fun hm=>by
    rcases Zj k hm with rfl | rfl | rfl
    ·have:=Y4.one;omega
    ·omega
    ·omega).trans (fj.block k bQ (by simp))) fun k X4=>by have:=X4.1;show w.heap.size<=k;omega
  unfold mR;rw[if_neg hc];refine⟨fun h1 w9 fT=>?_,fun h1 eM fb=>?_⟩
  ·have h1:(bU ts s.i).2.2.1≠0:=by simpa using h1
   have d9:Dn F ts w w9 b l s:=⟨d8.o.trans fT fun x hx=>.inr (by simp only[aY,bf,cb]at hx;omega),d8.r.own fT fun x hx=>(by simp only[aY,bf,cb]at hx;omega)⟩
   refine⟨b,2,_,_,rfl,d9.r.blk,by simp,by omega,by omega,fun dw dM nr dJ dY=>?_⟩;rw[if_pos h1];have d10:Dn F ts w dw b l {s with fc:=(bU ts s.i).2.2.1,fa:=(bU ts s.i).2.2.2}:=⟨d9.o.trans dM fun x hx=>.inl hx,d9.r.kz dM nr h.lt⟩
   refine⟨cs,by rw[jY],?_,d10.f dY hk hl⟩;exact hx8 (bs:=[k1,k0,b]) (((fT.weaken (bs':=[k1,k0,b]) fun x hx=>.inl (by simp only[aY,bf,cb]at hx⊢;omega)).trans dM fun x hx=>.inl (by simp only[aO]at hx;simp[hx])).trans dY fun x hx=>.inl (by simp only[aO]at hx;simp[hx])) (by simp)
  ·have h1:¬(bU ts s.i).2.2.1≠0:=by simpa using h1
   have d12:Dn F ts w eM b l s:=⟨d8.o.trans fb fun x hx=>.inr (by simp only[aY,bf,cb]at hx;omega),d8.r.own fb fun x hx=>(by simp only[aY,bf,cb]at hx;omega)⟩
   obtain⟨MB,Gx⟩:=hj (by simpa using h1);have ej:((bU ts s.i).2.1.toNat:Int)=(bU ts s.i).2.1:=gw MB;refine⟨b,1,_,_,rfl,d12.r.blk,by simp,by omega,by omega,fun eU dL sL fM eV=>?_⟩;rw[if_neg h1];have d13:Dn F ts w eU b l {s with i:=(bU ts s.i).2.1.toNat}:=⟨d12.o.trans dL fun x hx=>.inl hx,d12.r.kz dL (by dsimp only[Uo];rw[ej];exact sL) (by dsimp only;omega)⟩
   refine⟨cs,by rw[jY],?_,d13.f eV hk hl⟩;exact hx8 (bs:=[k1,k0,b]) (((fb.weaken (bs':=[k1,k0,b]) fun x hx=>.inl (by simp only[aY,bf,cb]at hx⊢;omega)).trans dL fun x hx=>.inl (by simp only[aO]at hx;simp[hx])).trans eV fun x hx=>.inl (by simp only[aO]at hx;simp[hx])) (by simp)
end
theorem abC{n:Nat}(h:((n:Int)==0)=true):n=0:=by simpa using h
theorem abD{n:Nat}(h:((n:Int)==0)=false):n≠0:=fun e=>by rw[e]at h;simp at h
theorem Lk{n:Nat}(h:decide ((n:Int)>0)=false):n=0:=by have:=aU h;omega
theorem Ll{n:Nat}(h:decide ((n:Int)>0)=true):n≠0:=by have:=aQ h;omega
section
variable {F:aJ} {ts:List Tk} {w w':av} {b:Nat} {l:Sl} {s s':Sx}
theorem V8(h:Sr F ts w b l s):az aq 256 #[rp b] w fun e w'=>∃cs,e=ak (ah cs.toArray)/\pC true w' (Fr w.heap.size) (oh ts s).1 cs/\Dn F ts w w' b l (oh ts s).2:=by
 refine(aaZ ⟨b,0,none⟩ (fun v w'=>∃cs,v=(ah cs.toArray)/\pC true w' (Fr w.heap.size) (oh ts s).1 cs/\Dn F ts w w' b l (oh ts s).2) w ?_).mono (by
  rintro e w' ⟨v,rfl,cs,rfl,h⟩;exact⟨cs,rfl,h⟩)
 intro k0 w0 hk um ch;have t0:=h.zt.al ch hk um;obtain⟨ad,g1,_⟩:=h.now;refine⟨fun _=>True,fun w1 cn=>⟨trivial,l,Blk.ec (t0.q cn).r.blk 0 rfl,fun w2 cG=>⟨trivial,_,Blk.ec ((t0.q cn).q cG).r.blk 1 rfl,ad,g1,fun w3 dh=>?_⟩⟩⟩;have t3:=((t0.q cn).q cG).q dh;refine⟨trivial,_,(t3.r.tk g1).ec 3 _ rfl,fun w4 dI=>?_⟩;have t4:=t3.q dI;obtain⟨q,w5,e1,nt,eh⟩:=jd w4 [oC,iR,j7] (n:=3) (parts:=#[(0,ab (T oC)),(1,ab (T iR)),(2,ab (T j7))]) rfl rfl (by decide) (by decide);refine⟨q,w5,e1,t4.sq eh (by simp),nu.Km eh,bO.only eh,fun w6 dR=>?_⟩;have t6:=(t4.q eh).q dR;refine(zX t6.r (SliceF.only cZ (by decide) (qY nt) dR (by simp))).mono ?_;rintro _ w7 ⟨rfl,fN⟩;have t7:=t6.q fN;refine⟨_,rfl,t6.sq fN (by simp),nu.Km fN,bO.only fN,fun w8 fj k1 kg ju Y4=>?_⟩;have t8:=(t7.q fj).ad (bh t0.z.o.size kg) ju;refine⟨fun hc w9 fT=>?_,fun hc eM fb=>?_⟩
 ·have t9:=t8.f fT (by simp);refine(su t9.r).mono ?_;rintro _ dw ⟨rfl,uS⟩;refine⟨rfl,t9.sc uS (by simp),fun dJ dY=>?_⟩;have hc:=abC hc;unfold oh;rw[if_pos hc,hc];exact⟨_,rfl,⟨j6 0 0 [] 0 Sl.nil 0,rfl,YQ _ _ _⟩,((t9.nx uS).f dY (by simp)).dn⟩
 ·have hc:=abD hc;have t12:=t8.f fb (by simp);refine(V4 t12.r).mono ?_;rintro _ eU ⟨rfl,xb⟩;have t13:=t12.nx xb;refine⟨rfl,t12.sc xb (by simp),(mF t13.r).mono ?_⟩;rintro _ fM ⟨rfl,eV⟩;have t14:=t13.q eV;unfold oh;rw[if_neg hc];refine⟨_,rfl,t13.sq eV (by simp),fun hf iy kB=>?_,fun hf=>?_⟩
  ·have hf:(rV ts s).fc≠0:=by simpa using hf
   rw[if_pos hf];exact⟨_,rfl,⟨j6 0 0 [] 0 Sl.nil 0,rfl,YQ _ _ _⟩,(t14.f kB (by simp)).dn⟩
  ·have hf:¬(rV ts s).fc≠0:=by simpa using hf
   rw[if_neg hf];refine⟨_,Blk.ec t14.r.blk 1 rfl,b,1,_,_,rfl,t14.r.blk,by simp,t14.ne (by simp),t14.ne (by simp),fun jK kc Qo=>?_⟩;rw[t14.r.wr]at Qo;have t16:Zt F ts w jK b l (db (rV ts s)) [k1,k0]:=t14.up kc Qo (h.en.next t14.r.lt (by rw[CR];exact(dm hc).2));refine(vD t16.r).mono ?_;rintro _ iZ ⟨rfl,Ri⟩;have t17:=t16.nx Ri;refine⟨_,rfl,t16.sc Ri (by simp),fun jM kb=>?_⟩;have t18:=t17.f kb (by simp);generalize (gZ ts (db (rV ts s))).2=u at*
   generalize (gZ ts (db (rV ts s))).1=nm at*
   generalize cu ts s [oC,iR,j7]=kk at*
   generalize (tk ts s.i).a=aa at*
   refine⟨fun i4 s1 i5 i6 s2 i7 l2 i8 i9 w'=>∃(x:Ex) (u':Sx),i4=(kk:Int)/\s1=T nm/\i9=aa/\rE true w' (Fr jM.heap.size) x [O U i5,O U i6,ab s2,O U i7,l2.v,O U i8]/\Zt F ts w w' b l u' [k1,k0]/\He ts u kk nm aa=(⟨kk,nm,x,aa⟩,dS ts u' [59])/\jM.heap.size<=w'.heap.size,?_,fun oY=>?_,fun oY=>?_⟩
   ·rintro i4 s1 i5 i6 s2 i7 l2 i8 i9 kf ⟨x,u',rfl,rfl,rfl,hx,t19,hT,hsz⟩;obtain⟨q,jL,e1,lJ,hm⟩:=qc t19.r [59];refine⟨q,jL,e1,t19.sq lJ (by simp),hm.mono ?_⟩;rintro _ mX ⟨rfl,X5⟩;have t20:=t19.q lJ;refine⟨rfl,t20.sc X5 (by simp),fun qS ry=>?_⟩;rw[hT];have zk:=t18.z.k k0 (by simp);have zs:=t18.z.o.size;have zb:=t18.r.lb;refine⟨_,rfl,⟨[O U i5,O U i6,ab s2,O U i7,l2.v,O U i8],rfl,?_⟩,((t20.nx X5).f ry (by simp)).dn⟩;exact(gz true).low ((gz true).stay hx ((((Stay.refl _ _).q lJ).d X5 zb).f ry (.inl zk.2))) zs
   ·have oY:¬kk=2:=fun e=>by rw[e]at oY;simp at oY
    obtain⟨q,rh,e1,sM,hm⟩:=qc t18.r [61];refine⟨q,rh,e1,t18.sq sM (by simp),hm.mono ?_⟩;rintro _ tG ⟨rfl,h24⟩;have t23:=t18.q sM;have t24:=t23.nx h24;refine⟨rfl,t23.sc h24 (by simp),(Js t24.r).mono ?_⟩;rintro _ po ⟨cs,rfl,hx,Tx⟩;obtain⟨sl,rfl⟩:=eH hx;have t25:=t24.nx Tx;refine⟨_,_,_,_,sl,_,rfl,t24.sc Tx (by simp),fun qT jF=>?_⟩;have z24:jM.heap.size<=tG.heap.size:=bh sM.size h24.o.size;have zk:=t18.z.k k1 (by simp);refine⟨_,_,rfl,rfl,rfl,(gz true).low ((gz true).stay hx ((Stay.refl _ _).f jF (.inl (by omega)))) z24,t25.f jF (by simp),?_,bh z24 (bh Tx.o.size jF.size)⟩;unfold He;rw[if_neg oY]
   ·have oY:(kk:Int)=2:=by simpa using oY
    have oY:kk=2:=by omega
    refine⟨uN,u,rfl,rfl,rfl,YQ _ _ _,t18,?_,aW _⟩;unfold He;rw[if_pos oY]
abbrev AcO(B:Nat)(w:av)(la:Sl)(acc:List Ac):Prop:=Own (pC true) 9 116 B w (Fr B) la acc
structure Br (F:aJ) (ts:List Tk) (w w':av) (b:Nat) (l:Sl) (k0 k1 B:Nat) (s:Sx) (acc:List Ac) (la:Sl):Prop where
 r:Sr F ts w' b l s
 b0:aF w' k0 127 [rp b]
 b1:aF w' k1 23 [la.v]
 own:AcO B w' la acc
 o:∃gs,ay (b::k1::gs) w w'/\∀x,x∈gs->B<=x
 n0:b<k0
 n1:b<k1
 n01:k0≠k1
 l0:k0<B
 l1:k1<B
 lB:B<=w'.heap.size
section
variable {k0 k1 B:Nat} {acc:List Ac} {la:Sl} {w2:av}
theorem Br.nx(h:Br F ts w w' b l k0 k1 B s acc la)(k:Dn F ts w' w2 b l s'):Br F ts w w2 b l k0 k1 B s' acc la:=by
 have n0:=h.n0;have n1:=h.n1;have l0:=h.l0;obtain⟨gs,h1,h2⟩:=h.o;exact⟨k.r,k.o.blk h.b0 (by simp only[aO];omega),k.o.blk h.b1 (by simp only[aO];omega),h.own.stay (cF true) k.o fun x hx=>.inl (by simp only[aO]at hx;omega),
  ⟨gs,h1.trans k.o fun x hx=>.inl (by simp only[aO]at hx;simp[hx]),h2⟩,n0,n1,h.n01,l0,h.l1,bh h.lB k.o.size⟩
theorem Br.q(h:Br F ts w w' b l k0 k1 B s acc la)(k:ay [] w' w2):Br F ts w w2 b l k0 k1 B s acc la:=h.nx (h.r.dn.q k)
theorem V9(h:Br F ts w w' b l k0 k1 B s acc la)(hm:acc.length<ts.length):az aq 255 #[ae (some ⟨k1,0,none⟩),ae (some ⟨k0,0,none⟩)] w' fun e w2=>e=ak (ai #[])/\∃B0,Br F ts w w2 b l k0 k1 B (oh ts s).2 (acc++[(oh ts s).1]) B0:=by
 refine ret (aaY _ _ _ _ ?_);intro w0 ch;have h0:=h.q ch;have n1:=h.n1;have l1:=h.l1;refine⟨fun k=>k=k1,rfl,la,h0.b1.UQ 0 rfl,_,h0.b0.UQ 0 rfl,(V8 h0.r).mono ?_⟩;rintro _ w1 ⟨cs,rfl,hx,h1⟩;have xP:=h0.nx h1;generalize Gj:(oh ts s).1=ac at*
 generalize (oh ts s).2=s1 at*
 have DH:=hx;obtain⟨xc,rfl,PR⟩:=DH;obtain⟨sl,rfl⟩:=eH PR;have tT:=h.r.sm;have hl0:=h0.own.len;obtain⟨y,w2,e2,cG,B0,w3,e3,nt,⟨gs,dh,ur⟩,_⟩:=nG (P:=aq) (t:=23) (ty:=23) (e:=116) (i:=Tryz.t116) (bytes:=104) (size:=9) (v:=ah (Uh ac.k ac.n (j6 ac.x.k ac.x.n ac.x.s ac.x.op sl ac.x.a) ac.a).toArray) (x:=ac) (G:=Fr w0.heap.size) (by kernel_rfl) (by kernel_rfl) rfl rfl rfl rfl (by decide) (by decide) (by decide) (cF true) xP.own xP.lB rfl hx (fun k hk _=>⟨bh h0.lB hk,h0.own.new hk⟩) (by omega);have Qp:ay gs w1 w3:=(cG.weaken (bs':=gs) fun _ h=>(by cases h)).trans dh fun x hx=>.inl hx;have qn:∀g,g∈gs->B<=g:=fun g hg=>(ur g hg).2.1;refine⟨_,_,_,_,_,_,sl,_,_,rfl,fun k hk bQ=>(by subst hk;exact h1.o.block k bQ (by simp only[aO];omega)),y,w2,e2,bO.only cG,B0,w3,e3,fun k hk bQ=>(by subst hk;exact dh.block k bQ fun hm=>(by have:=qn k hm;omega)),k1,0,_,_,rfl,Qp.blk xP.b1 (fun hm=>by have:=qn k1 hm;omega),by simp,fun w4 dI qs=>⟨rfl,B0,?_⟩⟩;have n0:=h.n0;have n01:=h.n01;have l0:=h.l0;have z3:=Qp.size;have z4:=dI.size;have hlB:=xP.lB;have hOb:∀{x:Nat},x<B->x≠k1->w4.heap[x]? =w1.heap[x]? :=fun hx hn=>(dI.block _ (by omega) (by simpa using hn)).trans (Qp.block _ (by omega) fun hm=>(by have:=qn _ hm;omega));obtain⟨gs0,o1,o2⟩:=xP.o;have hr3:Sr F ts w3 b l s1:=xP.r.own Qp fun x hx=>(by have:=qn x hx;omega)
 refine⟨hr3.one dI n1,(hOb l0 n01).trans xP.b0,qs,?_,⟨gs++gs0,(((o1.weaken (bs':=b::k1::(gs++gs0)) fun x hx=>.inl (by simp only[aY,cH]at hx⊢;rcases hx with hx | hx | hx<;>simp[hx])).trans Qp fun x hx=>.inl (by simp[hx]))).trans dI fun x hx=>.inl (by simp only[aO]at hx;simp[hx]),fun x hx=>?_⟩,n0,n1,n01,l0,l1,by omega⟩
 ·refine((nt.mono (cF true) fun k hk=>?_).stay (cF true) dI fun x hx=>.inl (by simp only[aO]at hx;omega));rcases hk with hk | hk
  ·exact hk
  ·exact bh hlB hk
 ·rcases cH.1 hx with hx | hx
  ·exact qn x hx
  ·exact o2 x hx
theorem N6(f:Nat)(h:Br F ts w w' b l k0 k1 B s acc la)(hf:mu ts s<f)(hm:acc.length+mu ts s<=ts.length):
  az aq 254 #[rp b,ab (ao #[125]),.func (.func 255) #[] #[ae (some ⟨k1,0,none⟩),ae (some ⟨k0,0,none⟩)]] w' fun e w2=>e=ak (ai #[])/\∃B0,Br F ts w w2 b l k0 k1 B (oL ts f acc s).2 (oL ts f acc s).1 B0:=by
 refine ret (aa0 ⟨b,0,none⟩ _ ⟨.func (.func 255) #[] #[ae (some ⟨k1,0,none⟩),ae (some ⟨k0,0,none⟩)],rfl⟩ (fun v w2=>v=(ai #[])/\∃B0,Br F ts w w2 b l k0 k1 B (oL ts f acc s).2 (oL ts f acc s).1 B0) w' ?_);generalize X6:oL ts f acc s=res;refine⟨fun nv w2=>∃s' Qq B0,Br F ts w w2 b l k0 k1 B s' Qq B0/\oL ts nv Qq s'=res/\mu ts s'<nv/\Qq.length+mu ts s'<=ts.length,f,⟨s,acc,la,h,X6,hf,hm⟩,?_⟩;rintro nv w0 ⟨s',Qq,B0,h0,hR,hf0,X7⟩;obtain⟨m,rfl⟩:∃m,nv=m+1:=⟨nv-1,by omega⟩
 rw[oL]at hR;refine⟨fun bo w2=>(bo=true/\s'.fc=0/\cu ts s' [[125]]=0/\Br F ts w w2 b l k0 k1 B s' Qq B0)∨(bo=false/\Br F ts w w2 b l k0 k1 B res.2 res.1 B0),?_,(mF h0.r).mono ?_⟩
 ·rintro bo w1 (⟨rfl,hfc,hw,h1⟩ | ⟨rfl,h1⟩)
  ·refine⟨fun _=>⟨255,[],[_,_],rfl,kn (by kernel_rfl),?_⟩,fun hh=>(by cases hh)⟩;rw[if_neg (by simp[hfc]),if_neg (by simp[hw])]at hR;have hmu:=VY h0.r.en hfc h0.r.lt;have X8:mu ts s'<=ts.length:=by unfold mu;split<;>omega
   refine(V9 h1 (by omega)).mono ?_;rintro _ w3 ⟨rfl,la2,h3⟩;exact⟨rfl,m,by omega,_,_,la2,h3,hR,by omega,by rw[aN,bg];omega⟩
  ·exact⟨fun hh=>(by cases hh),fun _=>⟨rfl,B0,h1⟩⟩
 ·rintro _ w4 ⟨rfl,dI⟩;have h4:=h0.q dI;refine⟨_,rfl,fun hc=>?_,fun hc=>?_⟩
  ·have hc:s'.fc=0:=by simpa using hc
   rw[if_neg (by simp[hc])]at hR;obtain⟨q,w5,e1,eh,hk⟩:=BB h4.r [[125]] (n:=1) (parts:=#[(0,ab (T [125]))]) rfl rfl (by decide) (by decide);refine⟨q,w5,e1,hk.mono ?_⟩;rintro _ w6 ⟨rfl,h6⟩;have h6:=(h4.q eh).nx h6;refine⟨_,rfl,?_⟩;by_cases hw:cu ts s' [[125]]=0
   ·rw[if_pos hw]at h6;exact .inl ⟨by rw[hw];rfl,hc,hw,h6⟩
   ·rw[if_neg hw]at h6;rw[if_pos hw]at hR;subst hR;exact .inr ⟨by simpa using hw,h6⟩
  ·have hc:s'.fc≠0:=by simpa using hc
   rw[if_pos hc]at hR;subst hR;exact .inr ⟨rfl,h4⟩
end
theorem zY(h:Sr F ts w b l s):az aq 210 #[rp b] w fun e w'=>∃la:Sl,e=ak la.v/\jE true (pC true) 9 116 w' (Fr w.heap.size) la (gK ts s).1/\Dn F ts w w' b l (gK ts s).2:=by
 refine(aaX ⟨b,0,none⟩ (fun v w'=>∃la:Sl,v=la.v/\jE true (pC true) 9 116 w' (Fr w.heap.size) la (gK ts s).1/\Dn F ts w w' b l (gK ts s).2) w ?_).mono (by
  rintro e w' ⟨v,rfl,cs,rfl,h⟩;exact⟨cs,rfl,h⟩)
 intro k0 k1 w0 gD dQ kg ju ch;have t0:=((h.zt.q ch).ad gD dQ).ad kg ju;obtain⟨q,w1,e1,cn,hm⟩:=qc t0.r [123];refine⟨q,w1,e1,t0.sq cn (by simp),hm.mono ?_⟩;rintro _ w2 ⟨rfl,h2⟩;have t1:=t0.q cn;have t2:=t1.nx h2;refine⟨rfl,t1.sc h2 (by simp),fun Ax pD=>?_⟩;have hb:=h.lb;have hB:Br F ts w2 w2 b l k0 k1 w2.heap.size (dS ts s [123]) [] Sl.nil:=
  ⟨t2.r,Ax,pD,Own.nil _ _ _ _ _ _,⟨[],Only.refl _ _,fun _ h=>(by cases h)⟩,by omega,by omega,fun e=>(by subst e;have:=Ax.symm.trans pD;simp at this),Ax.lt,pD.lt,aW _⟩
 refine(N6 (ts.length+1) hB (by unfold mu;split<;>omega) (by rw[aZ,bD];unfold mu;split<;>omega)).mono ?_;rintro _ w3 ⟨rfl,la,h3⟩;have z2:=t2.z.o.size;obtain⟨gs,o1,o2⟩:=h3.o;refine⟨rfl,_,h3.b0,_,h3.b1,la,rfl,?_,?_,h3.r⟩
 ·exact(h3.own.sl (cF true) fun k hk=>hk).low (cF true) z2
 ·exact t2.z.o.trans o1 fun x hx=>by
   simp only[aY]at hx;rcases hx with rfl | rfl | hx
   ·exact .inl (by simp)
   ·exact .inr kg
   ·exact .inr (bh z2 (o2 x hx))
end
section
variable {F:aJ} {ts:List Tk} {w w':av} {b:Nat} {l:Sl} {s s':Sx}
structure MvX (A:Nat) (w:av) (m:Mv) (k:Int) (ev:aK) (wt:Int) (gd:Bool) (gc:aI) (qU:Sl) (a:Int):Prop where
 e1:k=m.k
 e2:ev=T m.ev
 e3:wt=m.wt
 e4:gd=m.gd
 e5:a=m.a
 g:rE true w (Fr A) m.g gc
 x:jE true (pC true) 9 116 w (Fr A) qU m.acts
theorem MvX.stay{A:Nat}{m:Mv}{k:Int}{ev:aK}{wt:Int}{gd:Bool}{gc:aI}{qU:Sl}{a:Int}(h:MvX A w m k ev wt gd gc qU a)(hs:Stay A w w'):MvX A w' m k ev wt gd gc qU a:=
 ⟨h.e1,h.e2,h.e3,h.e4,h.e5,(gz true).stay h.g hs,h.x.stay (cF true) (by decide) hs⟩
theorem ra(ts:List Tk)(s:Sx):mu ts s<=ts.length:=by unfold mu;split<;>omega
theorem zZ(h:Sr F ts w b l s){ss:List (aH)}(hw:cu ts s ss≠0):s.i+1<ts.length:=h.en.next h.lt (dm hw).2
theorem SC(h:Sr F ts w b l s)(k:Int)(hk:(tk ts s.i).k≠5):az aq 208 #[rp b,O U k] w fun e w'=>∃cs,e=ak (ah cs.toArray)/\yq true w' (Fr w.heap.size) (lP ts k s).1 cs/\Dn F ts w w' b l (lP ts k s).2:=by
 refine(aaS ⟨b,0,none⟩ k (fun v w'=>∃cs,v=(ah cs.toArray)/\yq true w' (Fr w.heap.size) (lP ts k s).1 cs/\Dn F ts w w' b l (lP ts k s).2) w ?_).mono (by
  rintro e w' ⟨v,rfl,cs,rfl,h⟩;exact⟨cs,rfl,h⟩)
 intro k0 w0 gD dQ ch;have t0:=h.zt.al ch gD dQ;obtain⟨ad,g1,g2⟩:=t0.r.now;refine⟨fun _=>True,trivial,l,Blk.ec t0.r.blk 0 rfl,trivial,_,Blk.ec t0.r.blk 1 rfl,ad,g1,trivial,_,g2.ec 3 _ rfl,fun k1 w1 kg ju cn=>?_⟩;have t1:=t0.al cn kg ju;refine(V5 t1.r).mono ?_;rintro _ w2 ⟨rfl,h2⟩;have t2:=t1.nx h2;refine⟨rfl,t1.sc h2 (by simp),(mF t2.r).mono ?_⟩;rintro _ w3 ⟨rfl,dh⟩;have t3:=t2.q dh;unfold lP;refine⟨_,rfl,t2.sq dh (by simp),fun hf w4 dI=>?_,fun hf=>?_⟩
 ·have hf:(qK ts s).fc≠0:=by simpa using hf
  rw[if_pos hf];exact⟨_,rfl,⟨j6 0 0 [] 0 Sl.nil 0,Sl.nil,Sl.nil,rfl,YQ _ _ _,jE.nil _ _ _ _ _ _,jE.nil _ _ _ _ _ _⟩,(t3.f dI (by simp)).dn⟩
 have hf:¬(qK ts s).fc≠0:=by simpa using hf
 rw[if_neg hf];refine⟨_,Blk.ec t3.r.blk 1 rfl,b,1,_,_,rfl,t3.r.blk,by simp,t3.ne (by simp),t3.ne (by simp),fun w5 eh tX=>?_⟩;rw[t3.r.wr]at tX;have t5:Zt F ts w w5 b l (db (qK ts s)) [k1,k0]:=t3.up eh tX (h.en.next t3.r.lt (by rw[CS];exact hk));have hA:=t5.z.o.size;have hA0:=(t5.z.k k0 (by simp)).2;have hA1:=(t5.z.k k1 (by simp)).2;have Zs:=t5.r.lb;generalize hAA:w5.heap.size=A at*
 generalize (tk ts s.i).a=aa at*
 generalize db (qK ts s)=u0 at*
 generalize hR:(if k=1 then ol ts {NM k aa with ev:=(gZ ts u0).1} (gZ ts u0).2 else if k=3 then ol ts {NM k aa with wt:=(fA ts u0 3).1.n} (fA ts u0 3).2 else ol ts (NM k aa) u0)=R;have x0:∀{w':av} {ev:aH} {wt:Int},MvX A w' {NM k aa with ev:=ev,wt:=wt} k (T ev) wt false (j6 0 0 [] 0 Sl.nil 0) Sl.nil aa:=⟨rfl,rfl,rfl,rfl,rfl,YQ _ _ _,jE.nil _ _ _ _ _ _⟩
 refine⟨fun i3 s0 i4 b1 i5 i6 s1 i7 l1 i8 l2 l3 i9 w'=>∃(m:Mv) (u:Sx),MvX A w' m i3 s0 i4 b1 [O U i5,O U i6,ab s1,O U i7,l1.v,O U i8] l2 i9/\m.gd=false/\m.tg=[]/\l3=Sl.nil/\Zt F ts w w' b l u [k1,k0]/\ol ts m u=R/\A<=w'.heap.size,?_,fun hc=>?_,fun hc=>⟨fun L5=>?_,fun L5=>?_⟩⟩;rotate_left
 ·have hc:k=1:=by simpa using hc
  refine(vD t5.r).mono ?_;rintro _ Za ⟨rfl,h32⟩;have t32:=t5.nx h32;refine⟨_,rfl,t5.sc h32 (by simp),fun Zb adK=>?_⟩;rw[if_pos hc]at hR;exact⟨_,_,x0,rfl,rfl,rfl,t32.f adK (by simp),hR,by rw[<-hAA];exact bh h32.o.size adK.size⟩
 ·have hc:¬k=1:=by simpa using hc
  have L5:k=3:=by simpa using L5
  refine(vC t5.r (k:=3) (by decide)).mono ?_;rintro _ Xc ⟨rfl,h34⟩;have t34:=t5.nx h34;refine⟨_,_,_,_,rfl,t5.sc h34 (by simp),fun Zc adL=>?_⟩;rw[if_neg hc,if_pos L5]at hR;exact⟨_,_,x0,rfl,rfl,rfl,t34.f adL (by simp),hR,by rw[<-hAA];exact bh h34.o.size adL.size⟩
 ·have hc:¬k=1:=by simpa using hc
  have L5:¬k=3:=by simpa using L5
  rw[if_neg hc,if_neg L5]at hR;exact⟨_,_,x0,rfl,rfl,rfl,t5,hR,Io hAA.symm⟩
 rintro i3 s0 i4 b1 i5 i6 s1 i7 l1 i8 l2 l3 i9 w6 ⟨m,u,hx,Ro,AB,rfl,t6,hR,z6⟩;unfold ol at hR;obtain⟨q,tG,e1,A1,hm⟩:=BB t6.r [[91]] (n:=1) (parts:=#[(0,ab (T [91]))]) rfl rfl (by decide) (by decide);have t24:=t6.q A1;refine⟨fun i3 s0 i4 b1 i5 i6 s1 i7 l1 i8 l2 l3 i9 w'=>∃(m:Mv) (u:Sx),MvX A w' m i3 s0 i4 b1 [O U i5,O U i6,ab s1,O U i7,l1.v,O U i8] l2 i9/\m.tg=[]/\l3=Sl.nil/\Zt F ts w w' b l u [k1,k0]/\xq ts m u=R/\A<=w'.heap.size,?_,q,tG,e1,t6.sq A1 (by simp),hm.mono ?_⟩;rotate_left
 ·rintro _ po ⟨rfl,Tx⟩;have t25:=t24.nx Tx;have s25:Stay A w6 po:=((Stay.refl A w6).q A1).d Tx Zs;refine⟨_,rfl,t24.sc Tx (by simp),fun hc qT jF=>?_,fun hc Rg P6=>?_⟩
  ·have vV:=Ll hc;rw[if_neg vV]at hR t25;have t26:=t25.f jF (by simp);have s26:=s25.f jF (.inl hA1);have z26:=s26.sz;refine(Js t26.r).mono ?_;rintro _ tW ⟨cs,rfl,hg,h27⟩;obtain⟨sl,rfl⟩:=eH hg;have t27:=t26.nx h27;refine⟨_,_,_,_,sl,_,rfl,t26.sc h27 (by simp),fun wY tY=>?_⟩;have t28:=t27.f tY (by simp);obtain⟨q2,AZ,e2,sK,tF⟩:=qc t28.r [93];have t29:=t28.q sK;refine⟨q2,AZ,e2,t28.sq sK (by simp),tF.mono ?_⟩;rintro _ Mu ⟨rfl,h30⟩;have t30:=t29.nx h30;have s30:=(((s26.d h27 Zs).f tY (.inl hA1)).q sK).d h30 Zs;refine⟨rfl,t29.sc h30 (by simp),{m with gd:=true,g:=(mR ts (db u)).1},_,⟨hx.e1,hx.e2,hx.e3,hc,hx.e5,?_,hx.x.stay (cF true) (by decide) s30⟩,AB,rfl,t30,hR,bh z6 s30.sz⟩;exact(gz true).low ((gz true).stay hg ((((Stay.refl _ _).f tY (.inl (by omega))).q sK).d h30 (by omega))) (by omega)
  ·have vV:=Lk hc;rw[if_pos vV]at hR t25;have s31:=s25.f P6 (.inl hA1);have L6:=hx.stay s31;exact⟨m,u,⟨L6.e1,L6.e2,L6.e3,by rw[hc,Ro],L6.e5,L6.g,L6.x⟩,AB,rfl,t25.f P6 (by simp),hR,bh z6 s31.sz⟩
 clear hx Ro AB t6 hR z6 hm t24;rintro i3 s0 i4 b1 i5 i6 s1 i7 l1 i8 l2 l3 i9 w7 ⟨m,u,hx,AB,rfl,t7,hR,z7⟩;unfold xq at hR;obtain⟨q,jL,e1,lJ,hm⟩:=Jq t7.r [[123]] (n:=1) (parts:=#[(0,ab (T [123]))]) rfl rfl (by decide) (by decide);have t20:=t7.q lJ;refine⟨fun i3 s0 i4 b1 i5 i6 s1 i7 l1 i8 l2 l3 i9 w'=>∃(m:Mv) (u:Sx),MvX A w' m i3 s0 i4 b1 [O U i5,O U i6,ab s1,O U i7,l1.v,O U i8] l2 i9/\l3=Sl.nil/\Zt F ts w w' b l u [k1,k0]/\zI ts m u=R/\A<=w'.heap.size,?_,q,jL,e1,t7.sq lJ (by simp),hm.mono ?_⟩;rotate_left
 ·rintro _ mX ⟨rfl,ja⟩;have t21:=t20.q ja;have s21:Stay A w7 mX:=((Stay.refl A w7).q lJ).q ja;have z21:=s21.sz;refine⟨_,rfl,t20.sq ja (by simp),fun hc=>(zY t21.r).mono ?_,fun hc=>?_⟩
  ·rw[if_neg (Ll hc)]at hR;rintro _ qS ⟨la,rfl,hla,h22⟩;have t22:=t21.nx h22;refine⟨la,rfl,t21.sc h22 (by simp),fun rh sM=>?_⟩;have s23:=(s21.d h22 Zs).f sM (.inl hA1);refine⟨{m with acts:=(gK ts u).1},_,⟨hx.e1,hx.e2,hx.e3,hx.e4,hx.e5,(gz true).stay hx.g s23,?_⟩,rfl,t22.f sM (by simp),hR,bh z7 s23.sz⟩;exact(hla.stay (cF true) (by decide) ((Stay.refl _ _).f sM (.inl (by omega)))).low (cF true) (by omega)
  ·rw[if_pos (Lk hc)]at hR;exact⟨m,u,hx.stay s21,rfl,t21,hR,bh z7 z21⟩
 clear hx AB t7 hR z7 hm t20;rintro i17 s4 i18 b3 i19 i20 s5 i21 l7 i22 l8 l9 i23 w8 ⟨m,u,hx,rfl,t8,hR,z8⟩;unfold zI at hR;have hb8:b<w8.heap.size:=by omega
 refine⟨fun nv sg i24 s7 i25 b4 i26 i27 s8 i28 l10 i29 uk uQ i30 w'=>∃(x:aH) (acc:List (aH)) (u':Sx),sg=T x/\MvX A w8 m i24 s7 i25 b4 [O U i26,O U i27,ab s8,O U i28,l10.v,O U i29] uk i30/\Stay A w8 w'/\Own jB 1 9 w8.heap.size w' (Fr w8.heap.size) uQ acc/\Zt F ts w w' b l u' [k1,k0]/\pW ts nv x acc u'=pW ts (ts.length+1) [45,62] [] u/\mu ts u'<nv/\acc.length+mu ts u'<=ts.length,ts.length+1,⟨[45,62],[],u,rfl,hx,Stay.refl _ _,Own.nil _ _ _ _ _ _,t8,rfl,uW (ra _ _),by rw[aZ,bD];exact ra _ _⟩,?_⟩;clear hx;rintro nv sg i24 s7 i25 b4 i26 i27 s8 i28 l10 i29 uk uQ i30 w9 ⟨x,acc,u',rfl,hx,hS,nt,t9,hT,UR,xQ⟩;obtain⟨m',rfl⟩:∃m',nv=m'+1:=⟨nv-1,by omega⟩
 rw[pW]at hT;obtain⟨q,dw,e1,dM,tF⟩:=BB t9.r [x] (n:=1) (parts:=#[(0,ab (T x))]) rfl rfl (by decide) (by decide);have t10:=t9.q dM;refine⟨q,dw,e1,t9.sq dM (by simp),tF.mono ?_⟩;rintro _ dJ ⟨rfl,h11⟩;have t11:=t10.nx h11;refine⟨_,rfl,t10.sc h11 (by simp),fun hc eM fb=>?_,fun hc=>?_⟩
 ·have hc:=Ll hc;rw[if_neg hc]at hT t11;have t12:=t11.q fb;refine⟨fun k=>k=k1,rfl,(vD t12.r).mono ?_⟩;rintro _ eU ⟨rfl,xb⟩;have t13:=t12.nx xb;have fT:ay [b] w9 eU:=(((dM.weaken (bs':=[b]) fun _ h=>(by cases h)).trans h11.o fun x hx=>.inl hx).cd fb).trans xb.o fun x hx=>.inl hx;have zS:=hS.sz;have z9:=fT.size;have tT:=h.sm;have Qf:=ra ts u';have hmu:=oS h.en (dm hc).1 t9.r.lt (dm hc).2 (oQ h.en (s:=db u')).toOn0;obtain⟨y,fM,e2,eV,B0,iy,e3,adO,⟨gs,kB,ur⟩,_⟩:=nG (P:=aq) (t:=52) (ty:=52) (e:=9) (i:=Tryz.t9) (bytes:=16) (size:=1) (v:=ab (T (gZ ts (db u')).1)) (x:=(gZ ts (db u')).1) (G:=fun _=>False) (by kernel_rfl) (by kernel_rfl) rfl rfl rfl rfl (by decide) (by decide) (by decide) cZ (nt.stay cZ fT fun x hx=>.inl (by simp only[aO]at hx;omega)) (bh zS z9) rfl rfl (fun k hk _=>hk.elim) (by omega);have qn:∀g,g∈gs->w8.heap.size<=g:=fun g hg=>(ur g hg).2.1;have z8w:=t8.z.o.size;have t14:=t13.q eV;have t15:=t14.row kB fun x hx=>bh z8w (qn x hx);have nk:=t8.ne (k0:=k1) (by simp);refine⟨_,rfl,t12.sc xb (by simp),fun k hk bQ=>(by subst hk;exact xb.o.block k bQ (by simpa using nk)),y,fM,e2,t13.sq eV (by simp),bO.only eV,B0,iy,e3,t14.sr kB (by simp) (fun x hx y hy=>?_),fun k hk bQ=>(by subst hk;exact kB.block k bQ fun hm=>(by have:=qn k hm;omega)),fun jK kc=>⟨m',by omega,[44],_,_,rfl,hx,?_,?_,t15.f kc (by simp),hT,by omega,?_⟩⟩
  ·have:=qn x hx;simp only[aY,bf,cb]at hy;omega
  ·exact(((hS.go fT fun x hx=>.inl (by simp only[aO]at hx;omega)).q eV).go kB fun x hx=>.inr (qn x hx)).f kc (.inl hA1)
  ·refine((adO.mono cZ fun k hk=>?_).stay cZ kc fun x hx=>.inl (by simp only[aO]at hx;omega));rcases hk with hk | hk
   ·exact hk
   ·exact bh (bh zS z9) hk
  ·rw[aN,bg];omega
 ·have hc:=Lk hc;rw[if_pos hc]at hT t11;obtain⟨q2,iZ,e2,jt,LU⟩:=qc t11.r [59];have t17:=t11.q jt;refine⟨q2,iZ,e2,t11.sq jt (by simp),LU.mono ?_⟩;rintro _ jM ⟨rfl,TA⟩;have t18:=t17.nx TA;refine⟨rfl,t17.sc TA (by simp),fun kf lO=>?_⟩;rw[<-hT]at hR;rw[<-hR];have s9:∀{B:Nat},b<B->k0<B->Stay B w9 kf:=fun hb hk=>((((Stay.refl _ _).q dM).d h11 hb).q jt).d TA hb |>.f lO (.inl hk);have s19:Stay A w8 kf:=(((((hS.q dM).d h11 Zs).q jt).d TA Zs).f lO (.inl hA0))
  refine⟨mvv m.k m.ev m.wt m.gd [O U i26,O U i27,ab s8,O U i28,l10.v,O U i29] uk uQ m.a,by rw[hx.e1,hx.e2,hx.e3,hx.e4,hx.e5];rfl,⟨_,_,_,rfl,(gz true).low ((gz true).stay hx.g s19) hA,(hx.x.stay (cF true) (by decide) s19).low (cF true) hA,?_⟩,(t18.f lO (by simp)).dn⟩;exact((nt.sl cZ fun k hk=>hk).stay cZ (by decide) (s9 hb8 (by omega))).low cZ (by omega)
end
theorem Jt{je xs:aI}{j:Nat}{v:aw}(h:xs[j]? =some v):(je++xs)[je.length+j]? =some v:=by
 rw[cf (by omega),dE];exact h
theorem mj(je xs vs:aI)(j:Nat):ca (je++xs) (je.length+j) vs=je++ca xs j vs:=by
 unfold ca;rw[Ru,fe,Rv];simp only[be]
structure NbO (B:Nat) (w:av) (n:Nb) (en lv mv:Sl):Prop where
 en:jE true (pC true) 9 116 w (fun k=>B<=k/\mv.a≠some ⟨k,0,none⟩) en n.en
 lv:jE true (pC true) 9 116 w (fun k=>B<=k/\mv.a≠some ⟨k,0,none⟩) lv n.lv
 mv:Own (yq true) 13 54 B w (Fr B) mv n.mv
section
variable {B:Nat} {w w':av} {n:Nb} {en lv mv:Sl}
theorem NbO.go(h:NbO B w n en lv mv){bs:List Nat}(k:ay bs w w')(hb:∀x,x∈bs->x<B):NbO B w' n en lv mv:=
 ⟨h.en.keep (cF true) (by decide) fun i hi bQ=>k.block i bQ fun hm=>(by have:=hb i hm;omega),h.lv.keep (cF true) (by decide) fun i hi bQ=>k.block i bQ fun hm=>(by have:=hb i hm;omega),h.mv.stay (gU true) k fun x hx=>.inl (hb x hx)⟩
theorem NbO.AF(h:NbO B w n en lv mv){gs:List Nat}{pu:Sl}{m:Mv}(nt:Own (yq true) 13 54 B w' (fun k=>Fr B k∨w.heap.size<=k) pu (n.mv++[m]))(k:ay gs w w')(ur:∀g,g∈gs->mv.a=some ⟨g,0,none⟩)(ha:pu.a=mv.a∨∃g,pu.a=some ⟨g,0,none⟩/\w.heap.size<=g)(hB:B<=w.heap.size):NbO B w' {n with mv:=n.mv++[m]} en lv pu:=by
 have go:∀{la:Sl} {xs:List Ac},jE true (pC true) 9 116 w (fun k=>B<=k/\mv.a≠some ⟨k,0,none⟩) la xs->jE true (pC true) 9 116 w' (fun k=>B<=k/\pu.a≠some ⟨k,0,none⟩) la xs:=fun hx=>
  ((hx.inHeap (cF true) (by decide)).keep (cF true) (by decide) fun i hi bQ=>k.block i bQ fun hm=>hi.1.2 (ur i hm)).mono (cF true) fun i hi=>⟨hi.1.1,by
   rcases ha with ha | ⟨g,ha,hg⟩
   ·rw[ha];exact hi.1.2
   ·rw[ha];intro e;injection e with e;injection e with e;have:=hi.2;omega⟩
 exact⟨go h.en,go h.lv,nt.mono (gU true) fun i hi=>hi.elim id fun hi=>bh hB hi⟩
theorem NbO.aco(h:NbO B w n en lv mv){A:Nat}{la:Sl}{xs:List Ac}(hx:jE true (pC true) 9 116 w (Fr A) la xs)(hA:B<=A)(hm:∀k,A<=k->mv.a≠some ⟨k,0,none⟩):NbO B w {n with en:=xs} la lv mv:=
 ⟨hx.mono (cF true) fun k hk=>⟨bh hA hk,hm k hk⟩,h.lv,h.mv⟩
theorem NbO.acp(h:NbO B w n en lv mv){A:Nat}{la:Sl}{xs:List Ac}(hx:jE true (pC true) 9 116 w (Fr A) la xs)(hA:B<=A)(hm:∀k,A<=k->mv.a≠some ⟨k,0,none⟩):NbO B w {n with lv:=xs} en la mv:=
 ⟨h.en,hx.mono (cF true) fun k hk=>⟨bh hA hk,hm k hk⟩,h.mv⟩
end
abbrev Lm(h:xV):aI:=[aj false,aj h.i,aj h.e,aj h.l]
structure Cl (F:aJ) (ts:List Tk) (w w':av) (b:Nat) (l:Sl) (g t:Nat) (je:aI) (kh B:Nat) (s:Sx) (n:Nb) (h:xV) (en lv mv:Sl):Prop where
 r:Sr F ts w' b l s
 nb:aF w' g t (je++nf n.k n.nm n.ini n.dft en lv mv Sl.nil n.a)
 hb:aF w' kh 206 (Lm h)
 no:NbO B w' n en lv mv
 o:∃gs,ay (b::g::kh::gs) w w'/\∀x,x∈gs->B<=x
 ng:g≠b/\¬F g
 nh:b<kh
 gh:g≠kh
 gB:g<B
 hB:kh<B
 lB:B<=w'.heap.size
section
variable {F:aJ} {ts:List Tk} {w w' w2:av} {b:Nat} {l:Sl} {g t:Nat} {je:aI} {kh B:Nat} {s s':Sx} {n n':Nb} {h h':xV} {en lv mv uo uq pu:Sl}
theorem Cl.nx(c:Cl F ts w w' b l g t je kh B s n h en lv mv)(k:Dn F ts w' w2 b l s'):Cl F ts w w2 b l g t je kh B s' n h en lv mv:=by
 have ng:=c.ng;have nh:=c.nh;have gB:=c.gB;have hBl:=c.hB;obtain⟨gs,h1,h2⟩:=c.o;exact⟨k.r,k.o.blk c.nb (by simp only[aO];omega),k.o.blk c.hb (by simp only[aO];omega),c.no.go k.o fun x hx=>(by simp only[aO]at hx;omega),
  ⟨gs,h1.trans k.o fun x hx=>.inl (by simp only[aO]at hx;simp[hx]),h2⟩,ng,nh,c.gh,gB,c.hB,bh c.lB k.o.size⟩
theorem Cl.q(c:Cl F ts w w' b l g t je kh B s n h en lv mv)(k:ay [] w' w2):Cl F ts w w2 b l g t je kh B s n h en lv mv:=c.nx (c.r.dn.q k)
theorem Cl.st(c:Cl F ts w w' b l g t je kh B s n h en lv mv)(k:ay [g] w' w2)(hB:aF w2 g t (je++nf n'.k n'.nm n'.ini n'.dft uo uq pu Sl.nil n'.a))(no:NbO B w' n' uo uq pu):Cl F ts w w2 b l g t je kh B s n' h uo uq pu:=by
 obtain⟨gs,h1,h2⟩:=c.o;have gB:=c.gB;exact⟨c.r.WO k c.ng,hB,k.blk c.hb (by simpa using fun e=>c.gh e.symm),no.go k fun x hx=>(by simp only[aO]at hx;omega),⟨gs,h1.trans k fun x hx=>.inl (by simp only[aO]at hx;simp[hx]),h2⟩,c.ng,c.nh,c.gh,gB,c.hB,bh c.lB k.size⟩
theorem Cl.hd(c:Cl F ts w w' b l g t je kh B s n h en lv mv)(k:ay [kh] w' w2)(hB:aF w2 kh 206 (Lm h')):Cl F ts w w2 b l g t je kh B s n h' en lv mv:=by
 obtain⟨gs,h1,h2⟩:=c.o;have hB':=c.hB;exact⟨c.r.one k c.nh,k.blk c.nb (by simpa using c.gh),hB,c.no.go k fun x hx=>(by simp only[aO]at hx;omega),⟨gs,h1.trans k fun x hx=>.inl (by simp only[aO]at hx;simp[hx]),h2⟩,c.ng,c.nh,c.gh,c.gB,hB',bh c.lB k.size⟩
def abE(h:xV)(j:Nat):Bool:=if j=1 then h.i else if j=2 then h.e else h.l
def N7(h:xV)(j:Nat):xV:=if j=1 then{h with i:=true}else if j=2 then{h with e:=true}else{h with l:=true}
theorem j3{j:Nat}(h0:j≠0)(h3:j<=3):j=1∨j=2∨j=3:=by omega
theorem Lp(c:Cl F ts w w' b l g t je kh B s n h en lv mv)(hm:n.mv.length<ts.length):az aq 142 #[rp b,ae (some ⟨g,je.length,none⟩),ae (some ⟨kh,0,none⟩)] w' fun e w2=>e=ak (aj (dA ts n h s).1)/\
  ∃uo uq pu,Cl F ts w w2 b l g t je kh B (dA ts n h s).2.2.2 (dA ts n h s).2.1 (dA ts n h s).2.2.1 uo uq pu:=by
 refine ret (aaR _ _ _ _ _ ?_);have tT:=c.r.sm;obtain⟨q,w0,e1,ch,X7⟩:=Jq c.r [xL,fX,gJ] (n:=3) (parts:=#[(0,ab (T xL)),(1,ab (T fX)),(2,ab (T gJ))]) rfl rfl (by decide) (by decide);refine⟨q,w0,e1,X7.mono ?_⟩;rintro _ w1 ⟨rfl,cn⟩;have c1:=(c.q ch).q cn;refine⟨_,rfl,fun hc w2 cG=>?_,fun hc=>?_⟩
 ·have hc:=Ll hc;have c2:=c1.q cG;have pj:dA ts n h s=(true,{n with mv:=n.mv++[(lP ts (cu ts s [xL,fX,gJ]:Nat) s).1]},h,(lP ts (cu ts s [xL,fX,gJ]:Nat) s).2):=by
   unfold dA;rw[if_pos hc]
  rw[pj];refine⟨fun k=>k=g,_,rfl,rfl,mv,c2.nb.UQ (je.length+6) (Jt rfl),(SC c2.r _ (dm hc).2).mono ?_⟩;rintro _ w3 ⟨cs,rfl,hx,h3⟩;have c3:=c2.nx h3;generalize (lP ts (cu ts s [xL,fX,gJ]:Nat) s).1=m at*
  generalize (lP ts (cu ts s [xL,fX,gJ]:Nat) s).2=u at*
  have DH:=hx;obtain⟨gc,qU,tg,rfl,hg,_,_⟩:=DH;obtain⟨sl,rfl⟩:=eH hg;have ng:=c.ng;have gB:=c.gB;obtain⟨y,w4,e2,dI,pu,w5,e3,nt,⟨gs,eh,ur⟩,ha⟩:=nG (P:=aq) (t:=24) (ty:=24) (e:=54) (i:=Tryz.t54) (bytes:=168) (size:=13) (v:=ah (mvv m.k m.ev m.wt m.gd (j6 m.g.k m.g.n m.g.s m.g.op sl m.g.a) qU tg m.a).toArray) (x:=m) (G:=Fr w2.heap.size) (by kernel_rfl) (by kernel_rfl) rfl rfl rfl rfl (by decide) (by decide) (by decide) (gU true) c3.no.mv c3.lB rfl hx (fun k hk _=>⟨bh c2.lB hk,c2.no.mv.new hk⟩) (by omega);have xU:ay gs w3 w5:=(dI.weaken (bs':=gs) fun _ h=>(by cases h)).trans eh fun x hx=>.inl hx;have qn:∀x,x∈gs->B<=x:=fun x hx=>(ur x hx).2.1;have hn:g∉gs:=fun hm=>by have:=qn g hm;omega
  have tX:=xU.blk c3.nb hn;refine⟨_,_,_,_,_,_,_,_,sl,_,qU,tg,_,rfl,fun k hk bQ=>(by subst hk;exact h3.o.block k bQ (by simp only[aO];omega)),y,w4,e2,bO.only dI,pu,w5,e3,fun k hk bQ=>(by subst hk;exact eh.block k bQ hn),_,rfl,g,_,_,_,rfl,tX,by simp,fun w6 dR MA=>⟨rfl,en,lv,pu,?_⟩⟩;rw[mj]at MA;have no5:=c3.no.AF nt xU (fun x hx=>(ur x hx).1) ha c3.lB;obtain⟨gs0,o1,o2⟩:=c3.o;have nh:=c.nh;have hBB:=c.hB;have lB:=c3.lB;have hgh:=c.gh;have z5:=xU.size;have z6:=dR.size;exact⟨(c3.r.own xU fun x hx=>(by have:=qn x hx;omega)).WO dR ng,MA,(dR.block kh (by have:=c3.hb.lt;omega) (by simp only[aO];omega)).trans (xU.blk c3.hb fun hm=>(by have:=qn kh hm;omega)),
   no5.go dR fun x hx=>(by simp only[aO]at hx;omega),⟨gs++gs0,((o1.weaken (bs':=b::g::kh::(gs++gs0)) fun x hx=>.inl (by simp only[aY,cH]at hx⊢;rcases hx with hx | hx | hx | hx<;>simp[hx])).trans xU fun x hx=>.inl (by simp[hx])).trans dR fun x hx=>.inl (by simp only[aO]at hx;simp[hx]),fun x hx=>(cH.1 hx).elim (qn x) (o2 x)⟩,ng,nh,hgh,gB,hBB,by omega⟩
 ·have hc:=Lk hc;obtain⟨q,w7,e1,fN,X7⟩:=Jq c1.r [dX,gf,gj] (n:=3) (parts:=#[(0,ab (T dX)),(1,ab (T gf)),(2,ab (T gj))]) rfl rfl (by decide) (by decide);refine⟨q,w7,e1,X7.mono ?_⟩;rintro _ w8 ⟨rfl,fj⟩;have c8:=(c1.q fN).q fj;have AX:cu ts s [dX,gf,gj]<=3:=E6 _;refine⟨_,rfl,fun hj=>?_,fun hj=>?_⟩
  ·have hj:=abC hj;have pj:dA ts n h s=(false,n,h,s):=by unfold dA;rw[if_neg (by simpa using hc),hj];rfl
   rw[pj];exact⟨rfl,_,_,_,c8⟩
  have hj:=abD hj;have hnx:=zZ c.r hj;have pj:dA ts n h s=(if abE h (cu ts s [dX,gf,gj])then(false,n,h,jD ts s)else if cu ts s [dX,gf,gj]=1 then(true,{n with ini:=(gZ ts (db s)).1},N7 h 1,dS ts (gZ ts (db s)).2 [59])else if cu ts s [dX,gf,gj]=2 then(true,{n with en:=(gK ts (db s)).1},N7 h 2,(gK ts (db s)).2)else(true,{n with lv:=(gK ts (db s)).1},N7 h 3,(gK ts (db s)).2)):=by
   unfold dA;rw[if_neg (by simpa using hc)];rcases j3 hj AX with e | e | e<;>rw[e]<;>rfl
  rw[pj];generalize cu ts s [dX,gf,gj]=j at*
  have Qd:(Lm h)[j]? =some (aj (abE h j)):=by rcases j3 hj AX with e | e | e<;>rw[e]<;>rfl
  have hp:Iy ⟨kh,0,none⟩ (j:Int) 4 1 ⟨kh,j,none⟩:=⟨by omega,by omega,by rw[fZ,aX];simp⟩
  refine⟨_,rfl,⟨kh,j,none⟩,hp,_,c8.hb.UQ j Qd,fun hh=>?_,fun hh=>?_⟩
  ·rw[if_pos hh];refine(su c8.r).mono ?_;rintro _ w9 ⟨rfl,h9⟩;exact⟨rfl,rfl,_,_,_,c8.nx h9⟩
  ·rw[if_neg (by rw[hh];decide)];refine⟨_,rfl,⟨kh,j,none⟩,hp,kh,j,_,_,rfl,c8.hb,by show j+1<=4;omega,fun dw dM nr=>?_⟩;have c10:Cl F ts w dw b l g t je kh B s n (N7 h j) en lv mv:=c8.hd dM (by
    have e:ca (Lm h) j [aj true]=Lm (N7 h j):=by rcases j3 hj AX with e | e | e<;>rw[e]<;>rfl
    rwa[e]at nr)
   refine⟨_,Blk.ec c10.r.blk 1 rfl,b,1,_,_,rfl,c10.r.blk,by simp,fun dJ dY A2=>?_⟩;rw[c.r.wr]at A2;have Rq:=c10.nx (s':=db s) ⟨dY,c10.r.kz dY A2 hnx⟩;refine⟨fun w'=>∃uo uq pu,Cl F ts w w' b l g t je kh B _ _ _ uo uq pu,fun eM KE=>⟨by split<;>(try split)<;>rfl,KE⟩,fun Gx=>?_,fun Gx=>⟨fun Q9=>?_,fun Q9=>?_⟩⟩
   ·have e1:j=1:=by have:(j:Int)=1:=(by simpa using Gx);omega
    subst e1;rw[if_pos rfl];refine(vD Rq.r).mono ?_;rintro _ eU ⟨rfl,xb⟩;have X9:=Rq.nx xb;refine⟨_,rfl,_,rfl,g,_,_,_,rfl,X9.nb,by simp,fun fM eV Gc=>?_⟩;rw[mj]at Gc;have c14:=X9.st (n':={n with ini:=(gZ ts (db s)).1}) eV Gc ⟨X9.no.en,X9.no.lv,X9.no.mv⟩;obtain⟨q,iy,e1,kB,X7⟩:=qc c14.r [59];refine⟨q,iy,e1,X7.mono ?_⟩;rintro _ jK ⟨rfl,h16⟩;exact⟨rfl,_,_,_,(c14.q kB).nx h16⟩
   ·have e1:j=2:=by have:(j:Int)=2:=(by simpa using Q9);omega
    subst e1;rw[if_neg (by decide),if_pos rfl];refine(zY Rq.r).mono ?_;rintro _ iZ ⟨la,rfl,hla,Ri⟩;have c17:=Rq.nx Ri;refine⟨la,rfl,_,rfl,g,_,_,_,rfl,c17.nb,by simp,fun jM kb Qr=>?_⟩;rw[mj]at Qr;exact⟨_,_,_,c17.st (n':={n with en:=(gK ts (db s)).1}) kb Qr (c17.no.aco hla Rq.lB fun k hk=>Rq.no.mv.new hk)⟩
   ·have e0:j≠1:=fun e=>by rw[e]at Gx;simp at Gx
    have e1:j=3:=by have:¬(j:Int)=2:=(by simpa using Q9);omega
    subst e1;rw[if_neg (by decide),if_neg (by decide)];refine(zY Rq.r).mono ?_;rintro _ kf ⟨la,rfl,hla,h19⟩;have c19:=Rq.nx h19;refine⟨la,rfl,_,rfl,g,_,_,_,rfl,c19.nb,by simp,fun jL lJ adS=>?_⟩;rw[mj]at adS;exact⟨_,_,_,c19.st (n':={n with lv:=(gK ts (db s)).1}) lJ adS (c19.no.acp hla Rq.lB fun k hk=>Rq.no.mv.new hk)⟩
end
section
variable {F:aJ} {ts:List Tk} {w w' w2:av} {b:Nat} {l:Sl} {s s':Sx}
theorem Fj(h:Sr F ts w b l s)(k:Int):az aq 74 #[rp b,O U k] w fun e w'=>e=ak (ah (nf (eE ts k s).1.k (eE ts k s).1.nm [] [] Sl.nil Sl.nil Sl.nil Sl.nil (eE ts k s).1.a).toArray)/\Dn F ts w w' b l (eE ts k s).2:=by
 refine ret (aaM _ _ _ _ ?_);intro k0 k1 w0 gD dQ kg ju ch;have t0:=((h.zt.q ch).ad gD dQ).ad kg ju;obtain⟨ad,g1,g2⟩:=t0.r.now;refine⟨fun w'=>Zt F ts w w' b l (oO ts s) [k1,k0],fun w1 t1=>(vC t1.r (k:=1) (by decide)).mono ?_,l,Blk.ec t0.r.blk 0 rfl,_,Blk.ec t0.r.blk 1 rfl,ad,g1,_,g2.ec 0 _ rfl,fun hc w5 eh=>?_,fun hc w8 fj=>?_⟩
 ·rintro _ w2 ⟨rfl,h2⟩;have t2:=t1.nx h2;refine⟨_,_,_,_,rfl,t1.sc h2 (by simp),fun k2 w3 oY oG dh n1 n2 n3=>⟨fun k=>k=k2,rfl,fun e=>n3 e,fun e=>n3 e,fun w4 dI=>⟨rfl,?_⟩⟩⟩;have t3:=t2.q dh;have z3:=t3.z.go dI fun x hx=>.inr (by simp only[aY,bf,cb]at hx⊢;omega);exact⟨z3.o,t3.r.own dI fun x hx=>t3.lt (by simp only[aY,bf,cb]at hx⊢;omega)⟩
 ·have hc:(tk ts s.i).k=1:=by simpa using hc
  have t5:=t0.q eh;unfold oO;rw[if_pos hc];refine(V6 t5.r).mono ?_;rintro _ w6 ⟨rfl,h6⟩;have t6:=t5.nx h6;refine⟨rfl,t5.sc h6 (by simp),_,Blk.ec t6.r.blk 6 rfl,fun hd=>?_,fun hd=>?_⟩
  ·rw[if_pos (by simpa using hd)];refine(yx t6.r 21).mono ?_;rintro _ w7 ⟨rfl,h7⟩;exact⟨rfl,t6.sc h7 (by simp),t6.nx h7⟩
  ·rw[if_neg (by simpa using hd)];exact t6
 ·have hc:¬(tk ts s.i).k=1:=by simpa using hc
  unfold oO;rw[if_neg hc];exact t0.q fj
def Uq(F:aJ)(ts:List Tk)(b:Nat)(l:Sl)(f:Nat)(d:Int):Prop:=∀(k:Int) (u:Sx) (w:av),Sr F ts w b l u->u.d=d->az aq 143 #[rp b,O U k] w fun e w'=>∃cs,e=ak (ah cs.toArray)/\li true f w' (Fr w.heap.size) (jJ ts f k u).1 cs/\Dn F ts w w' b l (jJ ts f k u).2
theorem Ur{f:Nat}(hf:0<f)(w:av)(G:aJ):li true f w G K7 (nf 0 [] [] [] Sl.nil Sl.nil Sl.nil Sl.nil 0):=by
 obtain⟨m,rfl⟩:∃m,f=m+1:=⟨f-1,by omega⟩
 exact⟨_,_,_,_,rfl,⟨jE.nil _ _ _ _ _ _,jE.nil _ _ _ _ _ _,jE.nil _ _ _ _ _ _⟩,jE.nil _ _ _ _ _ _⟩
abbrev Us(f B:Nat)(w:av)(s:Sl)(xs:List Nd):Prop:=Own (li true f) 9 27 B w (Fr B) s xs
theorem BC{f B g t:Nat}{je:aI}{n1:Nb}{en lv mv l2 l8:Sl}{acc:List Nd}{x:Nd}{k:Int}{nm ini dft:aH}{a b1 b2 b3:Sl}{at_:Int}{k0:Nat}{Q:av->Prop}{H:aJ}
  (hx:li true f w H x (nf k nm ini dft a b1 b2 b3 at_)) (hH:∀i,H i->i<w.heap.size->Fr B i/\l8.a≠some ⟨i,0,none⟩) (hH':∀i,H i->B<=i) (nt:Us f B w l8 (acc++[K7])) (hn:l2.n=acc.length)
  (tV:aF w g t (je++nf n1.k n1.nm n1.ini n1.dft en lv mv l2 n1.a)) (hg:g<B) (gD:k0<B) (hgk:k0≠g)
  (hQ:∀w',aF w' g t (je++nf n1.k n1.nm n1.ini n1.dft en lv mv l8 n1.a)->Us f B w' l8 (acc++[x])->(∃gk,B<=gk/\ay [g,gk] w w')->Q w'):
  ∃p1:Addr,dl l8 (l2.n:Int) 9 p1/\∃p2:Addr,(some (⟨g,je.length,none⟩:Addr))=(some p2)/\
   (∃ul Kw:Nat,∃z2:aI,∃LW:Nat,p1=⟨ul,Kw,none⟩/\aF w ul LW z2/\(Kw+9)<=z2.length/\k0≠ul/\
    ∀iy:av,ay [ul] w iy->aF iy ul LW (ca z2 Kw [O U k,ab (T nm),ab (T ini),ab (T dft),a.v,b1.v,b2.v,b3.v,O U at_])->∃F7 Rf:Nat,∃z3:aI,∃k18:Nat,(p2.add 7)=⟨F7,Rf,none⟩/\
    aF iy F7 k18 z3/\(Rf+1)<=z3.length/\k0≠F7/\∀jK:av,ay [F7] iy jK->aF jK F7 k18 (ca z3 Rf [l8.v])->Q jK)/\
   ∃HY HZ:Nat,∃z4:aI,∃k21:Nat,(p2.add 7)=⟨HY,HZ,none⟩/\aF w HY k21 z4/\(HZ+1)<=z4.length/\k0≠HY/\
    ∀iZ:av,ay [HY] w iZ->aF iZ HY k21 (ca z4 HZ [l8.v])->∃PV Xb:Nat,∃z5:aI,∃k24:Nat,p1=⟨PV,Xb,none⟩/\
    aF iZ PV k24 z5/\(Xb+9)<=z5.length/\k0≠PV/\∀jM:av,ay [PV] iZ jM->aF jM PV k24 (ca z5 Xb [O U k,ab (T nm),ab (T ini),ab (T dft),a.v,b1.v,b2.v,b3.v,O U at_])->Q jM:=by
 have bQ:l2.n<(acc++[K7]).length:=by rw[aN,bg];omega
 have F4:(acc++[K7]).set l2.n x=acc++[x]:=by rw[hn,pF _ _ (aW _),mB];rfl
 obtain⟨gk,cells,a1,a2,a3,a4,a5⟩:=Own.store (cj true f) nt bQ (vs:=nf k nm ini dft a b1 b2 b3 at_) rfl hx hH (by decide);have hgB:=(nt.blk a1).1;dsimp only at hgB;refine⟨_,a2,_,rfl,⟨gk,l2.n*9,cells,_,rfl,a3,a4,by omega,fun iy kB Ya=>⟨g,je.length+7,_,t,rfl,kB.blk tV (by simp only[aO];omega),by simp,hgk,fun jK kc Qo=>?_⟩⟩,g,je.length+7,_,t,rfl,tV,by simp,hgk,fun iZ jt adU=>?_⟩
 ·rw[mj]at Qo;have o15:=a5 iy kB Ya;rw[F4]at o15;exact hQ jK Qo (o15.stay (cj true f) kc fun x hx=>.inl (by simp only[aO]at hx;omega)) ⟨gk,hgB,(kB.weaken (bs':=[g,gk]) fun x hx=>.inl (by simp only[aO]at hx;simp[hx])).trans kc fun x hx=>.inl (by simp only[aO]at hx;simp[hx])⟩
 ·rw[mj]at adU;have z17:=jt.size;have adV:Us f B iZ l8 (acc++[K7]):=nt.stay (cj true f) jt fun x hx=>.inl (by simp only[aO]at hx;omega);have ajk:li true f iZ (fun i=>H i/\i<w.heap.size) x (nf k nm ini dft a b1 b2 b3 at_):=(cj true f).keep ((cj true f).inHeap hx) fun i hi bQ=>jt.block i bQ (by have:=hH' i hi.1;simp only[aO];omega);obtain⟨gk',Yb,c1,c2,c3,c4,c5⟩:=Own.store (cj true f) adV bQ (vs:=nf k nm ini dft a b1 b2 b3 at_) rfl ajk (fun i hi _=>hH i hi.1 hi.2) (by decide);have e:gk'=gk:=by
   rw[a1]at c1;injection c1 with c1;injection c1 with c1;exact c1.symm
  subst e;refine⟨gk',l2.n*9,Yb,_,rfl,c3,c4,by omega,fun jM kb Qr=>?_⟩;have o18:=c5 jM kb Qr;rw[F4]at o18;exact hQ jM (kb.blk adU (by simp only[aO];omega)) o18 ⟨gk',hgB,(jt.weaken (bs':=[g,gk']) fun x hx=>.inl (by simp only[aO]at hx;simp[hx])).trans kb fun x hx=>.inl (by simp only[aO]at hx;simp[hx])⟩
structure Kd (F:aJ) (ts:List Tk) (w w':av) (b:Nat) (l:Sl) (g t:Nat) (je:aI) (f B B2:Nat) (n:Nb) (en lv mv:Sl) (s:Sx) (acc:List Nd) (kids:Sl):Prop where
 r:Sr F ts w' b l s
 nb:aF w' g t (je++nf n.k n.nm n.ini n.dft en lv mv kids n.a)
 no:CT true w' (fun k=>B<=k/\k<B2) n en lv mv
 kd:Us f B2 w' kids acc
 o:ay [b,g] w w'
 lB:B2<=w'.heap.size
section
variable {g t:Nat} {je:aI} {f B B2:Nat} {n:Nb} {en lv mv kids:Sl} {acc:List Nd}
theorem Kd.nx(h:Kd F ts w w' b l g t je f B B2 n en lv mv s acc kids)(P3:g≠b)(hb:b<B)(hB:B<=B2)(k:Dn F ts w' w2 b l s'):Kd F ts w w2 b l g t je f B B2 n en lv mv s' acc kids:=
 ⟨k.r,k.o.blk h.nb (by simp only[aO];omega),h.no.keep fun i hi bQ=>k.o.block i bQ (by simp only[aO];omega),h.kd.stay (cj true f) k.o fun x hx=>.inl (by simp only[aO]at hx;omega),
  h.o.trans k.o fun x hx=>.inl (by simp only[aO]at hx;simp[hx]),bh h.lB k.o.size⟩
end
end
section
variable {F:aJ} {ts:List Tk} {w w' w2:av} {b:Nat} {l:Sl} {s s':Sx}
structure Cl0 (F:aJ) (ts:List Tk) (w w':av) (b:Nat) (l:Sl) (g t:Nat) (je:aI) (kh B:Nat) (s:Sx) (n:Nb) (en lv mv:Sl):Prop where
 r:Sr F ts w' b l s
 nb:aF w' g t (je++nf n.k n.nm n.ini n.dft en lv mv Sl.nil n.a)
 no:NbO B w' n en lv mv
 o:∃gs,ay (b::g::kh::gs) w w'/\∀x,x∈gs->B<=x
 ng:g≠b/\¬F g
 nh:b<kh
 gh:g≠kh
 gB:g<B
 hB:kh<B
 lB:B<=w'.heap.size
section
variable {g t:Nat} {je:aI} {kh B:Nat} {n:Nb} {h:xV} {en lv mv:Sl}
theorem Cl.c0(c:Cl F ts w w' b l g t je kh B s n h en lv mv):Cl0 F ts w w' b l g t je kh B s n en lv mv:=⟨c.r,c.nb,c.no,c.o,c.ng,c.nh,c.gh,c.gB,c.hB,c.lB⟩
theorem Cl0.cl(c:Cl0 F ts w w' b l g t je kh B s n en lv mv)(hb:aF w' kh 206 (Lm h)):Cl F ts w w' b l g t je kh B s n h en lv mv:=⟨c.r,c.nb,hb,c.no,c.o,c.ng,c.nh,c.gh,c.gB,c.hB,c.lB⟩
theorem Cl0.nx(c:Cl0 F ts w w' b l g t je kh B s n en lv mv)(k:Dn F ts w' w2 b l s'):Cl0 F ts w w2 b l g t je kh B s' n en lv mv:=by
 have ng:=c.ng;have gB:=c.gB;have nh:=c.nh;have hBl:=c.hB;obtain⟨gs,h1,h2⟩:=c.o;exact⟨k.r,k.o.blk c.nb (by simp only[aO];omega),c.no.go k.o fun x hx=>(by simp only[aO]at hx;omega),
  ⟨gs,h1.trans k.o fun x hx=>.inl (by simp only[aO]at hx;simp[hx]),h2⟩,ng,c.nh,c.gh,gB,c.hB,bh c.lB k.o.size⟩
theorem Cl0.q(c:Cl0 F ts w w' b l g t je kh B s n en lv mv)(k:ay [] w' w2):Cl0 F ts w w2 b l g t je kh B s n en lv mv:=c.nx (c.r.dn.q k)
theorem Cl0.sc(c:Cl0 F ts w w' b l g t je kh B s n en lv mv)(k:Dn F ts w' w2 b l s'):bS [kh] w' w2:=k.o.same fun x hx=>by
 have:=c.nh;have:=c.hB;have:=c.lB;simp only[aO]at hx⊢;omega
theorem Cl0.sq(c:Cl0 F ts w w' b l g t je kh B s n en lv mv)(k:ay [] w' w2):bS [kh] w' w2:=c.sc (c.r.dn.q k)
end
theorem Ho(n:Nb)(h:xV)(s:Sx):(dA ts n h s).2.1.mv.length<=n.mv.length+1:=by
 unfold dA;split
 ·dsimp only;rw[aN,bg];omega
 ·split
  ·exact iL _
  ·split<;>exact iL _
  ·split<;>exact iL _
  ·split<;>exact iL _
theorem Ju{f:Nat}(h:Sr F ts w b l s){g t:Nat}{je:aI}{n:Nb}(A6:n.en=[])(xd:n.lv=[])(rq:n.mv=[])(hB:aF w g t (je++nf n.k n.nm n.ini n.dft Sl.nil Sl.nil Sl.nil Sl.nil n.a))(hg:g≠b/\¬F g)(hd:wa s.d)(hN:s.fc=0->0<f/\Uq F ts b l f (we s.d)):
  az aq 77 #[rp b,ae (some ⟨g,je.length,none⟩)] w fun e w'=>e=ak (ai #[])/\∃cs,aF w' g t (je++cs)/\li true (f+1) w' (Fr w.heap.size) (oM ts (jJ ts f) n s).1 cs/\ay [b,g] w w'/\Sr F ts w' b l (oM ts (jJ ts f) n s).2:=by
 refine ret (aaQ _ _ _ _ ?_);intro k0 w0 gD dQ ch;have t0:=h.zt.al ch gD dQ;have hgw:=hB.lt;have hbw:=h.lb;refine⟨_,Blk.ec t0.r.blk 6 rfl,b,6,_,_,rfl,t0.r.blk,by simp,t0.ne (by simp),fun w1 cn pD=>?_⟩;have t1:Zt F ts w w1 b l {s with d:=we s.d} [k0]:=t0.up cn pD h.lt;have nb1:aF w1 g t (je++nf n.k n.nm n.ini n.dft Sl.nil Sl.nil Sl.nil Sl.nil n.a):=cn.blk (ch.blk hB (by simp)) (by simp only[aO];omega);have zw1:=t1.z.o.size;have zk:=(t1.z.k k0 (by simp)).2;generalize hBB:w1.heap.size=B at*
 have hgB:g<B:=by omega
 have c1:Cl0 F ts w w1 b l g t je k0 B {s with d:=we s.d} n Sl.nil Sl.nil Sl.nil:=⟨t1.r,nb1,⟨by rw[A6];exact jE.nil _ _ _ _ _ _,by rw[xd];exact jE.nil _ _ _ _ _ _,by rw[rq];exact Own.nil _ _ _ _ _ _⟩,
  ⟨[],t1.z.o.weaken fun x hx=>.inl (by simp only[aO]at hx;simp[hx]),fun x hx=>(by cases hx)⟩,hg,by omega,by omega,hgB,zk,Io hBB.symm⟩
 have hbB:b<B:=by omega
 unfold oM;dsimp only;generalize hC:fO ts (ts.length+1) n ⟨false,false,false⟩ {s with d:=we s.d}=C;have adW:On ts {s with d:=we s.d} C.2:=by rw[<-hC];exact uA h.en _ _ _ _
 refine⟨fun nv b0 b1 b2 b3 w'=>∃(n':Nb) (hd:xV) (s':Sx) (en lv mv:Sl),b0=false/\b1=hd.i/\b2=hd.e/\b3=hd.l/\Cl0 F ts w w' b l g t je k0 B s' n' en lv mv/\fO ts nv n' hd s'=C/\mu ts s'<nv/\n'.mv.length+mu ts s'<=ts.length,ts.length+1,
  ⟨n,⟨false,false,false⟩,_,_,_,_,rfl,rfl,rfl,rfl,c1,hC,uW (ra _ _),by rw[rq,aZ,bD];exact ra _ _⟩,?_⟩
 rintro nv _ _ _ _ w2 ⟨n',Zu,s',en,lv,mv,rfl,rfl,rfl,rfl,c2,hR,UR,xQ⟩;obtain⟨m,rfl⟩:∃m,nv=m+1:=⟨nv-1,by omega⟩
 rw[fO]at hR;refine⟨fun b4 b5 b6 b7 b8 w'=>(b4=true/\∃(n':Nb) (hd:xV) (s':Sx) (en lv mv:Sl),b5=false/\b6=hd.i/\b7=hd.e/\b8=hd.l/\Cl0 F ts w w' b l g t je k0 B s' n' en lv mv/\fO ts m n' hd s'=C/\mu ts s'<m/\n'.mv.length+mu ts s'<=ts.length)∨
  (b4=false/\∃(en lv mv:Sl),Cl0 F ts w w' b l g t je k0 B C.2 C.1 en lv mv),?_,(mF c2.r).mono ?_⟩
 rotate_left
 ·rintro _ AZ ⟨rfl,sK⟩;have c29:=c2.q sK;refine⟨_,rfl,c2.sq sK,fun hc hBk=>?_,fun hc=>?_⟩
  ·have hc:s'.fc=0:=by simpa using hc
   rw[if_neg (by simp[hc])]at hR;have Qf:=ra ts s';have bQ:=c2.r.lt;have ape:0<mu ts s':=by unfold mu;rw[if_pos hc];omega
   have ey:=Ho (ts:=ts) n' Zu s';refine(Lp (c29.cl (h:=Zu) hBk) (by omega)).mono ?_;rintro _ Mu ⟨rfl,uo,uq,pu,c30⟩;refine⟨_,rfl,_,_,_,_,c30.hb,?_⟩;cases pj:(dA ts n' Zu s').1 with
   | true=>
    rw[if_pos pj]at hR;have hmu:=K9 h.en n' Zu hc bQ pj;exact .inl ⟨rfl,_,_,_,_,_,_,rfl,rfl,rfl,rfl,c30.c0,hR,by omega,by omega⟩
   | false=>
    rw[if_neg (by rw[pj];decide)]at hR;refine .inr ⟨rfl,uo,uq,pu,?_⟩;rw[<-hR];exact c30.c0
  ·have hc:s'.fc≠0:=by simpa using hc
   rw[if_pos hc]at hR;refine .inr ⟨rfl,en,lv,mv,?_⟩;rw[<-hR];exact c29
 clear hR UR xQ c2;rintro b4 b5 b6 b7 b8 w3 (⟨rfl,hh⟩ | ⟨rfl,en,lv,mv,c3⟩)
 ·exact⟨fun _=>⟨m,Mf _,hh⟩,fun hh=>(by cases hh)⟩
 refine⟨fun hh=>(by cases hh),fun _=>?_⟩;generalize C.1=n1 at*
 generalize C.2=s1 at*
 have hsB:B<=w3.heap.size:=c3.lB;have no3:CT true w3 (fun k=>B<=k/\k<w3.heap.size) n1 en lv mv:=
  ⟨(c3.no.en.inHeap (cF true) (by decide)).mono (cF true) fun k hk=>⟨hk.1.1,hk.2⟩,(c3.no.lv.inHeap (cF true) (by decide)).mono (cF true) fun k hk=>⟨hk.1.1,hk.2⟩,(c3.no.mv.sl (gU true) fun k hk=>hk).inHeap (gU true) (by decide)⟩
 obtain⟨gs3,o3,o3'⟩:=c3.o;have o3:ay [b,g] w w3:=o3.weaken fun x hx=>by
  simp only[aY]at hx;rcases hx with rfl | rfl | rfl | hx
  ·exact .inl (by simp)
  ·exact .inl (by simp)
  ·exact .inr gD
  ·exact .inr (bh zw1 (o3' x hx))
 have k3:Kd F ts w w3 b l g t je f B w3.heap.size n1 en lv mv s1 [] Sl.nil:=⟨c3.r,c3.nb,no3,Own.nil _ _ _ _ _ _,o3,aW _⟩
 generalize lm:w3.heap.size=B2 at*
 clear c3 no3 o3 o3' hC;generalize hK:qZ ts (jJ ts f) (ts.length+1) [] s1=K;have sk:∀{u u':av} {x y:Sx},B2<=u.heap.size->Dn F ts u u' b l y->bS [k0] u u':=fun hz k=>k.o.same fun x hx=>by
  simp only[aO]at hx⊢;omega
 have Qs:∀{u u':av} {x y:Sx} {acc:List Nd} {kids:Sl},Kd F ts w u b l g t je f B B2 n1 en lv mv x acc kids->Dn F ts u u' b l y->Kd F ts w u' b l g t je f B B2 n1 en lv mv y acc kids:=fun a k=>a.nx hg.1 hbB hsB k;have go:∀{u:av} {x:Sx} {acc:List Nd} {kids:Sl},Kd F ts w u b l g t je f B B2 n1 en lv mv x acc kids->∃(q:Sl) (u2:av),(au 52 4 #[.mk 0 (ab (ao #[115,116,97,116,101])),.mk 1 (ab (ao #[112,97,114,97,108,108,101,108])),.mk 2 (ab (ao #[104,105,115,116,111,114,121])),.mk 3 (ab (ao #[100,101,101,112]))]).run aq u=.ok q.v u2/\bS [k0] u u2/\az aq 141 #[rp b,q.v] u2 fun e u3=>e=ak (O U (cu ts x om:Nat))/\bS [k0] u2 u3/\Kd F ts w u3 b l g t je f B B2 n1 en lv mv x acc kids:=fun{u x acc kids} a=>by
  obtain⟨q,u2,e1,hO,hm⟩:=Jq a.r om (n:=4) (parts:=#[(0,ab (T zH)),(1,ab (T pV)),(2,ab (T rW)),(3,ab (T E5))]) rfl rfl (by decide) (by decide);have a2:=Qs a (a.r.dn.q hO);refine⟨q,u2,e1,sk (x:=x) a.lB (a.r.dn.q hO),hm.mono ?_⟩;rintro _ u3 ⟨rfl,dh⟩;exact⟨rfl,sk (x:=x) a2.lB (a2.r.dn.q dh),Qs a2 (a2.r.dn.q dh)⟩
 obtain⟨q,w4,e1,D0,Zr⟩:=go k3;refine⟨q,w4,e1,D0,Zr.mono ?_⟩;rintro _ w5 ⟨rfl,KD,k5⟩;refine⟨_,rfl,KD,fun nv i2 _ _ _ _ w'=>∃(s':Sx) (acc:List Nd) (kids:Sl),i2=((cu ts s' om:Nat):Int)/\Kd F ts w w' b l g t je f B B2 n1 en lv mv s' acc kids/\qZ ts (jJ ts f) nv acc s'=K/\mu ts s'<nv/\acc.length+mu ts s'<=ts.length/\s'.d=we s.d/\(s'.fc=0->s.fc=0),ts.length+1,
  ⟨s1,[],Sl.nil,rfl,k5,hK,uW (ra _ _),by rw[aZ,bD];exact ra _ _,adW.d,fun e=>(adW.le e).1⟩,?_⟩
 clear KD k5 Zr D0 e1 k3 hK;rintro nv _ b9 UZ W9 Xa w6 ⟨s',acc,kids,rfl,k6,hR,UR,xQ,hd6,hz6⟩;obtain⟨m',rfl⟩:∃m',nv=m'+1:=⟨nv-1,by omega⟩
 rw[qZ]at hR;have Zv:k0≠b:=t0.ne (by simp);have hkg:k0≠g:=by omega
 refine⟨fun hc=>?_,fun hc=>?_⟩
 ·have hc:=Ll hc;rw[if_neg hc]at hR;obtain⟨hfc,pv⟩:=dm hc;obtain⟨hf0,hNC⟩:=hN (hz6 hfc);have bQ:=k6.r.lt;refine⟨_,Blk.ec k6.r.blk 1 rfl,b,1,_,_,rfl,k6.r.blk,by simp,Zv,fun w7 fN Qt=>?_⟩;rw[k6.r.wr]at Qt;have k7:=Qs k6 (y:=db s') ⟨fN,k6.r.kz fN Qt (zZ k6.r hc)⟩;have tT:=h.sm;have hmul:=ra ts s';have LR:=Jd h.en f (cu ts s' om:Nat) (db s') (by show wa s'.d;rw[hd6];exact MS _);have hmu:=oS h.en hfc bQ pv LR.toOn0;generalize cu ts s' om=kk at*
  generalize hNx:jJ ts f (kk:Int) (db s')=N at*
  have ajn:N.2.d=we s.d:=LR.d.trans hd6;have ajo:N.2.fc=0->s.fc=0:=fun e=>hz6 (LR.le e).1;refine⟨fun _ _ _ _ w'=>∃iX,Kd F ts w w' b l g t je f B B2 n1 en lv mv N.2 (acc++[N.1]) iX,fun Y9 b14 b15 b16 w8 h8=>?_,fun dJ dY=>?_⟩
  ·obtain⟨iX,k8⟩:=h8;obtain⟨q,w9,e1,hs9,Zw⟩:=go k8;refine⟨q,w9,e1,hs9,Zw.mono ?_⟩;rintro _ dw ⟨rfl,Qu,rr⟩;exact⟨_,rfl,Qu,m',Mf _,_,_,_,rfl,rr,hR,by omega,by rw[aN,bg];omega,ajn,ajo⟩
  ·have pE:=Qs k7 (k7.r.dn.q dY);have Gd:=pE.lB;have sJ:∀{u:av},Sr F ts u b l (db s')->az aq 143 #[rp b,O U (kk:Int)] u fun e w'=>∃cs,e=ak (ah cs.toArray)/\li true f w' (Fr u.heap.size) N.1 cs/\Dn F ts u w' b l N.2:=fun hu=>by
    have:=hNC (kk:Int) (db s') _ hu hd6;rw[hNx]at this;exact this
   have B1:∀{u u':av} {bs:List Nat},ay bs u u'->(∀x,x∈bs->x≠g)->bO (fun k=>k=g) u u':=fun hO hb k hk bQ=>by subst hk;exact hO.block k bQ fun hm=>hb k hm rfl
   have zc:Value.cells (ah (nf 0 [] [] [] Sl.nil Sl.nil Sl.nil Sl.nil 0).toArray)=(nf 0 [] [] [] Sl.nil Sl.nil Sl.nil Sl.nil 0).toArray:=rfl;have hz:∀(u:av),∃(y:Sl) (u2:av),(au 25 1 #[.mk 0 (ah (nf 0 [] [] [] Sl.nil Sl.nil Sl.nil Sl.nil 0).toArray)]).run aq u=.ok y.v u2/\Own (li true f) 9 27 u.heap.size u2 (fun _=>False) y [K7]/\ay [] u u2:=fun u=>by
    obtain⟨y,u2,a1,a2,a3,_⟩:=lf (P:=aq) (t:=25) (e:=27) (i:=Tryz.t27) (w:=u) (F:=fun _=>False) (r:=li true f) (size:=9) (vs:=[ah (nf 0 [] [] [] Sl.nil Sl.nil Sl.nil Sl.nil 0).toArray]) (xs:=[K7]) (len:=1) (parts:=#[(0,ah (nf 0 [] [] [] Sl.nil Sl.nil Sl.nil Sl.nil 0).toArray)]) (by kernel_rfl) (by kernel_rfl) rfl rfl (by decide) rfl rfl (by decide) (by decide) (cj true f) ⟨⟨rfl,Ur hf0 _ _⟩,trivial⟩;exact⟨y,u2,a1,a2,a3⟩
   have adX:∀{u:av} {y:Sl} {A:Nat},B2<=A->Us f B2 u kids acc->(∀k,A<=k->kids.a≠some ⟨k,0,none⟩)->aA (li true f) 9 u (Fr A) y [K7]->A<=u.heap.size->∃(s8:Sl) (u2:av),(Builtin.append_ #[25,25] 25 #[kids.v,y.v]).run aq u=.ok s8.v u2/\Us f B2 u2 s8 (acc++[K7])/\(∃gs,ay gs u u2/\∀x,x∈gs->B2<=x/\x<A)/\(∀k,A<=k->k<u.heap.size->s8.a≠some ⟨k,0,none⟩):=fun{u y A} hA ho hk hy hAu=>by
    obtain⟨s8,u2,a1,a2,gs,a3,a4,a5⟩:=qx (P:=aq) (t:=25) (ty:=25) (e:=27) (i:=Tryz.t27) (bytes:=160) (size:=9) (y:=y) (ys:=[K7]) (by kernel_rfl) (by kernel_rfl) rfl rfl rfl rfl (cj true f) ho (hy.mono (cj true f) fun k um=>⟨bh hA um,hk k um⟩) (bh hA hAu) (by rw[bg];omega) (by decide);refine⟨s8,u2,a1,a2,⟨gs,a3,fun x hx=>⟨(a4 x hx).2.1,?_⟩⟩,fun k h1 h2=>?_⟩
    ·exact Nat.lt_of_not_le fun AX=>hk x AX (a4 x hx).1
    ·rcases a5 with a5 | a5
     ·rw[a5];exact hk k h1
     ·rw[a5];intro e;injection e with e;injection e with e;omega
   have Tz:∀{u:av} {s8:Sl},Sr F ts u b l N.2->aF u g t (je++nf n1.k n1.nm n1.ini n1.dft en lv mv kids n1.a)->CT true u (fun k=>B<=k/\k<B2) n1 en lv mv->ay [b,g] w u->B2<=u.heap.size->Us f B2 u s8 (acc++[K7])->∀w',aF w' g t (je++nf n1.k n1.nm n1.ini n1.dft en lv mv s8 n1.a)->Us f B2 w' s8 (acc++[N.1])->(∃gk,B2<=gk/\ay [g,gk] u w')->∃iX,Kd F ts w w' b l g t je f B B2 n1 en lv mv N.2 (acc++[N.1]) iX:=fun hr tV Y1 ho hz _ w' h1 h2 ⟨gk,h3,h4⟩=>
    ⟨_,hr.PJ h4 fun x hx=>(by
     simp only[aY,bf,cb]at hx;rcases hx with rfl | rfl
     ·exact hg
     ·exact hr.gt (by omega)),h1,Y1.keep fun i hi bQ=>h4.block i bQ (by simp only[aY,bf,cb];omega),h2,ho.trans h4 fun x hx=>by
     simp only[aY,bf,cb]at hx⊢;omega,bh hz h4.size⟩
   refine⟨fun k=>k=g,_,rfl,rfl,kids,pE.nb.UQ (je.length+7) (Jt rfl),(sJ pE.r).mono ?_,?_⟩
   ·rintro _ eM ⟨cs,rfl,hx,KE⟩;have GB:=Qs pE KE;have DH:=hx;obtain⟨f',rfl⟩:∃f',f=f'+1:=⟨f-1,by omega⟩
    obtain⟨xe,xl,xm,xk,rfl,_⟩:=DH;obtain⟨y,eU,e2,hy,dL⟩:=hz eM;have ul:=Qs GB (GB.r.dn.q dL);obtain⟨s8,fM,e3,Ik,⟨gs,eV,ur⟩,hs8⟩:=adX (u:=eU) (y:=y) (A:=dJ.heap.size) Gd ul.kd (fun k hk=>pE.kd.new hk) ((hy.slice (cj true _)).mono (cj true _) fun k hk=>(by
     rcases hk with hk | hk
     ·exact hk.elim
     ·exact bh KE.o.size hk.1)) (bh KE.o.size dL.size)
    have Yc:∀x,x∈gs->x≠g:=fun x hx=>by have:=(ur x hx).1;omega
    have Xu:=eV.size;have Mz:=ul.lB;have z12:=KE.o.size;refine⟨_,_,_,_,xe,xl,xm,xk,_,rfl,sk (x:=s') pE.lB KE,B1 KE.o (by simp only[aO];omega),y,eU,e2,sk (x:=s') GB.lB (GB.r.dn.q dL),B1 dL (by simp),s8,fM,e3,eV.same (fun x hx=>?_),B1 eV Yc,?_⟩
    ·simp only[aO]at hx;subst hx;exact⟨by omega,fun hm=>by have:=(ur x hm).1;omega⟩
    ·refine BC (H:=fun k=>dJ.heap.size<=k/\k<eM.heap.size) (acc:=acc) ?_ (fun k hk _=>⟨bh Gd hk.1,hs8 k hk.1 (cD hk.2 dL.size)⟩) (fun k hk=>bh Gd hk.1) Ik pE.kd.len (eV.blk ul.nb fun hm=>Yc g hm rfl) (by omega) (by omega) hkg (Tz (ul.r.own eV fun x hx=>(by have:=(ur x hx).1;omega)) (eV.blk ul.nb fun hm=>Yc g hm rfl) (ul.no.keep fun i hi bQ=>eV.block i bQ fun hm=>(by have:=(ur i hm).1;omega)) (ul.o.trans eV fun x hx=>.inr (by have:=(ur x hx).1;have:=pE.o.size;omega)) (bh Mz Xu) Ik);refine(cj true _).keep ((cj true _).inHeap hx) fun k hk bQ=>?_;exact(eV.block k (cD bQ dL.size) fun hm=>by have:=(ur k hm).2;have:=hk.1;omega).trans (dL.block k bQ (by simp))
   ·obtain⟨y,kf,e2,hy,lO⟩:=hz dJ;have HY:=Qs pE (pE.r.dn.q lO);refine⟨y,kf,e2,sk (x:=s') pE.lB (pE.r.dn.q lO),B1 lO (by simp),(sJ HY.r).mono ?_⟩;rintro _ jL ⟨cs,rfl,hx,yF⟩;have HZ:=Qs HY yF;have DH:=hx;obtain⟨f',rfl⟩:∃f',f=f'+1:=⟨f-1,by omega⟩
    obtain⟨xe,xl,xm,xk,rfl,_⟩:=DH;have ajr:=(((hy.slice (cj true _)).inHeap (cj true _) (by decide)).keep (cj true _) (by decide) (w':=jL) fun k hk bQ=>yF.o.block k bQ (by
     rcases hk.1 with hk | hk
     ·exact hk.elim
     ·have:=hk.1;simp only[aO];omega)).mono (cj true _) (G:=Fr dJ.heap.size) fun k hk=>(by
     rcases hk.1 with hk | hk
     ·exact hk.elim
     ·exact hk.1)
    obtain⟨s8,mX,e3,Ik,⟨gs,ja,ur⟩,hs8⟩:=adX (u:=jL) (y:=y) (A:=dJ.heap.size) Gd HZ.kd (fun k hk=>pE.kd.new hk) ajr (bh lO.size yF.o.size);have Yc:∀x,x∈gs->x≠g:=fun x hx=>by have:=(ur x hx).1;omega
    have z21:=ja.size;have z20:=HZ.lB;have z19:=lO.size;refine⟨_,_,_,_,xe,xl,xm,xk,_,rfl,sk (x:=s') HY.lB yF,B1 yF.o (by simp only[aO];omega),s8,mX,e3,ja.same (fun x hx=>?_),B1 ja Yc,?_⟩
    ·simp only[aO]at hx;subst hx;exact⟨by omega,fun hm=>by have:=(ur x hm).1;omega⟩
    ·refine BC (H:=fun k=>kf.heap.size<=k/\k<jL.heap.size) (acc:=acc) ?_ (fun k hk _=>⟨by show B2<=k;omega,hs8 k (by omega) hk.2⟩) (fun k hk=>by omega) Ik pE.kd.len (ja.blk HZ.nb fun hm=>Yc g hm rfl) (by omega) (by omega) hkg (Tz (HZ.r.own ja fun x hx=>(by have:=(ur x hx).1;omega)) (ja.blk HZ.nb fun hm=>Yc g hm rfl) (HZ.no.keep fun i hi bQ=>ja.block i bQ fun hm=>(by have:=(ur i hm).1;omega)) (HZ.o.trans ja fun x hx=>.inr (by have:=(ur x hx).1;have:=pE.o.size;omega)) (bh z20 z21) Ik);refine(cj true _).keep ((cj true _).inHeap hx) fun k hk bQ=>?_;exact ja.block k bQ fun hm=>by have:=(ur k hm).2;have:=hk.1;omega
 ·have hc:=Lk hc;rw[if_pos hc]at hR;refine⟨_,Blk.ec k6.r.blk 6 rfl,b,6,_,_,rfl,k6.r.blk,by simp,Zv,fun qT jF ajs=>?_⟩;have Tn:=Qs k6 (y:={s' with d:=VV s'.d}) ⟨jF,k6.r.kz jF ajs k6.r.lt⟩;obtain⟨q,tW,e1,qm,hm⟩:=qc Tn.r [125];have k27:=Qs Tn (Tn.r.dn.q qm);refine⟨q,tW,e1,sk (x:=s') Tn.lB (Tn.r.dn.q qm),hm.mono ?_⟩;rintro _ wY ⟨rfl,h28⟩;have PW:=Qs k27 h28;refine⟨rfl,sk (x:=s') k27.lB h28,rfl,_,PW.nb,?_,PW.o,?_⟩
  ·rw[<-hR];refine⟨en,lv,mv,kids,rfl,PW.no.mono fun k hk=>bh zw1 hk.1,(PW.kd.sl (cj true f) fun k hk=>hk).low (cj true f) (by omega)⟩
  ·rw[<-hR];exact PW.r
end
def Tk.Good(t:Tk):Prop:=(t.k=2->∃c r,t.t=c::r/\dV c=true)/\(t.k=4->∃c r,t.t=c::r/\dV c=false)/\0<=t.n/\t.n<=9223372036854775807
theorem N8{m:aH}{q:Tq}(h:kY m=.ok q):q.1≠5/\∀a,Tk.Good ⟨q.1,q.2.1,q.2.2.1,a⟩:=by
 cases m with
 | nil=>cases h
 | cons c r=>
  simp only[kY]at h;split at h
  ·rename_i hc;unfold ly at h;split at h
   ·cases h
   ·injection h with h;subst h;have hw:dV c=true:=by unfold dV;rw[hc];rfl
    refine⟨by dsimp only;split<;>decide,fun a=>⟨fun _=>?_,fun h4=>?_,by dsimp only;decide,by dsimp only;decide⟩⟩
    ·dsimp only;rw[da,if_pos hw];exact⟨c,_,rfl,hw⟩
    ·dsimp only at h4;split at h4<;>exact absurd h4 (by decide)
  ·rename_i hl;split at h
   ·rename_i hc;unfold qI at h;split at h
    ·cases h
    ·split at h
     ·cases h
     ·injection h with h;subst h;refine⟨by dsimp only;decide,fun a=>⟨fun h=>absurd h (by dsimp only;decide),fun h=>absurd h (by dsimp only;decide),by dsimp only;omega,?_⟩⟩;dsimp only;unfold eY;split
      ·dsimp only;decide
      ·split
       ·dsimp only;decide
       ·split
        ·dsimp only;omega
        ·dsimp only;decide
   ·rename_i hd;unfold mQ at h;split at h
    ·cases h
    ·rename_i hs;injection h with h;subst h;refine⟨by dsimp only;decide,fun a=>⟨fun h=>absurd h (by dsimp only;decide),fun _=>?_,by dsimp only;decide,by dsimp only;decide⟩⟩;obtain⟨n,hn⟩:∃n,iq (c::r)=n+1:=⟨iq (c::r)-1,by omega⟩
     dsimp only;rw[hn,fC];refine⟨c,_,rfl,?_⟩;unfold dV;rw[eK];exact⟨by simpa using hl,by simpa using hd⟩
theorem Fk{l:aH}:∀(n i:Nat),i<=l.length->l.length-i<=n->∀r,jC l i=.ok r->∃(fr:List Tk) (a:Int),r=fr++[⟨5,[],0,a⟩]/\(∀t,t∈fr->t.k≠5/\t.Good)/\r.length<=l.length-i+1
 | n,i,hi,hn,r,h=>by
  rw[jx hi]at h;split at h
  ·injection h with h;exact⟨[],_,h.symm,fun t ht=>(by cases ht),by rw[<-h,bg];omega⟩
  ·split at h
   ·cases h
   ·rename_i q hq;have q1:=sZ hq;have q2:=zx hq;rw[bX]at q2;split at h
    ·cases h
    ·rename_i r' hr';injection h with h;subst h
     match n,hn with
     | 0,hn=>omega
     | n+1,hn=>
      obtain⟨fr,a,e,hf,hl⟩:=Fk n _ (by omega) (by omega) _ hr';have hg:=N8 hq;refine⟨_::fr,a,by rw[e];rfl,fun t ht=>?_,by rw[aR];omega⟩;rcases aY.1 ht with rfl | ht
      ·exact⟨hg.1,hg.2 _⟩
      ·exact hf t ht
theorem SD{fr:List Tk}{a:Int}(h:∀t,t∈fr->t.k≠5):pb (fr++[⟨5,[],0,a⟩]):=fun i hi=>by
 rw[aN,bg]at hi;unfold tk;by_cases hl:i<fr.length
 ·rw[bJ hl,bG hl,gN,aN,bg];exact⟨fun e=>absurd e (h _ (List.getElem_mem hl)),fun e=>by omega⟩
 ·have e:i=fr.length:=by omega
  subst e;rw[cf (aW _),mB,aN,bg];exact⟨fun _=>rfl,fun _=>rfl⟩
theorem Jv{l:aH}:∀(n i:Nat),i<=l.length->l.length-i<=n->∀x,jC l i=.error x->x.1≠0
 | n,i,hi,hn,x,h=>by
  rw[jx hi]at h;split at h
  ·cases h
  ·split at h
   ·rename_i e hq;injection h with h;subst h;exact CK hq
   ·rename_i q hq;have q1:=sZ hq;have q2:=zx hq;rw[bX]at q2;split at h
    ·rename_i y hy;injection h with h;subst h
     match n,hn with
     | 0,hn=>omega
     | n+1,hn=>exact Jv n _ (by omega) (by omega) _ hy
    ·cases h
theorem uE{l:aH}(h:(cA l).2.1=0):pb (cA l).1/\(∀t,t∈(cA l).1->t.Good)/\0<(cA l).1.length/\(cA l).1.length<=16385:=by
 unfold cA at h⊢;split at h
 ·cases h
 ·rename_i hl;rw[if_neg hl];cases hr:jC l 0 with
  | error x=>
   rw[hr]at h;exact absurd h (Jv l.length 0 (bd _) (by omega) _ hr)
  | ok r=>
   obtain⟨fr,a,e,hf,hn⟩:=Fk l.length 0 (bd _) (by omega) r hr;dsimp only;subst e;refine⟨SD fun t ht=>(hf t ht).1,fun t ht=>?_,by rw[aN,bg];omega,by omega⟩;rcases cH.1 ht with ht | ht
   ·exact(hf t ht).2
   ·simp only[aO]at ht;subst ht;exact⟨fun h=>absurd h (by dsimp only;decide),fun h=>absurd h (by dsimp only;decide),by dsimp only;decide,by dsimp only;decide⟩
section
section
variable {F:aJ} {ts:List Tk} {w w' w2:av} {b:Nat} {l:Sl} {s s':Sx}
theorem Jw:∀(f:Nat) (d:Int),0<=d->d<f->d<=9223372036854775807->Uq F ts b l f d
 | 0,d,h0,h1,_=>by omega
 | f+1,d,h0,h1,h2=>by
  intro k u w h hd;refine(aa1 ⟨b,0,none⟩ k (fun v w'=>∃cs,v=(ah cs.toArray)/\li true (f+1) w' (Fr w.heap.size) (jJ ts (f+1) k u).1 cs/\Dn F ts w w' b l (jJ ts (f+1) k u).2) w ?_).mono (by
   rintro e w' ⟨v,rfl,cs,rfl,h⟩;exact⟨cs,rfl,h⟩)
  intro k0 w0 gD dQ ch;have t0:=h.zt.al ch gD dQ;refine(Fj t0.r k).mono ?_;rintro _ w1 ⟨rfl,YX⟩;have t1:=t0.nx YX;have LR:=zK h.en k u;have hnd:=Ss (ts:=ts) (k:=k) (s:=u);rw[jJ];have tV:(eE ts k u).1.ini=[]/\(eE ts k u).1.dft=[]/\(eE ts k u).1.en=[]/\(eE ts k u).1.lv=[]/\(eE ts k u).1.mv=[]:=⟨rfl,rfl,rfl,rfl,rfl⟩
  generalize eE ts k u=N at*
  obtain⟨nb,u1⟩:=N;dsimp only at*
  obtain⟨i1,i2,i3,i4,i5⟩:=tV;obtain⟨nk,nnm,ajt,aju,nen,nlv,nmv,na⟩:=nb;dsimp only at i1 i2 i3 i4 i5;subst i1 i2 i3 i4 i5;dsimp only at*
  refine⟨_,_,_,_,Sl.nil,Sl.nil,Sl.nil,Sl.nil,_,rfl,t0.sc YX (by simp),fun hc k1 w2 kg ju cG=>?_,fun hc k2 dw oY oG dM=>?_⟩
  ·rw[if_pos (by have:=aQ hc;omega)];have t2:=t1.al cG kg ju;obtain⟨q,w3,e1,dh,hm⟩:=qc t2.r [45,62];have t3:=t2.q dh;refine⟨q,w3,e1,t2.sq dh (by simp),hm.mono ?_⟩;rintro _ w4 ⟨rfl,h4⟩;have t4:=t3.nx h4;refine⟨rfl,t3.sc h4 (by simp),(vD t4.r).mono ?_⟩;rintro _ w5 ⟨rfl,h5⟩;have t5:=t4.nx h5;refine⟨_,rfl,t4.sc h5 (by simp),fun w6 dR=>?_⟩;have t6:=t5.f dR (by simp);obtain⟨q,w7,e1,fN,hm⟩:=qc t6.r [59];have t7:=t6.q fN;refine⟨q,w7,e1,t6.sq fN (by simp),hm.mono ?_⟩;rintro _ w8 ⟨rfl,h8⟩;have t8:=t7.nx h8;refine⟨rfl,t7.sc h8 (by simp),fun w9 fT=>⟨_,rfl,⟨Sl.nil,Sl.nil,Sl.nil,Sl.nil,rfl,⟨jE.nil _ _ _ _ _ _,jE.nil _ _ _ _ _ _,jE.nil _ _ _ _ _ _⟩,jE.nil _ _ _ _ _ _⟩,(t8.f fT (by simp)).dn⟩⟩
  ·rw[if_neg (by have:=aU hc;omega)];have t10:=t1.al dM oY oG;obtain⟨q,dJ,e1,dY,hm⟩:=qc t10.r [123];have t11:=t10.q dY;refine⟨q,dJ,e1,t10.sq dY (by simp),hm.mono ?_⟩;rintro _ eM ⟨rfl,KE⟩;have t12:=t11.nx KE;have hms:=iu (s:=u1) h.en [123];refine⟨rfl,t11.sc KE (by simp),fun hB _=>?_⟩;have hsd:(dS ts u1 [123]).d=d:=hms.d.trans (LR.d.trans hd);refine(Ju (f:=f) t12.r (je:=[]) (n:=⟨nk,nnm,[],[],[],[],[],na⟩) rfl rfl rfl hB (t12.r.gt (t12.lt (by simp))) (by rw[hsd];exact⟨by omega,h2⟩) (fun hf=>?_)).mono ?_
   ·have hd0:=hnd (hms.le hf).1;rw[hd]at hd0;have PT:we d=d-1:=by unfold we;rw[fH (by omega) (by omega)]
    rw[hsd,PT];exact⟨by omega,Jw f (d-1) (by omega) (by omega) (by omega)⟩
   ·rintro _ eU ⟨rfl,cs,sL,hx,dL,ajw⟩;have DH:=hx;obtain⟨xe,xl,xm,xk,rfl,_⟩:=DH;have Mz:Fz [b] w eU [k2,k0]:=t12.z.go dL fun x hx=>(by simp only[aY,bf,cb]at hx⊢;omega)
    have l2:=t12.lt (k0:=k2) (by simp);have l0:=t12.lt (k0:=k0) (by simp);have k0l:=(t1.z.k k0 (by simp)).2;refine⟨rfl,t12.z.sm dL (by simp) (fun x hx=>?_),_,_,_,_,xe,xl,xm,xk,_,sL,fun fM eV Gc=>⟨_,rfl,?_,?_⟩⟩
    ·simp only[aY,bf,cb]at hx;rcases hx with rfl | rfl
     ·exact .inl (by simp)
     ·exact .inr fun y hy=>by simp only[aO]at hy;omega
    ·refine(cj true _).low ((cj true _).stay hx ((Stay.refl _ _).f eV (.inl ?_))) t12.z.o.size;have:=(t12.z.k k0 (by simp)).2;exact this
    ·exact⟨(Mz.f eV (by simp)).o,ajw.one eV l0⟩
theorem Wa(h:Sr F ts w b l s)(hg:∀t,t∈ts->t.Good):az aq 76 #[rp b] w fun e w'=>e=ak (ah #[ab (T (rX ts s).1.n),O U (rX ts s).1.v,O U (rX ts s).1.a])/\Dn F ts w w' b l (rX ts s).2:=by
 refine ret (aaP _ _ _ ?_);intro k0 w0 gD dQ ch;have t0:=h.zt.al ch gD dQ;obtain⟨ad,g1,g2⟩:=t0.r.now;unfold rX;dsimp only;generalize PN:(if(tk ts s.i).k=1 then AU ts s else s)=s1;refine⟨fun w'=>Zt F ts w w' b l s1 [k0],fun w1 t1=>(vC t1.r (k:=1) (by decide)).mono ?_,l,Blk.ec t0.r.blk 0 rfl,_,Blk.ec t0.r.blk 1 rfl,ad,g1,_,g2.ec 0 _ rfl,fun hc eM fb=>?_,fun hc fM eV=>?_⟩
 ·rintro _ w2 ⟨rfl,h2⟩;have t2:=t1.nx h2;refine⟨_,_,_,_,rfl,t1.sc h2 (by simp),fun k1 w3 kg ju dh=>?_⟩;have t3:=t2.al dh kg ju;obtain⟨q,w4,e1,dI,hm⟩:=qc t3.r [61];have t4:=t3.q dI;refine⟨q,w4,e1,t3.sq dI (by simp),hm.mono ?_⟩;rintro _ w5 ⟨rfl,h5⟩;have t5:=t4.nx h5;refine⟨rfl,t4.sc h5 (by simp),?_⟩;obtain⟨q,w6,e1,dR,hm⟩:=BB t5.r [[45]] (n:=1) (parts:=#[(0,ab (T [45]))]) rfl rfl (by decide) (by decide);have t6:=t5.q dR;refine⟨q,w6,e1,t5.sq dR (by simp),hm.mono ?_⟩;rintro _ w7 ⟨rfl,h7⟩;have t7:=t6.nx h7;generalize hgg:cu ts (dS ts (fA ts s1 1).2 [61]) [[45]]=gg at*
  have hgl:gg<=1:=by rw[<-hgg];exact E6 _
  refine⟨_,rfl,t6.sc h7 (by simp),(vC t7.r (k:=3) (by decide)).mono ?_⟩;rintro _ w8 ⟨rfl,h8⟩;have t8:=t7.nx h8;refine⟨_,_,_,_,rfl,t7.sc h8 (by simp),?_⟩;obtain⟨q,w9,e1,fT,hm⟩:=qc t8.r [59];have t9:=t8.q fT;refine⟨q,w9,e1,t8.sq fT (by simp),hm.mono ?_⟩;rintro _ dw ⟨rfl,uS⟩;refine⟨rfl,t9.sc uS (by simp),fun dJ dY=>⟨?_,((t9.nx uS).f dY (by simp)).dn⟩⟩;have hn:∀u:Sx,0<=(fA ts u 3).1.n/\(fA ts u 3).1.n<=9223372036854775807:=fun u=>by
   unfold fA;split
   ·exact⟨iM 0,(by decide:(0:Int)<=9223372036854775807)⟩
   ·unfold tk;cases hx:ts[u.i]? with
    | none=>exact⟨iM 0,(by decide:(0:Int)<=9223372036854775807)⟩
    | some t=>exact(hg t (br hx)).2.2
  obtain⟨n0,n1⟩:=hn (if gg=0 then dS ts (fA ts s1 1).2 [61]else db (dS ts (fA ts s1 1).2 [61]));generalize (fA ts (if gg=0 then dS ts (fA ts s1 1).2 [61]else db (dS ts (fA ts s1 1).2 [61])) 3).1.n=x at*
  have e:ar U ((ar U (1-(ar U (2*(gg:Int)))))*x)=if gg=0 then x else ar U (-x):=by
   rcases(by omega:gg=0∨gg=1)with rfl | rfl
   ·rw[if_pos rfl];show ar U (1*x)=x;rw[Int.one_mul,fH (by omega) (by omega)]
   ·rw[if_neg (by decide)];show ar U (-1*x)=_;rw[Int.neg_one_mul]
  rw[e]
 ·refine(V7 (t0.q fb).r).mono ?_;rintro _ eU ⟨rfl,xb⟩;refine⟨rfl,(t0.q fb).sc xb (by simp),?_⟩;rw[<-PN,if_pos (by simpa using hc)];exact(t0.q fb).nx xb
 ·rw[<-PN,if_neg (by simpa using hc)];exact t0.q eV
end
theorem Ut(w:av)(F:aJ):ChR true 15 w F ch0 Sl.nil (nf 0 [] [] [] Sl.nil Sl.nil Sl.nil Sl.nil 0):=⟨jE.nil _ _ _ _ _ _,Ur (by decide) _ _⟩
theorem ChR.stay{d:Nat}{w w':av}{B:Nat}{c:Ch}{vs:Sl}{cs:aI}(h:ChR true d w (Fr B) c vs cs)(hs:Stay B w w'):ChR true d w' (Fr B) c vs cs:=⟨h.vars.stay eF (by decide) hs,(cj true d).stay h.root hs⟩
theorem ChR.low{d:Nat}{w:av}{A B:Nat}{c:Ch}{vs:Sl}{cs:aI}(h:ChR true d w (Fr B) c vs cs)(hA:A<=B):ChR true d w (Fr A) c vs cs:=⟨h.vars.low eF hA,(cj true d).low h.root hA⟩
theorem Wb{ts:List Tk}(hE:pb ts){s:Sx}{ss:List (aH)}(hi:s.i<ts.length)(hw:cu ts s ss≠0):mu ts (rX ts (db s)).2<mu ts s:=
 oS hE (dm hw).1 hi (dm hw).2 (NP hE (db s)).toOn0
theorem Fl{w:av}(l:aH)(hE:Er w):az aq 34 #[ab (T l)] w fun e w'=>
  ∃(vs:Sl) (cs:aI),e=ak (ai #[ah (vs.v::cs).toArray,ah #[O U (ia l).2.1,O U (ia l).2.2]])/\ChR true 15 w' (Fr w.heap.size) (ia l).1 vs cs/\ay [] w w':=by
 refine(aam (T l) (fun v w'=>∃(vs:Sl) (cs:aI),v=(ai #[ah (vs.v::cs).toArray,ah #[O U (ia l).2.1,O U (ia l).2.2]])/\ChR true 15 w' (Fr w.heap.size) (ia l).1 vs cs/\ay [] w w') w ?_).mono (by
  rintro e w' ⟨v,rfl,vs,cs,rfl,h⟩;exact⟨vs,cs,rfl,h⟩)
 generalize hP:ia l=P;unfold ia at hP;intro k0 k1 w0 gD dQ kg ju ch;have z0:=ch.size;refine(EX l (hE.only ch)).mono ?_;rintro _ w1 ⟨rs,rfl,hT,cn⟩;have z1:=cn.size;have fG:=ch.cd cn;have tOk:=uE (l:=l);have ajx:∀{w2 w3:av},ay [] w1 w2->ay [k1,k0] w2 w3->ay [] w w3:=fun cG dh=>((fG.cd cG).trans dh fun x hx=>.inr (by simp only[aY,bf,cb]at hx;omega))
 refine⟨rs,_,_,rfl,cn.same (by simp;omega),fun hc k2 w2 oY oG cG n1 n2 n3=>⟨fun k=>k=k2,rfl,fun e=>n2 e,fun e=>n3 e,fun w3 dh=>?_⟩,fun hc k3 k4 k5 w4 Ky Ay tZ Gh pv Ij dI=>?_⟩
 ·have hc:(cA l).2.1≠0:=by simpa using hc
  rw[if_pos hc]at hP;subst hP;exact⟨Sl.nil,_,rfl,Ut _ _,ajx cG dh⟩
 have hc:(cA l).2.1=0:=by simpa using hc
 obtain⟨TB,Ro,adZ,ey⟩:=tOk hc;rw[if_neg (by simpa using hc)]at hP;have ajy:=((hT.sl.inHeap gI (by decide)).mono gI (G:=fun k=>w0.heap.size<=k/\k<w1.heap.size) fun k hk=>⟨hk.1.1,hk.2⟩)
 generalize (cA l).1=ts at*
 clear tOk hT;have z4:=dI.size;obtain⟨q,w5,e1,hq,eh⟩:=jd w4 [eS] (n:=1) (parts:=#[(0,ab (T eS))]) rfl rfl (by decide) (by decide);have z5:=eh.size;refine⟨q,w5,e1,eh.same (by simp;omega),fun tX n04 n14 n34 n54=>?_⟩;have r5:Sr (fun k=>w0.heap.size<=k/\k<w1.heap.size) ts w5 k4 rs uf:=⟨tX,SliceF.only gI (by decide) ajy (dI.cd eh) (by simp),fun k hk=>by have:=hk.2;omega,TB,adZ,by omega⟩
 have Mq:∀k,(fun k=>w0.heap.size<=k/\k<w1.heap.size) k->k<w1.heap.size:=fun k hk=>hk.2;generalize (fun k=>w0.heap.size<=k/\k<w1.heap.size)=F at*
 have w5w:ay [] w w5:=(fG.cd dI).cd eh;have sm:∀{u u':av} {x:Sx},w5.heap.size<=u.heap.size->Dn F ts u u' k4 rs x->bS [k0,k1,k3,k5] u u':=fun hz d=>d.o.same (by
  intro x hx;simp only[aY,bf,cb]at hx⊢;omega)
 have sq:∀{u u':av},w5.heap.size<=u.heap.size->ay [] u u'->bS [k0,k1,k3,k4,k5] u u':=fun hz o=>o.same fun x hx=>⟨by
  simp only[aY,bf,cb]at hx;omega,by simp⟩
 have oD:∀{u u':av} {x:Sx},ay [] w u->Dn F ts u u' k4 rs x->ay [] w u':=fun o d=>o.trans d.o fun x hx=>.inr (by simp only[aO]at hx;omega);have o5:∀{u u':av},ay [] w u->ay [k5] u u'->ay [] w u':=fun o d=>o.trans d fun x hx=>.inr (by simp only[aO]at hx;omega);have r55:∀{u u':av} {x:Sx},Sr F ts u k4 rs x->ay [k5] u u'->Sr F ts u' k4 rs x:=fun r o=>r.WO o ⟨n54,fun hF=>by have:=Mq _ hF;omega⟩;have LS:=tX.lt;refine(Jr r5 (qY hq) fun k hk e=>(by have:=hk.1;omega)).mono ?_;rintro _ w6 ⟨rfl,h6⟩;have z6:=h6.o.size;refine⟨rfl,sm (aW _) h6,rs,_,_,_,_,_,_,_,_,h6.r.blk,(Fj h6.r 1).mono ?_⟩;rintro _ w7 ⟨rfl,h7⟩;have z7:=h7.o.size;have hC:rZ ts=(⟨(rY ts (ts.length+1) [] (dS ts (eE ts 1 (dS ts uf eS)).2 [123])).1,(oM ts (jJ ts 14) (eE ts 1 (dS ts uf eS)).1 (rY ts (ts.length+1) [] (dS ts (eE ts 1 (dS ts uf eS)).2 [123])).2).1⟩,Hf ts (oM ts (jJ ts 14) (eE ts 1 (dS ts uf eS)).1 (rY ts (ts.length+1) [] (dS ts (eE ts 1 (dS ts uf eS)).2 [123])).2).2):=rfl;have tV:(eE ts 1 (dS ts uf eS)).1.ini=[]/\(eE ts 1 (dS ts uf eS)).1.dft=[]/\(eE ts 1 (dS ts uf eS)).1.en=[]/\(eE ts 1 (dS ts uf eS)).1.lv=[]/\(eE ts 1 (dS ts uf eS)).1.mv=[]:=⟨rfl,rfl,rfl,rfl,rfl⟩
 have on7:On ts uf (eE ts 1 (dS ts uf eS)).2:=(iu TB _).trans (zK TB _ _);generalize eE ts 1 (dS ts uf eS)=N at*
 obtain⟨⟨nk,nnm,ajt,aju,nen,nlv,nmv,na⟩,u1⟩:=N;dsimp only at*
 obtain⟨i1,i2,i3,i4,i5⟩:=tV;subst i1 i2 i3 i4 i5;refine⟨_,_,_,_,Sl.nil,Sl.nil,Sl.nil,Sl.nil,_,rfl,sm z6 h7,rs,_,_,_,_,_,_,_,_,h7.r.blk,fun w8 fj uR=>?_⟩;have z8:=fj.size;have r8:=r55 h7.r fj;have w8w:=o5 (oD (oD w5w h6) h7) fj;obtain⟨q,w9,e1,fT,hm⟩:=qc r8 [123];have z9:=fT.size;refine⟨q,w9,e1,sq (by omega) fT,hm.mono ?_⟩;rintro _ dw ⟨rfl,uS⟩;have H0:=uS.o.size;have ajz:=oD (w8w.cd fT) uS;have ajA:On ts uf (dS ts u1 [123]):=on7.trans (iu TB _);clear hm;generalize dS ts u1 [123]=u2 at*
 generalize hV:rY ts (ts.length+1) [] u2=V at*
 generalize hB:dw.heap.size=B at*
 refine⟨rfl,sm (by omega) uS,rs,_,_,_,_,_,_,_,_,uS.r.blk,fun nv l10 i28 s3 s4 s5 uk uQ BX GA i29 LV i30 i31 i32 i33 i34 i35 i36 i37 w'=>∃(u:Sx) (acc:List Vr),i28=nk/\s3=T nnm/\s4=T []/\s5=T []/\uk=Sl.nil/\uQ=Sl.nil/\BX=Sl.nil/\GA=Sl.nil/\i29=na/\Sr F ts w' k4 rs u/\Own yr 3 79 B w' (Fr B) l10 acc/\rY ts nv acc u=V/\mu ts u<nv/\acc.length+mu ts u<=ts.length/\ay [] w w'/\B<=w'.heap.size/\u.d=12,
  ts.length+1,⟨u2,[],rfl,rfl,rfl,rfl,rfl,rfl,rfl,rfl,rfl,uS.r,Own.nil _ _ _ _ _ _,hV,uW (ra _ _),by rw[aZ,bD];exact ra _ _,ajz,Io hB.symm,ajA.d⟩,?_⟩
 clear hV;rintro nv l10 nk2 _ _ _ _ _ _ _ na2 LV i30 i31 i32 i33 i34 i35 i36 i37 dJ ⟨u,acc,rfl,rfl,rfl,rfl,rfl,rfl,rfl,rfl,rfl,r11,Qv,hR,UR,xQ,ajB,zB,hud⟩;obtain⟨m,rfl⟩:∃m,nv=m+1:=⟨nv-1,by omega⟩
 rw[rY]at hR;obtain⟨q,eM,e1,fb,hm⟩:=BB r11 [tM] (n:=1) (parts:=#[(0,ab (T tM))]) rfl rfl (by decide) (by decide);have z12:=fb.size;refine⟨q,eM,e1,sq (by omega) fb,hm.mono ?_⟩;rintro _ eU ⟨rfl,xb⟩;have Mz:=xb.o.size;have Yd:=oD (ajB.cd fb) xb;have U6:Own yr 3 79 B eU (Fr B) l10 acc:=(Qv.stay eF fb fun x hx=>(by cases hx)).stay eF xb.o fun x hx=>.inl (by simp only[aO]at hx;omega);refine⟨_,rfl,sm (by omega) xb,rs,_,_,_,_,_,_,_,_,xb.r.blk,fun xW fM eV Gc=>?_,fun xW sL m05 m15 m35=>?_⟩
 ·have xW:=Ll xW;rw[if_neg xW]at hR xb;have Xu:=eV.size;have r14:=xb.r.only eV;refine⟨fun k=>k=k5,rfl,(Wa r14 Ro).mono ?_⟩;rintro _ iy ⟨rfl,DI⟩;have z15:=DI.o.size;have hmu:=Wb TB r11.lt xW;have LR:=NP TB (db u);generalize rX ts (db u)=X at*
  obtain⟨x,u'⟩:=X;dsimp only at*
  have Qf:=ra ts u;have ad0:Own yr 3 79 B iy (Fr B) l10 acc:=(U6.stay eF eV fun x hx=>(by cases hx)).stay eF DI.o fun x hx=>.inl (by simp only[aO]at hx;omega);obtain⟨y,jK,e2,kc,B0,iZ,e3,nt,⟨gs,jt,ur⟩,_⟩:=nG (P:=aq) (t:=22) (ty:=22) (e:=79) (i:=Tryz.t79) (bytes:=32) (size:=3) (v:=ah #[ab (T x.n),O U x.v,O U x.a]) (x:=x) (G:=fun _=>False) (by kernel_rfl) (by kernel_rfl) rfl rfl rfl rfl (by decide) (by decide) (by decide) eF ad0 (by omega) rfl rfl (fun k hk _=>hk.elim) (by omega);have qn:∀g,g∈gs->B<=g:=fun g hg=>(ur g hg).2.1;have z16:=kc.size;have z17:=jt.size;refine⟨_,_,_,rfl,sm (by omega) DI,rs,_,_,_,_,_,_,_,_,DI.r.blk,fun k hk bQ=>(by subst hk;exact DI.o.block k bQ (by simp only[aO];omega)),y,jK,e2,sq (by omega) kc,bO.only kc,B0,iZ,e3,jt.same (fun x hx=>?_),fun k hk bQ=>(by subst hk;exact jt.block k bQ fun hm=>(by have:=qn k hm;omega)),fun jM kb Qr=>?_⟩
  ·simp only[aY,bf,cb]at hx;exact⟨by omega,fun hm=>by have:=qn x hm;omega⟩
  ·have z18:=kb.size;have r17:Sr F ts iZ k4 rs u':=(DI.r.only kc).own jt fun x hx=>(by have:=qn x hx;omega)
   refine⟨m,Mf _,u',acc++[x],rfl,rfl,rfl,rfl,rfl,rfl,rfl,rfl,rfl,r55 r17 kb,?_,hR,by omega,by rw[aN,bg];omega,o5 (((oD (Yd.cd eV) DI).cd kc).trans jt fun x hx=>.inr (by have:=qn x hx;have:=Yd.size;omega)) kb,by omega,LR.d.trans hud⟩;refine(nt.mono eF fun k hk=>?_).stay eF kb fun x hx=>.inl (by simp only[aO]at hx;omega);rcases hk with hk | hk
   ·exact hk
   ·show B<=k;omega
 ·have xW:=Lk xW;rw[if_pos xW]at hR xb;subst hR;dsimp only at hC;have r13:=xb.r;refine(Ju (f:=14) r13 (je:=[l10.v]) (n:=⟨nk2,nnm,[],[],[],[],[],na2⟩) rfl rfl rfl sL ⟨n54,fun hF=>(by have:=Mq _ hF;omega)⟩ (by rw[hud];exact⟨by decide,by decide⟩) (fun _=>by
   rw[hud];exact⟨by decide,Jw 14 11 (by decide) (by decide) (by decide)⟩)).mono ?_
  generalize oM ts (jJ ts 14) ⟨nk2,nnm,[],[],[],[],[],na2⟩ u=D at*
  obtain⟨root,s1⟩:=D;dsimp only at hC;rw[hC]at hP;dsimp only at hP;rintro _ kf ⟨rfl,cs,Qw,hx,lO,r19⟩;dsimp only at*
  have z19:=lO.size;have ajE:ay [] w kf:=Yd.trans lO fun x hx=>.inr (by simp only[aY,bf,cb]at hx;omega);have ajF:Stay B eU kf:=Stay.of lO fun x hx=>.inl (by simp only[aY,bf,cb]at hx;omega);have c19:ChR true 15 kf (Fr w5.heap.size) ⟨acc,root⟩ l10 cs:=⟨((U6.sl eF fun k hk=>hk).stay eF (by decide) ajF).low eF (by omega),(cj true 15).low hx (by omega)⟩
  have DH:=hx;obtain⟨xe,xl,xm,xk,rfl,_⟩:=DH;have sm3:∀{u u':av} {bs:List Nat},w5.heap.size<=u.heap.size->ay bs u u'->(∀x,x∈bs->x=k4∨x=k5)->bS [k0,k1,k3] u u':=fun hz o hb=>o.same fun x hx=>⟨by simp only[aY,bf,cb]at hx;omega,fun hm=>by have:=hb x hm;simp only[aY,bf,cb]at hx;omega⟩
  refine⟨rfl,sm3 (by omega) lO (by simp),rs,_,_,_,_,_,_,_,_,r19.blk,l10,_,_,_,_,xe,xl,xm,xk,_,Qw,?_⟩;have st:∀{u u':av} {x:Sx},Sr F ts u k4 rs x->aF u k5 29 (l10.v::nf root.b.k root.b.nm root.b.ini root.b.dft xe xl xm xk root.b.a)->ay [] w u->ChR true 15 u (Fr w5.heap.size) ⟨acc,root⟩ l10 (nf root.b.k root.b.nm root.b.ini root.b.dft xe xl xm xk root.b.a)->∀{y:Sx},Dn F ts u u' k4 rs y->Sr F ts u' k4 rs y/\aF u' k5 29 (l10.v::nf root.b.k root.b.nm root.b.ini root.b.dft xe xl xm xk root.b.a)/\ay [] w u'/\ChR true 15 u' (Fr w5.heap.size) ⟨acc,root⟩ l10 (nf root.b.k root.b.nm root.b.ini root.b.dft xe xl xm xk root.b.a):=fun{u u' x} a1 a2 a3 a4 {y} d=>
   ⟨d.r,d.o.blk a2 (by simp only[aO];omega),oD a3 d,a4.stay (Stay.of d.o fun x hx=>.inl (by simp only[aO]at hx;omega))⟩
  refine⟨fun l27 i67 Ms Kv Tm l28 l29 l30 l31 i68 l32 i69 i70 i71 i72 i73 i74 i75 i76 jL=>w5.heap.size<=jL.heap.size/\Sr F ts jL k4 rs (Hf ts s1)/\aF jL k5 29 (l10.v::nf root.b.k root.b.nm root.b.ini root.b.dft xe xl xm xk root.b.a)/\ay [] w jL/\ChR true 15 jL (Fr w5.heap.size) ⟨acc,root⟩ l10 (nf root.b.k root.b.nm root.b.ini root.b.dft xe xl xm xk root.b.a),?_,?_⟩
  ·rintro l27 i67 Ms Kv Tm l28 l29 l30 l31 i68 l32 i69 i70 i71 i72 i73 i74 i75 i76 jL ⟨z20,a1,a2,a3,a4⟩;refine(mF a1).mono ?_;rintro _ mX ⟨rfl,ja⟩;obtain⟨b1,b2,b3,b4⟩:=st a1 a2 a3 a4 (a1.dn.q ja);have z21:=ja.size;refine⟨_,rfl,sm3 z20 ja (by simp),rs,_,_,_,_,_,_,_,_,b1.blk,l10,_,_,_,_,xe,xl,xm,xk,_,b2,fun hf qS ry _ _ p01 p03 p04 p05 p13 p14 p15 p34 p35 p45=>⟨fun k=>k=k4,rfl,fun e=>p04 e,fun e=>p14 e,fun rh sM _ _=>?_⟩,fun hf tG A1 _ _=>?_⟩
   ·have hf:(Hf ts s1).fc≠0:=by simpa using hf
    rw[if_pos hf]at hP;subst hP;exact⟨Sl.nil,_,rfl,Ut _ _,(b3.cd ry).trans sM fun x hx=>.inr (by simp only[aY,bf,cb]at hx;omega)⟩
   ·have hf:¬(Hf ts s1).fc≠0:=by simpa using hf
    rw[if_neg hf]at hP;subst hP;refine⟨l10,_,rfl,(b4.stay (Stay.of A1 fun x hx=>.inl (by simp only[aY,bf,cb]at hx;omega))).low w5w.size,b3.trans A1 fun x hx=>.inr (by simp only[aY,bf,cb]at hx;omega)⟩
  ·refine⟨fun b1 l39 i87 UY Y8 s18 l40 l41 l42 l43 i88 l44 i89 i90 i91 i92 i93 i94 i95 i96 po=>b1=decide (s1.fc=0/\(tk ts s1.i).k≠5)/\w5.heap.size<=po.heap.size/\Sr F ts po k4 rs s1/\aF po k5 29 (l10.v::nf root.b.k root.b.nm root.b.ini root.b.dft xe xl xm xk root.b.a)/\ay [] w po/\ChR true 15 po (Fr w5.heap.size) ⟨acc,root⟩ l10 (nf root.b.k root.b.nm root.b.ini root.b.dft xe xl xm xk root.b.a),?_,fun tW qm _ _=>?_⟩
   ·rintro b1 l39 i87 UY Y8 s18 l40 l41 l42 l43 i88 l44 i89 i90 i91 i92 i93 i94 i95 i96 po ⟨rfl,z25,a1,a2,a3,a4⟩;unfold Hf;refine⟨fun hb=>(su a1).mono ?_,fun hb=>?_⟩
    ·rw[if_pos (aQ hb)];rintro _ qT ⟨rfl,h26⟩;obtain⟨b1,b2,b3,b4⟩:=st a1 a2 a3 a4 h26;have z26:=h26.o.size;exact⟨rfl,sm3 z25 h26.o (by simp),rs,_,_,_,_,_,_,_,_,b1.blk,l10,_,_,_,_,xe,xl,xm,xk,_,b2,by omega,b1,b2,b3,b4⟩
    ·rw[if_neg (aU hb)];exact⟨z25,a1,a2,a3,a4⟩
   ·have z27:=qm.size;obtain⟨a1,a2,a3,a4⟩:=st r19 Qw ajE c19 (r19.dn.q qm);refine(mF a1).mono ?_;rintro _ wY ⟨rfl,tY⟩;obtain⟨b1,b2,b3,b4⟩:=st a1 a2 a3 a4 (a1.dn.q tY);have z28:=tY.size;obtain⟨ad,g1,g2⟩:=b1.now;refine⟨_,rfl,sm3 (by omega) tY (by simp),rs,_,_,_,_,_,_,_,_,b1.blk,l10,_,_,_,_,xe,xl,xm,xk,_,b2,fun hb=>⟨ad,g1,_,g2.ec 0 _ rfl,?_,by omega,b1,b2,b3,b4⟩,fun hb=>⟨?_,by omega,b1,b2,b3,b4⟩⟩
    ·have hb:s1.fc=0:=by simpa using hb
     rw[bI];simp[hb]
    ·have hb:¬s1.fc=0:=by simpa using hb
     simp[hb]
def Bu(w:av)(b k:Nat):Prop:=∃n c,w.cell? ⟨b,1,none⟩=some (.slice (some ⟨k,0,none⟩) n c)
structure Mw (f:Bool) (b:Nat) (w w':av):Prop where
 o:aD (fun k=>k=b∨(f=false/\Bu w b k)) w w'
 u:∀k,Bu w' b k->Bu w b k∨(f=false/\w.heap.size<=k)
abbrev St:=Bool×Int
structure Qz (w0:av) (b:Nat) (w:av) (l:aH) (st:St):Prop where
 o:ay [] w0 w
 lo:w0.heap.size<=b
 ex:∃(q:Option Addr) (sl:Sl),(q=none∨q=some ⟨b,0,none⟩)/\aF w b 72 [ae q,sl.v,aj st.1,O U st.2]/\Bf w (b+1) sl l
 i:st.1=false->0<=st.2/\st.2<=400
 big:l.length<=274877906944
structure Up (st:St) (c:Bool) (n:Nat) (cE:St):Prop where
 w:cE.1=((st.1||!c)||decide (400<st.2+n))
 a:cE.1=false->cE.2=st.2+n
theorem or3{a b c:Bool}(h:false=((a||!b)||c)):a=false/\b=true/\c=false:=by
 revert h;cases a<;>cases b<;>cases c<;>decide
theorem Up.ok{st cE:St}{c:Bool}{n:Nat}(h:Up st c n cE)(e:cE.1=false):st.1=false/\c=true/\cE.2=st.2+n/\¬400<st.2+(n:Int):=by
 obtain⟨a,b,d⟩:=or3 (e.symm.trans h.w);exact⟨a,b,h.a e,aU d⟩
theorem Up.tr{st cE Ye:St}{c c':Bool}{n n':Nat}(h:Up st c n cE)(k:Up cE c' n' Ye):Up st (c&&c') (n+n') Ye:=by
 cases e:Ye.1 with
 | false=>
  obtain⟨k1,k2,k3,k4⟩:=k.ok e;obtain⟨h1,h2,h3,h4⟩:=h.ok k1;have h5:¬400<st.2+((n+n':Nat):Int):=by omega
  refine⟨?_,fun _=>by omega⟩;rw[e,h1,h2,k2,bn h5];rfl
 | true=>
  refine⟨?_,fun e2=>by rw[e]at e2;cases e2⟩;rw[e];refine Eq.symm (bC fun hn=>?_);obtain⟨a1,a2,a3⟩:=or3 (gr.2 hn).symm;rw[aP]at a2;have a3:=aU a3;have h5:¬400<st.2+(n:Int):=by omega
  have e1:cE.1=false:=by rw[h.w,a1,a2.1,bn h5];rfl
  have e2:=h.a e1;have h6:¬400<cE.2+(n':Int):=by omega
  have:=k.w;rw[e,e1,a2.2,bn h6]at this;cases this
theorem Up.cg{st cE:St}{c c':Bool}{n n':Nat}(h:Up st c n cE)(e:c=c')(en:n=n'):Up st c' n' cE:=by subst e en;exact h
theorem Up.le{st cE:St}{c:Bool}{n:Nat}(h:Up st c n cE)(h0:st.1=false->0<=st.2)(e:cE.1=false):0<=cE.2/\cE.2<=400:=by
 obtain⟨a,b,d,h2⟩:=h.ok e;have:=h0 a;omega
section
variable {f g:Bool} {w0 ws w w' w1 rn:av} {b k:Nat} {l l':aH} {st cE:St} {ks ks':List Nat}
theorem Mw.refl(f:Bool)(b:Nat)(w:av):Mw f b w w:=⟨OnlyP.refl _ _,fun _ h=>.inl h⟩
theorem Mw.trans(h:Mw f b w w')(k:Mw f b w' rn):Mw f b w rn:=by
 have z:=h.o.size;refine⟨h.o.trans k.o fun x hx=>?_,fun x hx=>?_⟩
 ·rcases hx with hx | ⟨ef,hx⟩
  ·exact .inl (.inl hx)
  ·rcases h.u x hx with e | ⟨_,e⟩
   ·exact .inl (.inr ⟨ef,e⟩)
   ·exact .inr e
 ·rcases k.u x hx with e | ⟨ef,e⟩
  ·exact h.u x e
  ·exact .inr ⟨ef,by omega⟩
theorem Mw.up(h:Mw f b w w'):Mw false b w w':=⟨h.o.mono fun k _ hk=>hk.elim .inl fun e=>.inr ⟨rfl,e.2⟩,fun k hk=>(h.u k hk).elim .inl fun e=>.inr ⟨rfl,e.2⟩⟩
theorem Mw.only1(h:Mw true b w w'):ay [b] w w':=h.o.acj fun k hk=>hk.elim (fun e=>.inl (by rw[e];simp)) fun e=>(by cases e.1)
theorem vE(h:w'.heap[b]? =w.heap[b]?){k:Nat}(hb:Bu w' b k):Bu w b k:=by
 obtain⟨n,c,hc⟩:=hb;refine⟨n,c,?_⟩;unfold World.cell? at hc⊢;rw[h]at hc;exact hc
theorem Qz.lb(h:Qz w0 b w l st):b<w.heap.size:=by
 obtain⟨q,sl,_,hB,_⟩:=h.ex;exact hB.lt
theorem Qz.arg(h:Qz w0 b w l st)(h':Qz w0 b w' l' cE){k:Nat}(hk:k<w0.heap.size):w'.heap[k]? =w.heap[k]? :=(h'.o.block k hk (by simp)).trans (h.o.block k hk (by simp)).symm
theorem Mw.only(hb:b<w.heap.size)(h:ay [] w w'):Mw f b w w':=⟨h.p0,fun k hk=>.inl (vE (h.block b hb (by simp)) hk)⟩
theorem Jx{q v2 v3:aw}{t:TypeId}{sl:Sl}(hB:aF w b t [q,sl.v,v2,v3]){k:Nat}(h:Bu w b k):sl.a=some ⟨k,0,none⟩:=by
 obtain⟨n,c,hc⟩:=h;have:=Blk.ec hB 1 rfl 0 sl.v rfl;have e:(Addr.add ⟨b,0,none⟩ 1).add 0=⟨b,1,none⟩:=by simp[Addr.add]
 rw[e,hc]at this;have:(Value.slice (some ⟨k,0,none⟩) n c)=.slice sl.a sl.n sl.c:=Option.some.inj this;injection this with e1 _ _;exact e1.symm
theorem Fm{q v2 v3:aw}{t:TypeId}{sl:Sl}(hB:aF w b t [q,sl.v,v2,v3]){k:Nat}(h:sl.a=some ⟨k,0,none⟩):Bu w b k:=by
 have:=Blk.ec hB 1 rfl 0 sl.v rfl;have e:(Addr.add ⟨b,0,none⟩ 1).add 0=⟨b,1,none⟩:=by simp[Addr.add]
 rw[e]at this;refine⟨sl.n,sl.c,?_⟩;rw[this,<-h]
theorem Qz.bu(h:Qz w0 b w l st){k:Nat}(hk:Bu w b k):b<k/\k<w.heap.size:=by
 obtain⟨q,sl,_,hB,hb⟩:=h.ex;have:=hb.lt (Jx hB hk);omega
theorem Qz.only(h:Qz w0 b w l st)(hO:ay [] w w'):Qz w0 b w' l st:=by
 obtain⟨q,sl,hq,hB,hb⟩:=h.ex;exact⟨h.o.cd hO,h.lo,⟨q,sl,hq,hO.blk hB (by simp),hb.keep fun g _ hl=>hO.block g hl (by simp)⟩,h.i,h.big⟩
structure Zq (f:Bool) (w0 ws:av) (b:Nat) (w:av) (l:aH) (st:St) (ks:List Nat):Prop extends Qz w0 b w l st where
 m:Mw f b ws w
 k:∀k,k∈ks->k<w.heap.size/\k≠b/\¬Bu w b k
theorem Qz.z(f:Bool)(h:Qz w0 b w l st):Zq f w0 w b w l st []:=⟨h,Mw.refl f b w,fun k hk=>(by cases hk)⟩
theorem Zq.q(t:Zq f w0 ws b w l st ks)(hO:ay [] w w'):Zq f w0 ws b w' l st ks:=by
 have hb:=t.toQz.lb;refine⟨t.toQz.only hO,t.m.trans (Mw.only hb hO),fun k hk=>?_⟩;obtain⟨h1,h2,h3⟩:=t.k k hk;exact⟨cD h1 hO.size,h2,fun h=>h3 (vE (hO.block b hb (by simp)) h)⟩
theorem Zq.al(t:Zq f w0 ws b w l st ks)(hO:ay [] w w')(h1:w.heap.size<=k)(h2:k<w'.heap.size):Zq f w0 ws b w' l st (k::ks):=by
 have hb:=t.toQz.lb;have t':=t.q hO;refine⟨t'.toQz,t'.m,fun x hx=>?_⟩;rcases aY.1 hx with rfl | hx
 ·exact⟨h2,by omega,fun h=>by have:=(t.toQz.bu (vE (hO.block b hb (by simp)) h)).2;omega⟩
 ·exact t'.k x hx
theorem Zq.nx(t:Zq f w0 ws b w l st ks)(p:Qz w0 b w' l' cE)(m:Mw f b w w'):Zq f w0 ws b w' l' cE ks:=by
 refine⟨p,t.m.trans m,fun k hk=>?_⟩;obtain⟨h1,h2,h3⟩:=t.k k hk;exact⟨cD h1 m.o.size,h2,fun h=>(m.u k h).elim h3 fun e=>by have:=e.2;omega⟩
theorem Zq.sq(t:Zq f w0 ws b w l st ks)(hO:ay [] w w')(hk:∀k,k∈ks'->k∈ks):bS ks' w w':=hO.same fun x hx=>⟨(t.k x (hk x hx)).1,by simp⟩
theorem Zq.sm(t:Zq f w0 ws b w l st ks)(m:Mw g b w w')(hk:∀k,k∈ks'->k∈ks):bS ks' w w':=m.o.same fun x hx=>⟨(t.k x (hk x hx)).1,fun h=>h.elim (t.k x (hk x hx)).2.1 fun e=>(t.k x (hk x hx)).2.2 e.2⟩
theorem Zq.sj(t:Zq f w0 ws b w l st ks)(hz:w.heap.size<=w1.heap.size)(h:aD (fun k=>w.heap.size<=k) w1 w')(hk:∀k,k∈ks'->k∈ks):bS ks' w1 w':=h.same fun x hx=>by
 have:=(t.k x (hk x hx)).1;exact⟨by omega,by omega⟩
theorem Zq.row(t:Zq true w0 ws b w l st ks)(hb:b<ws.heap.size)(hu:∀k,Bu ws b k->k<ws.heap.size)(hO:aD (fun k=>ws.heap.size<=k) w w'):Zq true w0 ws b w' l st ks:=by
 have hB:=t.toQz.lb;have hlo:=t.lo;have Zv:∀k,Bu w b k->Bu ws b k:=fun k hk=>(t.m.u k hk).elim id fun e=>(by cases e.1)
 have Mp:=hO.block b hB (by omega);obtain⟨q,sl,hq,hBl,hbf⟩:=t.ex;refine⟨⟨⟨hO.os.trans t.o.os,hO.tape.trans t.o.tape,hO.output.trans t.o.output,bh t.o.size hO.size,fun k hk _=>(hO.block k (cD hk t.o.size) (by omega)).trans (t.o.block k hk (by simp))⟩,hlo,⟨q,sl,hq,Mp.trans hBl,hbf.keep fun g hg hl=>hO.block g hl fun e=>(by have:=hu g (Zv g (Fm hBl hg));omega)⟩,t.i,t.big⟩,⟨t.m.o.trans hO fun k hk=>.inr hk,fun k hk=>.inl (Zv k (vE Mp hk))⟩,fun k hk=>?_⟩;obtain⟨h1,h2,h3⟩:=t.k k hk;exact⟨cD h1 hO.size,h2,fun h=>h3 (vE Mp h)⟩
theorem bO.of{ks:List Nat}(h:bS ks w w'):bO (fun k=>k∈ks) w w':=fun k hk _=>h k hk
theorem sw{w2:av}(h1:ay [] w w1)(h2:aD (fun k=>w.heap.size<=k) w1 w2):ay [] w w2:=(h1.wT h2).only fun _ h=>h
end
theorem N9(w:av)(ws:List (aH)){n:Nat}{parts:Array (Nat×aw)}(hp:parts=(((ws.map fun x=>Value.string (T x)).zipIdx 0).map fun x=>(x.2,x.1)).toArray)(hn:ws.length=n)(h0:0<n)(tT:n*1<=16777216):
  ∃(q:Sl) (w1:av) (g:Nat) (cs:aI),(au 52 n parts).run aq w=.ok q.v w1/\ay [] w w1/\w.heap.size<=g/\g<w1.heap.size/\aF w1 g 9 cs/\
   ∀(i:Nat) x,ws[i]? =some x->dl q (i:Int) 1 ⟨g,i,none⟩/\∀w',aF w' g 9 cs->aB w' ⟨g,i,none⟩ [ab (T x)]:=by
 obtain⟨q,w1,k1,k2,k3⟩:=jd w ws hp hn h0 tT;rcases k2 with⟨_,e⟩ | ⟨g,css,tail,a1,a2,a4,a5,a6,a7,a9,a8⟩
 ·subst e;simp at hn;omega
 ·have Ti:=Hn a8;refine⟨q,w1,g,_,k1,k3,a2,a4.lt,a4,fun i x hx=>⟨⟨⟨g,0,none⟩,a1,ba i,?_,?_⟩,fun w' hB=>Blk.UQ hB i ?_⟩⟩
  ·have:=(bc.1 hx).1;omega
  ·rw[fZ,aX,uT,bD]
  ·have:(ws.map fun x=>Value.string (T x))[i]? =some (ab (T x)):=by rw[cX,hx];rfl
   rw[Ti,bJ (bc.1 this).1,this]
section
variable {w0 w:av} {b:Nat} {l:aH} {st:St}
theorem Hp(b j:Nat):(Addr.add ⟨b,0,none⟩ j:Addr)=⟨b,j,none⟩:=by rw[fZ,bD]
theorem Qz.set(h:Qz w0 b w l st):∃(q:Option Addr) (sl:Sl),aF w b 72 [ae q,sl.v,aj st.1,O U st.2]/\
  ∀(w':av) (cE:St),ay [b] w w'->aF w' b 72 [ae q,sl.v,aj cE.1,O U cE.2]->(cE.1=false->0<=cE.2/\cE.2<=400)->Qz w0 b w' l cE/\Mw true b w w':=by
 obtain⟨q,sl,hq,hB,hb⟩:=h.ex;refine⟨q,sl,hB,fun w1 Ku cn pD hi=>⟨⟨⟨cn.os.trans h.o.os,cn.tape.trans h.o.tape,cn.output.trans h.o.output,bh h.o.size cn.size,fun k hk _=>(cn.block k (cD hk h.o.size) (by have:=h.lo;simp;omega)).trans (h.o.block k hk (by simp))⟩,h.lo,⟨q,sl,hq,pD,hb.keep fun g hg hl=>cn.block g hl (by have:=(hb.lt hg).1;simp;omega)⟩,hi,h.big⟩,?_⟩⟩;exact⟨cn.p fun x hx=>.inl (.inl (by simpa using hx)),fun k hk=>.inl (Fm hB (Jx pD hk))⟩
theorem Qz.WQ(h:Qz w0 b w l st):Up st true 0 st:=by
 refine⟨?_,fun _=>by simp⟩;cases e:st.1
 ·have:=(h.i e).2;have h2:¬400<st.2+((0:Nat):Int):=by omega
  rw[bn h2];rfl
 ·rfl
theorem Jy{q:Option Addr}{sl:Sl}{wr:Bool}{ac:Int}(hB:aF w b 72 [ae q,sl.v,aj wr,O U ac])(ok:Bool):az aq 37 #[rp b,aj ok] w fun e w'=>
  e=ak (ai #[])/\ay [b] w w'/\aF w' b 72 [ae q,sl.v,aj (wr||!ok),O U ac]:=by
 refine ret (aa3 _ _ _ _ ?_);exact⟨wr,Blk.ec hB 2 rfl,b,2,_,_,Hp b 2,hB,by simp,fun w1 cn pD=>⟨rfl,cn,pD⟩⟩
theorem jW(h:Qz w0 b w l st)(ok:Bool):az aq 37 #[rp b,aj ok] w fun e w'=>e=ak (ai #[])/\∃cE,Up st ok 0 cE/\Qz w0 b w' l cE/\Mw true b w w':=by
 obtain⟨q,sl,hB,F4⟩:=h.set;refine(Jy hB ok).mono ?_;rintro _ w1 ⟨rfl,cn,pD⟩;have hu:Up st ok 0 (st.1||!ok,st.2):=by
  refine⟨?_,fun e=>by simp⟩;cases e:st.1
  ·have:=(h.i e).2;have h2:¬400<st.2+((0:Nat):Int):=by omega
   rw[bn h2,Bool.or_false]
  ·simp
 exact⟨rfl,_,hu,F4 w1 _ cn pD fun e=>hu.le (fun e=>(h.i e).1) e⟩
theorem mG(h:Qz w0 b w l st)(s:aH)(hs:s.length<9223372036854775807):az aq 39 #[rp b,ab (T s)] w fun e w'=>e=ak (ab (T s))/\∃cE,Up st (cY s) 0 cE/\Qz w0 b w' l cE/\Mw true b w w':=by
 refine ret (aa4 _ _ _ _ ?_);refine(NY s hs).mono ?_;rintro _ w1 ⟨rfl,cn⟩;refine⟨_,rfl,(jW (h.only cn) _).mono ?_⟩;rintro _ w2 ⟨rfl,cE,h1,h2,h3⟩;exact⟨rfl,rfl,cE,h1,h2,(Mw.only h.lb cn).trans h3⟩
theorem Jz(h:Qz w0 b w l st){F:aJ}{x:Ex}{cs:aI}(hx:rE false w F x cs)(hn:Lg x)(hs:zT x<=1759218604441)(hE:Er w0)(hT:Tb w0):
  az aq 157 #[rp b,ah cs.toArray] w fun e w'=>e=ak (ab (T (ta x)))/\∃cE,Up st (pf x) 0 cE/\Qz w0 b w' l cE/\Mw true b w w':=by
 obtain⟨xs,rfl⟩:=eH hx;refine ret (abh _ _ _ _ _ _ _ _ _ ?_);intro k0 w1 gD dQ cn;have t1:=(h.z true).al cn gD dQ;refine(SA ((gz false).keep hx fun k _ bQ=>cn.block k bQ (by simp)) hn hs (hE.only t1.o) (hT.only t1.o)).mono ?_;rintro _ w2 ⟨rfl,cG⟩;have t2:=t1.q cG;refine⟨_,rfl,t1.sq cG (by simp),(jW t2.toQz _).mono ?_⟩;rintro _ w3 ⟨rfl,cE,h1,h2,h3⟩;rw[show ao #[]=T []from rfl,iO]at h1;have e:(!decide (ta x=[]))=pf x:=by unfold pf;rw[decide_not]
 rw[e]at h1;exact⟨rfl,t2.sm h3 (by simp),rfl,cE,h1,h2,(t2.nx h2 h3).m⟩
theorem JA(h:Qz w0 b w l st){F:aJ}{x:Ex}{cs:aI}(hx:rE false w F x cs):
  az aq 158 #[rp b,ah cs.toArray] w fun e w'=>e=ak (ai #[])/\∃cE,Up st (mT x) 0 cE/\Qz w0 b w' l cE/\Mw true b w w':=by
 have ey:∃xs:Sl,cs=j6 x.k x.n x.s x.op xs x.a/\xs.n=x.dj.length:=by
  obtain⟨d,hx⟩:=hx;cases d with
  | zero=>exact hx.elim
  | succ d=>
   obtain⟨sl,h1,h2,_⟩:=hx;exact⟨sl,h1,h2.len⟩
 obtain⟨xs,rfl,hl⟩:=ey;refine ret (abg _ _ _ _ _ _ _ _ _ ?_);intro k0 w1 gD dQ cn;have t1:=(h.z true).al cn gD dQ;refine(jW t1.toQz _).mono ?_;rintro _ w3 ⟨rfl,cE,h1,h2,h3⟩;rw[show ao #[]=T []from rfl,iO,hl]at h1;exact⟨rfl,t1.sm h3 (by simp),rfl,cE,h1,h2,(t1.nx h2 h3).m⟩
theorem JB(h:Qz w0 b w l st):az aq 42 #[rp b] w fun e w'=>e=ak (aj (decide (16384<l.length)))/\w'=w:=by
 refine ret (aa7 _ _ _ ?_);obtain⟨q,sl,hq,hB,hb⟩:=h.ex;refine(Ua _ (fun v w'=>v=O U (l.length:Int)/\w'=w) w ?_).mono ?_
 ·rw[Hp];exact⟨sl,Blk.ec hB 1 rfl,by rw[hb.len],rfl⟩
 ·rintro _ w1 ⟨v,rfl,rfl,rfl⟩;refine⟨_,rfl,?_,rfl⟩;congr 1;rw[bI];simp;omega
end
def C0(a:Ac):Nat:=zT a.x+(a.n.length+1)
def iG:List Ac->Nat
 | []=>0
 | a::l=>C0 a+iG l
theorem qd{a:Ac}:∀{l:List Ac},a∈l->C0 a<=iG l
 | [],h=>by simp at h
 | x::l,h=>by
  rw[iG];rcases aY.1 h with rfl | h
  ·omega
  ·have:=qd h;omega
theorem gV:∀(l:List Ac),l.length<=iG l
 | []=>bd _
 | a::l=>by
  have:=gV l;rw[iG,aR];unfold C0;omega
def DS(l:List (aH)):Nat:=(l.map fun s=>s.length+1).sum
def Fp(m:Mv):Nat:=(iG m.acts+zT m.g)+(DS m.tg+(m.ev.length+1))
theorem C1(x:Ex):(ta x).length<=16384:=by
 by_cases h:ta x=[]
 ·rw[h];exact bd _
 ·obtain⟨h1,h2,h3⟩:=Fg h;refine bC fun hc=>?_;have e:ta x=nY (zR x) x false []:=h2;rw[<-e]at h3;unfold fz at h3;have:cA (ta x)=([],2, -1):=by rw[cA,if_pos (by omega)]
  rw[this,if_pos (by decide)]at h3;exact absurd h3 (show ¬(2:Int)=0 by decide)
theorem qN{s:aH}(h:cY s=true):ne s=true:=by
 unfold cY at h;simp only[aP]at h;have:=(aQ h.1.1.1).1;unfold ne;rw[bn this];rfl
theorem abF{x:Ex}(h:pf x=true):ne (ta x)=true:=by
 unfold ne;rw[bn (aQ h)];rfl
theorem oU{x:aH}(h:ne x=true)(ws:List (aH)):fQ (x::ws)=x++Lib.joinTail [32] (ws.filter ne):=by
 unfold fQ;rw[xh,h,if_pos rfl,Lib.join_cons]
theorem fE(x:aH)(r:List (aH)):Lib.joinTail [32] (x::r)=32::(x++Lib.joinTail [32] r):=by
 unfold Lib.joinTail;rw[bE,cJ];rfl
theorem ml:Lib.joinTail [32] []=[]:=rfl
theorem fF{x:aH}(h:ne x=true)(ws:List (aH)):(x::ws).filter ne=x::ws.filter ne:=by rw[xh,h,if_pos rfl]
theorem Oa(ws:List (aH)):([]::ws).filter ne=ws.filter ne:=by rw[xh,if_neg (by decide)]
def Q0(a:Ac):List (aH):=if a.k=2 then[iR,a.n]else[if a.k=1 then oC else j7,a.n,[61],ta a.x]
theorem Uu{a:Ac}(h:fY a=true):fQ (Q0 a)++[59]=xr a:=by
 unfold fY at h;simp only[aP]at h;obtain⟨⟨h1,h2⟩,h3⟩:=h;unfold Q0 xr;by_cases hk:a.k=2
 ·rw[if_pos hk,if_pos hk,oU (by decide),fF (qN h2),eW,fE,ml];simp
 ·rw[if_neg hk]at h3;have hw:ne (if a.k=1 then oC else j7)=true:=by split<;>decide
  rw[if_neg hk,if_neg hk,oU hw,fF (qN h2),fF (by decide),fF (abF h3),eW,fE,fE,fE,ml];simp
theorem SE(a:Ac):(fQ (Q0 a)).length<=16398+a.n.length:=by
 refine bh (iU _) ?_;have:=C1 a.x;unfold Q0;split
 ·simp only[bE,gW,ck,iI];show 5+1+(a.n.length+1+0)<=_;omega
 ·simp only[bE,gW,ck,iI];have:(if a.k=1 then oC else j7).length<=4:=by split<;>decide
  show _+1+(a.n.length+1+(1+1+(_+1+0)))<=_;omega
section
variable {w0 w:av} {b:Nat} {l:aH} {st:St}
theorem abG(h:Qz w0 b w l st){F:aJ}{a:Ac}{cs:aI}(hx:pC false w F a cs)(hF:∀k,F k->k<w0.heap.size)(hn:Bx a)(hs:C0 a<=1759218604441)(hE:Er w0)(hT:Tb w0):
  az aq 156 #[rp b,ah cs.toArray] w fun e w'=>∃s cE,e=ak (ab (T s))/\s.length<=16400+a.n.length/\(fY a=true->s=xr a)/\Up st (fY a) 0 cE/\Qz w0 b w' l cE/\Mw true b w w':=by
 obtain⟨xc,rfl,hx⟩:=hx;obtain⟨xs,rfl⟩:=eH hx;unfold C0 at hs;refine(abf ⟨b,0,none⟩ a.k (T a.n) a.x.k a.x.n (T a.x.s) a.x.op xs a.x.a a.a (fun v w'=>∃s cE,v=ab (T s)/\s.length<=16400+a.n.length/\(fY a=true->s=xr a)/\Up st (fY a) 0 cE/\Qz w0 b w' l cE/\Mw true b w w') w ?_).mono (by
  rintro e w' ⟨v,rfl,s,cE,rfl,h⟩;exact⟨s,cE,rfl,h⟩)
 intro k0 w1 gD dQ cn;have t1:=(h.z true).al cn gD dQ;obtain⟨q,w2,g,cs,e1,cG,hg1,hg2,lm,cO⟩:=N9 w1 [[],oC,iR,j7] (n:=4) (parts:=#[.mk 0 (ab (ao #[])),.mk 1 (ab (ao #[115,101,116])),.mk 2 (ab (ao #[114,97,105,115,101])),.mk 3 (ab (ao #[101,109,105,116]))]) rfl rfl (by decide) (by decide);have t2:=t1.al cG hg1 hg2;have tail:=SE a;refine⟨q,w2,e1,t1.sq cG (by simp),fun hc=>?_,fun hc=>?_⟩
 ·refine(jW t2.toQz false).mono ?_;rintro _ w3 ⟨rfl,cE,u1,u2,u3⟩;have hk:fY a=false:=by
   unfold fY;have:¬(1<=a.k/\a.k<=3):=by
    simp only[cq,bA]at hc;omega
   rw[bn this];rfl
  exact⟨rfl,t2.sm u3 (by simp),[],cE,rfl,bd _,fun e=>(by rw[hk]at e;cases e),by rw[hk];exact u1,u2,(t2.nx u2 u3).m⟩
 have X4:1<=a.k/\a.k<=3:=by
  simp only[eK,fU]at hc;omega
 have hwd:∀x,[[],oC,iR,j7][a.k.toNat]? =some x->dl q a.k 1 ⟨g,a.k.toNat,none⟩/\∀w',aF w' g 9 cs->aB w' ⟨g,a.k.toNat,none⟩ [ab (T x)]:=fun x hx=>by
  have:=cO _ x hx;rwa[gw (by omega)]at this
 refine⟨fun L5=>?_,fun L5 w8 fj=>?_⟩
 ·have hk:a.k=2:=by simpa using L5
  have hW:Q0 a=[iR,a.n]:=by unfold Q0;rw[if_pos hk]
  refine(JA t2.toQz ((gz false).keep hx fun k hk _=>h.arg t2.toQz (hF k hk))).mono ?_;rintro _ w3 ⟨rfl,Yf,u1,u2,u3⟩;have t3:=t2.nx u2 u3;refine⟨rfl,t2.sm u3 (by simp),fun w4 dI=>⟨fun k=>k∈[k0,g],by simp,?_⟩⟩;have t4:=t3.q dI;obtain⟨y1,y2⟩:=hwd iR (by rw[hk];rfl);have qs:aF w4 g 9 cs:=(t3.sq (ks':=[g]) dI (by simp) g (by simp)).trans ((t2.sm (ks':=[g]) u3 (by simp) g (by simp)).trans lm);refine⟨_,y1,by simp,_,y2 w4 qs,(mG t4.toQz a.n (by omega)).mono ?_⟩;rintro _ w5 ⟨rfl,TC,v1,v2,v3⟩;have t5:=t4.nx v2 v3;obtain⟨q6,w6,e6,dR,_,hj⟩:=BA w5 [iR,a.n] (n:=2) (parts:=#[.mk 0 (ab (T iR)),.mk 1 (ab (T a.n))]) rfl rfl (by decide) (by decide) (by rw[<-hW];omega);have z6:=dR.size;refine⟨_,rfl,t4.sm v3 (by simp),bO.of (t4.sm v3 (by simp)),q6,w6,e6,t5.sq dR (by simp),bO.of (t5.sq dR (by simp)),hj.mono ?_⟩;rintro _ w7 ⟨rfl,L7⟩;have fN:=sw dR L7;have t7:=t5.q fN;have hU:=u1.tr v1;have tU:fY a=(mT a.x&&cY a.n):=by
   unfold fY;rw[if_pos hk,bF X4,bT,Bool.and_comm]
  rw[<-tU]at hU;rw[<-hW];refine⟨_,rfl,t5.sj z6 L7 (by simp),bO.of (t5.sj z6 L7 (by simp)),by rw[bW];omega,fQ (Q0 a)++[59],TC,by rw[show ao #[59]=T [59]from rfl,dZ],by rw[aN,bg];omega,fun tU=>Uu tU,hU,t7.toQz,t7.m⟩
 ·have hk:a.k≠2:=by simpa using L5
  have hW:Q0 a=[if a.k=1 then oC else j7,a.n,[61],ta a.x]:=by unfold Q0;rw[if_neg hk]
  have t8:=t2.q fj;obtain⟨y1,y2⟩:=hwd (if a.k=1 then oC else j7) (by
   by_cases h1:a.k=1
   ·rw[if_pos h1,h1];rfl
   ·rw[if_neg h1,show a.k=3 by omega];rfl)
  have uR:aF w8 g 9 cs:=(t2.sq (ks':=[g]) fj (by simp) g (by simp)).trans lm;refine⟨fun k=>k∈[k0,g],by simp,_,y1,by simp,_,y2 w8 uR,by simp,(mG t8.toQz a.n (by omega)).mono ?_⟩;rintro _ w9 ⟨rfl,Yg,u1,u2,u3⟩;have t9:=t8.nx u2 u3;refine⟨_,rfl,t8.sm u3 (by simp),bO.of (t8.sm u3 (by simp)),(Jz t9.toQz ((gz false).keep hx fun k hk _=>h.arg t9.toQz (hF k hk)) hn (by omega) hE hT).mono ?_⟩;rintro _ dw ⟨rfl,ajI,v1,v2,v3⟩;have t10:=t9.nx v2 v3;obtain⟨Zd,dJ,e11,dY,_,hj⟩:=BA dw [if a.k=1 then oC else j7,a.n,[61],ta a.x] (n:=4) (parts:=#[.mk 0 (ab (T (if a.k=1 then oC else j7))),.mk 1 (ab (T a.n)),.mk 2 (ab (T [61])),.mk 3 (ab (T (ta a.x)))]) rfl rfl (by decide) (by decide) (by rw[<-hW];omega);have Gd:=dY.size;refine⟨_,rfl,t9.sm v3 (by simp),bO.of (t9.sm v3 (by simp)),Zd,dJ,e11,t10.sq dY (by simp),bO.of (t10.sq dY (by simp)),hj.mono ?_⟩;rintro _ eM ⟨rfl,Qx⟩;have fb:=sw dY Qx;have t12:=t10.q fb;have hU:=u1.tr v1;have tU:fY a=(cY a.n&&pf a.x):=by
   unfold fY;rw[if_neg hk,bF X4,bT]
  rw[<-tU]at hU;rw[<-hW];refine⟨_,rfl,t10.sj Gd Qx (by simp),bO.of (t10.sj Gd Qx (by simp)),by rw[bW];omega,fQ (Q0 a)++[59],ajI,by rw[show ao #[59]=T [59]from rfl,dZ],by rw[aN,bg];omega,fun tU=>Uu tU,hU,t12.toQz,t12.m⟩
end
theorem Up.bad{st cE:St}{c c':Bool}{n n':Nat}(h:Up st c n cE)(e:cE.1=true)(hc:c'=true->c=true)(hn:n<=n'):Up st c' n' cE:=by
 refine⟨?_,fun e2=>by rw[e]at e2;cases e2⟩;rw[e];refine Eq.symm (bC fun hk=>?_);obtain⟨a1,a2,a3⟩:=or3 (gr.2 hk).symm;have a3:=aU a3;have:=h.w;rw[e,a1,hc a2,bn (show ¬400<st.2+(n:Int) by omega)]at this;cases this
theorem vF:∀(l m:List Ac),iG (l++m)=iG l+iG m
 | [],m=>by rw[ci];show _=0+_;omega
 | a::l,m=>by rw[cr,iG,iG,vF l m];omega
theorem Wc(a:Ac):ne (xr a)=true:=by
 have:xr a≠[]:=by unfold xr;split<;>simp
 unfold ne;rw[bn this];rfl
theorem Ob:∀l:List Ac,Lib.joinTail [32] ((l.map xr).filter ne)=vB l
 | []=>rfl
 | a::l=>by rw[bE,fF (Wc a),fE,Ob l,vB]
theorem Wd(x y:List (aH)):Lib.joinTail [32] (x++y)=Lib.joinTail [32] x++Lib.joinTail [32] y:=by
 unfold Lib.joinTail;rw[dF,DP]
theorem abH(l:List Ac):fQ ([123]::(l.map xr++[[125]]))=uc l:=by
 rw[oU (by decide),nV,Wd,Ob];rfl
theorem Uv{w:av}{B:Nat}{s:Sl}{ws:List (aH)}(h:Own jB 1 9 B w (fun _=>True) s ws)(x:aH)(hB:B<=w.heap.size)(hm:ws.length<=1073741824):
  ∃y w1,(au 52 1 #[.mk 0 (ab (T x))]).run aq w=.ok (Sl.v y) w1/\ay [] w w1/\∃s' w2,(Builtin.append_ #[52,52] 52 #[Sl.v s,Sl.v y]).run aq w1=.ok (Sl.v s') w2/\
   Own jB 1 9 B w2 (fun _=>True) s' (ws++[x])/\∃gs,ay gs w1 w2/\∀g,g∈gs->s.a=some ⟨g,0,none⟩/\B<=g:=by
 obtain⟨y,w1,e1,cn,s',w2,e2,nt,⟨gs,cG,ur⟩,_⟩:=nG (P:=aq) (t:=52) (ty:=52) (e:=9) (i:=Tryz.t9) (bytes:=16) (size:=1) (v:=ab (T x)) (x:=x) (G:=fun _=>False) (by kernel_rfl) (by kernel_rfl) rfl rfl rfl rfl (by decide) (by decide) (by decide) cZ h hB rfl rfl (fun k hk _=>hk.elim) (by omega);exact⟨y,w1,e1,cn,s',w2,e2,nt.mono cZ fun k _=>trivial,gs,cG,fun g hg=>⟨(ur g hg).1,(ur g hg).2.1⟩⟩
theorem _root_.Go.Kt.Own.PJ{w w':av}{B b:Nat}{s:Sl}{ws:List (aH)}(h:Own jB 1 9 B w (fun _=>True) s ws)(hO:ay [b] w w')(hb:b<B):Own jB 1 9 B w' (fun _=>True) s ws:=by
 rcases h with⟨rfl,rfl⟩ | ⟨g,css,tail,h1,h2,h4,h5,h6,h7,h9,h8⟩
 ·exact .inl ⟨rfl,rfl⟩
 ·have e:∀{l:List (aH)} {css:List (aI)},n9 jB 1 w (fun k=>True/\k≠g) l css->n9 jB 1 w' (fun k=>True/\k≠g) l css:=fun{l}=>by
   induction l with
   | nil=>intro css h;cases css with | nil=>trivial | cons _ _=>exact h
   | cons x l ih=>intro css h;cases css with | nil=>exact h | cons c css=>exact⟨h.1,ih h.2⟩
  exact .inr ⟨g,css,tail,h1,h2,hO.blk h4 (by simp;omega),h5,h6,h7,h9,e h8⟩
theorem Oc{α:Type}{p:α->Bool}{xs:List α}{j:Nat}(h:xs.all p=true):(xs.take j).all p=true:=by
 rw[dT]at h⊢;exact fun x hx=>h x (List.mem_of_mem_take hx)
theorem Fq(ws:List (aH))(x:aH):((ws++[x]).map fun l=>l.length+1).sum=(ws.map fun l=>l.length+1).sum+(x.length+1):=by
 rw[dF,QT];simp
section
variable {w0 w:av} {b:Nat} {l:aH} {st:St}
theorem C2(h:Qz w0 b w l st){F:aJ}{s:Sl}{xs:List Ac}(hx:aA (pC false) 9 w F s xs)(hF:∀k,F k->k<w0.heap.size)(hn:∀a,a∈xs->Bx a)(hs:iG xs<=16777216)(hE:Er w0)(hT:Tb w0):
  az aq 88 #[rp b,s.v] w fun e w'=>∃t cE,e=ak (ab (T t))/\t.length<=16405*iG xs/\(cE.1=false->t=if xs=[]then[]else uc xs)/\Up st (xs.all fY) xs.length cE/\Qz w0 b w' l cE/\Mw true b w w':=by
 refine(abe ⟨b,0,none⟩ s (fun v w'=>∃t cE,v=ab (T t)/\t.length<=16405*iG xs/\(cE.1=false->t=if xs=[]then[]else uc xs)/\Up st (xs.all fY) xs.length cE/\Qz w0 b w' l cE/\Mw true b w w') w ?_).mono (by
  rintro e w' ⟨v,rfl,s,cE,rfl,h⟩;exact⟨s,cE,rfl,h⟩)
 have ey:=hx.len;have hlz:=gV xs;refine⟨fun hc=>?_,fun hc=>?_⟩
 ·have hc:s.n=0:=by have:((s.n:Int))=0:=(by simpa using hc);omega
  have:xs=[]:=bp (by omega);subst this;exact⟨[],st,rfl,bd _,fun _=>(if_pos rfl).symm,h.WQ,h,Mw.refl _ _ _⟩
 have gC:xs≠[]:=fun e=>by
  subst e;have:s.n=0:=ey;rw[this]at hc;exact absurd hc (by decide)
 obtain⟨q,sl,hB,F4⟩:=h.set;refine⟨st.2,Blk.ec hB 3 rfl,b,3,_,_,Hp b 3,hB,by simp,fun w1 cn pD=>⟨_,Blk.ec pD 3 rfl,(Jy (q:=q) (sl:=sl) (wr:=st.1) (ac:=ar U (st.2+(s.n:Int))) pD _).mono ?_⟩⟩;rintro _ w2 ⟨rfl,cG,lm⟩;have hU1:Up st true xs.length (st.1||!decide (ar U (st.2+(s.n:Int))<=400),ar U (st.2+(s.n:Int))):=by
  cases e:st.1
  ·have:=h.i e;have ew:ar U (st.2+(s.n:Int))=st.2+xs.length:=by rw[ey];exact fH (by omega) (by omega)
   rw[ew];refine⟨?_,fun _=>rfl⟩;rw[e];by_cases h4:st.2+(xs.length:Int)<=400
   ·rw[bF h4,bn (by omega)];rfl
   ·rw[bn h4,bF (by omega)];rfl
  ·exact⟨by rw[e];rfl,fun e2=>by cases e2⟩
 obtain⟨h2,tF⟩:=F4 w2 _ (cn.trans cG fun x hx=>.inl hx) lm fun e=>hU1.le (fun e=>(h.i e).1) e;generalize (st.1||!decide (ar U (st.2+(s.n:Int))<=400),ar U (st.2+(s.n:Int)))=Ku at*
 have b2:=h2.lb;have W2:∀k,Bu w2 b k->k<w2.heap.size:=fun k hk=>(h2.bu hk).2;obtain⟨q3,w3,e3,dh,ajJ,_⟩:=BA w2 [[123]] (n:=1) (parts:=#[.mk 0 (ab (T [123]))]) rfl rfl (by decide) (by decide) (by decide);have t3:=(h2.z true).q dh;refine⟨rfl,q3,w3,e3,fun l1 w'=>∃ws cE,Own jB 1 9 w2.heap.size w' (fun _=>True) l1 ws/\ws.length<=16777217/\(ws.map fun l=>l.length+1).sum<=2+16401*iG xs/\(cE.1=false->ws=[123]::xs.map xr)/\Up Ku (xs.all fY) 0 cE/\Zq true w0 w2 b w' l cE [],?_,?_⟩
 ·rintro l1 w4 ⟨ws,Il,Yh,Zf,hws,U7,hU4,t4⟩;have z4:=t4.m.o.size;obtain⟨y,w5,e5,eh,s6,w6,e6,ajK,gs,dR,ur⟩:=Uv Yh [125] z4 (by omega);refine⟨y,w5,e5,s6,w6,e6,?_⟩;have t6:=(t4.q eh).row b2 W2 (dR.p (F:=fun k=>w2.heap.size<=k) fun x hx=>.inl (ur x hx).2);have L8:=Fq ws [125];have xF:=iU (ws++[[125]]);have hl1:([125]:aH).length=1:=rfl;refine(zW ajK (by omega) (by rw[aN,bg];omega)).mono ?_;rintro _ w7 ⟨rfl,L7⟩;have t7:=t6.row b2 W2 L7;have hsz:1<=iG xs:=by
   have:1<=xs.length:=rD.2 gC;omega
  refine⟨_,rfl,fQ (ws++[[125]]),Il,rfl,by omega,fun e=>?_,(hU1.tr hU4).cg (by simp) (by simp),t7.toQz,tF.trans t7.m⟩;rw[if_neg gC,U7 e];exact abH xs
 refine⟨fun nv l1 i w'=>∃(j:Nat) (ws:List (aH)) (cE:St),i=j/\j<=xs.length/\nv=xs.length-j/\Own jB 1 9 w2.heap.size w' (fun _=>True) l1 ws/\ws.length<=j+1/\(ws.map fun l=>l.length+1).sum<=2+16401*iG (xs.take j)/\(cE.1=false->ws=[123]::(xs.take j).map xr)/\Up Ku ((xs.take j).all fY) 0 cE/\Zq true w0 w2 b w' l cE [],
  xs.length,⟨0,[[123]],Ku,rfl,bd _,rfl,ajJ,aW _,aW _,fun _=>rfl,h2.WQ,t3⟩,?_⟩
 rintro nv l4 _ w7 ⟨j,ws,U8,rfl,hj,rfl,TD,Zf,hws,U7,KF,t7⟩;have z7:=t7.m.o.size;have PO:iG xs=iG (xs.take j)+iG (xs.drop j):=by rw[<-vF,fg]
 refine⟨fun hc=>?_,fun hc=>?_⟩
 ·have bQ:(j:Int)<s.n:=aQ hc;have hx7:aA (pC false) 9 w7 F s xs:=SliceF.keep (cF false) hx (by decide) fun k hk _=>h.arg t7.toQz (hF k hk);obtain⟨ad,a,cs,g1,g2,g3,g4,g5,g6⟩:=hx7.get (ba j) bQ;rw[aX]at g2;have ha:=br g2;have nZ:xs.take (j+1)=xs.take j++[a]:=by
   rw[bB,g2];rfl
  have hsa:iG (xs.take (j+1))=iG (xs.take j)+C0 a:=by
   rw[nZ,vF];show _+(C0 a+0)=_;omega
  have amz:iG xs=iG (xs.take (j+1))+iG (xs.drop (j+1)):=by rw[<-vF,fg]
  obtain⟨xc,rfl,hxc⟩:=g6;obtain⟨xl,rfl⟩:=eH hxc;refine⟨ad,g1,_,_,_,_,_,_,_,_,_,g5,fun k5 w8 pv Ij fj=>?_⟩;have t8:=t7.al fj pv Ij;obtain⟨q8,sl8,uR,_⟩:=t8.toQz.set;refine⟨U8.1,Blk.ec uR 2 rfl,fun hw=>?_,fun hw=>?_⟩
  ·have t8':Zq true w0 w2 b w8 l U8 []:=⟨t8.toQz,t8.m,fun k hk=>(by cases hk)⟩
   have Ik:=TD.keep cZ fun k hk bQ=>fj.block k bQ (by simp);exact⟨ws,U8,Ik,by omega,by omega,fun e=>absurd (hw.symm.trans e) (by decide),KF.bad hw Oc (aW _),t8'⟩
  refine(abG t8.toQz ((cF false).keep ⟨_,rfl,hxc⟩ fun k _ bQ=>fj.block k bQ (by simp)) hF (hn a ha) (by have:=qd ha;omega) hE hT).mono ?_;rintro _ w9 ⟨tx,Yg,rfl,hl9,ajM,U9,h9,Zw⟩;have t9:=t8.nx h9 Zw;have ajN:∀g,l4.a=some ⟨g,0,none⟩->w2.heap.size<=g/\g<w7.heap.size:=fun g hg=>by
   rcases TD with⟨rfl,_⟩ | ⟨g',css,tl,a1,a2,a4,_⟩
   ·cases hg
   ·rw[a1]at hg;injection hg with hg;injection hg with hg;subst hg;exact⟨a2,a4.lt⟩
  have ajO:Own jB 1 9 w2.heap.size w9 (fun _=>True) l4 ws:=by
   have o1:=TD.keep cZ (w':=w8) fun k hk bQ=>fj.block k bQ (by simp);refine(o1.mono (G:=fun _=>True) cZ fun _ _=>trivial).PJ Zw.only1 b2
  obtain⟨y,dw,Yi,dM,Kv,dJ,e11,Qv,gs,dY,ur⟩:=Uv ajO tx (bh z7 (bh fj.size Zw.o.size)) (by omega);have t10:=t9.q dM;have t11:=t10.row b2 W2 (dY.p (F:=fun k=>w2.heap.size<=k) fun x hx=>.inl (ur x hx).2);have Kv:bS [k5] dw dJ:=dY.same fun x hx=>by
   have:=(t10.k x (by simpa using hx)).1;refine⟨this,fun hm=>?_⟩;have:=(ajN x (ur x hm).1).2;simp only[aO]at hx;omega
  have L8:=Fq ws tx;refine⟨_,rfl,t8.sm Zw (by simp),y,dw,Yi,t9.sq dM (by simp),_,dJ,e11,Kv,xs.length-(j+1),by omega,j+1,ws++[tx],Yg,by rw[fH (by omega) (by omega)];rfl,by omega,rfl,Qv,by rw[aN,bg];omega,?_,fun e=>?_,(KF.tr U9).cg ?_ rfl,⟨t11.toQz,t11.m,fun k hk=>(by cases hk)⟩⟩
  ·rw[L8,hsa];have:16400+a.n.length+1<=16401*C0 a:=by unfold C0;omega
   omega
  ·obtain⟨e1,e2,_⟩:=U9.ok e;rw[U7 e1,ajM e2,nZ,dF];rfl
  ·rw[nZ,jz];simp
 ·have lR:¬(j:Int)<s.n:=aU hc;have qV:j=xs.length:=by omega
  subst qV;rw[bH (aW _)]at hws U7 KF;exact⟨ws,U8,TD,by omega,hws,U7,KF,t7⟩
end
theorem ahz{w:av}{F:aJ}{s:Sl}{xs:List (aH)}(h:aA jB 1 w F s xs)(sep:aH)(hl:(Lib.join xs sep).length<=140737488355328)(hn:xs.length<=140737488355328):
  az aq 149 #[s.v,ab (T sep)] w fun e w'=>e=ak (ab (T (Lib.join xs sep)))/\ay [] w w':=by
 have ey:=h.len;have nS:=h.cap;obtain⟨sa,sn,sc⟩:=s;dsimp only at ey nS;subst ey;cases xs with
 | nil=>
  refine(Tryz.strings_Join_none sa sc (T sep) w).mono ?_;rintro _ w2 ⟨rfl,rfl⟩;exact⟨rfl,Only.refl _ _⟩
 | cons x xs=>
  obtain⟨base,cs,g1,g2,g3,g4,g5⟩:=h.at_ 0 x rfl;have g1:sa=some base:=g1;unfold jB at g5;subst g5 g1;have h0:=g4 0 _ rfl;have Yj:base.spot=none:=by
   unfold World.cell? at h0;split at h0
   ·split at h0
    ·cases h0
    ·rename_i hs;have e:((base.add (0*1)).add 0).spot=base.spot:=rfl;rw[e]at hs;cases hb:base.spot with
     | none=>rfl
     | some v=>rw[hb]at hs;simp at hs
   ·cases h0
  obtain⟨bk,o,sp⟩:=base;dsimp only at Yj;subst Yj;have bQ:bk<w.heap.size:=by
   have e:((Addr.add ⟨bk,o,none⟩ (0*1)).add 0:Addr)=⟨bk,o,none⟩:=by simp[Addr.add]
   rw[e]at h0;refine bC fun hn=>?_;unfold World.cell? at h0;rw[ft (by dsimp only;omega)]at h0;cases h0
  have:=Tryz.strings_Join bk o sc ((x::xs).map T) (T sep) w (fun j y hj=>by
   rw[cX,eP]at hj;obtain⟨z,hz,rfl⟩:=hj;obtain⟨base,cs,g1,g2,g3,g4,g5⟩:=h.at_ j z hz;unfold jB at g5;subst g5;cases g1;have:=g4 0 _ rfl;have e:((Addr.add ⟨bk,o,none⟩ (j*1)).add 0:Addr)=⟨bk,o+j,none⟩:=by simp[Addr.add]
   rw[e]at this;exact this) bQ (by rw[bZ];omega) (by rw[bZ];omega) (by
   rw[iH];have:((fun x:aK=>x.data.toList)∘T)=id:=rfl;rw[this,Mh];exact hl)
  rw[bZ]at this;refine this.mono ?_;rintro _ w2 ⟨rfl,hB⟩;refine⟨?_,Only.below hB⟩;rw[iH];have:((fun x:aK=>x.data.toList)∘T)=id:=rfl;rw[this,Mh]
theorem JC:∀l:List (aH),Lib.joinTail [44,32] l=Bw l
 | []=>rfl
 | s::l=>by
  unfold Lib.joinTail;rw[bE,cJ];show[44,32]++s++Lib.joinTail [44,32] l=_;rw[JC l];rfl
theorem JD(s:aH)(l:List (aH)):(Lib.join (s::l) [44,32]).length<=2*DS (s::l):=by
 have h1:∀l:List (aH),(Bw l).length<=2*DS l:=fun l=>by
  induction l with
  | nil=>exact bd _
  | cons s l ih=>
   unfold DS at ih⊢;rw[bE,ck,Bw,aR,aR,aN];omega
 rw[Lib.join_cons,JC,aN];have:=h1 l;have e:DS (s::l)=(s.length+1)+DS l:=by unfold DS;rw[bE,ck]
 omega
theorem C3(l:List (aH)):l.length<=DS l:=by
 unfold DS
 induction l with
 | nil=>exact bd _
 | cons s l ih=>rw[bE,ck,aR];omega
theorem C4{s:aH}{l:List (aH)}(h:s∈l):s.length+1<=DS l:=by
 unfold DS
 induction l with
 | nil=>simp at h
 | cons x l ih=>
  rw[bE,ck];rcases aY.1 h with rfl | h
  ·omega
  ·have:=ih h;omega
def Uw(m:Mv):aH:=if m.k=1 then fQ [xL,m.ev]else if m.k=3 then fQ [gJ,Lib.itoa m.wt]else fX
def We(m:Mv):aH:=if m.gd then 91::(ta m.g++[93])else[]
def Mm(m:Mv):aH:=match m.tg with
 | []=>[]
 | s::l=>45::62::32::(s++Bw l)
theorem Fs{n:Int}(h:wa n):(Lib.itoa n).length<=21:=Lib.itoa_length_le n h.1 h.2
theorem SF(n:Int):ne (Lib.itoa n)=true:=by
 have:Lib.itoa n≠[]:=by
  unfold Lib.itoa;split
  ·simp
  ·rw[Lib.decDigits];split<;>simp
 unfold ne;rw[bn this];rfl
theorem Od{m:Mv}(h:j8 m=true):fQ [Uw m,We m,(if m.acts=[]then[]else uc m.acts),Mm m]++[59]=zV m:=by
 unfold j8 at h;simp only[aP]at h;obtain⟨⟨⟨⟨⟨h1,h2⟩,h3⟩,h4⟩,h5⟩,h6⟩:=h;have hh:Uw m=QY m/\ne (Uw m)=true:=by
  unfold Uw QY;by_cases k1:m.k=1
  ·rw[if_pos k1]at h2;rw[if_pos k1,if_pos k1,oU (by decide),fF (qN h2),eW,fE,ml,bL];exact⟨rfl,rfl⟩
  ·rw[if_neg k1,if_neg k1];by_cases k3:m.k=3
   ·rw[if_pos k3,if_pos k3,oU (by decide),fF (SF _),eW,fE,ml,bL];exact⟨rfl,rfl⟩
   ·rw[if_neg k3,if_neg k3];exact⟨rfl,by decide⟩
 rw[oU hh.2,hh.1];unfold zV;rw[be];congr 1;have e1:Lib.joinTail [32] ([We m,(if m.acts=[]then[]else uc m.acts),Mm m].filter ne)=Lh m++((if m.acts=[]then[]else 32::uc m.acts)++(match m.tg with
  | []=>[]
  | s::l=>32::45::62::32::(s++Bw l))):=by
  have eg:∀ws:List (aH),Lib.joinTail [32] ((We m::ws).filter ne)=Lh m++Lib.joinTail [32] (ws.filter ne):=fun ws=>by
   unfold We Lh;cases m.gd
   ·simp only[fR,jb];rw[Oa];rfl
   ·simp only[if_true];rw[fF (by rfl),fE];rfl
  have ea:∀ws:List (aH),Lib.joinTail [32] (((if m.acts=[]then[]else uc m.acts)::ws).filter ne)=(if m.acts=[]then[]else 32::uc m.acts)++Lib.joinTail [32] (ws.filter ne):=fun ws=>by
   by_cases ha:m.acts=[]
   ·rw[if_pos ha,if_pos ha,Oa];rfl
   ·rw[if_neg ha,if_neg ha,fF (by rfl),fE];rfl
  rw[eg,ea];congr 2;unfold Mm;cases m.tg with
  | nil=>rfl
  | cons s l=>
   rw[fF (by rfl),fE,eW,ml,bL]
 rw[e1];simp only[be]
 all_goals rfl
theorem mvB(m:Mv):((((if m.k=1 then cY m.ev else if m.k=3 then decide (0<=m.wt)else decide (m.k=2))&&((decide (m.ev=[])||(m.k==1))&&((m.wt==0)||(m.k==3))))&&(if m.gd then pf m.g else mT m.g))&&(m.tg.all cY&&m.acts.all fY))=j8 m:=by
 unfold j8;generalize (if m.gd then pf m.g else mT m.g)=A;generalize m.tg.all cY=B;generalize m.acts.all fY=C;generalize cY m.ev=D;by_cases k1:m.k=1
 ·rw[if_pos k1,if_pos k1,k1];cases D<;>cases A<;>cases B<;>cases C<;>by_cases hw:m.wt=0<;>simp[hw]
 ·rw[if_neg k1,if_neg k1];by_cases k3:m.k=3
  ·rw[if_pos k3,k3];cases A<;>cases B<;>cases C<;>by_cases he:m.ev=[]<;>by_cases hw:m.wt=0<;>by_cases hp:0<m.wt<;>simp[hw,he,hp]<;>omega
  ·rw[if_neg k3];by_cases k2:m.k=2
   ·rw[k2];cases A<;>cases B<;>cases C<;>by_cases he:m.ev=[]<;>by_cases hw:m.wt=0<;>simp[hw,he]
   ·have:¬(1<=m.k/\m.k<=3):=by omega
    rw[bn this,bn k2];simp
section
variable {w0 w:av} {b:Nat} {l:aH} {st:St}
theorem Wf(h:Qz w0 b w l st){F:aJ}{m:Mv}{cs:aI}(hx:yq false w F m cs)(hF:∀k,F k->k<w0.heap.size)(hn:MC m)(hs:Fp m<=16777216)(hE:Er w0)(hT:Tb w0):
  az aq 89 #[rp b,ah cs.toArray] w fun e w'=>∃t cE,e=ak (ab (T t))/\t.length<=16450*Fp m/\(cE.1=false->t=zV m)/\Up st (j8 m) m.acts.length cE/\Qz w0 b w' l cE/\Mw true b w w':=by
 obtain⟨gc,qU,tg,rfl,hg,Gj,AB⟩:=hx;obtain⟨gl,rfl⟩:=eH hg;have Gj:=Gj.1;have AB:=AB.1;have hsz:=hs;unfold Fp at hsz;refine(abl ⟨b,0,none⟩ m.k (T m.ev) m.wt m.gd m.g.k m.g.n (T m.g.s) m.g.op gl m.g.a qU tg m.a (fun v w'=>∃t cE,v=ab (T t)/\t.length<=16450*Fp m/\(cE.1=false->t=zV m)/\Up st (j8 m) m.acts.length cE/\Qz w0 b w' l cE/\Mw true b w w') w ?_).mono (by
  rintro e w' ⟨v,rfl,s,cE,rfl,h⟩;exact⟨s,cE,rfl,h⟩)
 intro k0 w1 gD dQ cn;have t1:=(h.z true).al cn gD dQ;have Kr:=AB.len;have htn:=C3 m.tg;refine⟨fun s0 w'=>∃hd cE,s0=T hd/\hd.length<=30+m.ev.length/\(cE.1=false->hd=Uw m)/\Up st (if m.k=1 then cY m.ev else if m.k=3 then decide (0<=m.wt)else decide (m.k=2)) 0 cE/\Zq true w0 w b w' l cE [k0],?_,fun hc=>?_,fun hc=>⟨fun TE=>?_,fun TE=>?_⟩⟩
 ·rintro _ w2 ⟨hd,xE,rfl,wi,hdt,Zx,t2⟩;refine(jW t2.toQz _).mono ?_;rintro _ w3 ⟨rfl,Yf,u1,u2,u3⟩;have t3:=t2.nx u2 u3;have hU3:=Zx.tr u1;rw[show ao #[]=T []from rfl,iO]at hU3;refine⟨rfl,t2.sm u3 (by simp),fun s1 w'=>∃gt cE,s1=T gt/\gt.length<=16386/\(cE.1=false->gt=We m)/\Up Yf (if m.gd then pf m.g else mT m.g) 0 cE/\Zq true w0 w b w' l cE [k0],?_,fun Ro=>?_,fun Ro=>?_⟩
  ·rintro _ w4 ⟨gt,Il,rfl,gtl,gtt,hU4,t4⟩;refine⟨fun nv i w'=>∃(j:Nat) (cE:St),i=j/\j<=m.tg.length/\nv=m.tg.length-j/\Up Il ((m.tg.take j).all cY) 0 cE/\Zq true w0 w b w' l cE [k0],m.tg.length,⟨0,Il,rfl,bd _,rfl,t4.toQz.WQ,t4⟩,?_⟩;rintro nv _ w5 ⟨j,TC,rfl,hj,rfl,Yk,t5⟩;have ad7:aA jB 1 w5 F tg m.tg:=SliceF.keep cZ AB (by decide) fun k hk _=>h.arg t5.toQz (hF k hk);refine⟨fun hc=>?_,fun hc=>?_⟩
   ·have bQ:(j:Int)<tg.n:=aQ hc;obtain⟨ad,x,cs,g1,g2,g3,g4,g5,g6⟩:=ad7.get (ba j) bQ;rw[aX]at g2;unfold jB at g6;subst g6;have hxm:=C4 (br g2);refine⟨ad,g1,_,g5,(mG t5.toQz x (by omega)).mono ?_⟩;rintro _ w6 ⟨rfl,st6,v1,v2,v3⟩;refine⟨_,rfl,t5.sm v3 (by simp),m.tg.length-(j+1),by omega,j+1,st6,by rw[fH (by omega) (by omega)];rfl,by omega,rfl,(Yk.tr v1).cg ?_ rfl,t5.nx v2 v3⟩;rw[bB,g2,jz];simp
   ·have lR:¬(j:Int)<tg.n:=aU hc;have qV:j=m.tg.length:=by omega
    subst qV;rw[bH (aW _)]at Yk;refine⟨fun s4 w'=>s4=T (Mm m)/\Zq true w0 w b w' l TC [k0],?_,fun hc=>?_,fun hc=>?_⟩
    ·rintro _ w7 ⟨rfl,t7⟩;refine(C2 t7.toQz (SliceF.keep (cF false) Gj (by decide) fun k hk _=>h.arg t7.toQz (hF k hk)) hF hn.a (by omega) hE hT).mono ?_;rintro _ w8 ⟨bt,Yl,rfl,btl,btt,hU8,v2,v3⟩;have t8:=t7.nx v2 v3;have apC:(Mm m).length<=3+2*DS m.tg:=by
      unfold Mm;cases hm:m.tg with
      | nil=>exact bd _
      | cons s l=>
       have:=JD s l;rw[Lib.join_cons,JC]at this;rw[aR,aR,aR];omega
     have xF:=iU [hd,gt,bt,Mm m];simp only[bE,gW,ck,iI]at xF;have Ks:Fp m=(iG m.acts+zT m.g)+(DS m.tg+(m.ev.length+1)):=rfl;obtain⟨q9,w9,e9,fT,_,hj9⟩:=BA w8 [hd,gt,bt,Mm m] (n:=4) (parts:=#[.mk 0 (ab (T hd)),.mk 1 (ab (T gt)),.mk 2 (ab (T bt)),.mk 3 (ab (T (Mm m)))]) rfl rfl (by decide) (by decide) (by omega);have z9:=fT.size;refine⟨_,rfl,t7.sm v3 (by simp),q9,w9,e9,t8.sq fT (by simp),hj9.mono ?_⟩;rintro _ dw ⟨rfl,aeb⟩;have t10:=t8.q (sw fT aeb);have hU:=(hU3.tr hU4).tr (Yk.tr hU8);refine⟨_,rfl,t8.sj z9 aeb (by simp),by rw[bW];omega,fQ [hd,gt,bt,Mm m]++[59],Yl,by rw[show ao #[59]=T [59]from rfl,dZ],by rw[aN,bg];omega,fun e=>?_,hU.cg ?_ (by omega),t10.toQz,t10.m⟩
     ·obtain⟨x5,x8,_⟩:=hU8.ok e;obtain⟨x4,x5',_⟩:=Yk.ok x5;obtain⟨x3,x4',_⟩:=hU4.ok x4;obtain⟨x2,x3',_⟩:=u1.ok x3;obtain⟨x1,x2',_⟩:=Zx.ok x2;rw[hdt x2,gtt x4,btt e];refine Od ?_;obtain⟨_,y,_⟩:=hU.ok e;exact(mvB m).symm.trans y
     ·exact mvB m
    ·have Ts:m.tg≠[]:=fun e=>by
      rw[e]at Kr;have:tg.n=0:=Kr;rw[this]at hc;exact absurd hc (by decide)
     have xF:(Lib.join m.tg [44,32]).length<=2*DS m.tg:=by
      cases hm:m.tg with
      | nil=>exact absurd hm Ts
      | cons s l=>exact JD s l
     refine(ahz ad7 [44,32] (by omega) (by omega)).mono ?_;rintro _ w7 ⟨rfl,fN⟩;refine⟨_,rfl,t5.sq fN (by simp),by rw[bW];omega,?_,t5.q fN⟩;rw[show ao #[45,62,32]=T [45,62,32]from rfl,dZ];congr 1;unfold Mm;cases hm:m.tg with
     | nil=>exact absurd hm Ts
     | cons s l=>
      rw[Lib.join_cons,JC];rfl
    ·have hz:m.tg=[]:=bp (by have:=aU hc;omega);refine⟨?_,t5⟩;unfold Mm;rw[hz]
  ·refine(Jz t3.toQz ((gz false).keep hg fun k hk _=>h.arg t3.toQz (hF k hk)) hn.g (by omega) hE hT).mono ?_;rintro _ w4 ⟨rfl,Il,v1,v2,v3⟩;have t4:=t3.nx v2 v3;have:=C1 m.g;refine⟨_,rfl,t3.sm v3 (by simp),by rw[bW];omega,?_,91::(ta m.g++[93]),Il,?_,by simp;omega,fun _=>by unfold We;rw[if_pos Ro],by rw[if_pos Ro];exact v1,t4⟩
   ·rw[show ao #[91]=T [91]from rfl,dZ,bW,aN,bg];omega
   ·rw[show ao #[91]=T [91]from rfl,show ao #[93]=T [93]from rfl,dZ,dZ];rfl
  ·refine(JA t3.toQz ((gz false).keep hg fun k hk _=>h.arg t3.toQz (hF k hk))).mono ?_;rintro _ w4 ⟨rfl,Il,v1,v2,v3⟩;exact⟨rfl,t3.sm v3 (by simp),[],Il,rfl,bd _,fun _=>by unfold We;rw[if_neg (by rw[Ro];decide)],by rw[if_neg (by rw[Ro];decide)];exact v1,t3.nx v2 v3⟩
 ·have hk:m.k=1:=by simpa using hc
  refine(mG t1.toQz m.ev (by omega)).mono ?_;rintro _ w2 ⟨rfl,xE,v1,v2,v3⟩;have t2:=t1.nx v2 v3;have xF:=iU [xL,m.ev];simp only[bE,gW,ck,iI]at xF;have hw:xL.length=2:=rfl;obtain⟨q3,w3,e3,dh,_,Ra⟩:=BA w2 [xL,m.ev] (n:=2) (parts:=#[.mk 0 (ab (T xL)),.mk 1 (ab (T m.ev))]) rfl rfl (by decide) (by decide) (by omega);have z3:=dh.size;refine⟨_,rfl,t1.sm v3 (by simp),q3,w3,e3,t2.sq dh (by simp),Ra.mono ?_⟩;rintro _ w4 ⟨rfl,Va⟩;exact⟨_,rfl,t2.sj z3 Va (by simp),_,xE,rfl,by omega,fun _=>by unfold Uw;rw[if_pos hk],by rw[if_pos hk];exact v1,t2.q (sw dh Va)⟩
 ·have kg:m.k≠1:=by simpa using hc
  have hk:m.k=3:=by simpa using TE
  refine(jW t1.toQz _).mono ?_;rintro _ w2 ⟨rfl,xE,v1,v2,v3⟩;have t2:=t1.nx v2 v3;refine⟨rfl,t1.sm v3 (by simp),(yt m.wt hn.w (hT.only t2.o)).mono ?_⟩;rintro _ w3 ⟨rfl,dh⟩;have t3:=t2.q dh;have xF:=iU [gJ,Lib.itoa m.wt];simp only[bE,gW,ck,iI]at xF;have hw:gJ.length=5:=rfl;have hil:=Fs hn.w;obtain⟨q4,w4,e4,dI,_,hj4⟩:=BA w3 [gJ,Lib.itoa m.wt] (n:=2) (parts:=#[.mk 0 (ab (T gJ)),.mk 1 (ab (T (Lib.itoa m.wt)))]) rfl rfl (by decide) (by decide) (by omega);have z4:=dI.size;refine⟨_,rfl,t2.sq dh (by simp),q4,w4,e4,t3.sq dI (by simp),hj4.mono ?_⟩;rintro _ w5 ⟨rfl,hP5⟩;exact⟨_,rfl,t3.sj z4 hP5 (by simp),_,xE,rfl,by omega,fun _=>by unfold Uw;rw[if_neg kg,if_pos hk],by rw[if_neg kg,if_pos hk];exact v1,t3.q (sw dI hP5)⟩
 ·have kg:m.k≠1:=by simpa using hc
  have Ky:m.k≠3:=by simpa using TE
  refine(jW t1.toQz _).mono ?_;rintro _ w2 ⟨rfl,xE,v1,v2,v3⟩;have t2:=t1.nx v2 v3;refine⟨rfl,t1.sm v3 (by simp),fX,xE,rfl,by show 6<=_;omega,fun _=>by unfold Uw;rw[if_neg kg,if_neg Ky],by rw[if_neg kg,if_neg Ky];exact v1,t2⟩
end
theorem Oe{w:av}{b:Nat}{q:Option Addr}{v1 v2 v3:aw}(hq:q=none∨q=some ⟨b,0,none⟩)(h:aF w b 72 [ae q,v1,v2,v3]):
  az aq 145 #[ae (some ⟨b,0,none⟩)] w fun e w'=>e=ak (ai #[])/\ay [b] w w'/\aF w' b 72 [ae (some ⟨b,0,none⟩),v1,v2,v3]:=by
 refine ret (Uc _ _ _ ?_);have ri:w.shape? b=some (72,4):=by
  unfold World.shape?;unfold aF at h;rw[h];rfl
 refine⟨q,Blk.ec h 0 rfl,fun hn=>?_,fun hn=>⟨q,Blk.ec h 0 rfl,?_⟩⟩
 ·have hr1:=Lib.run_to_unsafe (P:=aq) (src:=67) (dst:=248) w ⟨b,0,none⟩ (t:=70) (j:=Tryz.t70) (by kernel_rfl) (by kernel_rfl) (by kernel_rfl) (by decide) ri (by decide:(0:Nat)<4);have hr2:=Lib.run_from_unsafe (P:=aq) (src:=248) (dst:=67) w ⟨b,0,none⟩ (u:=70) (j:=Tryz.t70) (by kernel_rfl) (by kernel_rfl) (by kernel_rfl) ri (by kernel_rfl);exact⟨⟨ae (some ⟨b,0,none⟩),rfl⟩,w,hr1,⟨ae (some ⟨b,0,none⟩),rfl⟩,w,Ul _ w,some ⟨b,0,none⟩,w,hr2,b,0,_,_,rfl,h,by simp,fun w3 hO hB=>⟨rfl,hO,hB⟩⟩
 ·rcases hq with rfl | rfl
  ·cases hn
  ·exact⟨false,w,Lib.run_neq_ptr_same w _ (te:=70) (j:=Tryz.t70) (by kernel_rfl) (by kernel_rfl),fun e=>(by cases e),fun _=>⟨rfl,Only.refl _ _,h⟩⟩
section
variable {w0 w:av} {b:Nat} {l:aH} {st:St}
theorem SG(h:Qz w0 b w l st)(m:aH)(hm:l.length+m.length<=274877906944):az aq 82 #[ae (some ⟨b,0,none⟩),ab (T m)] w fun e w'=>
  e=ak (ai #[O U (m.length:Int),.nilIface])/\Qz w0 b w' (l++m) st/\Mw false b w w':=by
 refine ret (Ub _ _ _ _ ?_);obtain⟨q,sl,hq,hB,Vb⟩:=h.ex;refine(Oe hq hB).mono ?_;rintro _ w1 ⟨rfl,ch,Ax⟩;have z0:=ch.size;have hb:=hB.lt;have vX:Bf w1 (b+1) sl l:=Vb.keep fun g hg hl=>ch.block g hl (by have:=(Vb.lt hg).1;simp;omega);obtain⟨s',w2,k1,k2,k3,k4⟩:=yu vX m (by omega) (by omega);have z1:=k3.size;have pD:aF w2 b 72 [ae (some ⟨b,0,none⟩),sl.v,aj st.1,O U st.2]:=k3.blk Ax fun e=>by have:=(vX.lt e).1;omega
 have BZ:∀g,s'.a=some ⟨g,0,none⟩->b<g:=fun g hg=>by
  rcases k4 with e | e
  ·rw[e]at hg;exact(vX.lt hg).1
  ·rw[e]at hg;injection hg with hg;injection hg with hg;omega
 refine⟨rfl,sl,Blk.ec Ax 1 rfl,s',w2,k1,b,1,_,_,rfl,pD,by simp,fun w3 cG lm=>?_⟩;have lm:aF w3 b 72 [ae (some ⟨b,0,none⟩),s'.v,aj st.1,O U st.2]:=lm;have fy:aD (fun k=>k=b∨(false=false/\Bu w b k)) w w3:=((ch.p (F:=fun k=>k=b∨(false=false/\Bu w b k)) fun x hx=>.inl (.inl (by simpa using hx))).trans k3 fun k hk=>.inl (.inr ⟨rfl,Fm hB hk⟩)).trans (cG.p (F:=fun k=>k=b) fun x hx=>.inl (by simpa using hx)) fun k hk=>.inl (.inl hk);refine⟨by rw[bW],⟨?_,h.lo,⟨_,_,.inr rfl,lm,k2.keep fun g hg hl=>cG.block g hl (by have:=BZ g hg;simp;omega)⟩,h.i,by rw[aN];exact hm⟩,fy,fun k hk=>?_⟩
 ·refine⟨fy.os.trans h.o.os,fy.tape.trans h.o.tape,fy.output.trans h.o.output,bh h.o.size fy.size,fun k hk _=>(fy.block k (cD hk h.o.size) ?_).trans (h.o.block k hk (by simp))⟩;rintro(e | ⟨_,e⟩)
  ·have:=h.lo;omega
  ·have:=(h.bu e).1;have:=h.lo;omega
 ·have e:=Jx lm hk;rcases k4 with e2 | e2
  ·exact .inl (Fm hB (e2▸e))
  ·rw[e2]at e;injection e with e;injection e with e;exact .inr ⟨rfl,by omega⟩
theorem Zq.sl{f g:Bool}{ws w1 w':av}{ks ks':List Nat}(t:Zq f w0 ws b w l st ks)(hO:ay [] w w1)(m:Mw g b w w')(hk:∀k,k∈ks'->k∈ks):bS ks' w1 w':=fun x hx=>
 (t.sm m hk x hx).trans (t.sq hO hk x hx).symm
theorem JE:∀d,Lib.repeatL [32,32] d=si d
 | 0=>rfl
 | d+1=>by rw[Lib.repeatL,JE d];rfl
theorem JF:∀d,(si d).length=2*d
 | 0=>rfl
 | d+1=>by rw[si,aR,aR,JF d];omega
theorem xv(h:Qz w0 b w l st)(ws:List (aH)){n:Nat}{parts:Array (Nat×aw)}(hp:parts=(((ws.map fun x=>Value.string (T x)).zipIdx 0).map fun x=>(x.2,x.1)).toArray)(hn:ws.length=n)(h0:0<n)(tT:n*1<=16777216)(d:Nat)(hd:d<=12)(hl:(fQ ws).length<=274877889536):
  ∃(q:Sl) (w1:av),(au 52 n parts).run aq w=.ok q.v w1/\ay [] w w1/\az aq 38 #[rp b,O U (d:Int),q.v] w1 fun e w'=>e=ak (ai #[])/\Qz w0 b w' (if st.1 then l else iE l (d,fQ ws)) st/\Mw false b w w':=by
 obtain⟨q,w1,e1,ajQ,cn⟩:=jd w ws hp hn h0 tT;refine⟨q,w1,e1,cn,?_⟩;have t1:=(h.z true).q cn;have hb:=h.lb;have hbu:∀k,Bu w b k->k<w.heap.size:=fun k hk=>(h.bu hk).2;refine ret (aa6 _ _ _ _ _ ?_);refine(JB t1.toQz).mono ?_;rintro _ w2 ⟨rfl,rfl⟩;obtain⟨qq,sl,hB,_⟩:=t1.toQz.set;refine⟨_,rfl,st.1,fun _=>Blk.ec hB 2 rfl,fun hc w3 dh=>?_,fun hc=>?_⟩
 ·simp only[aP,cx,fU]at hc;obtain⟨xW,L5⟩:=hc;have t3:=t1.q dh;refine(Tryz.strings_Repeat (T [32,32]) d w3 (by omega) (by show 2*d<=_;omega)).mono ?_;rintro _ w4 ⟨rfl,qs⟩;have dI:=Only.below qs;have t4:=t3.q dI;have Yh:=ajQ.keep cZ (w':=w4) fun k hk bQ=>(dh.cd dI).block k bQ (by simp);have wi:=JF d;refine⟨T (si d),by rw[show(T [32,32]).data.toList=[32,32]from rfl,JE],(zW Yh (by omega) (by omega)).mono ?_⟩;rintro _ w5 ⟨rfl,hP5⟩;have t5:=t4.row hb hbu hP5;refine⟨_,rfl,by rw[bW,bW];omega,by rw[dZ,bW,aN];omega,?_⟩;rw[show ao #[10]=T [10]from rfl,dZ,dZ,show(Addr.add ⟨b,0,none⟩ 0:Addr)=⟨b,0,none⟩from rfl];refine(SG t5.toQz _ ?_).mono ?_
  ·simp only[aN,aR,aZ];omega
  rintro _ w6 ⟨rfl,h6,m6⟩;refine⟨_,⟨.nilIface,rfl⟩,rfl,rfl,?_,t5.m.up.trans m6⟩;rw[L5,if_neg (by decide)];unfold iE V3;rw[if_neg xW];dsimp only;rw[be]at h6;exact h6
 ·refine⟨rfl,?_,t1.m.up⟩;have:(if st.1 then l else iE l (d,fQ ws))=l:=by
   cases e:st.1
   ·rw[e]at hc;have hc:16384<l.length:=by simpa using hc
    rw[if_neg (by decide)];unfold iE;rw[if_pos hc]
   ·rfl
  rw[this];exact t1.toQz
theorem Aa(h:Qz w0 b w l st)(d:Nat)(hd:d<=12)(word text:aH)(hw:word.length<=100)(hl:text.length<=274877880000):
  az aq 87 #[rp b,O U (d:Int),ab (T word),ab (T text)] w fun e w'=>e=ak (ai #[])/\Qz w0 b w' (if st.1||decide (text=[])then l else iE l (d,fQ [word,text])) st/\Mw false b w w':=by
 refine ret (abd _ _ _ _ _ _ ?_);rw[show ao #[]=T []from rfl,iO];refine⟨fun hc=>?_,fun hc=>?_⟩
 ·have hc:text≠[]:=by simpa using hc
  have xF:=iU [word,text];simp only[bE,gW,ck,iI]at xF;obtain⟨q,w1,e1,cn,hj⟩:=xv h [word,text] (n:=2) (parts:=#[.mk 0 (ab (T word)),.mk 1 (ab (T text))]) rfl rfl (by decide) (by decide) d hd (by omega);refine⟨q,w1,e1,hj.mono ?_⟩;rintro _ w2 ⟨rfl,h2,m2⟩;refine⟨rfl,rfl,?_,m2⟩;rw[bn hc,Bool.or_false];exact h2
 ·have hc:text=[]:=by simpa using hc
  refine⟨rfl,?_,Mw.refl _ _ _⟩;rw[bF hc,mA,if_pos rfl];exact h
end
def wC:List Mv->Nat
 | []=>0
 | m::l=>Fp m+wC l
def BD(b:Nb):Nat:=((b.nm.length+b.ini.length)+(b.dft.length+1))+((iG b.en+iG b.lv)+wC b.mv)
mutual
def nP:Nd->Nat
 | .mk b l=>BD b+iV l
def iV:List Nd->Nat
 | []=>0
 | x::l=>nP x+iV l
end
theorem sA{m:Mv}:∀{l:List Mv},m∈l->Fp m<=wC l
 | [],h=>by simp at h
 | x::l,h=>by
  rw[wC];rcases aY.1 h with rfl | h
  ·omega
  ·have:=sA h;omega
theorem mV:∀(l:List Mv),l.length<=wC l
 | []=>bd _
 | m::l=>by
  have:=mV l;rw[wC,aR];unfold Fp;omega
theorem qe{x:Nd}:∀{l:List Nd},x∈l->nP x<=iV l
 | [],h=>by simp at h
 | y::l,h=>by
  rw[iV];rcases aY.1 h with rfl | h
  ·omega
  ·have:=qe h;omega
theorem SH(x:Nd):1<=nP x:=by
 obtain⟨b,l⟩:=x;rw[nP];unfold BD;omega
theorem oq:∀(l:List Nd),l.length<=iV l
 | []=>bd _
 | x::l=>by
  have:=oq l;have:=SH x;rw[iV,aR];omega
theorem vG{x:Nd}:∀{l:List Nd},tQ l->x∈l->xu x
 | [],_,h=>by simp at h
 | y::l,hn,h=>by
  rw[tQ]at hn;rcases aY.1 h with rfl | h
  ·exact hn.1
  ·exact vG hn.2 h
theorem uF(d:Nat)(x:Nd):∀l:List Nd,iv d (l++[x])=(iv d l&&kw d x)
 | []=>by simp[iv]
 | y::l=>by rw[cr,iv,iv,uF d x l,ub]
theorem wD(x:Nd):∀l:List Nd,j9 (l++[x])=j9 l+th x
 | []=>by simp[j9]
 | y::l=>by rw[cr,j9,j9,wD x l];omega
theorem wE(d:Nat)(x:Nd):∀l:List Nd,mU d (l++[x])=mU d l++AE d x
 | []=>by simp[mU]
 | y::l=>by rw[cr,mU,mU,wE d x l,be]
def xM(x:Nb)(ks:List Nd)(d:Nat):Bool:=(decide (x.ini=[])||cY x.ini)&&(x.en.all fY&&(x.lv.all fY&&(x.mv.all j8&&iv d ks)))
theorem mo(l:aH)(p:Ln):dq l [p]=iE l p:=rfl
theorem Og(l:List Ac):uc l≠[]:=by unfold uc;simp
theorem vH{cE:St}{l l1 l2:aH}{L M:List Ln}{Ku:St}{c:Bool}{n:Nat}(hU:Up Ku c n cE)(h1:Ku.1=false->l1=dq l L)(h2:cE.1=false->l2=dq l1 M):cE.1=false->l2=dq l (L++M):=fun e=>by
 rw[h2 e,h1 (hU.ok e).1,fm]
def Oh(D:Nat):Prop:=∀(w0 w:av) (b:Nat) (l:aH) (st:St) (F:aJ) (x:Nd) (cs:aI) (d:Nat),Qz w0 b w l st->li false D w F x cs->(∀k,F k->k<w0.heap.size)->xu x->nP x<=8388608->d<=12->Er w0->Tb w0->
 az aq 90 #[rp b,ah cs.toArray,O U (d:Int)] w fun e w'=>e=ak (ai #[])/\∃cE l',Up st (kw d x) (th x) cE/\(cE.1=false->l'=dq l (AE d x))/\Qz w0 b w' l' cE/\Mw false b w w'
section
variable {w0 w:av} {b:Nat} {l:aH} {st:St}
theorem Oi{D:Nat}(hN:Oh D)(h:Qz w0 b w l st){F:aJ}{x:Nb}{en lv mv kids:Sl}{ks:List Nd}(hb:CT false w F x en lv mv)(hk:jE false (li false D) 9 27 w F kids ks)(hF:∀k,F k->k<w0.heap.size)(hn:U5 x)(hnk:tQ ks)(hs:BD x+iV ks<=8388608)(d:Nat)(hd:d<=12)(hE:Er w0)(hT:Tb w0):
  az aq 41 #[rp b,ah (nf x.k x.nm x.ini x.dft en lv mv kids x.a).toArray,O U (d:Int)] w fun e w'=>e=ak (ai #[])/\∃cE l',Up st (xM x ks d) (wg x+j9 ks) cE/\(cE.1=false->l'=dq l (AV d x++mU d ks))/\Qz w0 b w' l' cE/\Mw false b w w':=by
 have PM:=hs;unfold BD at PM;have Qf:=mV x.mv;have L2:=oq ks;obtain⟨A6,xd,rq⟩:=hb;have A6:=A6.1;have xd:=xd.1;have rq:=rq.1;have hk:=hk.1;refine ret (abc _ _ _ _ _ _ _ _ _ _ _ _ _ ?_);intro k0 w1 gD dQ cn;have t1:=(h.z false).al cn gD dQ;rw[show ao #[]=T []from rfl,iO];refine⟨fun w'=>∃Ku l1,Up st (decide (x.ini=[])||cY x.ini) 0 Ku/\(Ku.1=false->l1=dq l (tP d x))/\Zq false w0 w b w' l1 Ku [k0],?_,fun hc=>?_,fun hc=>?_⟩
 ·rintro w2 ⟨xE,l2,Zx,uO,t2⟩;refine(C2 t2.toQz (SliceF.keep (cF false) A6 (by decide) fun k hk _=>h.arg t2.toQz (hF k hk)) hF hn.en (by omega) hE hT).mono ?_;rintro _ w3 ⟨tx3,Yf,rfl,tl3,tt3,hU3,q3,m3⟩;have t3:=t2.nx q3 m3.up;refine⟨_,rfl,t2.sm m3 (by simp),(Aa t3.toQz d hd gf tx3 (by decide) (by omega)).mono ?_⟩;rintro _ w4 ⟨rfl,q4,m4⟩;have t4:=t3.nx q4 m4;have hl4:Yf.1=false->(if Yf.1||decide (tx3=[])then l2 else iE l2 (d,fQ [gf,tx3]))=dq l2 (Jo d x):=fun e=>by
   rw[e,tt3 e];unfold Jo;by_cases he:x.en=[]
   ·rw[if_pos he,if_pos he];rfl
   ·rw[if_neg he,if_neg he,bn (Og _),if_neg (by decide),mo,oU (by decide),fF (by rfl),eW,fE,ml,bL]
  generalize (if Yf.1||decide (tx3=[])then l2 else iE l2 (d,fQ [gf,tx3]))=l4 at*
  refine⟨rfl,t3.sm m4 (by simp),(C2 t4.toQz (SliceF.keep (cF false) xd (by decide) fun k hk _=>h.arg t4.toQz (hF k hk)) hF hn.lv (by omega) hE hT).mono ?_⟩;rintro _ w5 ⟨tx5,TC,rfl,tl5,tt5,Yk,q5,m5⟩;have t5:=t4.nx q5 m5.up;refine⟨_,rfl,t4.sm m5 (by simp),(Aa t5.toQz d hd gj tx5 (by decide) (by omega)).mono ?_⟩;rintro _ w6 ⟨rfl,q6,m6⟩;have t6:=t5.nx q6 m6;have Zo:TC.1=false->(if TC.1||decide (tx5=[])then l4 else iE l4 (d,fQ [gj,tx5]))=dq l4 (Li d x):=fun e=>by
   rw[e,tt5 e];unfold Li;by_cases he:x.lv=[]
   ·rw[if_pos he,if_pos he];rfl
   ·rw[if_neg he,if_neg he,bn (Og _),if_neg (by decide),mo,oU (by decide),fF (by rfl),eW,fE,ml,bL]
  generalize (if TC.1||decide (tx5=[])then l4 else iE l4 (d,fQ [gj,tx5]))=l6 at*
  have hL4:=vH hU3 uO hl4;have hL6:=vH Yk hL4 Zo;refine⟨rfl,t5.sm m6 (by simp),fun nv i w'=>∃(j:Nat) (cE:St) (l':aH),i=j/\j<=x.mv.length/\nv=x.mv.length-j/\Up TC ((x.mv.take j).all j8) ((x.mv.take j).map fun m=>m.acts.length).sum cE/\(cE.1=false->l'=dq l6 ((x.mv.take j).map fun m=>(d,zV m)))/\Zq false w0 w b w' l' cE [k0],
   x.mv.length,⟨0,TC,l6,rfl,bd _,rfl,t6.toQz.WQ,fun _=>rfl,t6⟩,?_⟩
  rintro nv _ w7 ⟨j,U8,l7,rfl,hj,rfl,KF,Gk,t7⟩;have amC:=rq.len;have ajS:aA (yq false) 13 w7 F mv x.mv:=SliceF.keep (gU false) rq (by decide) fun k hk _=>h.arg t7.toQz (hF k hk);refine⟨fun hc=>?_,fun hc=>?_⟩
  ·have bQ:(j:Int)<mv.n:=aQ hc;obtain⟨ad,m,cs,g1,g2,g3,g4,g5,g6⟩:=ajS.get (ba j) bQ;rw[aX]at g2;have X8:=br g2;have hms:=sA X8;have nZ:x.mv.take (j+1)=x.mv.take j++[m]:=by
    rw[bB,g2];rfl
   have DG:=g6;obtain⟨gc,qU,tg,rfl,r1,r2,r3⟩:=DG;obtain⟨gl,rfl⟩:=eH r1;refine⟨ad,g1,_,_,_,_,_,_,_,_,_,_,_,_,_,g5,fun k3 w8 Ky Ay fj=>?_⟩;have t8:=t7.al fj Ky Ay;refine(Wf t8.toQz ((gU false).keep g6 fun k _ bQ=>fj.block k bQ (by simp)) hF (hn.mv m X8) (by omega) hE hT).mono ?_;rintro _ w9 ⟨tx9,Yg,rfl,tl9,tt9,U9,q9,m9⟩;have t9:=t8.nx q9 m9.up;have xF:=iU [tx9];simp only[bE,gW,ck,iI]at xF;obtain⟨U0,dw,Yi,dM,Ym⟩:=xv t9.toQz [tx9] (n:=1) (parts:=#[.mk 0 (ab (T tx9))]) rfl rfl (by decide) (by decide) d hd (by omega);refine⟨_,rfl,t8.sm m9 (by simp),U0,dw,Yi,t9.sq dM (by simp),Ym.mono ?_⟩;rintro _ dJ ⟨rfl,Zd,m11⟩;have t11:=t9.nx Zd m11;refine⟨rfl,t9.sl dM m11 (by simp),x.mv.length-(j+1),by omega,j+1,Yg,_,by rw[fH (by omega) (by omega)];rfl,by omega,rfl,(KF.tr U9).cg ?_ ?_,fun e=>?_,⟨t11.toQz,t11.m,fun k hk=>t11.k k (by simp at hk;simp[hk])⟩⟩
   ·rw[nZ,jz];simp
   ·rw[nZ,dF,QT];simp
   ·rw[e,if_neg (by decide),Gk (U9.ok e).1,nZ,dF,fm,tt9 e];show _=iE _ (d,zV m);have:ne (zV m)=true:=by
     have:zV m≠[]:=by unfold zV;simp
     unfold ne;rw[bn this];rfl
    rw[oU this,eW,ml,bL]
  ·have lR:¬(j:Int)<mv.n:=aU hc;have qV:j=x.mv.length:=by omega
   subst qV;rw[bH (aW _)]at KF Gk;have hL7:=vH KF hL6 Gk;refine⟨fun nv i w'=>∃(j:Nat) (cE:St) (l':aH),i=j/\j<=ks.length/\nv=ks.length-j/\Up U8 (iv d (ks.take j)) (j9 (ks.take j)) cE/\(cE.1=false->l'=dq l7 (mU d (ks.take j)))/\Zq false w0 w b w' l' cE [k0],
    ks.length,⟨0,U8,l7,rfl,bd _,rfl,by rw[dr,iv,j9];exact t7.toQz.WQ,fun _=>by rw[dr,mU];rfl,t7⟩,?_⟩
   rintro nv _ dJ ⟨j,Yn,uk,rfl,hj,rfl,TF,Yo,t11⟩;have amD:=hk.len;have ajV:aA (li false D) 9 dJ F kids ks:=SliceF.keep (cj false D) hk (by decide) fun k hk _=>h.arg t11.toQz (hF k hk);refine⟨fun hc=>?_,fun hc=>?_⟩
   ·have bQ:(j:Int)<kids.n:=aQ hc;obtain⟨ad,y,cs,g1,g2,g3,g4,g5,g6⟩:=ajV.get (ba j) bQ;rw[aX]at g2;have uL:=br g2;have ME:=qe uL;have nZ:ks.take (j+1)=ks.take j++[y]:=by
     rw[bB,g2];rfl
    have DG:=g6;cases D with
    | zero=>exact DG.elim
    | succ D=>
    obtain⟨uo,uq,pu,iX,rfl,_⟩:=DG;refine⟨ad,g1,_,_,_,_,uo,uq,pu,iX,_,g5,fun k7 eM hk7 aeg fb=>?_⟩;have t12:=t11.al fb hk7 aeg;refine(hN _ _ _ _ _ _ _ _ d t12.toQz ((cj false _).keep g6 fun k _ bQ=>fb.block k bQ (by simp)) hF (vG hnk uL) (by omega) hd hE hT).mono ?_;rintro _ eU ⟨rfl,Yp,BX,aeh,ajW,Ze,m13⟩;have t13:=t12.nx Ze m13;refine⟨rfl,t12.sm m13 (by simp),ks.length-(j+1),by omega,j+1,Yp,BX,by rw[fH (by omega) (by omega)];rfl,by omega,rfl,(TF.tr aeh).cg ?_ ?_,fun e=>?_,⟨t13.toQz,t13.m,fun k hk=>t13.k k (by simp at hk;simp[hk])⟩⟩
    ·rw[nZ,uF]
    ·rw[nZ,wD]
    ·rw[ajW e,Yo (aeh.ok e).1,nZ,wE,fm]
   ·have lR:¬(j:Int)<kids.n:=aU hc;have qV:j=ks.length:=by omega
    subst qV;rw[bH (aW _)]at TF Yo;have ajX:=vH TF hL7 Yo;refine⟨rfl,Yn,uk,(Zx.tr (hU3.tr (Yk.tr (KF.tr TF)))).cg rfl ?_,fun e=>?_,t11.toQz,t11.m⟩
    ·unfold wg;omega
    ·rw[ajX e];unfold AV mvL;simp only[be]
 ·have hc:x.ini≠[]:=by simpa using hc
  refine(mG t1.toQz x.ini (by omega)).mono ?_;rintro _ w2 ⟨rfl,xE,Zx,q2,m2⟩;have t2:=t1.nx q2 m2.up;refine⟨_,rfl,t1.sm m2 (by simp),by rw[bW];omega,?_⟩;rw[show ao #[59]=T [59]from rfl,dZ];refine(Aa t2.toQz d hd dX (x.ini++[59]) (by decide) (by rw[aN,bg];omega)).mono ?_;rintro _ w3 ⟨rfl,q3,m3⟩;refine⟨rfl,t2.sm m3 (by simp),xE,_,Zx.cg (by rw[bn hc,vZ]) rfl,fun e=>?_,t2.nx q3 m3⟩;have gC:x.ini++[59]≠[]:=by simp
  have Qy:ne (x.ini++[59])=true:=by unfold ne;rw[bn gC];rfl
  rw[e,bn gC,if_neg (by decide),oU (by decide),fF Qy,eW,fE,ml,bL];unfold tP;rw[if_neg hc];rfl
 ·have hc:x.ini=[]:=by simpa using hc
  refine⟨st,l,h.WQ.cg (by rw[bF hc];rfl) rfl,fun _=>by unfold tP;rw[if_pos hc];rfl,t1⟩
end
end
end Go.Proofs.YtmhoiicofhlgbaaGreatDoor.Con
namespace Go.Kt
open Go renaming World->av,Value->aw
open Go Go.RowKit
set_option linter.unusedSimpArgs false
set_option linter.unusedVariables false
section
variable {P:Program} {w:av}
theorem Lr{α:Type}{r:Rp α}{size bytes:Nat}{F:Nat->Prop}{y:Sl}{ys:List α}{e t ty:TypeId}{i:TypeInfo}{z:aw}(ht:P.underlying t=some (.slice e))(hi:P.info? e=some i)(hz:i.zero=some z)(oz:i.size=size)(Tf:i.bytes=bytes)(Gw:z.cells.size=size)(h0:0<size)
  (hr:r.Ok) (hy:SliceF r size w F y ys) (hm:ys.length*bytes<=140737488355328) (DA:0<bytes):
  ∃x1 w1,(Instr.buildSlice t 0 #[]).run P w=.ok (Sl.v x1) w1/\Only [] w w1/\∃x2 w2,(Builtin.append_ #[t,t] ty #[Sl.v x1,Sl.v y]).run P w1=.ok (Sl.v x2) w2/\Own r size e w.heap.size w2 F x2 ys/\OnlyP (fun k=>w.heap.size<=k) w1 w2:=by
 have hO:Only [] w (w.alloc (.cells #[] e)):=Only.alloc _ _;have nt:Own r size e w.heap.size (w.alloc (.cells #[] e)) (fun k=>F k/\k<w.heap.size) (⟨some ⟨w.heap.size,0,none⟩,0,0⟩:Sl) []:=
  .inr ⟨w.heap.size,[],[],rfl,aW _,Blk.alloc w e [],by simp,rfl,aW _,bd _,trivial⟩
 have hyk:SliceF r size (w.alloc (.cells #[] e)) (fun k=>(F k/\k<w.heap.size)/\(⟨some ⟨w.heap.size,0,none⟩,0,0⟩:Sl).a≠some ⟨k,0,none⟩) y ys:=
  ((hy.inHeap hr h0).keep hr h0 fun k _ bQ=>hO.block k bQ (by simp)).mono hr fun k hk=>⟨hk,fun h=>by
   injection h with h;injection h with h;have:=hk.2;omega⟩
 refine⟨⟨some ⟨w.heap.size,0,none⟩,0,0⟩,_,yL w ht hi,hO,?_⟩;obtain⟨s',w',g1,g2,gs,g3,g4,g5⟩:=qx (ty:=ty) ht hi hz oz Tf Gw hr nt hyk hO.size (by simpa using hm) DA;exact⟨s',w',g1,(by simpa using g2.mono hr fun k hk=>hk.1),g3.p fun g hg=>.inl (g4 g hg).2.1⟩
end
end Go.Kt
