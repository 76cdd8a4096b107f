import Derived.Test.YtbkjcdocjfknfaaGreatDoorQt7
set_option linter.unusedSectionVars false
namespace Go.Proofs.YtbkjcdocjfknfaaGreatDoor.Con
open Go.Value renaming int->O,string->ab,pointer->ae,agg->ah,tuple->ai,bool->aj
open Go.IntKind renaming i64->U,wrap->ar
open Go.Ending renaming returned->ak
open _root_.ByteArray renaming mk->ao
open _root_.Go.Proofs.Tryz renaming prog->aq
open Go.Instr renaming buildSlice->au
open Go renaming World->av,Value->aw,Calls->az
open Go.Kt renaming Only->ay,SliceF->aA,Cells->aB,OnlyP->aD,Blk->aF
open Go Go.RowKit Go.Kt Go.Kt.V Go.Proofs.YtbkjcdocjfknfaaGreatDoor.Vc
set_option linter.unusedSimpArgs false
set_option linter.unusedVariables false
set_option maxHeartbeats 4000000
def sJ(wr:Bool)(l:aH):aH:=if wr then l++[40]else l
def SI(wr:Bool)(l:aH):aH:=if wr then l++[41]else l
def sK:Nat->Ex->Bool->aH->aH
 | 0,_,_,l=>l
 | d+1,x,wr,l=>if 16384<l.length then l else SI wr (
  if x.k=1 then sJ wr l++Lib.itoa x.n
  else if x.k=2 then sJ wr l++x.s
  else if x.k=3 then sJ wr l++([105,110,40]++x.s++[41])
  else if x.k=4 then(match x.eN with
   | [y]=>sK d y (decide (fH y<6)) (sJ wr l++ka x.op.toNat)
   | _=>l)
  else(match x.eN with
   | [y,z]=>sK d z (decide (fH z<=fH x)) (sK d y (decide (fH y<fH x)) (sJ wr l)++([32]++ka x.op.toNat++[32]))
   | _=>l))
section
variable {x:Ex}
theorem SJ{n:Int}{s:aH}{op len:Int}(h:UC n s op len x=true):x.n=n/\x.s=s/\x.op=op/\(x.eN.length:Int)=len:=by
 simp only[UC,aR,ol,bW]at h;exact⟨h.1.1.1,h.1.1.2,h.1.2,h.2⟩
theorem mV(h:jU x=true)(hk:x.k=2∨x.k=3):dM x.s=true:=by
 have h1:x.k≠1:=by omega
 rw[jU,if_neg h1,if_pos hk,aR]at h;exact h.1
theorem Mi(h:jU x=true)(hk:x.k=4):∃y,x.eN=[y]/\(x.op=14∨x.op=15):=by
 rw[jU,if_neg (by omega),if_neg (by omega),if_pos hk]at h;obtain⟨_,_,h3,h4⟩:=SJ h;obtain⟨y,hy⟩:=List.length_eq_one_iff.1 (show x.eN.length=1 by omega);refine⟨y,hy,?_⟩;by_cases KO:x.op=15
 ·exact .inr KO
 ·rw[if_neg KO]at h3;exact .inl h3
theorem Mj(h:jU x=true)(h1:x.k≠1)(h2:x.k≠2)(h3:x.k≠3)(h4:x.k≠4):x.k=5/\∃y z,x.eN=[y,z]/\1<=x.op/\x.op<=13:=by
 rw[jU,if_neg h1,if_neg (by omega),if_neg h4]at h;split at h
 ·rename_i h5;rw[aR]at h;obtain⟨h6,h7⟩:=h;obtain⟨_,_,_,h8⟩:=SJ h7;have h6:jD x.op≠6:=by simpa using h6
  have h2l:x.eN.length=2:=by omega
  obtain⟨y,z,hy⟩:∃y z,x.eN=[y,z]:=by
   match hm:x.eN,h2l with
   | [y,z],_=>exact⟨y,z,rfl⟩
  refine⟨h5,y,z,hy,?_⟩;unfold jD at h6;refine ch fun hn=>h6 ?_;rw[if_neg (by omega),if_neg (by omega),if_neg (by omega),if_neg (by omega),if_neg (by omega),if_neg (by omega)]
 ·cases h
theorem iV{s:aH}(h:dM s=true):s.length<=24:=by
 unfold dM at h;simp only[aR]at h;exact(aP h.1.1.1).2
theorem nI(n:Nat):(ka n).length<=2:=by
 rcases Nat.lt_or_ge n 16 with h | h
 ·have:∀q,q<16->(ka q).length<=2:=by decide
  exact this n h
 ·unfold ka;rw[dC (by exact h)];decide
theorem Hg(wr:Bool)(l:aH):(sJ wr l).length<=l.length+1:=by
 unfold sJ;cases wr<;>simp
theorem Qs(wr:Bool)(l:aH):(SI wr l).length<=l.length+1:=by
 unfold SI;cases wr<;>simp
theorem oP:∀(d:Nat) {x:Ex} (wr:Bool) (l:aH),dI d x=true->pe d x->(sK d x wr l).length<=l.length+40*jG d x
 | 0,x,wr,l,h,_=>by cases h
 | d+1,x,wr,l,h,⟨hn,hs⟩=>by
  rw[dI,aR]at h;obtain⟨hh,ha⟩:=h;have h1:=Hg wr l;rw[sK,jG];split
  ·omega
  refine bh (Qs _ _) ?_;split
  ·rw[aO];have:=Lib.itoa_length_le x.n hn.1 hn.2;omega
  ·split
   ·rename_i hk;rw[aO];have:=iV (mV hh (.inl hk));omega
   ·split
    ·rename_i hk;rw[aO,aO,aO];have:=iV (mV hh (.inr hk));simp only[bf,cu];omega
    ·split
     ·rename_i hk;obtain⟨y,hy,_⟩:=Mi hh hk;rw[hy]at ha hs⊢;dsimp only;simp only[mA,jw,lC]at ha⊢;have:=oP d (decide (fH y<6)) (sJ wr l++ka x.op.toNat) ha (hs y (by simp));rw[aO]at this;have:=nI x.op.toNat;omega
     ·rename_i k1 k2 k3 k4;obtain⟨hk,y,z,hy,_⟩:=Mj hh k1 k2 k3 k4;rw[hy]at ha hs⊢;dsimp only;simp only[mA,jw,lC,aR]at ha⊢;have a1:=oP d (decide (fH y<fH x)) (sJ wr l) ha.1 (hs y (by simp));have a2:=oP d (decide (fH z<=fH x)) (sK d y (decide (fH y<fH x)) (sJ wr l)++([32]++ka x.op.toNat++[32])) ha.2 (hs z (by simp));rw[aO,aO,aO]at a2;have:=nI x.op.toNat;simp only[bf,cu]at a2;omega
end
structure Pz (d:Nat) (F G:aJ) (k0 b:Nat) (sub sn:Sl) (subs:List Ex) (w:av) (sl:Sl) (l:aH):Prop where
 pg:Pg G w b sl sn l
 tb:Tb w
 own:k0≠b/\sl.a≠some ⟨k0,0,none⟩/\k0<w.heap.size
 sb:aA (uG d) 6 w F sub subs
 hF:∀k,F k->k<b
 hT:2<b
section
variable {d:Nat} {F G:aJ} {k0 b:Nat} {sx sn sl nf:Sl} {subs:List Ex} {w w' sA:av} {l l':aH}
theorem Pg.out(h:Pg G w b sl sn l){k:Nat}(hk:k<b):¬(k=b∨sl.a=some ⟨k,0,none⟩):=by
 rintro(e | e)
 ·omega
 ·have:=(h.buf.lt e).1;omega
theorem Pz.only(h:Pz d F G k0 b sx sn subs w sl l)(hO:ay [] w w'):Pz d F G k0 b sx sn subs w' sl l:=by
 have z:=hO.size;exact⟨h.pg.only hO,h.tb.only hO,⟨h.own.1,h.own.2.1,by have:=h.own.2.2;omega⟩,SliceF.only (iO d) (by decide) h.sb hO (by simp),h.hF,h.hT⟩
theorem Pz.mv(h:Pz d F G k0 b sx sn subs w sl l)(hp:Pg G w' b nf sn l')(hm:rb b sl w nf w'):Pz d F G k0 b sx sn subs w' nf l'/\bS [k0] w w'/\bL (fun k=>k<b∨k=k0) w w':=by
 have z:=hm.1.size;obtain⟨o1,o2,o3⟩:=h.own;refine⟨⟨hp,h.tb.keep fun bQ=>hm.1.block _ bQ (h.pg.out h.hT),⟨o1,fun e=>?_,by omega⟩,SliceF.kU (iO d) (by decide) h.sb hm.1 fun k hk _=>h.pg.out (h.hF k hk),h.hF,h.hT⟩,hm.same o1 o2 o3,fun k hk bQ=>hm.1.block k bQ ?_⟩
 ·rcases hm.2 k0 e with e | e
  ·exact o2 e
  ·omega
 ·rcases hk with hk | rfl
  ·exact h.pg.out hk
  ·rintro(e | e)
   ·exact o1 e
   ·exact o2 e
theorem rb.after(h:rb b sl w' nf sA)(hO:ay [] w w'):rb b sl w nf sA:=(rb.only hO).trans h
theorem Pz.same(h:Pz d F G k0 b sx sn subs w sl l)(hO:ay [] w w'):bS [k0] w w':=hO.same (by have:=h.own.2.2;simp;omega)
theorem Pz.sig(h:Pz d F G k0 b sx sn subs w sl l){op:Int}(h0:0<=op)(h1:op<16):∃ad,dy sn op 1 ad/\aB w ad [ab (T (ka op.toNat))]:=by
 have hn:=h.pg.sig.len;have hol:yP.length=16:=rfl;obtain⟨ad,x,cs,g1,g2,g3,g4,g5,g6⟩:=h.pg.sig.get h0 (by omega);unfold im at g6;subst g6;have hx:ka op.toNat=x:=by unfold ka;rw[g2];rfl
 subst hx;exact⟨ad,g1,g5⟩
theorem Pz.sub(h:Pz d F G k0 b sx sn subs w sl l){i:Nat}{y:Ex}(hy:subs[i]? =some y):∃ad sy,dy sx (i:Int) 6 ad/\ad.block<b/\aB w ad (oO y.k y.n y.s y.op sy y.a)/\uG d w F y (oO y.k y.n y.s y.op sy y.a):=by
 have hn:=h.sb.len;have bQ:=(aY.1 hy).1;obtain⟨ad,x,cs,g1,g2,g3,g4,g5,g6⟩:=h.sb.get (bm i) (by omega);rw[aZ,hy]at g2;injection g2 with g2;subst g2;obtain⟨sy,rfl⟩:=qQ g6;exact⟨ad,sy,g1,h.hF _ g3,g5,g6⟩
end
abbrev PgC(d:Nat):Prop:=∀{G F:aJ} {w:av} {b:Nat} {sl sn:Sl} {l:aH} {x:Ex} {cs:aI} (wr:Bool),dI d x=true->pe d x->uG d w F x cs->(∀k,F k->k<b)->Tb w->2<b->Pg G w b sl sn l->l.length+40*jG d x<=70368744177664->
 az aq 265 #[ae (some ⟨b,0,none⟩),ah cs.toArray,aj wr] w fun e w'=>∃nf,e=ak (ai #[])/\Pg G w' b nf sn (sK d x wr l)/\rb b sl w nf w'
theorem inb(s:aH):ao #[105,110,40]++T s++ao #[41]=T ([105,110,40]++s++[41]):=by
 rw[show ao #[105,110,40]=T [105,110,40]from rfl,show ao #[41]=T [41]from rfl,jT,jT]
theorem blb(s:aH):ao #[32]++T s++ao #[32]=T ([32]++s++[32]):=by
 rw[show ao #[32]=T [32]from rfl,jT,jT]
theorem inz(c:aK)(s:aH):(c++T s).size=c.size+s.length:=by
 rw[show c=T c.data.toList from vE c,jT,de,de,aO]
theorem jh.mono{P:Program}{f:FuncId}{a:Array aw}{w:av}{Q Q':aG}(h:jh P f a w Q)(hq:∀v w',Q v w'->Q' v w'):jh P f a w Q':=fun c cs hc=>by
 obtain⟨e,u',w',fr,⟨h1,v,h2,h3⟩,h4⟩:=h c cs hc;exact⟨e,u',w',fr,⟨h1,v,h2,hq _ _ h3⟩,h4⟩
theorem rT:∀d,PgC d
 | 0,_,_,_,_,_,_,_,_,_,_,_,_,h,_,_,_,_,_=>h.elim
 | d+1,G,F,w,b,sl,sG,l,x,cs,wr,Ey,⟨X7,TF⟩,⟨xs,h1,h2⟩,hF,hT,Oq,hP,eH=>by
  subst h1;refine(ae7 ⟨b,0,none⟩ x.k x.n (T x.s) x.op xs x.a wr (fun v w'=>∃nf,v=ai #[]/\Pg G w' b nf sG (sK (d+1) x wr l)/\rb b sl w nf w') w ?_).mono (by
   rintro e w' ⟨v,rfl,s,rfl,h⟩;exact⟨s,rfl,h⟩)
  have hx:uG (d+1) w F x (oO x.k x.n x.s x.op xs x.a):=⟨xs,rfl,h2⟩
  rw[dI,aR]at Ey;obtain⟨hh,ha⟩:=Ey;rw[jG]at eH;intro k0 w0 gH eW cE;have hb:=hP.lb;have Rs:Pz d F G k0 b xs sG x.eN w0 sl l:=⟨hP.only cE,hT.only cE,⟨by omega,fun e=>by have:=(hP.buf.lt e).2;omega,eW⟩,SliceF.only (iO d) (by decide) h2 cE (by simp),hF,Oq⟩
  refine(UE Rs.pg).mono ?_;rintro _ w1 ⟨rfl,rfl⟩;refine⟨_,rfl,fun _ _=>rfl,fun hc=>⟨sl,rfl,?_,(rb.only cE)⟩,fun hc=>?_⟩
  ·rw[sK,if_pos (by have:=aP hc;omega)];exact Rs.pg
  have hc:¬16384<l.length:=by have:=aU hc;omega
  have KP:sK (d+1) x wr l=SI wr (
  if x.k=1 then sJ wr l++Lib.itoa x.n
  else if x.k=2 then sJ wr l++x.s
  else if x.k=3 then sJ wr l++([105,110,40]++x.s++[41])
  else if x.k=4 then(match x.eN with
   | [y]=>sK d y (decide (fH y<6)) (sJ wr l++ka x.op.toNat)
   | _=>l)
  else(match x.eN with
   | [y,z]=>sK d z (decide (fH z<=fH x)) (sK d y (decide (fH y<fH x)) (sJ wr l)++([32]++ka x.op.toNat++[32]))
   | _=>l)):=by rw[sK,if_neg hc]
  have hol:=Hg wr l;refine⟨fun hw=>(Qq Rs.pg 40 (by omega)).mono ?_,fun hw=>?_⟩
  ·rintro _ w2 ⟨sl2,rfl,hp2,IC⟩;obtain⟨Ez,hs2,_⟩:=Rs.mv hp2 IC;have Wg:l++[40]=sJ wr l:=by unfold sJ;rw[if_pos hw]
   rw[Wg]at Ez;refine⟨⟨.nilIface,rfl⟩,rfl,hs2,?_⟩;have fin:∀{IJ:Sl} {w5:av} {m:aH},Pz d F G k0 b xs sG x.eN w5 IJ m->rb b sl2 w2 IJ w5->sK (d+1) x wr l=SI wr m->m.length<=l.length+40*(1+lC (jG d) x.eN)->jh aq 283 #[ae (some ((⟨b,0,none⟩:Addr).add 0)),.int .u8 41] w5 fun _ w'=>∃nf,(Value.tuple #[])=ai #[]/\Pg G w' b nf sG (sK (d+1) x wr l)/\rb b sl w nf w':=by
    intro IJ w5 m F0 yW he KQ;have hd:=Qr F0.pg 41 (by omega);refine jh.mono hd ?_;rintro v w' ⟨nf,hv,hp',hm'⟩;refine⟨nf,rfl,?_,((IC.after cE).trans yW).trans hm'⟩;rw[he];unfold SI;rw[if_pos hw];exact hp'
   refine⟨fun hk w3 dl=>?_,fun k1=>⟨fun hk w7 fm=>?_,fun k2=>⟨fun hk=>⟨?_,?_,fun dw dR=>?_⟩,fun k3=>⟨fun hk eS ez=>?_,fun k4=>(mH (show uG (d+1) _ F x (oO x.k x.n x.s x.op xs x.a)from⟨xs,rfl,Ez.sb⟩)).mono ?_⟩⟩⟩⟩
   ·have hk:x.k=1:=by simpa using hk
    have Wh:=Ez.only dl;refine(we x.n X7 Wh.tb).mono ?_;rintro _ w4 ⟨rfl,dA⟩;have hz4:=Wh.only dA;have hl:=Lib.itoa_length_le x.n X7.1 X7.2;refine⟨_,rfl,Wh.same dA,(mU hz4.pg (Lib.itoa x.n) (by omega)).mono ?_⟩;rintro _ w5 ⟨IJ,rfl,Ot,yW⟩;obtain⟨F0,IK,_⟩:=hz4.mv Ot yW;exact⟨_,⟨.nilIface,rfl⟩,rfl,IK,fin F0 ((yW.after dA).after dl) (by rw[KP,if_pos hk]) (by rw[aO];omega)⟩
   ·have hk:x.k=2:=by simpa using hk
    have k1:x.k≠1:=by omega
    have hz7:=Ez.only fm;have hl:=iV (mV hh (.inl hk));refine(mU hz7.pg x.s (by omega)).mono ?_;rintro _ w8 ⟨IJ,rfl,Ot,yW⟩;obtain⟨F0,IK,_⟩:=hz7.mv Ot yW;exact⟨_,⟨.nilIface,rfl⟩,rfl,IK,fin F0 (yW.after fm) (by rw[KP,if_neg k1,if_pos hk]) (by rw[aO];omega)⟩
   ·have hk:x.k=3:=by simpa using hk
    have hl:=iV (mV hh (.inr hk));rw[de];omega
   ·have hk:x.k=3:=by simpa using hk
    have hl:=iV (mV hh (.inr hk));rw[inz];have:(ao #[105,110,40]).size=3:=rfl;omega
   ·have hk:x.k=3:=by simpa using hk
    have hl:=iV (mV hh (.inr hk));have Ou:=Ez.only dR;have N5:([105,110,40]++x.s++[41]:aH).length=x.s.length+4:=by
     rw[aO,aO];simp only[bf,cu];omega
    rw[inb];refine(mU Ou.pg _ (by omega)).mono ?_;rintro _ dr ⟨IJ,rfl,Ot,yW⟩;obtain⟨F0,IK,_⟩:=Ou.mv Ot yW;exact⟨_,⟨.nilIface,rfl⟩,rfl,IK,fin F0 (yW.after dR) (by rw[KP,if_neg (by omega),if_neg (by omega),if_pos hk]) (by rw[aO];omega)⟩
   ·have hk:x.k=4:=by simpa using hk
    obtain⟨y,hy,BR⟩:=Mi hh hk;have Wi:lC (jG d) x.eN=jG d y:=by rw[hy];simp[lC]
    have hay:dI d y=true:=by rw[hy]at ha;simpa[mA]using ha
    have Ov:pe d y:=TF y (by rw[hy];simp);have Wj:=nI x.op.toNat;have BT:=Ez.only ez;obtain⟨q,hq,hB⟩:=BT.pg.blk;obtain⟨ad,g1,g2⟩:=BT.sig (op:=x.op) (by omega) (by omega);refine⟨sG,Blk.dT hB 2 rfl,ad,g1,_,g2,(mU BT.pg (ka x.op.toNat) (by omega)).mono ?_⟩;rintro _ eZ ⟨ahr,rfl,Wk,Ow⟩;obtain⟨Wl,Wm,_⟩:=BT.mv Wk Ow;refine⟨_,⟨.nilIface,rfl⟩,rfl,Wm,fun fU ix=>?_⟩;have F1:=Wl.only ix;obtain⟨p1,sy,e1,e2,e3,e4⟩:=F1.sub (i:=0) (y:=y) (by rw[hy];rfl);refine⟨fun k=>k<b∨k=k0,.inr rfl,p1,e1,.inl e2,_,_,_,_,_,_,e3,p1,e1,_,_,_,_,_,_,e3,(mH e4).mono ?_⟩;rintro _ gy ⟨rfl,ic⟩;have F2:=F1.only ic;have TG:=oP d (decide (fH y<6)) (sJ wr l++ka x.op.toNat) hay Ov;rw[aO]at TG;refine⟨_,rfl,F1.same ic,bL.only ic,(rT d (decide (fH y<6)) hay Ov (jF e4 ic) hF F2.tb Oq F2.pg (by rw[aO];omega)).mono ?_⟩;rintro _ fR ⟨ahs,rfl,Wn,Ox⟩;obtain⟨Wo,Wp,RN⟩:=F2.mv Wn Ox;exact⟨rfl,Wp,RN,fin Wo ((Ow.after ez).trans ((Ox.after ic).after ix)) (by rw[KP,if_neg (by omega),if_neg (by omega),if_neg (by omega),if_pos hk,hy]) (by omega)⟩
   ·rintro _ iL ⟨rfl,jN⟩;have k1:x.k≠1:=by simpa using k1
    have k2:x.k≠2:=by simpa using k2
    have k3:x.k≠3:=by simpa using k3
    have k4:x.k≠4:=by simpa using k4
    obtain⟨hk,y,z,hy,ho1,VJ⟩:=Mj hh k1 k2 k3 k4;have Wi:lC (jG d) x.eN=jG d y+jG d z:=by rw[hy];simp[lC]
    have BU:dI d y=true/\dI d z=true:=by rw[hy]at ha;simpa[mA]using ha
    have Ov:pe d y:=TF y (by rw[hy];simp);have Wq:pe d z:=TF z (by rw[hy];simp);have Wj:=nI x.op.toNat;have Wr:=Ez.only jN;refine⟨_,rfl,Ez.same jN,fun gJ lJ=>?_⟩;have F3:=Wr.only lJ;obtain⟨p1,sy,e1,e2,e3,e4⟩:=F3.sub (i:=0) (y:=y) (by rw[hy];rfl);refine⟨fun k=>k<b∨k=k0,.inr rfl,p1,e1,.inl e2,_,_,_,_,_,_,e3,p1,e1,_,_,_,_,_,_,e3,(mH e4).mono ?_⟩;rintro _ jO ⟨rfl,jr⟩;have F4:=F3.only jr;have TG:=oP d (decide (fH y<fH x)) (sJ wr l) BU.1 Ov;refine⟨_,rfl,F3.same jr,bL.only jr,(rT d (decide (fH y<fH x)) BU.1 Ov (jF e4 jr) hF F4.tb Oq F4.pg (by omega)).mono ?_⟩;rintro _ mR ⟨aht,rfl,Ws,Oy⟩;obtain⟨Wt,Wu,Wv⟩:=F4.mv Ws Oy;refine⟨rfl,Wu,Wv,fun mw ob=>?_⟩;have BW:=Wt.only ob;obtain⟨q,hq,hB⟩:=BW.pg.blk;obtain⟨ad,g1,g2⟩:=BW.sig (op:=x.op) (by omega) (by omega);have N5:([32]++ka x.op.toNat++[32]:aH).length=(ka x.op.toNat).length+2:=by
     rw[aO,aO];simp only[bf,cu];omega
    have yU:(ao #[32]).size=1:=rfl;refine⟨sG,Blk.dT hB 2 rfl,ad,g1,_,g2,by rw[de];omega,by rw[inz];omega,?_⟩;rw[blb];refine(mU BW.pg _ (by omega)).mono ?_;rintro _ mS ⟨ahu,rfl,Ww,Oz⟩;obtain⟨Wx,Wy,_⟩:=BW.mv Ww Oz;refine⟨_,⟨.nilIface,rfl⟩,rfl,Wy,fun kX qB=>?_⟩;have F5:=Wx.only qB;obtain⟨p2,sz,f1,f2,f3,f4⟩:=F5.sub (i:=1) (y:=z) (by rw[hy];rfl);refine⟨fun k=>k<b∨k=k0,.inr rfl,p2,f1,.inl f2,_,_,_,_,_,_,f3,p2,f1,_,_,_,_,_,_,f3,(mH f4).mono ?_⟩;rintro _ my ⟨rfl,gv⟩;have F6:=F5.only gv;have Wz:=oP d (decide (fH z<=fH x)) (sK d y (decide (fH y<fH x)) (sJ wr l)++([32]++ka x.op.toNat++[32])) BU.2 Wq;rw[aO,N5]at Wz;refine⟨_,rfl,F5.same gv,bL.only gv,(rT d (decide (fH z<=fH x)) BU.2 Wq (jF f4 gv) hF F6.tb Oq F6.pg (by rw[aO,N5];omega)).mono ?_⟩;rintro _ pN ⟨ahv,rfl,WA,OA⟩;obtain⟨WB,WC,WD⟩:=F6.mv WA OA;exact⟨rfl,WC,WD,fin WB (((Oy.after jr).after lJ).after jN |>.trans ((Oz.after ob).trans ((OA.after gv).after qB))) (by rw[KP,if_neg k1,if_neg k2,if_neg k3,if_neg k4,hy]) (by omega)⟩
  ·have Wg:l=sJ wr l:=by unfold sJ;rw[hw];rfl
   have Ez:Pz d F G k0 b xs sG x.eN w1 sl (sJ wr l):=by rw[<-Wg];exact Rs
   have fin:∀{IJ:Sl} {w5:av} {m:aH},Pz d F G k0 b xs sG x.eN w5 IJ m->rb b sl w1 IJ w5->sK (d+1) x wr l=SI wr m->m.length<=l.length+40*(1+lC (jG d) x.eN)->∃nf,(Value.tuple #[])=ai #[]/\Pg G w5 b nf sG (sK (d+1) x wr l)/\rb b sl w nf w5:=by
    intro IJ w5 m F0 yW he KQ;refine⟨IJ,rfl,?_,yW.after cE⟩;rw[he];unfold SI;rw[hw];exact F0.pg
   refine⟨fun hk w3 dl=>?_,fun k1=>⟨fun hk w7 fm=>?_,fun k2=>⟨fun hk=>⟨?_,?_,fun dw dR=>?_⟩,fun k3=>⟨fun hk eS ez=>?_,fun k4=>(mH (show uG (d+1) _ F x (oO x.k x.n x.s x.op xs x.a)from⟨xs,rfl,Ez.sb⟩)).mono ?_⟩⟩⟩⟩
   ·have hk:x.k=1:=by simpa using hk
    have Wh:=Ez.only dl;refine(we x.n X7 Wh.tb).mono ?_;rintro _ w4 ⟨rfl,dA⟩;have hz4:=Wh.only dA;have hl:=Lib.itoa_length_le x.n X7.1 X7.2;refine⟨_,rfl,Wh.same dA,(mU hz4.pg (Lib.itoa x.n) (by omega)).mono ?_⟩;rintro _ w5 ⟨IJ,rfl,Ot,yW⟩;obtain⟨F0,IK,_⟩:=hz4.mv Ot yW;exact⟨_,⟨.nilIface,rfl⟩,rfl,IK,fin F0 ((yW.after dA).after dl) (by rw[KP,if_pos hk]) (by rw[aO];omega)⟩
   ·have hk:x.k=2:=by simpa using hk
    have k1:x.k≠1:=by omega
    have hz7:=Ez.only fm;have hl:=iV (mV hh (.inl hk));refine(mU hz7.pg x.s (by omega)).mono ?_;rintro _ w8 ⟨IJ,rfl,Ot,yW⟩;obtain⟨F0,IK,_⟩:=hz7.mv Ot yW;exact⟨_,⟨.nilIface,rfl⟩,rfl,IK,fin F0 (yW.after fm) (by rw[KP,if_neg k1,if_pos hk]) (by rw[aO];omega)⟩
   ·have hk:x.k=3:=by simpa using hk
    have hl:=iV (mV hh (.inr hk));rw[de];omega
   ·have hk:x.k=3:=by simpa using hk
    have hl:=iV (mV hh (.inr hk));rw[inz];have:(ao #[105,110,40]).size=3:=rfl;omega
   ·have hk:x.k=3:=by simpa using hk
    have hl:=iV (mV hh (.inr hk));have Ou:=Ez.only dR;have N5:([105,110,40]++x.s++[41]:aH).length=x.s.length+4:=by
     rw[aO,aO];simp only[bf,cu];omega
    rw[inb];refine(mU Ou.pg _ (by omega)).mono ?_;rintro _ dr ⟨IJ,rfl,Ot,yW⟩;obtain⟨F0,IK,_⟩:=Ou.mv Ot yW;exact⟨_,⟨.nilIface,rfl⟩,rfl,IK,fin F0 (yW.after dR) (by rw[KP,if_neg (by omega),if_neg (by omega),if_pos hk]) (by rw[aO];omega)⟩
   ·have hk:x.k=4:=by simpa using hk
    obtain⟨y,hy,BR⟩:=Mi hh hk;have Wi:lC (jG d) x.eN=jG d y:=by rw[hy];simp[lC]
    have hay:dI d y=true:=by rw[hy]at ha;simpa[mA]using ha
    have Ov:pe d y:=TF y (by rw[hy];simp);have Wj:=nI x.op.toNat;have BT:=Ez.only ez;obtain⟨q,hq,hB⟩:=BT.pg.blk;obtain⟨ad,g1,g2⟩:=BT.sig (op:=x.op) (by omega) (by omega);refine⟨sG,Blk.dT hB 2 rfl,ad,g1,_,g2,(mU BT.pg (ka x.op.toNat) (by omega)).mono ?_⟩;rintro _ eZ ⟨ahr,rfl,Wk,Ow⟩;obtain⟨Wl,Wm,_⟩:=BT.mv Wk Ow;refine⟨_,⟨.nilIface,rfl⟩,rfl,Wm,fun fU ix=>?_⟩;have F1:=Wl.only ix;obtain⟨p1,sy,e1,e2,e3,e4⟩:=F1.sub (i:=0) (y:=y) (by rw[hy];rfl);refine⟨fun k=>k<b∨k=k0,.inr rfl,p1,e1,.inl e2,_,_,_,_,_,_,e3,p1,e1,_,_,_,_,_,_,e3,(mH e4).mono ?_⟩;rintro _ gy ⟨rfl,ic⟩;have F2:=F1.only ic;have TG:=oP d (decide (fH y<6)) (sJ wr l++ka x.op.toNat) hay Ov;rw[aO]at TG;refine⟨_,rfl,F1.same ic,bL.only ic,(rT d (decide (fH y<6)) hay Ov (jF e4 ic) hF F2.tb Oq F2.pg (by rw[aO];omega)).mono ?_⟩;rintro _ fR ⟨ahs,rfl,Wn,Ox⟩;obtain⟨Wo,Wp,RN⟩:=F2.mv Wn Ox;exact⟨rfl,Wp,RN,fin Wo ((Ow.after ez).trans ((Ox.after ic).after ix)) (by rw[KP,if_neg (by omega),if_neg (by omega),if_neg (by omega),if_pos hk,hy]) (by omega)⟩
   ·rintro _ iL ⟨rfl,jN⟩;have k1:x.k≠1:=by simpa using k1
    have k2:x.k≠2:=by simpa using k2
    have k3:x.k≠3:=by simpa using k3
    have k4:x.k≠4:=by simpa using k4
    obtain⟨hk,y,z,hy,ho1,VJ⟩:=Mj hh k1 k2 k3 k4;have Wi:lC (jG d) x.eN=jG d y+jG d z:=by rw[hy];simp[lC]
    have BU:dI d y=true/\dI d z=true:=by rw[hy]at ha;simpa[mA]using ha
    have Ov:pe d y:=TF y (by rw[hy];simp);have Wq:pe d z:=TF z (by rw[hy];simp);have Wj:=nI x.op.toNat;have Wr:=Ez.only jN;refine⟨_,rfl,Ez.same jN,fun gJ lJ=>?_⟩;have F3:=Wr.only lJ;obtain⟨p1,sy,e1,e2,e3,e4⟩:=F3.sub (i:=0) (y:=y) (by rw[hy];rfl);refine⟨fun k=>k<b∨k=k0,.inr rfl,p1,e1,.inl e2,_,_,_,_,_,_,e3,p1,e1,_,_,_,_,_,_,e3,(mH e4).mono ?_⟩;rintro _ jO ⟨rfl,jr⟩;have F4:=F3.only jr;have TG:=oP d (decide (fH y<fH x)) (sJ wr l) BU.1 Ov;refine⟨_,rfl,F3.same jr,bL.only jr,(rT d (decide (fH y<fH x)) BU.1 Ov (jF e4 jr) hF F4.tb Oq F4.pg (by omega)).mono ?_⟩;rintro _ mR ⟨aht,rfl,Ws,Oy⟩;obtain⟨Wt,Wu,Wv⟩:=F4.mv Ws Oy;refine⟨rfl,Wu,Wv,fun mw ob=>?_⟩;have BW:=Wt.only ob;obtain⟨q,hq,hB⟩:=BW.pg.blk;obtain⟨ad,g1,g2⟩:=BW.sig (op:=x.op) (by omega) (by omega);have N5:([32]++ka x.op.toNat++[32]:aH).length=(ka x.op.toNat).length+2:=by
     rw[aO,aO];simp only[bf,cu];omega
    have yU:(ao #[32]).size=1:=rfl;refine⟨sG,Blk.dT hB 2 rfl,ad,g1,_,g2,by rw[de];omega,by rw[inz];omega,?_⟩;rw[blb];refine(mU BW.pg _ (by omega)).mono ?_;rintro _ mS ⟨ahu,rfl,Ww,Oz⟩;obtain⟨Wx,Wy,_⟩:=BW.mv Ww Oz;refine⟨_,⟨.nilIface,rfl⟩,rfl,Wy,fun kX qB=>?_⟩;have F5:=Wx.only qB;obtain⟨p2,sz,f1,f2,f3,f4⟩:=F5.sub (i:=1) (y:=z) (by rw[hy];rfl);refine⟨fun k=>k<b∨k=k0,.inr rfl,p2,f1,.inl f2,_,_,_,_,_,_,f3,p2,f1,_,_,_,_,_,_,f3,(mH f4).mono ?_⟩;rintro _ my ⟨rfl,gv⟩;have F6:=F5.only gv;have Wz:=oP d (decide (fH z<=fH x)) (sK d y (decide (fH y<fH x)) (sJ wr l)++([32]++ka x.op.toNat++[32])) BU.2 Wq;rw[aO,N5]at Wz;refine⟨_,rfl,F5.same gv,bL.only gv,(rT d (decide (fH z<=fH x)) BU.2 Wq (jF f4 gv) hF F6.tb Oq F6.pg (by rw[aO,N5];omega)).mono ?_⟩;rintro _ pN ⟨ahv,rfl,WA,OA⟩;obtain⟨WB,WC,WD⟩:=F6.mv WA OA;exact⟨rfl,WC,WD,fin WB (((Oy.after jr).after lJ).after jN |>.trans ((Oz.after ob).trans ((OA.after gv).after qB))) (by rw[KP,if_neg k1,if_neg k2,if_neg k3,if_neg k4,hy]) (by omega)⟩
def rz(d:Nat)(x:Ex):aH:=if dI d x=true then(if(mG (sK d x false [])).2.1≠0 then[]else sK d x false [])else[]
theorem UF{d:Nat}{w:av}{F:aJ}{x:Ex}{cs:aI}(hx:uG d w F x cs)(hl:xA d x)(hn:pe d x)(hE:Er w)(hT:Tb w)(hc:40*jG d x<=70368744177664):
  az aq 247 #[ah cs.toArray] w fun e w'=>e=ak (ab (T (rz d x)))/\ay [] w w':=by
 obtain⟨xs,rfl⟩:=qQ hx;refine ret (v6w _ _ _ _ _ _ _ _ ?_);intro k0 w0 gH eW cE;have hxi:=(iO d).inHeap hx;refine(Hc d hl (jF hx cE)).mono ?_;rintro _ w1 ⟨rfl,cA⟩;have z0:=cE.size;have z1:=cA.size;have iw:=cE.cp cA;refine⟨_,rfl,cA.same (by simp;omega),fun hs=>?_,fun hs=>(SE w1).mono ?_⟩
 ·have hs:dI d x=false:=by simpa using hs
  rw[rz,if_neg (by rw[hs];decide)];exact⟨rfl,iw⟩
 have hs:dI d x=true:=by simpa using hs
 rw[rz,if_pos hs];rintro _ w2 ⟨l0,rfl,Pe,cR⟩;have z2:=cR.size;refine⟨l0,rfl,cR.same (by simp;omega),fun k1 w3 lr jq dl um=>?_⟩;have z3:=dl.size;have yr:ay [] w w3:=(iw.cp cR).cp dl;have KP:Pg (fun k=>w1.heap.size<=k/\k<w2.heap.size) w3 k1 Sl.nil l0 []:=⟨⟨none,.inl rfl,um⟩,.inl ⟨rfl,rfl⟩,SliceF.only cG (by decide) Pe dl (by simp),fun k hk=>by have:=hk.2;omega⟩
 have Ka:=hT.only yr;have NZ:=hT.lt;refine(rT d false hs hn (jF hxi yr) (fun k hk=>by have:=hk.2;omega) Ka (by omega) KP (by rw[cu];omega)).mono ?_;rintro _ w4 ⟨sl4,rfl,hp4,X8⟩;have z4:=X8.1.size;have dA:ay [] w w4:=(yr.oZ X8.1).only fun k hk=>by
  rcases hk with rfl | e
  ·omega
  ·cases e
 obtain⟨q,hq,ub⟩:=hp4.blk;refine⟨rfl,X8.same (by omega) (fun e=>by cases e) (by omega),q,sl4,l0,ub,(Mh hp4.pt).mono ?_⟩;rintro _ w5 ⟨rfl,ht5,eJ⟩;have z5:=eJ.size;have uX:=eJ.blk ub (by omega);have vV:ay [] w w5:=(dA.oZ eJ).only fun k hk=>by have:=hk.1;omega
 refine⟨_,rfl,eJ.same (by simp;omega),q,sl4,l0,uX,(UB _ (hE.only vV)).mono ?_⟩;rintro _ w6 ⟨cs,rfl,hX,eh⟩;have z6:=eh.size;obtain⟨xl,rfl,_⟩:=hX.cells;have PB:=eh.blk uX (by simp);have abd:=vV.cp eh;refine⟨_,_,_,_,_,_,_,_,rfl,eh.same (by simp;omega),q,sl4,l0,PB,fun hr k2 k3 w7 _ _ _ _ fm _=>?_,fun hr k4 k5 w8 yF Ef zT Eh fp vT=>?_⟩
 ·rw[if_pos (by simpa using hr)];exact⟨rfl,abd.cp fm⟩
 ·have z8:=fp.size;refine(Mh ((ht5.only eh).only fp)).mono ?_;rintro _ w9 ⟨rfl,ht9,fS⟩;rw[if_neg (by simpa using hr)];have gL:∀k,sl4.a=some ⟨k,0,none⟩->k<w4.heap.size:=fun k hk=>(hp4.buf.lt hk).2;refine⟨_,rfl,fS.same fun k hk=>?_,q,sl4,l0,fS.blk vT (by omega),rfl,((abd.cp fp).oZ fS).only fun k hk=>by have:=hk.1;omega⟩;simp only[aQ,aW,bP]at hk;rcases hk with rfl | rfl | rfl
  ·exact⟨by omega,fun h=>by have:=h.1;omega⟩
  ·exact⟨Ef,fun h=>by have:=gL _ h.2;omega⟩
  ·exact⟨Eh,fun h=>by have:=gL _ h.2;omega⟩
theorem Qt{ts:List Tk}{i:Nat}{e:Int×Int}(h:Qo ts i=.error e):e.1≠0:=by
 unfold Qo at h;split at h
 ·split at h
  ·split at h
   ·cases h
   ·injection h with h;subst h;exact gn
  ·injection h with h;subst h;exact gn
 ·injection h with h;subst h;exact gn
theorem De{r:Pr}{g:Ex->Nat->Pr}{e:Int×Int}(h:Jd r g=.error e):r=.error e∨∃x j,r=.ok (x,j)/\g x j=.error e:=by
 cases r with
 | error e'=>exact .inl h
 | ok p=>exact .inr ⟨p.1,p.2,rfl,h⟩
theorem zr{d:Nat}{a:Int}{r:Pr}{e:Int×Int}(h:pd d a r=.error e):r=.error e∨e.1=21:=by
 unfold pd at h;split at h
 ·injection h with h;subst h;exact .inr rfl
 ·exact .inl h
theorem zu{ts:List Tk}{E:Nat->Pr}{k:Int}{e:Int×Int}(hE:∀i,E i=.error e->e.1≠0):∀(g:Nat) (x:Ex) (j:Nat),lj ts E k g x j=.error e->e.1≠0
 | 0,x,j,h=>by cases h
 | g+1,x,j,h=>by
  rw[lj]at h;split at h
  ·cases h
  ·rcases De h with h1 | ⟨y,m,h1,h2⟩
   ·exact hE _ h1
   ·exact zu hE g _ _ h2
theorem nJ{ts:List Tk}{e:Int×Int}:∀(f k d i:Nat),eP ts f k d i=.error e->e.1≠0
 | 0,k,d,i,h=>by
  rw[eP]at h;injection h with h;subst h;decide
 | f+1,k,d,i,h=>by
  rw[eP]at h;split at h
  ·unfold AN at h;split at h
   ·generalize hn:pd d (tk ts i).a (eP ts f 6 (d+1) (i+1))=r at h;cases r with
    | ok q=>cases h
    | error e'=>
     simp only[Qn]at h;injection h with h;subst h;rcases zr hn with h1 | h1
     ·exact nJ f _ _ _ h1
     ·rw[h1];decide
   ·split at h
    ·rcases zr h with h1 | h1
     ·cases hr:eP ts f 0 (d+1) (i+1)with
      | error e'=>
       rw[hr]at h1;simp only[yQ]at h1;injection h1 with h1;subst h1;exact nJ f _ _ _ hr
      | ok q=>
       rw[hr]at h1;simp only[yQ]at h1;split at h1
       ·cases h1
       ·injection h1 with h1;subst h1;exact gn
     ·rw[h1];decide
    ·split at h
     ·cases h
     ·split at h
      ·cases h
      ·split at h
       ·exact Qt h
       ·injection h with h;subst h;exact gn
  ·rcases De h with h1 | ⟨y,m,h1,h2⟩
   ·exact nJ f _ _ _ h1
   ·exact zu (fun i hi=>nJ f _ _ _ hi) _ _ _ h2
structure Ac where
 k:Int
 n:aH
 x:Ex
 a:Int
structure Mv where
 k:Int
 ev:aH
 wt:Int
 gd:Bool
 g:Ex
 acts:List Ac
 tg:List (aH)
 a:Int
structure Nb where
 k:Int
 nm:aH
 ini:aH
 dft:aH
 en:List Ac
 lv:List Ac
 mv:List Mv
 a:Int
inductive Nd where
 | mk (b:Nb) (kids:List Nd)
def Nd.b:Nd->Nb | .mk b _=>b
def Nd.kids:Nd->List Nd | .mk _ l=>l
structure Vr where
 n:aH
 v:Int
 a:Int
structure Ch where
 vars:List Vr
 root:Nd
def nb0:Nb:=⟨0,[],[],[],[],[],[],0⟩
def Jj:Nd:=.mk nb0 []
def ch0:Ch:=⟨[],Jj⟩
def tkZ:Tk:=⟨0,[],0,0⟩
structure Sx where
 i:Nat
 fc:Int
 fa:Int
 v:Int
 n:Int
 d:Int
 m:Int
 a:Int
section
variable (ts:List Tk)
def fF(s:Sx)(c:Int):Sx:=if s.fc=0 then{s with fc:=c,fa:=(tk ts s.i).a}else s
def ji(s:Sx):Sx:=if(tk ts s.i).k=5 then fF ts (fF ts s 3) 4 else fF ts s 4
def rA(c:aH):List (aH)->Nat
 | []=>0
 | x::l=>if c=x then 0 else rA c l+1
def cH(s:Sx)(l:List (aH)):Nat:=
 if s.fc≠0∨((tk ts s.i).k≠2/\(tk ts s.i).k≠4)then 0 else if rA (tk ts s.i).t l<l.length then rA (tk ts s.i).t l+1 else 0
def cZ(s:Sx):Sx:={s with i:=s.i+1}
def dB(s:Sx)(x:aH):Sx:=if cH ts s [x]=0 then ji ts s else cZ s
def fx(s:Sx)(k:Int):Tk×Sx:=if s.fc≠0∨(tk ts s.i).k≠k then(tkZ,ji ts s)else(tk ts s.i,cZ s)
def gC(s:Sx):aH×Sx:=((fx ts s 1).1.t,(fx ts s 1).2)
def nK(s:Sx):Ex×Sx:=
 if s.fc≠0 then(C9,s)
 else if(da ts s.i).2.2.1≠0 then((da ts s.i).1,{s with fc:=(da ts s.i).2.2.1,fa:=(da ts s.i).2.2.2})
 else((da ts s.i).1,{s with i:=(da ts s.i).2.1.toNat})
def vK(x:Int):Int:=ar U (x-1)
def inc(x:Int):Int:=ar U (x+1)
def rU(s:Sx):Sx:=if s.a=0 then{fF ts s 2 with a:=vK s.a}else{s with a:=vK s.a}
def qc(s:Sx):Sx:=if s.m=0 then{fF ts s 2 with m:=vK s.m}else{s with m:=vK s.m}
def Df(s:Sx):Sx:=if s.n=0 then{fF ts s 2 with n:=vK s.n}else{s with n:=vK s.n}
def Dg(s:Sx):Sx:=if s.v=0 then{fF ts s 2 with v:=vK s.v}else{s with v:=vK s.v}
def rc:aH:=[115,101,116]
def jH:aH:=[114,97,105,115,101]
def lk:aH:=[101,109,105,116]
def Fc:aH:=[111,110]
def jf:aH:=[97,108,119,97,121,115]
def jj:aH:=[97,102,116,101,114]
def fl:aH:=[105,110,105,116,105,97,108]
def gY:aH:=[101,110,116,101,114]
def gZ:aH:=[108,101,97,118,101]
def AU:aH:=[115,116,97,116,101]
def qR:aH:=[112,97,114,97,108,108,101,108]
def tC:aH:=[104,105,115,116,111,114,121]
def Hh:aH:=[100,101,101,112]
def fy:aH:=[99,104,97,114,116]
def Dh:aH:=[118,97,114]
def Jk(s:Sx)(k:Nat)(n:aH)(a:Int):Ac×Sx:=
 if k=2 then(⟨k,n,C9,a⟩,dB ts s [59])
 else(⟨k,n,(nK ts (dB ts s [61])).1,a⟩,dB ts (nK ts (dB ts s [61])).2 [59])
def pA(s:Sx):Ac×Sx:=
 if cH ts s [rc,jH,lk]=0 then(⟨0,[],C9,(tk ts s.i).a⟩,ji ts s)
 else if(rU ts s).fc≠0 then(⟨(cH ts s [rc,jH,lk]:Nat),[],C9,(tk ts s.i).a⟩,rU ts s)
 else Jk ts (gC ts (cZ (rU ts s))).2 (cH ts s [rc,jH,lk]) (gC ts (cZ (rU ts s))).1 (tk ts s.i).a
def qe:Nat->List Ac->Sx->List Ac×Sx
 | 0,acc,s=>(acc,s)
 | f+1,acc,s=>if s.fc≠0 then(acc,s)else if cH ts s [[125]]≠0 then(acc,cZ s)else qe f (acc++[(pA ts s).1]) (pA ts s).2
def hY(s:Sx):List Ac×Sx:=qe ts (ts.length+1) [] (dB ts s [123])
def vh:Nat->aH->List (aH)->Sx->List (aH)×Sx
 | 0,_,acc,s=>(acc,s)
 | f+1,x,acc,s=>if cH ts s [x]=0 then(acc,s)else vh f [44] (acc++[(gC ts (cZ s)).1]) (gC ts (cZ s)).2
def Di(m:Mv)(s:Sx):Mv×Sx:=
 ({m with tg:=(vh ts (ts.length+1) [45,62] [] s).1},dB ts (vh ts (ts.length+1) [45,62] [] s).2 [59])
def zv(m:Mv)(s:Sx):Mv×Sx:=
 if cH ts s [[123]]=0 then Di ts m s else Di ts {m with acts:=(hY ts s).1} (hY ts s).2
def nL(m:Mv)(s:Sx):Mv×Sx:=
 if cH ts s [[91]]=0 then zv ts m s else zv ts {m with gd:=true,g:=(nK ts (cZ s)).1} (dB ts (nK ts (cZ s)).2 [93])
def SK(k a:Int):Mv:=⟨k,[],0,false,C9,[],[],a⟩
def mc(k:Int)(s:Sx):Mv×Sx:=
 if(qc ts s).fc≠0 then(SK k (tk ts s.i).a,qc ts s)
 else if k=1 then nL ts {SK k (tk ts s.i).a with ev:=(gC ts (cZ (qc ts s))).1} (gC ts (cZ (qc ts s))).2
 else if k=3 then nL ts {SK k (tk ts s.i).a with wt:=(fx ts (cZ (qc ts s)) 3).1.n} (fx ts (cZ (qc ts s)) 3).2
 else nL ts (SK k (tk ts s.i).a) (cZ (qc ts s))
structure EA where
 i:Bool
 e:Bool
 l:Bool
def dW(n:Nb)(h:EA)(s:Sx):Bool×Nb×EA×Sx:=
 if cH ts s [Fc,jf,jj]≠0 then(true,{n with mv:=n.mv++[(mc ts (cH ts s [Fc,jf,jj]:Nat) s).1]},h,(mc ts (cH ts s [Fc,jf,jj]:Nat) s).2)
 else match cH ts s [fl,gY,gZ]with
  | 0=>(false,n,h,s)
  | 1=>if h.i then(false,n,h,ji ts s)else(true,{n with ini:=(gC ts (cZ s)).1},{h with i:=true},dB ts (gC ts (cZ s)).2 [59])
  | 2=>if h.e then(false,n,h,ji ts s)else(true,{n with en:=(hY ts (cZ s)).1},{h with e:=true},(hY ts (cZ s)).2)
  | _=>if h.l then(false,n,h,ji ts s)else(true,{n with lv:=(hY ts (cZ s)).1},{h with l:=true},(hY ts (cZ s)).2)
def iW:Nat->Nb->EA->Sx->Nb×Sx
 | 0,n,_,s=>(n,s)
 | f+1,n,h,s=>if s.fc≠0 then(n,s)
  else if(dW ts n h s).1 then iW f (dW ts n h s).2.1 (dW ts n h s).2.2.1 (dW ts n h s).2.2.2 else((dW ts n h s).2.1,(dW ts n h s).2.2.2)
def oQ:List (aH):=[AU,qR,tC,Hh]
def tD(N:Int->Sx->Nd×Sx):Nat->List Nd->Sx->List Nd×Sx
 | 0,acc,s=>(acc,s)
 | f+1,acc,s=>if cH ts s oQ=0 then(acc,s)else tD N f (acc++[(N (cH ts s oQ:Nat) (cZ s)).1]) (N (cH ts s oQ:Nat) (cZ s)).2
def pf(N:Int->Sx->Nd×Sx)(n:Nb)(s:Sx):Nd×Sx:=
 let c:=iW ts (ts.length+1) n ⟨false,false,false⟩ {s with d:=vK s.d}
 let k:=tD ts N (ts.length+1) [] c.2
 (.mk c.1 k.1,dB ts {k.2 with d:=inc k.2.d} [125])
def ph(s:Sx):Sx:=if(tk ts s.i).k=1 then(if(Df ts s).d=0 then fF ts (Df ts s) 21 else Df ts s)else s
def dY(k:Int)(s:Sx):Nb×Sx:=({nb0 with k:=k,nm:=(fx ts (ph ts s) 1).1.t,a:=(fx ts (ph ts s) 1).1.a},(fx ts (ph ts s) 1).2)
def jI:Nat->Int->Sx->Nd×Sx
 | 0,_,s=>(Jj,s)
 | f+1,k,s=>
  if 3<=k then(.mk {(dY ts k s).1 with dft:=(gC ts (dB ts (dY ts k s).2 [45,62])).1} [],dB ts (gC ts (dB ts (dY ts k s).2 [45,62])).2 [59])
  else pf ts (jI f) (dY ts k s).1 (dB ts (dY ts k s).2 [123])
def rV(s:Sx):Vr×Sx:=
 let s1:=if(tk ts s.i).k=1 then Dg ts s else s
 let t:=fx ts s1 1
 let s2:=dB ts t.2 [61]
 let g:=cH ts s2 [[45]]
 let q:=fx ts (if g=0 then s2 else cZ s2) 3
 (⟨t.1.t,if g=0 then q.1.n else ar U (-q.1.n),t.1.a⟩,dB ts q.2 [59])
def vi:Nat->List Vr->Sx->List Vr×Sx
 | 0,acc,s=>(acc,s)
 | f+1,acc,s=>if cH ts s [Dh]=0 then(acc,s)else vi f (acc++[(rV ts (cZ s)).1]) (rV ts (cZ s)).2
def Eo:Sx:=⟨0,0,0,16,64,12,200,400⟩
def Jl(s:Sx):Sx:=if s.fc=0/\(tk ts s.i).k≠5 then ji ts s else s
def xC:Ch×Sx:=
 let n:=dY ts 1 (dB ts Eo fy)
 let v:=vi ts (ts.length+1) [] (dB ts n.2 [123])
 let b:=pf ts (jI ts 14) n.1 v.2
 (⟨v.1,b.1⟩,Jl ts b.2)
end
def dE(l:aH):Ch×Int×Int:=
 if(cW l).2.1≠0 then(ch0,(cW l).2.1,(cW l).2.2)
 else if(xC (cW l).1).2.fc≠0 then(ch0,(xC (cW l).1).2.fc,(xC (cW l).1).2.fa)
 else((xC (cW l).1).1,0,0)
def mu(ts:List Tk)(s:Sx):Nat:=if s.fc=0 then ts.length-s.i else 0
structure On0 (ts:List Tk) (s s':Sx):Prop where
 lt:s.i<ts.length->s'.i<ts.length
 le:s'.fc=0->s.fc=0/\s.i<=s'.i
structure On (ts:List Tk) (s s':Sx):Prop extends On0 ts s s' where
 d:s'.d=s.d
section
variable {ts:List Tk} {s s' s'':Sx}
theorem On0.refl(ts:List Tk)(s:Sx):On0 ts s s:=⟨id,fun h=>⟨h,aV _⟩⟩
theorem On.refl(ts:List Tk)(s:Sx):On ts s s:=⟨On0.refl ts s,rfl⟩
theorem On0.trans(h:On0 ts s s')(k:On0 ts s' s''):On0 ts s s'':=⟨fun x=>k.lt (h.lt x),fun e=>by
 obtain⟨a,b⟩:=k.le e;obtain⟨c,d⟩:=h.le a;exact⟨c,bh d b⟩⟩
theorem On.trans(h:On ts s s')(k:On ts s' s''):On ts s s'':=⟨h.toOn0.trans k.toOn0,k.d.trans h.d⟩
theorem On0.mu(h:On0 ts s s'):mu ts s'<=mu ts s:=by
 unfold Con.mu;by_cases e:s'.fc=0
 ·obtain⟨a,b⟩:=h.le e;rw[if_pos e,if_pos a];omega
 ·rw[if_neg e];exact bp _
theorem mJ(c:Int):On ts s (fF ts s c):=by
 unfold fF;by_cases e:s.fc=0
 ·rw[if_pos e];exact⟨⟨id,fun _=>⟨e,aV _⟩⟩,rfl⟩
 ·rw[if_neg e];exact On.refl _ _
theorem Hi{c:Int}(hc:c≠0):(fF ts s c).fc≠0:=by
 unfold fF;by_cases e:s.fc=0
 ·rw[if_pos e];exact hc
 ·rw[if_neg e];exact e
theorem AV(c:Int):(fF ts s c).i=s.i:=by
 unfold fF;split<;>rfl
theorem nM:(ji ts s).fc≠0:=by
 unfold ji;split<;>exact Hi (by decide)
theorem nN:On ts s (ji ts s):=by
 unfold ji;split
 ·exact(mJ 3).trans (mJ 4)
 ·exact mJ 4
theorem Dk(l:List (aH)):cH ts s l<=l.length:=by
 unfold cH;split
 ·exact bp _
 ·split<;>omega
theorem cT{l:List (aH)}(h:cH ts s l≠0):s.fc=0/\(tk ts s.i).k≠5:=by
 unfold cH at h;split at h
 ·exact absurd rfl h
 ·rename_i hc;by_cases e:s.fc=0
  ·refine⟨e,fun e5=>hc (.inr ?_)⟩;rw[e5];exact⟨by decide,by decide⟩
  ·exact absurd (.inl e) hc
theorem jJ(hE:uD ts)(h0:s.fc=0)(hk:(tk ts s.i).k≠5):On ts s (cZ s):=⟨⟨fun h=>hE.next h hk,fun _=>⟨h0,fZ _⟩⟩,rfl⟩
theorem fO(hE:uD ts)(x:aH):On ts s (dB ts s x):=by
 unfold dB;by_cases h:cH ts s [x]=0
 ·rw[if_pos h];exact nN
 ·rw[if_neg h];exact jJ hE (cT h).1 (cT h).2
theorem tE(hE:uD ts){k:Int}(hk:k≠5):On ts s (fx ts s k).2:=by
 unfold fx;by_cases h:s.fc≠0∨(tk ts s.i).k≠k
 ·rw[if_pos h];exact nN
 ·rw[if_neg h];simp only[not_or,Gi]at h;exact jJ hE h.1 (by rw[h.2];exact hk)
theorem mL(hE:uD ts):On ts s (gC ts s).2:=tE hE (by decide)
end
section
variable {ts:List Tk} (hE:uD ts)
include hE
theorem UG{i:Nat}{x:Ex}{j:Nat}(hi:i<ts.length)(hk:(tk ts i).k≠5)(h:Qo ts i=.ok (x,j)):j<ts.length:=by
 unfold Qo at h;split at h
 ·rename_i h1;have l1:=hE.next hi hk;have l2:=hE.next l1 (AM h1);split at h
  ·rename_i h2;have l3:=hE.next l2 (by rw[h2];decide);split at h
   ·rename_i h3;have l4:=hE.next l3 (AM h3);simp only[eC,eB]at h;omega
   ·cases h
  ·cases h
 ·cases h
theorem Qu{E0 Kx:Nat->Pr}{d i:Nat}{x:Ex}{j:Nat}(hE0:∀i x j,i<ts.length->E0 i=.ok (x,j)->j<ts.length)(hO:∀i x j,i<ts.length->Kx i=.ok (x,j)->j<ts.length)(hi:i<ts.length)(h:AN ts E0 Kx d i=.ok (x,j)):j<ts.length:=by
 unfold AN at h;split at h
 ·rename_i hs;obtain⟨y,h1,_⟩:=G6 h;refine hO _ _ _ (hE.next hi ?_) (tA h1).1;rcases cD _ _▸hs with hs | hs<;>exact AM hs
 ·split at h
  ·rename_i hs;obtain⟨j',h1,h2,rfl⟩:=G7 (tA h).1;exact hE.next (hE0 _ _ _ (hE.next hi (AM hs)) h1) (AM h2)
  ·split at h
   ·rename_i hk;simp only[eC,eB]at h;have:=hE.next hi (by rw[hk];decide);omega
   ·split at h
    ·rename_i hk;simp only[eC,eB]at h;have:=hE.next hi (by rw[hk];decide);omega
    ·split at h
     ·rename_i hk;exact UG hE hi (by rw[hk.1];decide) h
     ·cases h
theorem Dl{E:Nat->Pr}{k:Int}(hE':∀i x j,i<ts.length->E i=.ok (x,j)->j<ts.length):∀(g:Nat) (x:Ex) (j:Nat) {x':Ex} {j':Nat},j<ts.length->lj ts E k g x j=.ok (x',j')->j'<ts.length
 | 0,x,j,x',j',hj,h=>by
  simp only[lj,eC,eB]at h;omega
 | g+1,x,j,x',j',hj,h=>by
  rw[lj]at h;split at h
  ·simp only[eC,eB]at h;omega
  ·rename_i ho;obtain⟨y,m,h1,h2⟩:=wc h;exact Dl hE' g _ _ (hE' _ _ _ (hE.next hj (uF _ _ ho)) h1) h2
theorem qf:∀(f k d i:Nat) {x:Ex} {j:Nat},i<ts.length->eP ts f k d i=.ok (x,j)->j<ts.length
 | 0,_,_,_,_,_,_,h=>by cases h
 | f+1,k,d,i,x,j,hi,h=>by
  rw[eP]at h;split at h
  ·exact Qu hE (fun i x j hi h=>qf f _ _ i hi h) (fun i x j hi h=>qf f _ _ i hi h) hi h
  ·obtain⟨y,m,h1,h2⟩:=wc h;exact Dl hE (fun i x j hi h=>qf f _ _ i hi h) _ _ _ (qf f _ _ _ hi h1) h2
theorem Jm{i:Nat}(h0:(da ts i).2.2.1=0):∃j:Nat,(da ts i).2.1=(j:Int)/\i<j/\j<ts.length:=by
 unfold da at h0⊢;split at h0
 ·rename_i hc;rw[if_pos hc];have hi:i<ts.length:=by have:=hc.2.1;omega
  rw[aZ]at h0⊢;unfold Fa at h0⊢;cases he:eP ts (jE 0 0) 0 0 i with
  | error e=>
   rw[he]at h0;obtain⟨c,p⟩:=e;exact absurd h0 (nJ _ _ _ _ he)
  | ok q=>
   obtain⟨x,j⟩:=q;exact⟨j,rfl,kb _ _ _ _ he,qf hE _ _ _ _ hi he⟩
 ·cases h0
theorem mM{s s':Sx}(h0:s.fc=0)(hi:s.i<ts.length)(hk:(tk ts s.i).k≠5)(h:On0 ts (cZ s) s'):mu ts s'<mu ts s:=by
 have h1:=h.mu;have h2:=hE.next hi hk;have e1:mu ts s=ts.length-s.i:=by unfold mu;rw[if_pos h0]
 have e2:mu ts (cZ s)=ts.length-(s.i+1):=by unfold mu cZ;rw[if_pos h0]
 omega
set_option linter.unusedSectionVars false in
theorem uH {s s':Sx} (h0:s.fc=0) (hi:s.i<ts.length) (h:s'.fc≠0):mu ts s'<mu ts s:=by
 unfold mu;rw[if_neg h,if_pos h0];omega
theorem Hj(s:Sx):On ts s (nK ts s).2:=by
 unfold nK;by_cases h0:s.fc≠0
 ·rw[if_pos h0];exact On.refl _ _
 ·rw[if_neg h0];by_cases h1:(da ts s.i).2.2.1≠0
  ·rw[if_pos h1];exact⟨⟨id,fun h=>absurd h h1⟩,rfl⟩
  ·rw[if_neg h1];obtain⟨j,e,l1,l2⟩:=Jm hE (i:=s.i) (by simpa using h1);dsimp only;rw[e,aZ];exact⟨⟨fun _=>l2,fun h=>⟨h,Nat.le_of_lt l1⟩⟩,rfl⟩
omit hE in
theorem AW (s:Sx):On ts s (rU ts s):=by
 unfold rU;split
 ·have h:=mJ (ts:=ts) (s:=s) 2;exact⟨⟨h.lt,h.le⟩,h.d⟩
 ·exact⟨⟨id,fun h=>⟨h,aV _⟩⟩,rfl⟩
omit hE in
theorem AX (s:Sx):On ts s (qc ts s):=by
 unfold qc;split
 ·have h:=mJ (ts:=ts) (s:=s) 2;exact⟨⟨h.lt,h.le⟩,h.d⟩
 ·exact⟨⟨id,fun h=>⟨h,aV _⟩⟩,rfl⟩
omit hE in
theorem AY (s:Sx):On ts s (Df ts s):=by
 unfold Df;split
 ·have h:=mJ (ts:=ts) (s:=s) 2;exact⟨⟨h.lt,h.le⟩,h.d⟩
 ·exact⟨⟨id,fun h=>⟨h,aV _⟩⟩,rfl⟩
omit hE in
theorem Qv (s:Sx):On ts s (Dg ts s):=by
 unfold Dg;split
 ·have h:=mJ (ts:=ts) (s:=s) 2;exact⟨⟨h.lt,h.le⟩,h.d⟩
 ·exact⟨⟨id,fun h=>⟨h,aV _⟩⟩,rfl⟩
omit hE in
theorem AZ (s:Sx):(rU ts s).i=s.i:=by
 unfold rU;split
 ·exact AV 2
 ·rfl
omit hE in
theorem A0 (s:Sx):(qc ts s).i=s.i:=by
 unfold qc;split
 ·exact AV 2
 ·rfl
theorem Hk(s:Sx)(k:Nat)(n:aH)(a:Int):On ts s (Jk ts s k n a).2:=by
 unfold Jk;split
 ·exact fO hE _
 ·exact((fO hE _).trans (Hj hE _)).trans (fO hE _)
theorem Ml(s u:Sx)(hu:On ts s u)(hi:u.i=s.i)(h0:u.fc=0)(hk:(tk ts s.i).k≠5):On ts s (cZ u):=hu.trans (jJ hE h0 (by rw[hi];exact hk))
theorem UH(s:Sx):On ts s (pA ts s).2:=by
 unfold pA;split
 ·exact nN
 ·rename_i h;split
  ·exact AW s
  ·rename_i h0;exact(Ml hE s _ (AW s) (AZ s) (by simpa using h0) (cT h).2).trans ((mL hE).trans (Hk hE _ _ _ _))
theorem UI{s:Sx}(h0:s.fc=0)(hi:s.i<ts.length):mu ts (pA ts s).2<mu ts s:=by
 unfold pA;split
 ·exact uH hE h0 hi nM
 ·rename_i h;split
  ·rename_i h1;exact uH hE h0 hi h1
  ·rename_i h1;have e:=AZ (ts:=ts) s;have hm:=(AW (ts:=ts) s).mu;exact cb (mM hE (by simpa using h1) (by rw[e];exact hi) (by rw[e];exact(cT h).2) ((mL hE).trans (Hk hE _ _ _ _)).toOn0) hm
theorem Hl:∀(f:Nat) (acc:List Ac) (s:Sx),On ts s (qe ts f acc s).2
 | 0,_,s=>On.refl _ _
 | f+1,acc,s=>by
  rw[qe];split
  ·exact On.refl _ _
  ·split
   ·rename_i h;exact jJ hE (cT h).1 (cT h).2
   ·exact(UH hE s).trans (Hl f _ _)
theorem qg(s:Sx):On ts s (hY ts s).2:=(fO hE _).trans (Hl hE _ _ _)
theorem Hm:∀(f:Nat) (x:aH) (acc:List (aH)) (s:Sx),On ts s (vh ts f x acc s).2
 | 0,_,_,s=>On.refl _ _
 | f+1,x,acc,s=>by
  rw[vh];split
  ·exact On.refl _ _
  ·rename_i h;exact((jJ hE (cT h).1 (cT h).2).trans (mL hE)).trans (Hm f _ _ _)
theorem Dm(m:Mv)(s:Sx):On ts s (Di ts m s).2:=(Hm hE _ _ _ _).trans (fO hE _)
theorem Dp(m:Mv)(s:Sx):On ts s (zv ts m s).2:=by
 unfold zv;split
 ·exact Dm hE _ _
 ·exact(qg hE _).trans (Dm hE _ _)
theorem xD(m:Mv)(s:Sx):On ts s (nL ts m s).2:=by
 unfold nL;split
 ·exact Dp hE _ _
 ·rename_i h;exact(((jJ hE (cT h).1 (cT h).2).trans (Hj hE _)).trans (fO hE _)).trans (Dp hE _ _)
theorem Dr(k:Int)(s u:Sx)(m:Mv):On ts u (if k=1 then nL ts {m with ev:=(gC ts u).1} (gC ts u).2 else if k=3 then nL ts {m with wt:=(fx ts u 3).1.n} (fx ts u 3).2 else nL ts m u).2:=by
 split
 ·exact(mL hE).trans (xD hE _ _)
 ·split
  ·exact(tE hE (by decide)).trans (xD hE _ _)
  ·exact xD hE _ _
theorem Qw(k:Int)(s:Sx)(hk:(tk ts s.i).k≠5):On ts s (mc ts k s).2:=by
 unfold mc;split
 ·exact AX s
 ·rename_i h1;exact(Ml hE s _ (AX s) (A0 s) (by simpa using h1) hk).trans (Dr hE k s _ _)
theorem Qx(k:Int){s:Sx}(h0:s.fc=0)(hi:s.i<ts.length)(hk:(tk ts s.i).k≠5):mu ts (mc ts k s).2<mu ts s:=by
 unfold mc;split
 ·rename_i h1;exact uH hE h0 hi h1
 ·rename_i h1;have e:=A0 (ts:=ts) s;have hm:=(AX (ts:=ts) s).mu;exact cb (mM hE (by simpa using h1) (by rw[e];exact hi) (by rw[e];exact hk) (Dr hE k s _ _).toOn0) hm
theorem zw(n:Nb)(h:EA)(s:Sx):On ts s (dW ts n h s).2.2.2:=by
 unfold dW;split
 ·rename_i hw;exact Qw hE _ s (cT hw).2
 ·split
  ·exact On.refl _ _
  ·rename_i hw;have hw:cH ts s [fl,gY,gZ]≠0:=by rw[hw];decide
   split
   ·exact nN
   ·exact((jJ hE (cT hw).1 (cT hw).2).trans (mL hE)).trans (fO hE _)
  ·rename_i hw;have hw:cH ts s [fl,gY,gZ]≠0:=by rw[hw];decide
   split
   ·exact nN
   ·exact(jJ hE (cT hw).1 (cT hw).2).trans (qg hE _)
  ·rename_i h0 h1 h2;have hw:cH ts s [fl,gY,gZ]≠0:=h0;split
   ·exact nN
   ·exact(jJ hE (cT hw).1 (cT hw).2).trans (qg hE _)
theorem Jn(n:Nb)(h:EA){s:Sx}(h0:s.fc=0)(hi:s.i<ts.length)(ht:(dW ts n h s).1=true):mu ts (dW ts n h s).2.2.2<mu ts s:=by
 unfold dW at ht⊢;split
 ·rename_i hw;exact Qx hE _ h0 hi (cT hw).2
 ·rename_i hw0;rw[if_neg hw0]at ht;split
  ·rename_i hw;rw[hw]at ht;cases ht
  ·rename_i hw;rw[hw]at ht;have hw:cH ts s [fl,gY,gZ]≠0:=by rw[hw];decide
   split
   ·exact uH hE h0 hi nM
   ·exact mM hE h0 hi (cT hw).2 ((mL hE).trans (fO hE _)).toOn0
  ·rename_i hw;have hw:cH ts s [fl,gY,gZ]≠0:=by rw[hw];decide
   split
   ·exact uH hE h0 hi nM
   ·exact mM hE h0 hi (cT hw).2 (qg hE _).toOn0
  ·rename_i h1 _ _;have hw:cH ts s [fl,gY,gZ]≠0:=h1;split
   ·exact uH hE h0 hi nM
   ·exact mM hE h0 hi (cT hw).2 (qg hE _).toOn0
theorem rW:∀(f:Nat) (n:Nb) (h:EA) (s:Sx),On ts s (iW ts f n h s).2
 | 0,_,_,s=>On.refl _ _
 | f+1,n,h,s=>by
  rw[iW];split
  ·exact On.refl _ _
  ·split
   ·exact(zw hE n h s).trans (rW f _ _ _)
   ·exact zw hE n h s
theorem Hn{N:Int->Sx->Nd×Sx}(d:Int)(hN:∀k s,s.d=d->s.fc=0->On ts s (N k s).2):∀(f:Nat) (acc:List Nd) (s:Sx),s.d=d->On ts s (tD ts N f acc s).2
 | 0,_,s,_=>On.refl _ _
 | f+1,acc,s,hd=>by
  rw[tD];split
  ·exact On.refl _ _
  ·rename_i h;have h1:=(jJ hE (cT h).1 (cT h).2).trans (hN (cH ts s oQ:Nat) (cZ s) hd (cT h).1);exact h1.trans (Hn d hN f _ _ (h1.d.trans hd))
theorem Qy{N:Int->Sx->Nd×Sx}{n:Nb}{s:Sx}(hd:rn s.d)(hN:∀k u,u.d=vK s.d->u.fc=0->On ts u (N k u).2):On ts s (pf ts N n s).2:=by
 unfold pf;dsimp only;have h1:=rW hE (ts.length+1) n ⟨false,false,false⟩ {s with d:=vK s.d};have h2:=Hn hE (vK s.d) hN (ts.length+1) [] _ h1.d;have h3:=h1.trans h2;have h4:=fO hE [125] (s:={(tD ts N (ts.length+1) [] (iW ts (ts.length+1) n ⟨false,false,false⟩ {s with d:=vK s.d}).2).2 with d:=inc (tD ts N (ts.length+1) [] (iW ts (ts.length+1) n ⟨false,false,false⟩ {s with d:=vK s.d}).2).2.d});refine⟨⟨fun h=>h4.lt (h3.lt h),fun e=>?_⟩,h4.d.trans ?_⟩
 ·obtain⟨a,b⟩:=h4.le e;obtain⟨c,d⟩:=h3.le a;exact⟨c,bh d b⟩
 ·dsimp only;rw[h3.d];dsimp only;unfold inc vK;have:=hd.1;have:=hd.2;simp only[IntKind.wrap_i64];omega
omit hE in
theorem QA (s:Sx):On ts s (ph ts s):=by
 unfold ph;split
 ·split
  ·exact(AY s).trans (mJ _)
  ·exact AY s
 ·exact On.refl _ _
theorem xE(k:Int)(s:Sx):On ts s (dY ts k s).2:=(QA s).trans (tE hE (by decide))
omit hE in
theorem QB {k:Int} {s:Sx} (h:(dY ts k s).2.fc=0):s.d≠0:=fun e=>by
 revert h;unfold dY fx;dsimp only;by_cases h1:(tk ts s.i).k=1
 ·have hf:(ph ts s).fc≠0:=by
   unfold ph;rw[if_pos h1,if_pos ((AY s).d.trans e)];exact Hi (by decide)
  rw[if_pos (.inl hf)];exact nM
 ·have e2:ph ts s=s:=by unfold ph;rw[if_neg h1]
  rw[e2,if_pos (.inr h1)];exact nM
theorem Ho:∀(f:Nat) (k:Int) (s:Sx),rn s.d->On ts s (jI ts f k s).2
 | 0,_,s,_=>On.refl _ _
 | f+1,k,s,hd=>by
  rw[jI];have h1:=xE hE k s;split
  ·exact((h1.trans (fO hE _)).trans (mL hE)).trans (fO hE _)
  ·have h2:=h1.trans (fO hE [123]);refine h2.trans (Qy hE (by rw[h2.d];exact hd) fun k u hu _=>Ho f k u ?_);rw[hu];exact K3 _
theorem Mm(s:Sx):On ts s (rV ts s).2:=by
 unfold rV;dsimp only;have h1:On ts s (if(tk ts s.i).k=1 then Dg ts s else s):=by
  split
  ·exact Qv s
  ·exact On.refl _ _
 have h2:∀u:Sx,On ts u (if cH ts u [[45]]=0 then u else cZ u):=fun u=>by
  split
  ·exact On.refl _ _
  ·rename_i h;exact jJ hE (cT h).1 (cT h).2
 exact((((h1.trans (tE hE (by decide))).trans (fO hE _)).trans (h2 _)).trans (tE hE (by decide))).trans (fO hE _)
end
def Mk(w:av)(F:aJ)(e:TypeId)(size:Nat)(s:Sl):Prop:=s.n=0∨∃g cs,s.a=some ⟨g,0,none⟩/\F g/\aF w g e cs/\s.n*size<=cs.length
def iE{α:Type}(t:Bool)(r:Rp α)(size:Nat)(e:TypeId)(w:av)(F:aJ)(s:Sl)(xs:List α):Prop:=aA r size w F s xs/\(t=true->Mk w F e size s)
section
variable {α:Type} {t:Bool} {r q:Rp α} {size:Nat} {e:TypeId} {w w':av} {F G:aJ} {s:Sl} {xs:List α} {B:Nat}
theorem Mk.keep(h:Mk w F e size s)(hk:∀k,F k->k<w.heap.size->w'.heap[k]? =w.heap[k]?):Mk w' F e size s:=by
 rcases h with h | ⟨g,cs,h1,h2,h3,h4⟩
 ·exact .inl h
 ·exact .inr ⟨g,cs,h1,h2,(hk g h2 h3.lt).trans h3,h4⟩
theorem Mk.mono(h:Mk w F e size s)(hk:∀k,F k->k<w.heap.size->G k):Mk w G e size s:=by
 rcases h with h | ⟨g,cs,h1,h2,h3,h4⟩
 ·exact .inl h
 ·exact .inr ⟨g,cs,h1,hk g h2 h3.lt,h3,h4⟩
theorem iE.keep(hr:r.Ok)(h:iE t r size e w F s xs)(hs:0<size)(hk:∀k,F k->k<w.heap.size->w'.heap[k]? =w.heap[k]?):iE t r size e w' F s xs:=⟨h.1.keep hr hs hk,fun x=>(h.2 x).keep hk⟩
theorem iE.inHeap(hr:r.Ok)(h:iE t r size e w F s xs)(hs:0<size):iE t r size e w (fun k=>F k/\k<w.heap.size) s xs:=⟨h.1.inHeap hr hs,fun x=>(h.2 x).mono fun k a b=>⟨a,b⟩⟩
theorem iE.mono(hr:r.Ok)(h:iE t r size e w F s xs)(hk:∀k,F k->G k):iE t r size e w G s xs:=⟨h.1.mono hr hk,fun x=>(h.2 x).mono fun k a _=>hk k a⟩
theorem iE.nil(t:Bool)(r:Rp α)(size:Nat)(e:TypeId)(w:av)(F:aJ):iE t r size e w F Sl.nil []:=⟨SliceF.nil _ _ _ _,fun _=>.inl rfl⟩
theorem iE.imp(h:iE t r size e w F s xs)(hi:∀x cs,x∈xs->r w F x cs->q w F x cs):iE t q size e w F s xs:=⟨Da h.1 hi,h.2⟩
theorem iE.off(h:iE t r size e w F s xs)(hi:∀x cs,x∈xs->r w F x cs->q w F x cs):iE false q size e w F s xs:=⟨Da h.1 hi,fun h=>(by cases h)⟩
theorem _root_.Go.Kt.Own.sl(hr:r.Ok)(h:Own r size e B w F s xs)(hF:∀k,B<=k->F k):iE true r size e w F s xs:=by
 refine⟨(h.slice hr).mono hr fun k hk=>hk.elim id fun x=>hF k x.1,fun _=>?_⟩;rcases h with⟨rfl,rfl⟩ | ⟨g,css,tail,h1,h2,h4,h5,h6,h7,h9,h8⟩
 ·exact .inl rfl
 ·exact .inr ⟨g,_,h1,hF g h2,h4,by rw[aO,kY.FM h8,<-h6];omega⟩
end
def Hp(t:Bool):Nat->Rp Ex
 | 0=>fun _ _ _ _=>False
 | d+1=>fun w F x cs=>∃sl:Sl,cs=oO x.k x.n x.s x.op sl x.a/\iE t (Hp t d) 6 64 w F sl x.eN
theorem jl(t:Bool):∀d,(Hp t d).Ok
 | 0=>⟨fun h _=>h.elim,fun h=>h.elim,fun h _=>h.elim,fun h=>h.elim⟩
 | d+1=>⟨fun⟨sl,h1,h2⟩ hk=>⟨sl,h1,iE.keep (jl t d) h2 (by decide) hk⟩,fun⟨sl,h1,h2⟩=>⟨sl,h1,iE.inHeap (jl t d) h2 (by decide)⟩,fun⟨sl,h1,h2⟩ hk=>⟨sl,h1,iE.mono (jl t d) h2 hk⟩,fun⟨sl,h1,h2⟩=>by
  subst h1;intro v hv;simp only[aQ,aW,bP]at hv;rcases hv with rfl | rfl | rfl | rfl | rfl | rfl<;>rfl⟩
theorem Mn{t:Bool}{w:av}{F:aJ}:∀{d:Nat} {x:Ex} {cs:aI},Hp t d w F x cs->Hp t (d+1) w F x cs
 | 0,_,_,h=>h.elim
 | d+1,x,cs,⟨sl,h1,h2⟩=>⟨sl,h1,h2.imp fun x cs _ h=>Mn h⟩
theorem Fe{t:Bool}{w:av}{F:aJ}{d e:Nat}{x:Ex}{cs:aI}(h:d<=e)(hx:Hp t d w F x cs):Hp t e w F x cs:=by
 induction e with
 | zero=>have:d=0:=(by omega);subst this;exact hx
 | succ e ih=>
  by_cases he:d=e+1
  ·subst he;exact hx
  ·exact Mn (ih (by omega))
theorem A1{t:Bool}{w:av}{F:aJ}:∀{d:Nat} {x:Ex} {cs:aI},Hp t d w F x cs->uG d w F x cs
 | 0,_,_,h=>h.elim
 | d+1,x,cs,⟨sl,h1,h2⟩=>⟨sl,h1,Da h2.1 fun x cs _ h=>A1 h⟩
theorem Mo{w:av}{F:aJ}:∀{d:Nat} {x:Ex} {cs:aI},uG d w F x cs->Hp false d w F x cs
 | 0,_,_,h=>h.elim
 | d+1,x,cs,⟨sl,h1,h2⟩=>⟨sl,h1,Da h2 fun x cs _ h=>Mo h,fun h=>(by cases h)⟩
theorem RXN.xg{w:av}{x:Ex}{cs:aI}{N:aJ}{lo hi:Nat}(h:RXN w N lo hi x cs):∃d,Hp true d w (fun k=>lo<=k/\k<hi) x cs:=by
 induction h with
 | leaf lo hi k n s op a=>exact⟨1,Sl.nil,rfl,iE.nil _ _ _ _ _ _⟩
 | one lo m g hi k n s op a x cs h1 h2 h3 h4 hn h5 ih=>
  obtain⟨d,ih⟩:=ih;obtain⟨sl,lQ,_⟩:=h1.cells;refine⟨d+1,_,rfl,⟨rfl,aV _,fun h=>(by cases h),(by decide:(1:Nat)<=9223372036854775807),fun j y hj=>?_⟩,fun _=>.inr ⟨g,cs,rfl,⟨h2,h4⟩,h5,by rw[lQ];exact aV _⟩⟩;have TE:j=0:=by
   have:=(aY.1 hj).1;simp only[Ex.eN,bK]at this;omega
  subst TE;simp only[Ex.eN,ck,aX]at hj;subst hj;exact⟨⟨g,0,none⟩,cs,rfl,⟨h2,h4⟩,by rw[lQ];rfl,by rw[Gc];exact h5.cells 0 cs fun j v hv=>by rw[bJ];exact hv,(jl true d).mono ih fun k hk=>⟨hk.1,by omega⟩⟩
 | two lo m m' m2 g hi k n s op a x y cs ds h1 h2 h3 h4 h5 h6 h7 h8 hn h9 KM Py=>
  obtain⟨d1,KM⟩:=KM;obtain⟨d2,Py⟩:=Py;obtain⟨sl,lQ,_⟩:=h1.cells;obtain⟨sl2,hds,_⟩:=h3.cells;have e1:cs.length=6:=by rw[lQ];rfl
  have e2:ds.length=6:=by rw[hds];rfl
  refine⟨max d1 d2+1,_,rfl,⟨rfl,aV _,fun h=>(by cases h),(by decide:(2:Nat)<=9223372036854775807),fun j y hj=>?_⟩,fun _=>.inr ⟨g,cs++ds,rfl,⟨by omega,h8⟩,h9,by rw[aO,e1,e2];exact aV _⟩⟩;rcases j with _ | _ | j
  ·simp only[Ex.eN,ck,aX]at hj;subst hj;exact⟨⟨g,0,none⟩,cs,rfl,⟨by dsimp only;omega,h8⟩,e1,by rw[Gc];exact h9.cells 0 cs fun j v hv=>by rw[bJ,bM (aY.1 hv).1];exact hv,(jl true _).mono (Fe (OZ _ _) KM) fun k hk=>⟨hk.1,by omega⟩⟩
  ·simp only[Ex.eN,cz,ck,aX]at hj;subst hj;exact⟨⟨g,0,none⟩,ds,rfl,⟨by dsimp only;omega,h8⟩,e2,by
    rw[eU];exact h9.cells 6 ds fun j v hv=>by rw[bX (by omega),e1,dH];exact hv,(jl true _).mono (Fe (Kl _ _) Py) fun k hk=>⟨by omega,by omega⟩⟩
  ·simp[Ex.eN]at hj
def rE(t:Bool):Rp Ex:=fun w F x cs=>∃d,Hp t d w F x cs
theorem gQ(t:Bool):(rE t).Ok:=⟨fun⟨d,h⟩ hk=>⟨d,(jl t d).keep h hk⟩,fun⟨d,h⟩=>⟨d,(jl t d).inHeap h⟩,fun⟨d,h⟩ hk=>⟨d,(jl t d).mono h hk⟩,fun⟨d,h⟩=>(jl t d).one h⟩
theorem gR{t:Bool}{w:av}{F:aJ}{x:Ex}{cs:aI}(h:rE t w F x cs):∃sl,cs=oO x.k x.n x.s x.op sl x.a:=by
 obtain⟨d,h⟩:=h;cases d with
 | zero=>exact h.elim
 | succ d=>obtain⟨sl,h,_⟩:=h;exact⟨sl,h⟩
theorem Mp{t:Bool}{w:av}{F:aJ}{x:Ex}{cs:aI}(h:rE t w F x cs):rE false w F x cs:=by
 obtain⟨d,h⟩:=h;exact⟨d,Mo (A1 h)⟩
theorem XC(t:Bool)(w:av)(F:aJ):rE t w F C9 (oO 0 0 [] 0 Sl.nil 0):=⟨1,Sl.nil,rfl,iE.nil _ _ _ _ _ _⟩
def acv(k:Int)(n:aH)(xc:aI)(a:Int):aI:=O U k::ab (T n)::(xc++[O U a])
def pj(t:Bool):Rp Ac:=fun w F x cs=>∃xc,cs=acv x.k x.n xc x.a/\rE t w F x.x xc
theorem cV(t:Bool):(pj t).Ok:=⟨fun⟨c,h1,h2⟩ hk=>⟨c,h1,(gQ t).keep h2 hk⟩,fun⟨c,h1,h2⟩=>⟨c,h1,(gQ t).inHeap h2⟩,fun⟨c,h1,h2⟩ hk=>⟨c,h1,(gQ t).mono h2 hk⟩,fun⟨c,h1,h2⟩=>by
 subst h1;intro v hv;simp only[acv,aQ,cr,aW,bP]at hv;rcases hv with rfl | rfl | h | rfl
 ·rfl
 ·rfl
 ·exact(gQ t).one h2 v h
 ·rfl⟩
def mvv(k:Int)(ev:aH)(wt:Int)(gd:Bool)(gc:aI)(qC tg:Sl)(a:Int):aI:=O U k::ab (T ev)::O U wt::aj gd::(gc++[qC.v,tg.v,O U a])
def Ff(t:Bool):Rp Mv:=fun w F x cs=>∃gc qC tg,cs=mvv x.k x.ev x.wt x.gd gc qC tg x.a/\rE t w F x.g gc/\iE t (pj t) 9 196 w F qC x.acts/\iE t im 1 9 w F tg x.tg
theorem kc(t:Bool):(Ff t).Ok:=⟨fun⟨c,qC,tg,h1,h2,h3,h4⟩ hk=>⟨c,qC,tg,h1,(gQ t).keep h2 hk,h3.keep (cV t) (by decide) hk,h4.keep cG (by decide) hk⟩,
 fun⟨c,qC,tg,h1,h2,h3,h4⟩=>⟨c,qC,tg,h1,(gQ t).inHeap h2,h3.inHeap (cV t) (by decide),h4.inHeap cG (by decide)⟩,
 fun⟨c,qC,tg,h1,h2,h3,h4⟩ hk=>⟨c,qC,tg,h1,(gQ t).mono h2 hk,h3.mono (cV t) hk,h4.mono cG hk⟩,
 fun⟨c,qC,tg,h1,h2,h3,h4⟩=>by
  subst h1;intro v hv;simp only[mvv,aQ,cr,aW,bP]at hv;rcases hv with rfl | rfl | rfl | rfl | h | rfl | rfl | rfl
  ·rfl
  ·rfl
  ·rfl
  ·rfl
  ·exact(gQ t).one h2 v h
  ·rfl
  ·rfl
  ·rfl⟩
def O4:Rp Vr:=fun _ _ x cs=>cs=[ab (T x.n),O U x.v,O U x.a]
theorem fe:O4.Ok:=⟨fun h _=>h,fun h=>h,fun h _=>h,fun h=>by
 unfold O4 at h;subst h;intro v hv;simp only[aQ,aW,bP]at hv;rcases hv with rfl | rfl | rfl<;>rfl⟩
abbrev me(k:Int)(nm ini dft:aH)(en lv mv kids:Sl)(a:Int):aI:=[O U k,ab (T nm),ab (T ini),ab (T dft),en.v,lv.v,mv.v,kids.v,O U a]
def A2(t:Bool)(w:av)(F:aJ)(x:Nb)(en lv mv:Sl):Prop:=iE t (pj t) 9 196 w F en x.en/\iE t (pj t) 9 196 w F lv x.lv/\iE t (Ff t) 13 147 w F mv x.mv
def mr(t:Bool):Nat->Rp Nd
 | 0=>fun _ _ _ _=>False
 | d+1=>fun w F x cs=>∃en lv mv kids:Sl,cs=me x.b.k x.b.nm x.b.ini x.b.dft en lv mv kids x.b.a/\A2 t w F x.b en lv mv/\iE t (mr t d) 9 27 w F kids x.kids
section
variable {t:Bool} {w w':av} {F G:aJ} {x:Nb} {en lv mv:Sl}
theorem A2.keep(h:A2 t w F x en lv mv)(hk:∀k,F k->k<w.heap.size->w'.heap[k]? =w.heap[k]?):A2 t w' F x en lv mv:=⟨h.1.keep (cV t) (by decide) hk,h.2.1.keep (cV t) (by decide) hk,h.2.2.keep (kc t) (by decide) hk⟩
theorem A2.inHeap(h:A2 t w F x en lv mv):A2 t w (fun k=>F k/\k<w.heap.size) x en lv mv:=⟨h.1.inHeap (cV t) (by decide),h.2.1.inHeap (cV t) (by decide),h.2.2.inHeap (kc t) (by decide)⟩
theorem A2.mono(h:A2 t w F x en lv mv)(hk:∀k,F k->G k):A2 t w G x en lv mv:=⟨h.1.mono (cV t) hk,h.2.1.mono (cV t) hk,h.2.2.mono (kc t) hk⟩
end
theorem cw(t:Bool):∀d,(mr t d).Ok
 | 0=>⟨fun h _=>h.elim,fun h=>h.elim,fun h _=>h.elim,fun h=>h.elim⟩
 | d+1=>⟨fun⟨en,lv,mv,kids,h1,h2,h3⟩ hk=>⟨en,lv,mv,kids,h1,h2.keep hk,iE.keep (cw t d) h3 (by decide) hk⟩,
  fun⟨en,lv,mv,kids,h1,h2,h3⟩=>⟨en,lv,mv,kids,h1,h2.inHeap,iE.inHeap (cw t d) h3 (by decide)⟩,
  fun⟨en,lv,mv,kids,h1,h2,h3⟩ hk=>⟨en,lv,mv,kids,h1,h2.mono hk,iE.mono (cw t d) h3 hk⟩,fun⟨en,lv,mv,kids,h1,h2,h3⟩=>by
  subst h1;intro v hv;simp only[aQ,aW,bP]at hv;rcases hv with rfl | rfl | rfl | rfl | rfl | rfl | rfl | rfl | rfl<;>rfl⟩
theorem Mq{t:Bool}{w:av}{F:aJ}:∀{d:Nat} {x:Nd} {cs:aI},mr t d w F x cs->mr t (d+1) w F x cs
 | 0,_,_,h=>h.elim
 | d+1,x,cs,⟨en,lv,mv,kids,h1,h2,h3⟩=>⟨en,lv,mv,kids,h1,h2,h3.imp fun x cs _ h=>Mq h⟩
theorem UJ{t:Bool}{w:av}{F:aJ}{d e:Nat}{x:Nd}{cs:aI}(h:d<=e)(hx:mr t d w F x cs):mr t e w F x cs:=by
 induction e with
 | zero=>have:d=0:=(by omega);subst this;exact hx
 | succ e ih=>
  by_cases he:d=e+1
  ·subst he;exact hx
  ·exact Mq (ih (by omega))
theorem A3{t:Bool}{w:av}{F:aJ}{x:Ac}{cs:aI}(h:pj t w F x cs):pj false w F x cs:=by
 obtain⟨c,h1,h2⟩:=h;exact⟨c,h1,Mp h2⟩
theorem QC{t:Bool}{w:av}{F:aJ}{x:Mv}{cs:aI}(h:Ff t w F x cs):Ff false w F x cs:=by
 obtain⟨c,qC,tg,h1,h2,h3,h4⟩:=h;exact⟨c,qC,tg,h1,Mp h2,h3.off fun _ _ _ h=>A3 h,h4.off fun _ _ _ h=>h⟩
theorem A2.off{t:Bool}{w:av}{F:aJ}{x:Nb}{en lv mv:Sl}(h:A2 t w F x en lv mv):A2 false w F x en lv mv:=⟨h.1.off fun _ _ _ h=>A3 h,h.2.1.off fun _ _ _ h=>A3 h,h.2.2.off fun _ _ _ h=>QC h⟩
theorem Hq{t:Bool}{w:av}{F:aJ}:∀{d:Nat} {x:Nd} {cs:aI},mr t d w F x cs->mr false d w F x cs
 | 0,_,_,h=>h.elim
 | d+1,x,cs,⟨en,lv,mv,kids,h1,h2,h3⟩=>⟨en,lv,mv,kids,h1,h2.off,h3.off fun x cs _ h=>Hq h⟩
structure ChR (t:Bool) (d:Nat) (w:av) (F:aJ) (c:Ch) (vs:Sl) (cs:aI):Prop where
 vars:iE t O4 3 95 w F vs c.vars
 root:mr t d w F c.root cs
abbrev Fr(B:Nat):aJ:=fun k=>B<=k
section
variable {α:Type} {r:Rp α} {size:Nat} {e:TypeId} {w w':av} {s:Sl} {xs:List α} {B:Nat}
theorem _root_.Go.Kt.Own.stay(hr:r.Ok)(h:Own r size e B w (Fr B) s xs){bs:List Nat}(hO:ay bs w w')(hb:∀x,x∈bs->x<B∨w.heap.size<=x):Own r size e B w' (Fr B) s xs:=by
 refine((h.inHeap hr).keep hr fun k hk bQ=>hO.block k bQ fun hm=>?_).mono hr fun k hk=>hk.1;have iq:B<=k/\k<w.heap.size:=by
  rcases hk with hk | hk
  ·exact hk
  ·exact⟨hk.1,bQ⟩
 rcases hb k hm with h | h<;>omega
theorem _root_.Go.Kt.Own.new(h:Own r size e B w (Fr B) s xs){k:Nat}(hk:w.heap.size<=k):s.a≠some ⟨k,0,none⟩:=fun e=>by
 have:=(h.blk e).2;dsimp only at this;omega
end
mutual
def B1:Ex->Nat
 | .mk _ _ _ _ l _=>SL l+1
def SL:List Ex->Nat
 | []=>0
 | x::l=>max (B1 x) (SL l)
end
mutual
def zx:Ex->Nat
 | .mk _ _ s _ l _=>Jo l+(s.length+1)
def Jo:List Ex->Nat
 | []=>0
 | x::l=>zx x+Jo l
end
theorem A4(x:Ex):B1 x=SL x.eN+1:=by cases x;rw[B1];rfl
theorem A5(x:Ex):zx x=Jo x.eN+(x.s.length+1):=by cases x;rw[zx];rfl
theorem wg{y:Ex}:∀{l:List Ex},y∈l->B1 y<=SL l
 | [],h=>by simp at h
 | x::l,h=>by
  rw[SL];rcases aQ.1 h with rfl | h
  ·exact OZ _ _
  ·exact bh (wg h) (Kl _ _)
theorem Hr{y:Ex}:∀{l:List Ex},y∈l->zx y<=Jo l
 | [],h=>by simp at h
 | x::l,h=>by
  rw[Jo];rcases aQ.1 h with rfl | h
  ·omega
  ·have:=Hr h;omega
theorem Mr{d:Nat}:∀{l:List Ex},(∀y,y∈l->B1 y<=d)->SL l<=d
 | [],_=>by rw[SL];omega
 | x::l,h=>by
  rw[SL];exact Nat.max_le.2 ⟨h x (by simp),Mr fun y hy=>h y (by simp[hy])⟩
theorem A6(x:Ex):1<=B1 x:=by rw[A4];omega
theorem Ms{w:av}{F:aJ}:∀{d:Nat} {x:Ex} {cs:aI},uG d w F x cs->B1 x<=d
 | 0,_,_,h=>h.elim
 | d+1,x,cs,⟨sl,h1,h2⟩=>by
  rw[A4];refine Km (Mr fun y hy=>?_);obtain⟨j,hj⟩:=ig hy;obtain⟨_,cs,_,_,_,_,h⟩:=h2.at_ j y hj;exact Ms h
theorem xF{f g:Ex->Bool}:∀{l:List Ex},(∀y,y∈l->f y=g y)->mA f l=mA g l
 | [],_=>rfl
 | x::l,h=>by rw[mA,mA,h x (by simp),xF fun y hy=>h y (by simp[hy])]
theorem Ds:∀(d e:Nat) (x:Ex),B1 x<=d->B1 x<=e->dI d x=dI e x
 | 0,_,x,h,_=>by have:=A6 x;omega
 | _,0,x,_,h=>by have:=A6 x;omega
 | d+1,e+1,x,h,k=>by
  rw[A4]at h k;rw[dI,dI,xF fun y hy=>Ds d e y (by have:=wg hy;omega) (by have:=wg hy;omega)]
theorem Hs:∀(d e:Nat) (x:Ex) (wr:Bool) (l:aH),B1 x<=d->B1 x<=e->sK d x wr l=sK e x wr l
 | 0,_,x,_,_,h,_=>by have:=A6 x;omega
 | _,0,x,_,_,_,h=>by have:=A6 x;omega
 | d+1,e+1,x,wr,l,h,k=>by
  rw[A4]at h k;have hm:∀y,y∈x.eN->B1 y<=d/\B1 y<=e:=fun y hy=>by have:=wg hy;omega
  rw[sK,sK];cases hx:x.eN with
  | nil=>rfl
  | cons y m=>
   cases m with
   | nil=>
    have hy:=hm y (by rw[hx];simp);dsimp only;rw[Hs d e y _ _ hy.1 hy.2]
   | cons z m=>
    cases m with
    | nil=>
     have hy:=hm y (by rw[hx];simp);have hz:=hm z (by rw[hx];simp);dsimp only;rw[Hs d e y _ _ hy.1 hy.2,Hs d e z _ _ hz.1 hz.2]
    | cons _ _=>rfl
theorem Fg:∀(d:Nat) (x:Ex),jG d x<=zx x
 | 0,x=>bp _
 | d+1,x=>by
  rw[jG,A5];have:∀l:List Ex,lC (jG d) l<=Jo l:=fun l=>by
   induction l with
   | nil=>exact bp _
   | cons y l ih=>rw[lC,Jo];exact iK (Fg d y) ih
  have:=this x.eN;omega
theorem Mu:∀(d:Nat) (x:Ex),zx x<4611686018427387903->xA d x
 | 0,x,_=>trivial
 | d+1,x,h=>by
  rw[A5]at h;exact⟨by omega,fun y hy=>Mu d y (by have:=Hr hy;omega)⟩
def UK(x:Ex):Prop:=∀d,pe d x
def zy(x:Ex):aH:=rz (B1 x) x
theorem QD{d:Nat}{x:Ex}(h:B1 x<=d):rz d x=zy x:=by
 unfold zy rz;rw[Ds d (B1 x) x h (aV _),Hs d (B1 x) x false [] h (aV _)]
theorem Mx{d:Nat}{x:Ex}(h:rz d x≠[]):dI d x=true/\rz d x=sK d x false []/\(mG (sK d x false [])).2.1=0:=by
 unfold rz at h⊢;by_cases hs:dI d x=true
 ·rw[if_pos hs]at h⊢;by_cases hr:(mG (sK d x false [])).2.1≠0
  ·rw[if_pos hr]at h;exact absurd rfl h
  ·rw[if_neg hr];exact⟨hs,rfl,by simpa using hr⟩
 ·rw[if_neg hs]at h;exact absurd rfl h
theorem QE{w:av}{F:aJ}{x:Ex}{cs:aI}(hx:rE false w F x cs)(hn:UK x)(hs:zx x<=1759218604441)(hE:Er w)(hT:Tb w):
  az aq 247 #[ah cs.toArray] w fun e w'=>e=ak (ab (T (zy x)))/\ay [] w w':=by
 obtain⟨d,h⟩:=hx;have h:=A1 h;rw[<-QD (Ms h)];exact UF h (Mu d x (by omega)) (hn d) hE hT (by have:=Fg d x;omega)
def vj(x:Ex):Bool:=(((x.k==0&&x.n==0)&&decide (x.s=[]))&&x.op==0)&&((x.eN.length:Int)==0)
def xG(x:Ex):Bool:=decide (zy x≠[])
def lc(a:Ac):Bool:=decide (1<=a.k/\a.k<=3)&&dM a.n&&(if a.k=2 then vj a.x else xG a.x)
def yR(m:Mv):Bool:=
 decide (1<=m.k/\m.k<=3)&&(if m.k=1 then dM m.ev else decide (m.ev=[]))&&(if m.gd then xG m.g else vj m.g)&&m.acts.all lc&&m.tg.all dM&&decide (m.wt=0∨m.k=3/\0<m.wt)
def kR(k:Int):Bool:=decide (k=3∨k=4)
def Fh(b:Nb)(kids:Nat):Bool:=
 dM b.nm&&(if kR b.k then dM b.dft&&decide (b.ini=[]/\b.en=[]/\b.lv=[]/\b.mv.length=0/\kids=0)
  else decide ((b.k=1∨b.k=2)/\b.dft=[])&&(decide (b.ini=[])||dM b.ini)&&b.en.all lc&&b.lv.all lc&&b.mv.all yR)
mutual
def re:Nat->Nd->Bool
 | d,.mk b l=>decide (d<12)&&Fh b l.length&&po (d+1) l
def po:Nat->List Nd->Bool
 | _,[]=>true
 | d,x::l=>re d x&&po d l
end
def SM(b:Nb):Nat:=b.en.length+b.lv.length+(b.mv.map fun m=>m.acts.length).sum
mutual
def gp:Nd->Nat
 | .mk _ l=>di l+1
def di:List Nd->Nat
 | []=>0
 | x::l=>gp x+di l
end
mutual
def yA:Nd->Nat
 | .mk b l=>b.mv.length+uI l
def uI:List Nd->Nat
 | []=>0
 | x::l=>yA x+uI l
end
mutual
def zz:Nd->Nat
 | .mk b l=>SM b+rX l
def rX:List Nd->Nat
 | []=>0
 | x::l=>zz x+rX l
end
def My(c:Ch):Bool:=
 (c.vars.all fun v=>dM v.n&&decide (v.v≠ -9223372036854775808))&&re 0 c.root&&decide (c.root.b.k=1/\c.vars.length<=16/\gp c.root<=64/\yA c.root<=200/\zz c.root<=400)
def Kv(a:Ac):aH:=
 if a.k=2 then jH++32::(a.n++[59])else(if a.k=1 then rc else lk)++32::(a.n++32::61::32::(zy a.x++[59]))
def QF:List Ac->aH
 | []=>[]
 | a::l=>32::(Kv a++QF l)
def CD(l:List Ac):aH:=123::(QF l++[32,125])
def UL:List (aH)->aH
 | []=>[]
 | s::l=>44::32::(s++UL l)
def hdT(m:Mv):aH:=if m.k=1 then Fc++32::m.ev else if m.k=3 then jj++32::Lib.itoa m.wt else jf
def gdT(m:Mv):aH:=if m.gd then 32::91::(zy m.g++[93])else[]
def O5(m:Mv):aH:=
 hdT m++(gdT m++((if m.acts=[]then[]else 32::CD m.acts)++((match m.tg with
  | []=>[]
  | s::l=>32::45::62::32::(s++UL l))++[59])))
def kW(k:Int):aH:=if k=1 then AU else if k=2 then qR else if k=3 then tC else Hh
abbrev Ln:=Nat×aH
def QG(d:Nat)(b:Nb):List Ln:=if b.ini=[]then[]else[(d,fl++32::(b.ini++[59]))]
def enL(d:Nat)(b:Nb):List Ln:=if b.en=[]then[]else[(d,gY++32::CD b.en)]
def lvL(d:Nat)(b:Nb):List Ln:=if b.lv=[]then[]else[(d,gZ++32::CD b.lv)]
def mvL(d:Nat)(b:Nb):List Ln:=b.mv.map fun m=>(d,O5 m)
def XD(d:Nat)(b:Nb):List Ln:=QG d b++(enL d b++(lvL d b++mvL d b))
mutual
def UM:Nat->Nd->List Ln
 | d,.mk b l=>
  if kR b.k then[(d,kW b.k++32::(b.nm++32::45::62::32::(b.dft++[59])))]
  else(d,kW b.k++32::(b.nm++[32,123]))::(XD (d+1) b++(vL (d+1) l++[(d,[125])]))
def vL:Nat->List Nd->List Ln
 | _,[]=>[]
 | d,x::l=>UM d x++vL d l
end
def vrT(v:Vr):aH:=Dh++32::(v.n++32::61::32::(Lib.itoa v.v++[59]))
def SN(c:Ch):List Ln:=
 (0,fy++32::(c.root.b.nm++[32,123]))::((c.vars.map fun v=>(1,vrT v))++(XD 1 c.root.b++(vL 1 c.root.kids++[(0,[125])])))
def Jp:Nat->aH
 | 0=>[]
 | d+1=>32::32::Jp d
def lnT(p:Ln):aH:=Jp p.1++(p.2++[10])
def nP(b:aH)(p:Ln):aH:=if 16384<b.length then b else b++lnT p
def gq(b:aH)(L:List Ln):aH:=L.foldl nP b
theorem iG(b:aH)(L M:List Ln):gq b (L++M)=gq (gq b L) M:=Gj
def SO(a:Ac):Prop:=UK a.x
structure mvN (m:Mv):Prop where
 g:UK m.g
 a:∀x,x∈m.acts->SO x
 w:rn m.wt
structure nbN (b:Nb):Prop where
 en:∀a,a∈b.en->SO a
 lv:∀a,a∈b.lv->SO a
 mv:∀m,m∈b.mv->mvN m
mutual
def Ht:Nd->Prop
 | .mk b l=>nbN b/\xH l
def xH:List Nd->Prop
 | []=>True
 | x::l=>Ht x/\xH l
end
structure PC (c:Ch):Prop where
 v:∀v,v∈c.vars->rn v.v
 r:Ht c.root
structure du where
 k:Int
 nm:aH
 pa:Int
 dp:Int
 en:Int
mutual
def A7(a:Nat)(pa dp:Int):Nd->List du
 | .mk b l=>⟨b.k,b.nm,pa,dp,((a+1+di l:Nat):Int)⟩::rB (a+1) a (dp+1) l
def rB(a:Nat)(pa dp:Int):List Nd->List du
 | []=>[]
 | x::l=>A7 a pa dp x++rB (a+gp x) pa dp l
end
mutual
theorem lD(a:Nat)(pa dp:Int):∀x,(A7 a pa dp x).length=gp x
 | .mk b l=>by rw[A7,gp,bf,tF]
theorem tF(a:Nat)(pa dp:Int):∀l,(rB a pa dp l).length=di l
 | []=>by rw[rB,di];rfl
 | x::l=>by rw[rB,di,aO,lD,tF]
end
theorem xI:∀l m:List Nd,di (l++m)=di l+di m
 | [],m=>by rw[di,cf,bJ]
 | x::l,m=>by rw[bZ,di,di,xI l m,dJ]
theorem Hu(pa dp:Int):∀(l m:List Nd) (a:Nat),rB a pa dp (l++m)=rB a pa dp l++rB (a+di l) pa dp m
 | [],m,a=>by rw[cf,rB,cf,di,dx]
 | x::l,m,a=>by rw[bZ,rB,rB,Hu pa dp l m,di,bF,dJ]
theorem A8:∀x,1<=gp x
 | .mk b l=>by rw[gp];omega
theorem lO{y:Nd}:∀{l:List Nd} {j:Nat},l[j]? =some y->di (l.take j)+gp y<=di l
 | [],_,h=>by simp at h
 | x::l,0,h=>by
  rw[ck,aX]at h;subst h;rw[cK,di,di];omega
 | x::l,j+1,h=>by
  have:=lO (l:=l) (j:=j) (by rwa[cz]at h);rw[ec,di,di];omega
theorem nQ:∀l:List Nd,l.length<=di l
 | []=>bp _
 | a::l=>by
  have:=nQ l;have:=A8 a;rw[di,bf];omega
def xJ(L:List du)(a i:Nat)(s:du):Prop:=∃p t,p<i/\L[p]? =some t/\s.pa=((a+p:Nat):Int)/\s.dp=t.dp+1/\((a+i:Nat):Int)<t.en/\s.en<=t.en/\∀j u,p<j->j<i->L[j]? =some u->u.en<=((a+i:Nat):Int)
theorem xJ.ww{L M:List du}{a i:Nat}{s:du}(h:xJ L a i s)(hi:i<L.length):xJ (L++M) a i s:=by
 obtain⟨p,t,h1,h2,h3,h4,h5,h6,h7⟩:=h;refine⟨p,t,h1,?_,h3,h4,h5,h6,fun j u g1 g2 g3=>h7 j u g1 g2 ?_⟩
 ·rw[bM (by omega)];exact h2
 ·rwa[bM (by omega)]at g3
theorem xJ.shift{L M:List du}{a i:Nat}{s:du}(h:xJ M (a+L.length) i s):xJ (L++M) a (L.length+i) s:=by
 obtain⟨p,t,h1,h2,h3,h4,h5,h6,h7⟩:=h;refine⟨L.length+p,t,by omega,?_,by rw[h3];omega,h4,by omega,h6,fun j u g1 g2 g3=>?_⟩
 ·rw[bX (by omega),dH];exact h2
 ·rw[bX (by omega)]at g3;have:=h7 (j-L.length) u (by omega) (by omega) g3;omega
mutual
theorem Fi(a:Nat)(pa dp:Int):∀(x:Nd) (i:Nat) (s:du),(A7 a pa dp x)[i]? =some s->((a+i:Nat):Int)<s.en/\s.en<=((a+gp x:Nat):Int)/\(i=0->s.pa=pa/\s.dp=dp/\s.en=((a+gp x:Nat):Int))/\(0<i->xJ (A7 a pa dp x) a i s)
 | .mk b l,i,s,h=>by
  rw[A7]at h⊢;rw[gp];cases i with
  | zero=>
   rw[ck,aX]at h;subst h;dsimp only;exact⟨by omega,by omega,fun _=>⟨rfl,rfl,by omega⟩,fun h=>by omega⟩
  | succ i=>
   rw[cz]at h;obtain⟨h1,h2,h3⟩:=Mz (a+1) a (dp+1) l i s h;refine⟨by omega,by omega,fun h=>by omega,fun _=>?_⟩;rcases h3 with⟨g1,g2,g3⟩ | g
   ·refine⟨0,_,by omega,ck,by rw[g1,dx],g2,by dsimp only;omega,by dsimp only;omega,fun j u k1 k2 k3=>?_⟩;cases j with
    | zero=>omega
    | succ j=>
     rw[cz]at k3;have:=g3 j u (by omega) k3;omega
   ·have:=xJ.shift (L:=[⟨b.k,b.nm,pa,dp,((a+1+di l:Nat):Int)⟩]) (M:=rB (a+1) a (dp+1) l) (a:=a) (i:=i) (s:=s) g;rw[bK,ku 1 i]at this;exact this
theorem Mz(a:Nat)(pa dp:Int):∀(l:List Nd) (i:Nat) (s:du),(rB a pa dp l)[i]? =some s->((a+i:Nat):Int)<s.en/\s.en<=((a+di l:Nat):Int)/\
  ((s.pa=pa/\s.dp=dp/\∀j u,j<i->(rB a pa dp l)[j]? =some u->u.en<=((a+i:Nat):Int))∨xJ (rB a pa dp l) a i s)
 | [],i,s,h=>by rw[rB]at h;simp at h
 | x::l,i,s,h=>by
  rw[rB]at h⊢;rw[di];have hl:=lD a pa dp x;by_cases hi:i<gp x
  ·rw[bM (by omega)]at h;obtain⟨h1,h2,h3,h4⟩:=Fi a pa dp x i s h;refine⟨h1,by omega,?_⟩;by_cases h0:i=0
   ·obtain⟨g1,g2,g3⟩:=h3 h0;exact .inl ⟨g1,g2,fun j u hj=>by omega⟩
   ·exact .inr ((h4 (by omega)).ww (by omega))
  ·rw[bX (by omega),hl]at h;obtain⟨h1,h2,h3⟩:=Mz (a+gp x) pa dp l (i-gp x) s h;refine⟨by omega,by omega,?_⟩;rcases h3 with⟨g1,g2,g3⟩ | g
   ·refine .inl ⟨g1,g2,fun j u hj hu=>?_⟩;by_cases Rr:j<gp x
    ·rw[bM (by omega)]at hu;have:=(Fi a pa dp x j u hu).2.1;omega
    ·rw[bX (by omega),hl]at hu;have:=g3 (j-gp x) u (by omega) hu;omega
   ·refine .inr ?_;rw[<-hl]at g;have:=xJ.shift (L:=A7 a pa dp x) g;rw[hl]at this;rwa[show gp x+(i-gp x)=i by omega]at this
end
structure Fo (xs:List du):Prop where
 ne:0<xs.length
 rt:∀s:du,xs[0]? =some s->s.pa= -1/\s.dp=0/\s.en=(xs.length:Int)
 up:∀(i:Nat) (s:du),xs[i]? =some s->(i:Int)<s.en/\s.en<=(xs.length:Int)
 pa:∀(i:Nat) (s:du),0<i->xs[i]? =some s->xJ xs 0 i s
def eY(c:Ch):List du:=A7 0 (-1) 0 c.root
theorem wh(c:Ch):Fo (eY c):=by
 unfold eY;have hl:=lD 0 (-1) 0 c.root;have h:=Fi 0 (-1) 0 c.root;refine⟨by have:=A8 c.root;omega,fun s hs=>?_,fun i s hs=>?_,fun i s hi hs=>(h i s hs).2.2.2 hi⟩
 ·obtain⟨h1,h2,h3⟩:=(h 0 s hs).2.2.1 rfl;exact⟨h1,h2,by rw[h3,hl];omega⟩
 ·obtain⟨h1,h2,_⟩:=h i s hs;exact⟨by omega,by omega⟩
section
variable {xs:List du} (F:Fo xs) {i j k p:Nat} {s t u:du}
include F
theorem Fo.lam:∀(k:Nat) {i:Nat} {s t:du},xs[i]? =some s->xs[k]? =some t->i<k->(k:Int)<s.en->t.en<=s.en
 | k,i,s,t,hi,hk,bQ,hs=>by
  obtain⟨p,v,h1,h2,h3,h4,h5,h6,h7⟩:=F.pa k t (by omega) hk;by_cases hp:p<i
  ·have:=h7 i s hp bQ hi;omega
  ·by_cases he:p=i
   ·subst he;rw[hi,aX]at h2;subst h2;exact h6
   ·have:=Fo.lam p hi h2 (by omega) (by omega);omega
theorem Fo.par(hk:xs[k]? =some t)(h0:0<k):∃(p:Nat) (s:du),p<k/\t.pa=(p:Int)/\xs[p]? =some s/\t.dp=s.dp+1/\(k:Int)<s.en/\∀(i:Nat) (u:du),xs[i]? =some u->i<k->(k:Int)<u.en->i<=p:=by
 obtain⟨p,v,h1,h2,h3,h4,h5,h6,h7⟩:=F.pa k t h0 hk;refine⟨p,v,h1,by rw[h3];omega,h2,h4,by omega,fun i u hu hi iq=>?_⟩;by_cases hp:p<i
 ·have:=h7 i u hp hi hu;omega
 ·omega
omit F in
theorem jm {xs:List du} {i:Nat} {s:du} (h:xs[i]? =some s):i<xs.length:=(aY.1 h).1
omit F in
theorem mf {xs:List du} {i:Nat} (h:i<xs.length):∃s,xs[i]? =some s:=⟨_,bB h⟩
end
def rC(xs:List du)(b a:Nat):Prop:=∃s,xs[b]? =some s/\b<=a/\(a:Int)<s.en
section
variable {xs:List du} (F:Fo xs) {i j k p:Nat}
include F
theorem Fo.NS(h:rC xs i j):j<xs.length:=by
 obtain⟨s,h1,h2,h3⟩:=h;have:=(F.up i s h1).2;omega
theorem Fo.NT(h:i<xs.length):rC xs i i:=by
 obtain⟨s,hs⟩:=mf h;exact⟨s,hs,aV _,(F.up i s hs).1⟩
theorem Fo.NU(h:i<xs.length):rC xs 0 i:=by
 obtain⟨s,hs⟩:=mf F.ne;exact⟨s,hs,bp _,by rw[(F.rt s hs).2.2];omega⟩
theorem Fo.NV(h:rC xs i j)(g:rC xs j k):rC xs i k:=by
 obtain⟨s,h1,h2,h3⟩:=h;obtain⟨t,g1,g2,g3⟩:=g;refine⟨s,h1,by omega,?_⟩;by_cases he:i=j
 ·subst he;rw[h1,aX]at g1;subst g1;exact g3
 ·have:=F.lam j h1 g1 (by omega) h3;omega
theorem Fo.NW(h:rC xs i k)(g:rC xs j k)(uk:i<=j):rC xs i j:=by
 obtain⟨s,h1,h2,h3⟩:=h;obtain⟨t,g1,g2,g3⟩:=g;exact⟨s,h1,uk,by omega⟩
end
def Top(xs:List du)(l:List Int)(r:Int):Prop:=∃m:Nat,r=m/\(∀n:Int,n∈l->∃k:Nat,n=k/\rC xs m k)/\∀j:Nat,(∀n:Int,n∈l->∃k:Nat,n=k/\rC xs j k)->j<=m
def vM(xs:List du)(n:Int):Prop:=0<=n/\n<xs.length
def Mt(xs:List du)(l:List Int)(r:Int):Prop:=((l=[]∨∃n,n∈l/\¬vM xs n)/\r= -1)∨((l≠[]/\∀n,n∈l->vM xs n)/\Top xs l r)
theorem Mt.aag{xs:List du}{l:List Int}{r:Int}(h:Mt xs l r)(h1:l≠[])(h2:∀n,n∈l->vM xs n):Top xs l r:=by
 rcases h with⟨hb | ⟨n,hn,hh⟩,_⟩ | ⟨_,h⟩
 ·exact absurd hb h1
 ·exact absurd (h2 n hn) hh
 ·exact h
def Fj(xs:List du)(i n:Nat):List Int:=((List.range n).filter fun k=>decide ((xs[k]?).map (fun s:du=>s.pa)=some (i:Int))).map fun k:Nat=>(k:Int)
section
variable {xs:List du} (F:Fo xs) {i k:Nat} {s t:du}
include F
theorem Fo.NX(hk:xs[k]? =some t):t.pa<k:=by
 by_cases h0:0<k
 ·obtain⟨p,s,h1,h2,_⟩:=F.par hk h0;omega
 ·have:k=0:=by omega
  subst this;rw[(F.rt t hk).1];omega
end
abbrev Ft:=Int×Int
def mW(f:Ft)(L:List Ft):Ft:=L.foldl (fun f p=>if f.1=0 then p else f) f
def bad(ok:Bool)(e a:Int):List Ft:=if ok then[]else[(e,a)]
theorem io(f:Ft)(L M:List Ft):mW f (L++M)=mW (mW f L) M:=Gj
theorem MA{f:Ft}(h:f.1≠0):∀L,mW f L=f
 | []=>rfl
 | p::L=>by
  show mW (if f.1=0 then p else f) L=f;rw[if_neg h];exact MA h L
def Cd(L:List Ft):Prop:=∀p,p∈L->p.1≠0
theorem Cd.nil:Cd []:=fun p h=>by simp at h
theorem Cd.ww{L M:List Ft}(h:Cd L)(g:Cd M):Cd (L++M):=fun p hp=>(cr.1 hp).elim (h p) (g p)
theorem Cd.bad{ok:Bool}{e a:Int}(h:e≠0):Cd (bad ok e a):=fun p hp=>by
 unfold Con.bad at hp;split at hp
 ·simp at hp
 ·simp only[aN]at hp;subst hp;exact h
theorem Cd.flat{α:Type}{f:α->List Ft}(h:∀x,Cd (f x))(l:List α):Cd (l.flatMap f):=fun p hp=>by
 obtain⟨x,_,hx⟩:=List.mem_flatMap.1 hp;exact h x p hx
theorem MB{L:List Ft}(hL:Cd L)(h:(mW (0,0) L).1=0):L=[]:=by
 cases L with
 | nil=>rfl
 | cons p L=>
  have hp:=hL p (by simp);have e:mW (0,0) (p::L)=mW p L:=rfl;rw[e,MA hp]at h;exact absurd h hp
theorem QH(f:Ft)(ok:Bool)(e a:Int):mW f (bad ok e a)=if(!ok&&f.1==0)=true then(e,a)else f:=by
 unfold bad;cases ok
 ·by_cases h:f.1=0
  ·simp[mW,h]
  ·simp[mW,h]
 ·simp[mW]
def fW(xs:List du)(s:aH):Int:=if rA s (xs.map fun x:du=>x.nm)<xs.length then(rA s (xs.map fun x:du=>x.nm):Nat)else -1
def mX(xs:List du)(n:Int):Int:=match xs[n.toNat]? with
 | some x=>x.k
 | none=>0
def Fk(xs:List du)(n:Int):Int:=match xs[n.toNat]? with
 | some x=>x.pa
 | none=>0
def XE(xs:List du)(s:aH):Bool:=decide (0<=fW xs s)&&!kR (mX xs (fW xs s))
def Jq(xs:List du)(b a:Nat):Bool:=match xs[b]? with
 | some s=>decide (b<=a)&&decide ((a:Int)<s.en)
 | none=>false
def nR(xs:List du)(b a:Int):Bool:=decide (0<=b/\0<=a)&&Jq xs b.toNat a.toNat
def MC(xs:List du)(a b:Int):Bool:=decide (a≠b)&&nR xs b a
def Dt(xs:List du)(a b:Int):Nat->Int
 | 0=> -1
 | m+1=>if(nR xs m a&&nR xs m b)=true then m else Dt xs a b m
def Du(xs:List du)(a b:Int):Int:=Dt xs a b xs.length
def MD(xs:List du)(a b:Int):Bool:=decide (Du xs a b≠a/\Du xs a b≠b)&&decide (mX xs (Du xs a b)=2)
def ME(xs:List du)(s:aH):Int:=if kR (mX xs (fW xs s))then Fk xs (fW xs s)else fW xs s
def SP(xs:List du):List Int->List (aH)->Bool
 | _,[]=>true
 | l,s::r=>if fW xs s<1 then false else if(l.any fun o=>!MD xs (ME xs s) o)then false else SP xs (l++[ME xs s]) r
mutual
def Hv:Nd->List (aH×Int)
 | .mk b l=>(b.nm,b.a)::vN l
def vN:List Nd->List (aH×Int)
 | []=>[]
 | x::l=>Hv x++vN l
end
def wi:List (aH)->List (aH×Int)->List Ft
 | _,[]=>[]
 | l,p::r=>bad (!decide (p.1∈l)) 24 p.2++wi (l++[p.1]) r
theorem A9:∀(p q:List (aH×Int)) (l:List (aH)),wi l (p++q)=wi l p++wi (l++p.map fun x=>x.1) q
 | [],q,l=>by rw[cf,wi,cf,dV,bN]
 | x::p,q,l=>by rw[bZ,wi,wi,A9 p q,bF,bE,bF];rfl
theorem Hw:∀l m:List Nd,vN (l++m)=vN l++vN m
 | [],m=>by rw[cf,vN,cf]
 | x::l,m=>by rw[bZ,vN,vN,Hw l m,bF]
mutual
theorem SQ(a:Nat)(pa dp:Int):∀x,(A7 a pa dp x).map (fun s:du=>s.nm)=(Hv x).map fun p=>p.1
 | .mk b l=>by rw[A7,Hv,bE,bE,Fl]
theorem Fl(a:Nat)(pa dp:Int):∀l,(rB a pa dp l).map (fun s:du=>s.nm)=(vN l).map fun p=>p.1
 | []=>by rw[rB,vN];rfl
 | x::l=>by rw[rB,vN,cN,cN,SQ,Fl]
end
theorem QI(x:List Nd):(vN x).length=di x:=by
 have:=bO List.length (Fl 0 0 0 x);rw[bC,bC,tF]at this;exact this.symm
theorem Fm:∀(p:List (aH×Int)) (l:List (aH)),Cd (wi l p)
 | [],l=>Cd.nil
 | x::p,l=>Cd.ww (Cd.bad (by decide)) (Fm p _)
section
variable (xs:List du) (vs:List (aH))
def O6(k:Int)(s:aH):Bool:=(decide (k≠2)||decide (s∈vs))&&(decide (k≠3)||XE xs s)
mutual
def O7:Ex->List Ft
 | .mk k n s op l a=>bad (O6 xs vs k s) 23 a++rf l
def rf:List Ex->List Ft
 | []=>[]
 | x::l=>O7 x++rf l
end
theorem UN(x:Ex):O7 xs vs x=bad (O6 xs vs x.k x.s) 23 x.a++rf xs vs x.eN:=by cases x;rw[O7];rfl
theorem Dv:∀l m:List Ex,rf xs vs (l++m)=rf xs vs l++rf xs vs m
 | [],m=>by rw[cf,rf,cf]
 | x::l,m=>by rw[bZ,rf,rf,Dv l m,bF]
def acF(a:Ac):List Ft:=bad (decide (a.k≠1)||decide (a.n∈vs)) 23 a.a++O7 xs vs a.x
def rh(l:List Ac):List Ft:=l.flatMap (acF xs vs)
def ZR(m:Mv):Bool:=(m.k !=3)||(decide (m.wt>0)&&decide (m.wt<=1099511627776))
def Ep(m:Mv):List Ft:=bad (ZR m) 28 m.a++(O7 xs vs m.g++(rh xs vs m.acts++bad (SP xs [] m.tg) 27 m.a))
def MF(l:List Nd):Nat:=(l.filter fun x=>!kR x.b.k).length
def QJ(s:aH)(l:List Nd):Bool:=l.any fun x=>decide (x.b.nm=s)
def yB(b:Nb)(l:List Nd)(at_:Nat):List Ft:=
 if kR b.k then bad (XE xs b.dft&&MC xs (fW xs b.dft) (Fk xs at_)) 26 b.a
 else if b.k=2 then bad (decide (b.ini=[])&&decide (1<MF l)) 25 b.a
 else if 0<MF l then bad (QJ b.ini l) 25 b.a
 else bad (decide (b.ini=[])) 25 b.a++bad (decide (l.length=0)) 26 b.a
mutual
def O8:Nat->Nd->List Ft
 | n,.mk b l=>yB xs b l n++(rh xs vs (b.en++b.lv)++(b.mv.flatMap (Ep xs vs)++qh (n+1) l))
def qh:Nat->List Nd->List Ft
 | _,[]=>[]
 | n,x::l=>O8 n x++qh (n+gp x) l
end
theorem Dw:∀(l m:List Nd) (n:Nat),qh xs vs n (l++m)=qh xs vs n l++qh xs vs (n+di l) m
 | [],m,n=>by rw[cf,qh,cf,di,dx]
 | x::l,m,n=>by rw[bZ,qh,qh,Dw l m,bF,di,dJ]
mutual
theorem Fp:∀x,Cd (O7 xs vs x)
 | .mk k n s op l a=>by rw[O7];exact Cd.ww (Cd.bad (by decide)) (Hx l)
theorem Hx:∀l,Cd (rf xs vs l)
 | []=>by rw[rf];exact Cd.nil
 | x::l=>by rw[rf];exact Cd.ww (Fp x) (Hx l)
end
theorem UO(a:Ac):Cd (acF xs vs a):=Cd.ww (Cd.bad (by decide)) (Fp xs vs a.x)
theorem Hy(l:List Ac):Cd (rh xs vs l):=Cd.flat (UO xs vs) l
theorem UQ(m:Mv):Cd (Ep xs vs m):=Cd.ww (Cd.bad (by decide)) (Cd.ww (Fp xs vs _) (Cd.ww (Hy xs vs _) (Cd.bad (by decide))))
theorem UR(b:Nb)(l:List Nd)(n:Nat):Cd (yB xs b l n):=by
 unfold yB;split
 ·exact Cd.bad (by decide)
 ·split
  ·exact Cd.bad (by decide)
  ·split
   ·exact Cd.bad (by decide)
   ·exact Cd.ww (Cd.bad (by decide)) (Cd.bad (by decide))
mutual
theorem MG:∀(n:Nat) (x:Nd),Cd (O8 xs vs n x)
 | n,.mk b l=>by rw[O8];exact Cd.ww (UR xs b l n) (Cd.ww (Hy xs vs _) (Cd.ww (Cd.flat (UQ xs vs) _) (Hz (n+1) l)))
theorem Hz:∀(n:Nat) (l:List Nd),Cd (qh xs vs n l)
 | n,[]=>by rw[qh];exact Cd.nil
 | n,x::l=>by rw[qh];exact Cd.ww (MG n x) (Hz _ l)
end
end
def Fq(c:Ch):List (aH):=c.vars.map fun v=>v.n
def Dx(c:Ch):List Ft:=wi [] (Hv c.root)++(wi [] (c.vars.map fun v=>(v.n,v.a))++O8 (eY c) (Fq c) 0 c.root)
theorem MH(c:Ch):Cd (Dx c):=Cd.ww (Fm _ _) (Cd.ww (Fm _ _) (MG _ _ _ _))
theorem HA{s:aH}:∀{l:List (aH)},rA s l<l.length->l[rA s l]? =some s
 | [],h=>by simp at h
 | x::l,h=>by
  rw[rA]at h⊢;split
  ·rename_i e;rw[e];rfl
  ·rename_i e;rw[if_neg e,bf]at h;rw[cz];exact HA (by omega)
theorem lG{s:aH}:∀{l:List (aH)},rA s l<l.length↔s∈l
 | []=>by simp
 | x::l=>by
  rw[rA,aQ,bf];split
  ·rename_i e;exact⟨fun _=>.inl e,fun _=>by omega⟩
  ·rename_i e;have:=lG (s:=s) (l:=l);exact⟨fun h=>.inr (this.1 (by omega)),fun h=>by have:=this.2 (h.resolve_left e);omega⟩
theorem HB{s:aH}(m:List (aH)):∀{l:List (aH)},s∈l->rA s (l++m)=rA s l
 | [],h=>by simp at h
 | x::l,h=>by
  rw[bZ,rA,rA];split
  ·rfl
  ·rename_i e;rw[HB m ((aQ.1 h).resolve_left e)]
theorem Ba{s:aH}(m:List (aH)):∀{l:List (aH)},s∉l->rA s (l++s::m)=l.length
 | [],_=>by rw[cf,rA,if_pos rfl];rfl
 | x::l,h=>by
  rw[bZ,rA,if_neg (fun e=>h (by rw[e];simp)),Ba m (fun hm=>h (cP _ hm))];rfl
section
variable {xs:List du} {s:aH}
theorem mN(xs:List du)(s:aH):(fW xs s= -1/\∀x∈xs,x.nm≠s)∨∃(n:Nat) (x:du),fW xs s=n/\xs[n]? =some x/\x.nm=s:=by
 unfold fW;split
 ·rename_i h;right;have:=HA (l:=xs.map fun x:du=>x.nm) (s:=s) (by rw[bC];exact h);rw[cF,fg]at this;obtain⟨x,hx,e⟩:=this;exact⟨_,x,rfl,hx,e⟩
 ·rename_i h;refine .inl ⟨rfl,fun x hx e=>h ?_⟩;have:=(lG (s:=s) (l:=xs.map fun x:du=>x.nm)).2 (eT.2 ⟨x,hx,e⟩);rwa[bC]at this
theorem jo{n:Nat}{x:du}(h:xs[n]? =some x):mX xs n=x.k:=by unfold mX;rw[aZ,h]
theorem nS{n:Nat}{x:du}(h:xs[n]? =some x):Fk xs n=x.pa:=by unfold Fk;rw[aZ,h]
theorem nT{b a:Nat}:Jq xs b a=true↔rC xs b a:=by
 unfold Jq rC;cases h:xs[b]? with
 | none=>simp
 | some s=>simp
theorem qj{b a:Int}:nR xs b a=true↔∃i j:Nat,b=i/\a=j/\rC xs i j:=by
 unfold nR;rw[aR,dz,nT];constructor
 ·rintro⟨⟨h1,h2⟩,h⟩;exact⟨_,_,(kG h1).symm,(kG h2).symm,h⟩
 ·rintro⟨i,j,rfl,rfl,h⟩;rw[aZ,aZ];exact⟨⟨by omega,by omega⟩,h⟩
theorem MJ{a b:Int}:MC xs a b=true↔∃i j:Nat,b=i/\a=j/\i<j/\rC xs i j:=by
 unfold MC;rw[aR,dz,qj];constructor
 ·rintro⟨hn,i,j,rfl,rfl,h⟩;have:=h;obtain⟨_,_,pC,_⟩:=this;exact⟨i,j,rfl,rfl,by omega,h⟩
 ·rintro⟨i,j,rfl,rfl,h,hc⟩;exact⟨by omega,i,j,rfl,rfl,hc⟩
theorem zA(a b:Int):∀n:Nat,(Dt xs a b n= -1/\∀m,m<n->(nR xs m a&&nR xs m b)=false)∨∃m:Nat,Dt xs a b n=m/\m<n/\(nR xs m a&&nR xs m b)=true/\∀j,m<j->j<n->(nR xs j a&&nR xs j b)=false
 | 0=>.inl ⟨rfl,fun m h=>by omega⟩
 | n+1=>by
  rw[Dt];split
  ·rename_i h;exact .inr ⟨n,rfl,by omega,h,fun j h1 h2=>by omega⟩
  ·rename_i h;rw[om]at h;rcases zA a b n with⟨h1,h2⟩ | ⟨m,h1,h2,h3,h4⟩
   ·exact .inl ⟨h1,fun m hm=>if e:m=n then by rw[e];exact h else h2 m (by omega)⟩
   ·exact .inr ⟨m,h1,by omega,h3,fun j g1 g2=>if e:j=n then by rw[e];exact h else h4 j g1 (by omega)⟩
theorem Fo.Rn(F:Fo xs){a b r:Int}(h:Mt xs [a,b] r)(ha:vM xs a)(hb:vM xs b):r=Du xs a b:=by
 have hg:∀n,n∈[a,b]->vM xs n:=fun n hn=>by
  simp only[aQ,aW,bP]at hn;rcases hn with rfl | rfl
  ·exact ha
  ·exact hb
 obtain⟨m,rfl,t1,t2⟩:=h.aag (by simp) hg;have both:∀j:Nat,(nR xs j a&&nR xs j b)=true↔∀n:Int,n∈[a,b]->∃k:Nat,n=k/\rC xs j k:=fun j=>by
  rw[aR,qj,qj];constructor
  ·rintro⟨⟨i,k,e,rfl,h1⟩,⟨i',k',e',rfl,h2⟩⟩ n hn;simp only[aQ,aW,bP]at hn;have ei:j=i:=by omega
   have ei':j=i':=by omega
   subst ei ei';rcases hn with rfl | rfl
   ·exact⟨k,rfl,h1⟩
   ·exact⟨k',rfl,h2⟩
  ·intro h;obtain⟨k,e,h1⟩:=h a (by simp);obtain⟨k',e',h2⟩:=h b (by simp);exact⟨⟨j,k,rfl,e,h1⟩,⟨j,k',rfl,e',h2⟩⟩
 have hm:=(both m).2 t1;have KQ:m<xs.length:=by
  obtain⟨k,_,s,hs,_⟩:=t1 a (by simp);exact jm hs
 unfold Du;rcases zA (xs:=xs) a b xs.length with⟨_,h2⟩ | ⟨q,h1,h2,h3,h4⟩
 ·rw[h2 m KQ]at hm;cases hm
 ·have:=t2 q ((both q).1 h3);by_cases e:q=m
  ·rw[h1,e]
  ·rw[h4 m (by omega) KQ]at hm;cases hm
end
def ne(l:aH):Bool:=!decide (l=[])
def eV(ws:List (aH)):aH:=Lib.join (ws.filter ne) [32]
theorem Only.below{w w':av}(h:Below w.heap.size w w'):ay [] w w':=⟨h.os,h.tape,h.output,h.size,fun k hk _=>h.block k hk⟩
theorem Fs{w:av}{F:aJ}:∀{l:List (aH)} {css:List (aI)},kY im 1 w F l css->css.flatten=l.map fun x=>ab (T x)
 | [],[],_=>rfl
 | c::l,d::css,h=>by
  obtain⟨⟨_,h1⟩,h2⟩:=h;unfold im at h1;subst h1;rw[cY,Fs h2];rfl
theorem zC(l:aH)(w:av):az aq 230 #[ab (T l)] w fun e w'=>e=ak (aj (decide (l=[])))/\w'=w:=by
 refine ret (aeX _ _ _ ?_);exact⟨by rw[show ao #[]=T []from rfl,kH],rfl⟩
section
variable {w:av} {B:Nat} {F:aJ} {s:Sl} {ws:List (aH)}
theorem ML(h:Own im 1 9 B w F s ws):az aq 245 #[s.v,.func (.func 230) #[] #[]] w fun e w'=>
  ∃i:Int,e=ak (O U i)/\w'=w/\((i= -1/\ws.filter ne=ws)∨∃n:Nat,i=n/\n<ws.length/\(ws.take (n+1)).filter ne=ws.take n):=by
 refine(Zx s ⟨.func (.func 230) #[] #[],rfl⟩ (fun v w'=>∃i:Int,v=O U i/\w'=w/\((i= -1/\ws.filter ne=ws)∨∃n:Nat,i=n/\n<ws.length/\(ws.take (n+1)).filter ne=ws.take n)) w ?_).mono (by
  rintro e w' ⟨v,rfl,i,rfl,h⟩;exact⟨i,rfl,h⟩)
 have hs:=h.slice cG;have eH:=hs.len;have pE:=hs.big;have mY:=hs.cap;refine⟨fun nv i w'=>∃n:Nat,n<=ws.length/\i=(n:Int)/\nv=ws.length-n/\(ws.take n).filter ne=ws.take n/\w'=w,ws.length,⟨0,bp _,rfl,rfl,rfl,rfl⟩,?_⟩;rintro nv _ w0 ⟨n,hn,rfl,rfl,kl,rfl⟩;refine⟨fun hc=>?_,fun hc=>?_⟩
 ·have bQ:(n:Int)<s.n:=aP hc;obtain⟨ad,x,cs,g1,g2,g3,g4,g5,g6⟩:=hs.get (bm n) bQ;rw[aZ]at g2;unfold im at g6;subst g6;have ht:ws.take (n+1)=ws.take n++[x]:=by
   rw[bH,g2];rfl
  refine⟨ad,g1,_,g5,230,[],[],rfl,gN (by kernel_rfl),?_⟩;refine(zC x w0).mono ?_;rintro _ w1 ⟨rfl,rfl⟩;refine⟨_,rfl,fun hb=>⟨_,rfl,rfl,.inr ⟨n,rfl,by omega,?_⟩⟩,fun hb=>⟨ws.length-(n+1),by omega,n+1,by omega,by rw[fQ (by omega) (by omega)];rfl,rfl,?_,rfl⟩⟩
  ·have hb:x=[]:=aP hb;rw[ht,gz,kl,hb];simp[ne]
  ·have hb:x≠[]:=aU hb;rw[ht,gz,kl];simp[ne,hb]
 ·have sP:¬(n:Int)<s.n:=aU hc;rw[bA (by omega)]at kl;exact⟨_,rfl,rfl,.inl ⟨rfl,kl⟩⟩
theorem Jr(h:Own im 1 9 B w F s ws):az aq 229 #[s.v,.func (.func 230) #[] #[]] w fun e w'=>
  ∃s':Sl,e=ak s'.v/\Own im 1 9 B w' F s' (ws.filter ne)/\aD (fun k=>B<=k) w w':=by
 refine(Zw s ⟨.func (.func 230) #[] #[],rfl⟩ (fun v w'=>∃s':Sl,v=s'.v/\Own im 1 9 B w' F s' (ws.filter ne)/\aD (fun k=>B<=k) w w') w ?_).mono (by
  rintro e w' ⟨v,rfl,s',rfl,h⟩;exact⟨s',rfl,h⟩)
 have eH:=h.len;have mY:=h.cap;have pE:=(h.slice cG).big;refine(ML h).mono ?_;rintro _ w0 ⟨i,rfl,rfl,hi⟩;refine⟨i,rfl,fun hc=>?_,fun hc=>?_⟩
 ·rcases hi with⟨_,hf⟩ | ⟨n,rfl,hn,hf⟩
  ·rw[hf];exact⟨s,rfl,h,OnlyP.refl _ _⟩
  ·have:(n:Int)= -1:=eq_of_beq hc;omega
 rcases hi with⟨rfl,_⟩ | ⟨n,rfl,hn,hf⟩
 ·exact absurd hc (by decide)
 refine⟨fun nv a b w'=>∃(L:List (aH)) (p q:Nat),a=p/\b=q/\p<q/\q<=ws.length/\nv=ws.length-q/\L.length=ws.length/\L.take p=(ws.take q).filter ne/\L.drop q=ws.drop q/\Own im 1 9 B w' F s L/\aD (fun k=>B<=k) w0 w',
  ws.length-(n+1),⟨ws,n,n+1,rfl,by rw[fQ (by omega) (by omega)];rfl,by omega,by omega,rfl,rfl,hf.symm,rfl,h,OnlyP.refl _ _⟩,?_⟩
 rintro nv _ _ w1 ⟨L,p,q,rfl,rfl,hpq,hq,rfl,hL,ht,hd,hO,hP⟩;refine⟨fun hc=>?_,fun hc=>?_⟩
 ·have bQ:(q:Int)<s.n:=aP hc;have hq':q<ws.length:=by omega
  obtain⟨ad,x,cs,g1,g2,g3,g4,g5,g6⟩:=(hO.slice cG).get (bm q) bQ;rw[aZ]at g2;unfold im at g6;subst g6;have hx:ws[q]? =some x:=by
   rw[<-g2];have e1:=bO (fun l=>l[0]?) hd;simpa using e1.symm
  have hw:ws.take (q+1)=ws.take q++[x]:=by
   rw[bH,hx];rfl
  have hdn:∀M:List (aH),(∀j,q+1<=j->M[j]? =L[j]?)->M.drop (q+1)=ws.drop (q+1):=fun M hM=>by
   apply jz;intro j;rw[iY,iY,hM _ (by omega)];have e1:=bO (fun l=>l[1+j]?) hd;simp only[iY]at e1;rw[show q+1+j=q+(1+j) by omega];exact e1
  refine⟨fun j w2=>∃(M:List (aH)) (p':Nat),j=p'/\p'<q+1/\M.length=ws.length/\M.take p'=(ws.take (q+1)).filter ne/\M.drop (q+1)=ws.drop (q+1)/\Own im 1 9 B w2 F s M/\aD (fun k=>B<=k) w0 w2,?_,ad,g1,_,g5,230,[],[],rfl,gN (by kernel_rfl),?_⟩
  ·rintro _ w2 ⟨M,p',rfl,m1,m2,m3,m4,m5,m6⟩;exact⟨ws.length-(q+1),by omega,M,p',q+1,rfl,by rw[fQ (by omega) (by omega)];rfl,m1,hq',rfl,m2,m3,m4,m5,m6⟩
  refine(zC x w1).mono ?_;rintro _ w2 ⟨rfl,rfl⟩;refine⟨_,rfl,fun hb=>?_,fun hb=>?_⟩
  ·have hb:x≠[]:=by simpa using hb
   obtain⟨g,cells,b1,b2,b3,b4,b5⟩:=hO.store cG (n:=p) (by omega) (x:=x) (vs:=[ab (T x)]) (G:=fun _=>False) rfl rfl (fun k hk=>hk.elim) (by decide);refine⟨⟨g,p*1,none⟩,b2,g,p*1,cells,_,rfl,b3,b4,fun w3 dl um=>⟨L.set p x,p+1,by rw[fQ (by omega) (by omega)];rfl,by omega,by rw[pF];exact hL,?_,hdn _ fun j hj=>by rw[List.getElem?_set_ne (by omega)],b5 w3 dl um,hP.trans (dl.p (F:=fun k=>B<=k) fun k hk=>.inl ?_) fun k hk=>.inl hk⟩⟩
   ·rw[hw,gz,<-ht,bH,List.getElem?_set_self (by omega),List.take_set_of_le (by omega)];simp[ne,hb]
   ·simp only[aN]at hk;subst hk;rcases hO with⟨rfl,_⟩ | ⟨g',_,_,a1,a2,_⟩
    ·cases b1
    ·rw[a1]at b1;injection b1 with b1;injection b1 with b1;omega
  ·have hb:x=[]:=by simpa using hb
   refine⟨L,p,rfl,by omega,hL,?_,hdn _ fun j _=>rfl,hO,hP⟩;rw[hw,gz,<-ht,hb];simp[ne]
 ·have sP:¬(q:Int)<s.n:=aU hc;have WE:q=ws.length:=by omega
  subst WE;rw[bA (aV _)]at ht;obtain⟨w2,g,c1,c2,c3,c4⟩:=Own.clear (P:=aq) (t:=31) (ty:=0) (i:=p) cG (by decide) (by kernel_rfl) (fun w=>Tryz.zeroValue9 w) (by intro v hv;simp[Value.cells]at hv;subst hv;rfl) rfl hO (by omega);refine⟨p,⟨rfl,by omega,mY⟩,w2,c1,p,⟨rfl,by omega⟩,_,rfl,?_,hP.trans (c3.p (F:=fun k=>B<=k) fun k hk=>.inl ?_) fun k hk=>.inl hk⟩
  ·rw[<-ht];exact c4
  ·simp only[aN]at hk;subst hk;rcases hO with⟨rfl,_⟩ | ⟨g',_,_,a1,a2,_⟩
   ·cases c2
   ·rw[a1]at c2;injection c2 with c2;injection c2 with c2;omega
theorem xK(h:Own im 1 9 B w F s ws)(hl:(eV ws).length<=140737488355328)(hn:ws.length<=140737488355328):az aq 204 #[s.v] w fun e w'=>e=ak (ab (T (eV ws)))/\aD (fun k=>B<=k) w w':=by
 refine ret (aeW _ _ _ ?_);refine(Jr h).mono ?_;rintro _ w1 ⟨s',rfl,hO,hP⟩;refine⟨s',rfl,?_⟩;have eH:=hO.len;have pC:=yy ne ws;have RO:∀{w2:av},ay [] w1 w2->aD (fun k=>B<=k) w w2:=fun h=>hP.trans h.p0 fun k hk=>.inl hk;rcases hO with⟨rfl,he⟩ | ⟨g,css,tail,a1,a2,a4,a5,a6,a7,a9,a8⟩
 ·refine(Tryz.strings_Join_none none 0 (T [32]) w1).mono ?_;rintro _ w2 ⟨rfl,rfl⟩;refine⟨_,rfl,?_,hP⟩;unfold eV;rw[he];rfl
 ·obtain⟨sa,sn,sc⟩:=s';dsimp only at a1 a5 a6 a7 a9 eH;subst a1 eH;have N0:=Fs a8;have:=Tryz.strings_Join g 0 sc ((ws.filter ne).map T) (T [32]) w1 (fun j x hj=>by
   rw[cF,fg]at hj;obtain⟨y,hy,rfl⟩:=hj;have:=a4.cells 0 ((ws.filter ne).map fun x=>Value.string (T x)) (fun j v hj=>by rw[bJ,N0,bM (aY.1 hj).1];exact hj) j (ab (T y)) (by rw[cF,hy];rfl);rw[eU]at this;exact this) a4.lt (by rw[bC];omega) (by rw[bC];omega) (by
   rw[ii];have:((fun x:aK=>x.data.toList)∘T)=id:=rfl;rw[this,Kq];exact hl)
  rw[bC]at this;refine this.mono ?_;rintro _ w2 ⟨rfl,hB⟩;refine⟨_,rfl,?_,RO (Only.below hB)⟩;rw[ii];have:((fun x:aK=>x.data.toList)∘T)=id:=rfl;rw[this,Kq];rfl
end
theorem zD(w:av)(ws:List (aH)){n:Nat}{parts:Array (Nat×aw)}(hp:parts=(((ws.map fun x=>Value.string (T x)).zipIdx 0).map fun x=>(x.2,x.1)).toArray)(hn:ws.length=n)(h0:0<n)(wx:n*1<=16777216)(hl:(eV ws).length<=140737488355328):
  ∃(q:Sl) (w0:av),(au 31 n parts).run aq w=.ok q.v w0/\ay [] w w0/\Own im 1 9 w.heap.size w0 (fun _=>True) q ws/\az aq 204 #[q.v] w0 fun e w'=>e=ak (ab (T (eV ws)))/\aD (fun k=>w.heap.size<=k) w0 w':=by
 obtain⟨q,w0,k1,k2,k3⟩:=lZ w ws hp hn h0 wx;exact⟨q,w0,k1,k3,k2,xK k2 hl (by omega)⟩
theorem gr:∀(ws:List (aH)),(eV ws).length<=(ws.map fun l=>l.length+1).sum:=by
 have h1:∀(r:List (aH)),(Lib.joinTail [32] r).length=(r.map fun l=>l.length+1).sum:=fun r=>by
  induction r with
  | nil=>rfl
  | cons x r ih=>
   unfold Lib.joinTail at ih⊢;rw[bE,cY,aO,ih,bE,cj];simp
 have h2:∀(r:List (aH)),(Lib.join r [32]).length<=(r.map fun l=>l.length+1).sum:=fun r=>by
  cases r with
  | nil=>exact bp _
  | cons x r=>
   rw[Lib.join_cons,aO,h1,bE,cj];omega
 have h3:∀(r:List (aH)),((r.filter ne).map fun l=>l.length+1).sum<=(r.map fun l=>l.length+1).sum:=fun r=>by
  induction r with
  | nil=>exact aV _
  | cons x r ih=>
   rw[oo,bE,cj];split
   ·rw[bE,cj];omega
   ·omega
 exact fun ws=>bh (h2 _) (h3 ws)
end Go.Proofs.YtbkjcdocjfknfaaGreatDoor.Con
