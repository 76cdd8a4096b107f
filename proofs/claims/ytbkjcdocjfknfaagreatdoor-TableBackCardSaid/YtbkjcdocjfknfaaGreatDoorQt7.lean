import Derived.Test.YtbkjcdocjfknfaaGreatDoorQt6
set_option linter.unusedSectionVars false
namespace Go.Proofs.YtbkjcdocjfknfaaGreatDoor.Con
open Go.Value renaming int->O,string->ab,pointer->ae,agg->ah,tuple->ai,bool->aj
open Go.IntKind renaming i64->U,wrap->ar
open Go.Ending renaming returned->ak
open _root_.ByteArray renaming mk->ao
open _root_.Go.Proofs.Tryz renaming prog->aq
open Go.Instr renaming buildSlice->au
open Go renaming World->av,Value->aw,Calls->az
open Go.Kt renaming Only->ay,SliceF->aA,Cells->aB,OnlyP->aD,Blk->aF
open Go Go.RowKit Go.Kt Go.Kt.V Go.Proofs.YtbkjcdocjfknfaaGreatDoor.Vc
set_option linter.unusedSimpArgs false
set_option linter.unusedVariables false
set_option maxHeartbeats 4000000
structure Rd (F G:aJ) (ts:List Tk) (w:av) (b:Nat) (l sn:Sl) (i:Nat) (fc fa d:Int):Prop where
 blk:aF w b 324 [l.v,O U (i:Int),O U fc,O U fa,O U d,sn.v]
 tok:aA GY 4 w F l ts
 sig:aA im 1 w G sn yP
 hF:∀k,F k->k<b
 hG:∀k,G k->k<b
 en:uD ts
 lt:i<ts.length
section
variable {F G:aJ} {ts:List Tk} {w w':av} {b:Nat} {l sn:Sl} {i:Nat} {fc fa d:Int}
theorem Rd.only(h:Rd F G ts w b l sn i fc fa d)(hO:ay [] w w'):Rd F G ts w' b l sn i fc fa d:=
 ⟨hO.blk h.blk (by simp),SliceF.only iy (by decide) h.tok hO (by simp),SliceF.only cG (by decide) h.sig hO (by simp),h.hF,h.hG,h.en,h.lt⟩
theorem Rd.lI(h:Rd F G ts w b l sn i fc fa d)(hO:ay [b] w w'){i':Nat}{fc' fa' d':Int}(hB:aF w' b 324 [l.v,O U (i':Int),O U fc',O U fa',O U d',sn.v])(hi:i'<ts.length):Rd F G ts w' b l sn i' fc' fa' d':=
 ⟨hB,SliceF.only iy (by decide) h.tok hO fun k hk _ hm=>by have:=h.hF k hk;simp only[aN]at hm;omega,SliceF.only cG (by decide) h.sig hO fun k hk _ hm=>by have:=h.hG k hk;simp only[aN]at hm;omega,h.hF,h.hG,h.en,hi⟩
theorem Rd.own(h:Rd F G ts w b l sn i fc fa d){bs:List Nat}(hO:ay bs w w')(hb:∀x,x∈bs->b<x):Rd F G ts w' b l sn i fc fa d:=
 ⟨hO.blk h.blk fun hm=>by have:=hb b hm;omega,SliceF.only iy (by decide) h.tok hO fun k hk _ hm=>(by have:=h.hF k hk;have:=hb k hm;omega),SliceF.only cG (by decide) h.sig hO fun k hk _ hm=>(by have:=h.hG k hk;have:=hb k hm;omega),h.hF,h.hG,h.en,h.lt⟩
theorem Rd.lb(h:Rd F G ts w b l sn i fc fa d):b<w.heap.size:=h.blk.lt
theorem Rd.big(h:Rd F G ts w b l sn i fc fa d):ts.length<=9223372036854775807:=by
 have h1:=h.tok.len;have h2:=h.tok.cap;have h3:=h.tok.big;omega
theorem Rd.now(h:Rd F G ts w b l sn i fc fa d):∃ad,dy l (i:Int) 4 ad/\aB w ad [O U (tk ts i).k,ab (T (tk ts i).t),O U (tk ts i).n,O U (tk ts i).a]:=by
 have hl:=h.tok.len;have bQ:=h.lt;obtain⟨ad,x,cs,g1,g2,g3,g4,g5,g6⟩:=h.tok.get (bm i) (by omega);rw[aZ,G5 h.lt]at g2;injection g2 with g2;subst g2;unfold GY at g6;subst g6;exact⟨ad,g1,g5⟩
theorem C6(h:Rd F G ts w b l sn i fc fa d):az aq 288 #[ae (some ⟨b,0,none⟩)] w fun e w'=>e=ak (tk ts i).v/\ay [] w w':=by
 refine ret (aeH _ _ _ ?_);intro k0 w0 hk iq hO;have h0:=h.only hO;obtain⟨ad,g1,g2⟩:=h0.now;exact⟨l,Blk.dT h0.blk 0 rfl,_,Blk.dT h0.blk 1 rfl,ad,g1,_,_,_,_,g2,fun w1 cA=>⟨rfl,hO.new cA hk⟩⟩
theorem zn(h:Rd F G ts w b l sn i fc fa d):az aq 258 #[ae (some ⟨b,0,none⟩)] w fun e w'=>e=ak (aj (fc !=0))/\ay [] w w':=by
 refine ret (v7w _ _ _ ?_);exact⟨fc,Blk.dT h.blk 2 rfl,rfl,Only.refl _ _⟩
theorem AO(h:Rd F G ts w b l sn i fc fa d)(c:Int):az aq 297 #[ae (some ⟨b,0,none⟩),O U c] w fun e w'=>e=ak (ai #[])/\ay [b] w w'/\
  Rd F G ts w' b l sn i (if fc=0 then c else fc) (if fc=0 then(tk ts i).a else fa) d:=by
 refine ret (aeJ _ _ _ _ ?_);refine(zn h).mono ?_;rintro _ w0 ⟨rfl,cE⟩;have h0:=h.only cE;refine⟨_,rfl,fun hc=>(C6 h0).mono ?_,fun hc=>?_⟩
 ·have hc:fc=0:=by simpa using hc
  subst hc;rintro _ w1 ⟨rfl,cA⟩;have h1:=h0.only cA;refine⟨_,_,_,_,rfl,b,2,_,_,rfl,h1.blk,by simp,fun w2 cR qY=>⟨rfl,(cE.cp cA).weaken (fun _ h=>(by cases h)) |>.trans cR (fun x hx=>.inl hx),?_⟩⟩;rw[if_pos rfl,if_pos rfl];exact h1.lI cR qY h.lt
 ·have hc:fc≠0:=by simpa using hc
  rw[if_neg hc,if_neg hc];exact⟨rfl,cE.weaken fun _ h=>(by cases h),h0⟩
theorem AP(h:Rd F G ts w b l sn i fc fa d):az aq 294 #[ae (some ⟨b,0,none⟩)] w fun e w'=>e=ak (ai #[])/\ay [b] w w'/\
  Rd F G ts w' b l sn i (if fc=0 then(fT ts i).1 else fc) (if fc=0 then(fT ts i).2 else fa) d:=by
 refine ret (aeL _ _ _ ?_);refine⟨fun w'=>ay [b] w w'/\((tk ts i).k=5->Rd F G ts w' b l sn i (if fc=0 then 3 else fc) (if fc=0 then(tk ts i).a else fa) d)/\((tk ts i).k≠5->Rd F G ts w' b l sn i fc fa d),?_,(C6 h).mono ?_⟩
 ·rintro w0 ⟨cE,h1,h2⟩;by_cases hk:(tk ts i).k=5
  ·refine(AO (h1 hk) 4).mono ?_;rintro _ w1 ⟨rfl,cA,hR⟩;refine⟨rfl,rfl,cE.trans cA (fun x hx=>.inl hx),?_⟩;unfold fT;rw[if_pos hk];by_cases hc:fc=0
   ·rw[if_pos hc,if_pos hc,if_neg (by decide),if_neg (by decide)]at hR;rw[if_pos hc,if_pos hc];exact hR
   ·rw[if_neg hc,if_neg hc,if_neg hc,if_neg hc]at hR;rw[if_neg hc,if_neg hc];exact hR
  ·refine(AO (h2 hk) 4).mono ?_;rintro _ w1 ⟨rfl,cA,hR⟩;refine⟨rfl,rfl,cE.trans cA (fun x hx=>.inl hx),?_⟩;unfold fT;rw[if_neg hk];exact hR
 ·rintro _ w2 ⟨rfl,cR⟩;have h2:=h.only cR;refine⟨_,_,_,_,rfl,fun hc=>(AO h2 3).mono ?_,fun hc=>⟨cR.weaken fun _ h=>(by cases h),fun e=>?_,fun _=>h2⟩⟩
  ·rintro _ w3 ⟨rfl,dl,hR⟩;exact⟨rfl,cR.weaken (fun _ h=>(by cases h)) |>.trans dl (fun x hx=>.inl hx),fun _=>hR,fun e=>absurd (by simpa using hc) e⟩
  ·rw[e]at hc;simp at hc
theorem ZO(h:Rd F G ts w b l sn i fc fa d){H:aJ}{s:Sl}{ss:List (aH)}(hs:aA im 1 w H s ss):az aq 289 #[ae (some ⟨b,0,none⟩),s.v] w fun e w'=>
  e=ak (aj (fc==0&&(tk ts i).k==4&&ss.contains (tk ts i).t))/\ay [] w w':=by
 refine ret (v8w _ _ _ _ ?_);refine(C6 h).mono ?_;rintro _ w0 ⟨rfl,cE⟩;refine⟨_,_,_,_,rfl,fun k0 w1 hk iq cA=>⟨fun c w'=>c=(fc==0&&(tk ts i).k==4&&ss.contains (tk ts i).t)/\ay [] w w',fun c w2 h2=>⟨by rw[h2.1],h2.2⟩,?_⟩⟩;have iw:=cE.cp cA;refine(zn (h.only iw)).mono ?_;rintro _ w3 ⟨rfl,dl⟩;have e:(!(fc !=0))=(fc==0):=by cases h:(fc==0)<;>simp[bne,h]
 refine⟨_,rfl,dl.same (by simp;omega),fun hc=>(pX (SliceF.only cG (by decide) hs (iw.cp dl) (by simp)) _).mono ?_,fun hc=>⟨?_,iw.cp dl⟩⟩
 ·rintro _ w4 ⟨rfl,dA⟩;rw[e]at hc;have hl:=h.lb;have z3:=dl.size;exact⟨_,rfl,dA.same (by simp;omega),by rw[hc,dk],iw.cp (dl.cp dA)⟩
 ·rw[e]at hc;rw[hc,dZ]
theorem is1(h:Rd F G ts w b l sn i fc fa d)(s:aH):∃(s0:Sl) (w0:av),(au 31 1 #[.mk 0 (ab (T s))]).run aq w=.ok s0.v w0/\ay [] w w0/\
  az aq 289 #[ae (some ⟨b,0,none⟩),s0.v] w0 fun e w'=>e=ak (aj (fc==0&&sg ts i s))/\ay [] w0 w':=by
 obtain⟨s0,w0,k1,k2,k3⟩:=lZ w [s] (n:=1) (parts:=#[(0,ab (T s))]) rfl rfl (by decide) (by decide);refine⟨s0,w0,k1,k3,(ZO (h.only k3) (tu k2)).mono ?_⟩;rintro _ w1 ⟨rfl,cA⟩;have e:[s].contains (tk ts i).t=decide ((tk ts i).t=s):=by
  by_cases e:(tk ts i).t=s
  ·rw[bI e,e];simp
  ·rw[bq e];simp[e]
 refine⟨?_,cA⟩;unfold sg;rw[yX,e]
theorem is2(h:Rd F G ts w b l sn i fc fa d):∃(s0:Sl) (w0:av),(au 31 2 #[.mk 0 (ab (ao #[45])),.mk 1 (ab (ao #[33]))]).run aq w=.ok s0.v w0/\ay [] w w0/\
  az aq 289 #[ae (some ⟨b,0,none⟩),s0.v] w0 fun e w'=>e=ak (aj (fc==0&&(sg ts i [45]||sg ts i [33])))/\ay [] w0 w':=by
 obtain⟨s0,w0,k1,k2,k3⟩:=lZ w [[45],[33]] (n:=2) (parts:=#[(0,ab (T [45])),(1,ab (T [33]))]) rfl rfl (by decide) (by decide);refine⟨s0,w0,k1,k3,(ZO (h.only k3) (tu k2)).mono ?_⟩;rintro _ w1 ⟨rfl,cA⟩;have e:[[45],[33]].contains (tk ts i).t=(decide ((tk ts i).t=[45])||decide ((tk ts i).t=[33])):=by
  rw[bT];simp
 refine⟨?_,cA⟩;unfold sg;rw[yX,<-Bool.and_or_distrib_left,e]
theorem xy(h:Rd F G ts w b l sn i fc fa d)(s:aH):az aq 292 #[ae (some ⟨b,0,none⟩),ab (T s)] w fun e w'=>e=ak (ai #[])/\ay [b] w w'/\
  (if fc==0&&sg ts i s then Rd F G ts w' b l sn (i+1) fc fa d else Rd F G ts w' b l sn i (if fc=0 then(fT ts i).1 else fc) (if fc=0 then(fT ts i).2 else fa) d):=by
 refine ret (v9w _ _ _ _ ?_);obtain⟨s0,w0,k1,k2,k3⟩:=is1 h s;refine⟨s0,w0,k1,k3.mono ?_⟩;rintro _ w1 ⟨rfl,cA⟩;have h1:=h.only (k2.cp cA);have iw:ay [b] w w1:=(k2.cp cA).weaken fun _ h=>(by cases h)
 refine⟨_,rfl,fun hc=>(AP h1).mono ?_,fun hc=>?_⟩
 ·rintro _ w2 ⟨rfl,cR,hR⟩;have hc:(fc==0&&sg ts i s)=false:=by rwa[dK]at hc
  rw[hc];exact⟨rfl,rfl,iw.trans cR (fun x hx=>.inl hx),hR⟩
 ·have hc:(fc==0&&sg ts i s)=true:=by rwa[El]at hc
  rw[hc];simp only[aR]at hc;have hn:=h.en.next h.lt (AM hc.2);have hb:=h.big;refine⟨(i:Int),Blk.dT h1.blk 1 rfl,b,1,_,_,rfl,h1.blk,by simp,fun w3 dl um=>⟨rfl,iw.trans dl (fun x hx=>.inl hx),h1.lI dl ?_ hn⟩⟩;rw[fQ (by omega) (by omega)]at um;exact um
theorem G8(h:Rd F G ts w b l sn i fc fa d):az aq 293 #[ae (some ⟨b,0,none⟩)] w fun e w'=>ay [b] w w'/\
  (if fc=0/\(tk ts i).k=1 then e=ak (ab (T (tk ts i).t))/\Rd F G ts w' b l sn (i+1) fc fa d else e=ak (ab (T []))/\Rd F G ts w' b l sn i (if fc=0 then(fT ts i).1 else fc) (if fc=0 then(fT ts i).2 else fa) d):=by
 refine(aeM ⟨b,0,none⟩ (fun v w'=>ay [b] w w'/\(if fc=0/\(tk ts i).k=1 then v=(ab (T (tk ts i).t))/\Rd F G ts w' b l sn (i+1) fc fa d else v=(ab (T []))/\Rd F G ts w' b l sn i (if fc=0 then(fT ts i).1 else fc) (if fc=0 then(fT ts i).2 else fa) d)) w ?_).mono (by
  rintro e w' ⟨v,rfl,hO,hv⟩;refine⟨hO,?_⟩;split at hv
  ·rename_i hc;rw[if_pos hc];exact⟨by rw[hv.1],hv.2⟩
  ·rename_i hc;rw[if_neg hc];exact⟨by rw[hv.1],hv.2⟩)
 refine(C6 h).mono ?_;rintro _ w0 ⟨rfl,cE⟩;refine⟨_,_,_,_,rfl,fun k0 w1 hk iq cA=>?_⟩;have iw:=cE.cp cA;have z0:=cE.size;have hl:=h.lb;refine(zn (h.only iw)).mono ?_;rintro _ w2 ⟨rfl,cR⟩;have z2:=cR.size;have h2:=h.only (iw.cp cR);have mZ:ay [b] w w2:=(iw.cp cR).weaken fun _ h=>(by cases h)
 refine⟨_,rfl,cR.same (by simp;omega),fun hc=>(AP h2).mono ?_,fun hc=>?_⟩
 ·rintro _ w3 ⟨rfl,dl,hR⟩;refine⟨rfl,dl.same (by simp;omega),mZ.trans dl (fun x hx=>.inl hx),?_⟩;rw[if_neg (fun hh=>by rw[hh.1,hh.2]at hc;simp at hc)];exact⟨rfl,hR⟩
 ·have hc:fc=0/\(tk ts i).k=1:=by simpa using hc
  have hn:=h.en.next h.lt (by rw[hc.2];decide);have hb:=h.big;refine⟨(i:Int),Blk.dT h2.blk 1 rfl,b,1,_,_,rfl,h2.blk,by simp,by omega,fun w3 dl um=>⟨mZ.trans dl (fun x hx=>.inl hx),?_⟩⟩;rw[if_pos hc];refine⟨rfl,h2.lI dl ?_ hn⟩;rw[fQ (by omega) (by omega)]at um;exact um
end
theorem Fb(w:av)(op:Int):az aq 280 #[O U op] w fun e w'=>e=ak (O U (jD op))/\w'=w:=by
 refine ret (aeO _ _ _ ?_);have fin:∀{k:Int} {w1:av},jD op=k->(Value.int U k=O U (jD op)/\w1=w1):=fun e=>⟨by rw[e],rfl⟩
 refine⟨fun h=>fin ?_,fun h=>⟨fun b w'=>b=decide (op=1∨op=2)/\w'=w,?_,fun h1=>⟨?_,rfl⟩,fun h1=>⟨?_,rfl⟩⟩⟩
 ·simp only[aR,bW]at h;unfold jD;rw[if_pos (by omega)]
 ·rintro _ w1 ⟨rfl,rfl⟩;have h:¬(3<=op/\op<=5):=fun hh=>by rw[bI hh.1,bI hh.2]at h;cases h
  refine⟨fun h1=>fin ?_,fun h1=>⟨fun h2=>fin ?_,fun h2=>⟨fun b w2=>b=decide (op=10∨op=11)/\w2=w1,?_,fun h3=>⟨?_,rfl⟩,fun h3=>⟨?_,rfl⟩⟩⟩⟩
  ·have h1:=aP h1;unfold jD;rw[if_neg h,if_pos h1]
  ·have h1:=aU h1;simp only[aR,bW]at h2;unfold jD;rw[if_neg h,if_neg h1,if_pos (by omega)]
  ·rintro _ _ ⟨rfl,rfl⟩;have h1:=aU h1;have h2:¬(6<=op/\op<=9):=fun hh=>by rw[bI hh.1,bI hh.2]at h2;cases h2
   refine⟨fun h3=>fin ?_,fun h3=>⟨fun h4=>fin ?_,fun h4=>⟨fun h5=>fin ?_,fun h5=>fin ?_⟩⟩⟩
   ·have h3:=aP h3;unfold jD;rw[if_neg h,if_neg h1,if_neg h2,if_pos h3]
   ·have h3:=aU h3;have h4:op=12:=by simpa using h4
    unfold jD;rw[if_neg h,if_neg h1,if_neg h2,if_neg h3,if_pos h4]
   ·have h3:=aU h3;have h4:¬op=12:=by simpa using h4
    have h5:op=13:=by simpa using h5
    unfold jD;rw[if_neg h,if_neg h1,if_neg h2,if_neg h3,if_neg h4,if_pos h5]
   ·have h3:=aU h3;have h4:¬op=12:=by simpa using h4
    have h5:¬op=13:=by simpa using h5
    unfold jD;rw[if_neg h,if_neg h1,if_neg h2,if_neg h3,if_neg h4,if_neg h5]
  ·have h3:op=10:=by simpa using h3
   rw[h3];rfl
  ·have h3:¬op=10:=by simpa using h3
   rw[bT];simp[h3]
 ·have h1:op=1:=by simpa using h1
  rw[h1];rfl
 ·have h1:¬op=1:=by simpa using h1
  rw[bT];simp[h1]
section
variable {F G:aJ} {ts:List Tk} {w w':av} {b:Nat} {l sn:Sl} {i:Nat} {fc fa d:Int}
theorem xz(h:Rd F G ts w b l sn i fc fa d)(k:Int):az aq 275 #[ae (some ⟨b,0,none⟩),O U k] w fun e w'=>e=ak (O U (if fc=0 then xw ts k i else 0))/\ay [] w w':=by
 refine ret (aeN _ _ _ _ ?_);refine⟨fun nv i0 w'=>∃op:Nat,1<=op/\op<=14/\i0=(op:Int)/\nv=14-op/\(if fc=0 then xw ts k i else 0)=(if fc=0 then uE ts k i (14-op) op else 0)/\ay [] w w',13,⟨1,by decide,by decide,rfl,rfl,rfl,Only.refl _ _⟩,?_⟩;rintro nv _ w0 ⟨op,h1,h2,rfl,rfl,hV,cE⟩;refine⟨fun hc=>?_,fun hc=>?_⟩
 ·have hc:(op:Int)<=13:=aP hc;obtain⟨m,hm⟩:∃m,14-op=m+1:=⟨13-op,by omega⟩
  rw[hm,uE]at hV;refine⟨fun c w'=>c=(decide (jD (op:Int)=k)&&(fc==0&&sg ts i (ka op)))/\ay [] w w',?_,fun w2 cR=>(Fb w2 _).mono ?_⟩
  ·rintro _ w1 ⟨rfl,cA⟩;refine⟨fun hb=>⟨?_,cA⟩,fun hb=>⟨m,by omega,op+1,by omega,by omega,by rw[fQ (by omega) (by omega)];rfl,by omega,?_,cA⟩⟩
   ·simp only[aR,bW,ol]at hb;rw[hV,if_pos hb.2.1,if_pos ⟨hb.1,hb.2.2⟩]
   ·rw[hV,show 14-(op+1)=m by omega];by_cases h0:fc=0
    ·rw[if_pos h0,if_pos h0,if_neg];rintro⟨e1,e2⟩;rw[bI e1,e2,h0]at hb;simp at hb
    ·rw[if_neg h0,if_neg h0]
  ·rintro _ w3 ⟨rfl,rfl⟩;have h3:=h.only (cE.cp cR);refine⟨_,rfl,fun hk=>?_,fun hk=>?_⟩
   ·have hk:jD (op:Int)=k:=by simpa using hk
    have hn:=h3.sig.len;have hol:yP.length=16:=rfl;obtain⟨ad,x,cs,g1,g2,g3,g4,g5,g6⟩:=h3.sig.get (i:=(op:Int)) (by omega) (by omega);unfold im at g6;subst g6;rw[aZ]at g2;have hx:ka op=x:=by unfold ka;rw[g2];rfl
    subst hx;obtain⟨s0,w4,k1,k2,k3⟩:=is1 h3 (ka op);refine⟨sn,Blk.dT h3.blk 5 rfl,ad,g1,_,g5,s0,w4,k1,k3.mono ?_⟩;rintro _ w5 ⟨rfl,eJ⟩;exact⟨_,rfl,by rw[bI hk,dk],cE.cp (cR.cp (k2.cp eJ))⟩
   ·have hk:¬jD (op:Int)=k:=by simpa using hk
    exact⟨by rw[bq hk,dZ],cE.cp cR⟩
 ·have hc:¬(op:Int)<=13:=aU hc;have:op=14:=by omega
  subst this;rw[hV];refine⟨?_,cE⟩;split<;>rfl
end
abbrev oO(k n:Int)(s:aH)(op:Int)(sl:Sl)(a:Int):aI:=[O U k,O U n,ab (T s),O U op,sl.v,O U a]
inductive RXN (w:av) (N:aJ):Nat->Nat->Ex->aI->Prop
 | leaf (lo hi:Nat) (k n:Int) (s:aH) (op a:Int):RXN w N lo hi (.mk k n s op [] a) (oO k n s op Sl.nil a)
 | one (lo m g hi:Nat) (k n:Int) (s:aH) (op a:Int) (x:Ex) (cs:aI):RXN w N lo m x cs->lo<=g->m<=g->g<hi->¬N g->aF w g 64 cs->RXN w N lo hi (.mk k n s op [x] a) (oO k n s op ⟨some ⟨g,0,none⟩,1,1⟩ a)
 | two (lo m m' m2 g hi:Nat) (k n:Int) (s:aH) (op a:Int) (x y:Ex) (cs ds:aI):RXN w N lo m x cs->m<=m'->RXN w N m' m2 y ds->lo<=m'->m<=g->m'<=g->m2<=g->g<hi->¬N g->aF w g 64 (cs++ds)->RXN w N lo hi (.mk k n s op [x,y] a) (oO k n s op ⟨some ⟨g,0,none⟩,2,2⟩ a)
abbrev RX(w:av):Nat->Nat->Ex->aI->Prop:=RXN w fun _=>False
section
variable {w w':av} {N N':aJ} {lo hi:Nat} {x:Ex} {cs:aI}
theorem RXN.keep(h:RXN w N lo hi x cs):(∀k,lo<=k->k<hi->¬N k->k<w.heap.size->w'.heap[k]? =w.heap[k]?)->RXN w' N lo hi x cs:=by
 induction h with
 | leaf lo hi k n s op a=>exact fun _=>.leaf ..
 | one lo m g hi k n s op a x cs h1 h2 h3 h4 hn h5 ih=>
  intro hk;exact .one lo m g hi k n s op a x cs (ih fun j h6 h7 h8=>hk j h6 (by omega) h8) h2 h3 h4 hn ((hk g h2 h4 hn h5.lt).trans h5)
 | two lo m m' m2 g hi k n s op a x y cs ds h1 h2 h3 h4 h5 h6 h7 h8 hn h9 KM Py=>
  intro hk;exact .two lo m m' m2 g hi k n s op a x y cs ds (KM fun j a1 a2 a3=>hk j a1 (by omega) a3) h2 (Py fun j a1 a2 a3=>hk j (by omega) (by omega) a3) h4 h5 h6 h7 h8 hn ((hk g (by omega) h8 hn h9.lt).trans h9)
theorem RXN.wide(h:RXN w N lo hi x cs):∀{X5 zP:Nat},X5<=lo->hi<=zP->RXN w N X5 zP x cs:=by
 induction h with
 | leaf lo hi k n s op a=>exact fun _ _=>.leaf ..
 | one lo m g hi k n s op a x cs h1 h2 h3 h4 hn h5 ih=>
  intro X5 zP a1 a2;exact .one X5 m g zP k n s op a x cs (ih a1 (aV _)) (by omega) h3 (by omega) hn h5
 | two lo m m' m2 g hi k n s op a x y cs ds h1 h2 h3 h4 h5 h6 h7 h8 hn h9 KM Py=>
  intro X5 zP a1 a2;exact .two X5 m m' m2 g zP k n s op a x y cs ds (KM a1 (aV _)) h2 h3 (by omega) h5 h6 h7 (by omega) hn h9
theorem RXN.NQ(h:RXN w N lo hi x cs):(∀k,lo<=k->k<hi->¬N k->¬N' k)->RXN w N' lo hi x cs:=by
 induction h with
 | leaf lo hi k n s op a=>exact fun _=>.leaf ..
 | one lo m g hi k n s op a x cs h1 h2 h3 h4 hn h5 ih=>
  intro hk;exact .one lo m g hi k n s op a x cs (ih fun j h6 h7=>hk j h6 (by omega)) h2 h3 h4 (hk g h2 h4 hn) h5
 | two lo m m' m2 g hi k n s op a x y cs ds h1 h2 h3 h4 h5 h6 h7 h8 hn h9 KM Py=>
  intro hk;exact .two lo m m' m2 g hi k n s op a x y cs ds (KM fun j a1 a2=>hk j a1 (by omega)) h2 (Py fun j a1 a2=>hk j (by omega) (by omega)) h4 h5 h6 h7 h8 (hk g (by omega) h8 hn) h9
theorem RXN.cells(h:RXN w N lo hi x cs):∃sl:Sl,cs=oO x.k x.n x.s x.op sl x.a/\(sl.n=x.eN.length):=by
 cases h with
 | leaf=>exact⟨_,rfl,rfl⟩
 | one=>exact⟨_,rfl,rfl⟩
 | two=>exact⟨_,rfl,rfl⟩
theorem RXN.only(h:RXN w N lo hi x cs){bs:List Nat}(hO:ay bs w w')(hb:∀k,k∈bs->k<lo∨hi<=k∨N k):RXN w' N lo hi x cs:=
 h.keep fun k h1 h2 hn h3=>hO.block k h3 fun hm=>by
  rcases hb k hm with e | e | e
  ·omega
  ·omega
  ·exact hn e
end
theorem L8(w:av)(vs:List (aI))(hv:∀v,v∈vs->v.length=6)(h0:0<vs.length)(hm:vs.length<=100){parts:Array (Nat×aw)}(hp:parts=(((vs.map fun v=>Value.agg v.toArray).zipIdx 0).map fun x=>(x.2,x.1)).toArray):
  ∃w',(au 62 vs.length parts).run aq w=.ok (Sl.v ⟨some ⟨w.heap.size,0,none⟩,vs.length,vs.length⟩) w'/\aF w' w.heap.size 64 vs.flatten/\ay [] w w':=by
 have hc:((vs.map fun v=>Value.agg v.toArray).flatMap fun v=>v.cells.toList)=vs.flatten:=by
  clear hv h0 hm hp
  induction vs with
  | nil=>rfl
  | cons v vs ih=>rw[bE,Gh,ih,cY];rfl
 have hs:Tryz.t64.size=6:=rfl;have sB:=run_buildSlice (P:=aq) w 62 64 vs.length parts ((vs.map fun v=>Value.agg v.toArray).flatMap fun v=>v.cells.toList).toArray Tryz.t64 _ (by kernel_rfl) (by kernel_rfl) rfl (by rw[hs];omega) (by rw[hs];omega)
  (by
   subst hp;rw[fV,hs];refine Go.Great.fill_whole (s:=6) (by decide) (vs.map fun v=>Value.agg v.toArray) _ (fun v hm=>?_) ?_
   ·obtain⟨x,hx,rfl⟩:=eT.1 hm;have:=hv x hx;simpa[Value.cells]using this
   ·simp)
 rw[hc]at sB;exact⟨_,sB,Blk.alloc w _ _,Only.alloc _ _⟩
def exT(v:aw):Prop:=∃(k n:Int) (s:aH) (op:Int) (sl:Sl) (a:Int),v=ah (oO k n s op sl a).toArray
def ma(F G:aJ)(ts:List Tk)(w w':av)(b:Nat)(l sn:Sl)(d:Nat)(r:Pr)(v:aw):Prop:=ay [b] w w'/\match r with
 | .ok (x,j)=>∃cs,v=ah cs.toArray/\RX w' w.heap.size w'.heap.size x cs/\Rd F G ts w' b l sn j 0 0 (d:Int)
 | .error e=>e.1≠0/\exT v/\∃j,Rd F G ts w' b l sn j e.1 e.2 (d:Int)
section
variable {F G:aJ} {ts:List Tk} {w w':av} {b:Nat} {l sn:Sl} {i:Nat} {fc fa d:Int}
theorem gn:(fT ts i).1≠0:=by
 unfold fT;dsimp only;split<;>decide
theorem C7{d:Nat}(hd:d<=20)(h:Rd F G ts w b l sn i 0 0 (d:Int))(hi:i+1<ts.length){g:Nat}{z1 z2:aI}(hg:∀(x:Array aw) (w:av),(callFunc g x).run aq w=.ok (.enter g x) w)(f:OV)(hf:f.v=.func (.func g) z1.toArray z2.toArray){r:Pr}
  (hr:d≠20->∀w1,ay [b] w w1->Rd F G ts w1 b l sn (i+1) 0 0 ((d+1:Nat):Int)->az aq g (z1++z2).toArray w1 fun e w'=>∃v,e=ak v/\ma F G ts w1 w' b l sn (d+1) r v):
  az aq 290 #[ae (some ⟨b,0,none⟩),f.v] w fun e w'=>∃v,e=ak v/\ma F G ts w w' b l sn d (pd d (tk ts i).a r) v:=by
 refine aeI ⟨b,0,none⟩ f (fun v w'=>ma F G ts w w' b l sn d (pd d (tk ts i).a r) v) w ?_;intro k0 w0 hk iq cE;have hb:=h.lb;have h0:=h.only cE;refine⟨(d:Int),Blk.dT h0.blk 4 rfl,fun hc=>(AO h0 21).mono ?_,fun hc=>?_⟩
 ·have hc:d=20:=by have:(d:Int)=20:=(by simpa using hc);omega
  rintro _ w1 ⟨rfl,cA,hR⟩;rw[if_pos rfl,if_pos rfl]at hR;have z1:=cA.size;refine⟨rfl,cA.same (by simp;omega),fun w2 cR=>⟨?_,?_⟩⟩
  ·exact((cE.weaken (bs':=[b]) fun _ h=>(by cases h)).trans cA fun x hx=>.inl hx).new cR hk
  ·rw[pd,if_pos hc];exact⟨(by decide:(21:Int)≠0),⟨0,0,[],0,Sl.nil,0,rfl⟩,i,hR.own cR (by simp;omega)⟩
 ·have hc:d≠20:=fun e=>by subst e;simp at hc
  have PA:=h.big;refine⟨(i:Int),Blk.dT h0.blk 1 rfl,b,1,_,_,rfl,h0.blk,by simp,by omega,fun w3 dl um=>?_⟩;rw[fQ (by omega) (by omega)]at um;have h3:Rd F G ts w3 b l sn (i+1) 0 0 (d:Int):=h0.lI dl um hi;have z3:=dl.size;refine⟨(d:Int),Blk.dT h3.blk 4 rfl,b,4,_,_,rfl,h3.blk,by simp,by omega,fun w4 dA ub=>?_⟩;rw[fQ (by omega) (by omega)]at ub;have h4:Rd F G ts w4 b l sn (i+1) 0 0 ((d+1:Nat):Int):=h3.lI dA ub hi;have z4:=dA.size;have BQ:ay [b] w w4:=((cE.weaken (bs':=[b]) fun _ h=>(by cases h)).trans dl fun x hx=>.inl hx).trans dA fun x hx=>.inl hx;refine⟨g,z1,z2,hf,hg,?_⟩;have e:vG (vG z1 []) z2=z1++z2:=by unfold vG;rw[bN]
  rw[e];refine(hr hc w4 BQ h4).mono ?_;rintro _ w6 ⟨v,rfl,eh,hd⟩;have z6:=eh.size;rw[pd,if_neg hc];have hv:∃(k n:Int) (s:aH) (op:Int) (sl:Sl) (a:Int),v=ah (oO k n s op sl a).toArray:=by
   cases r with
   | error e=>exact hd.2.1
   | ok q=>
    obtain⟨cs,rfl,hx,_⟩:=hd;obtain⟨sl,rfl,_⟩:=hx.cells;exact⟨_,_,_,_,_,_,rfl⟩
  obtain⟨vk,vn,vs,vo,vsl,va,rfl⟩:=hv;refine⟨_,_,_,_,_,_,rfl,eh.same (by simp;omega),fun k8 w7 hk8 RH fm=>?_⟩;have z7:=fm.size;have key:∀{j:Nat} {fc fa:Int},Rd F G ts w6 b l sn j fc fa ((d+1:Nat):Int)->∃i7:Int,aB w7 (Addr.add ⟨b,0,none⟩ 4) [O U i7]/\∃k9 iu:Nat,∃z4:aI,∃lR:Nat,(Addr.add ⟨b,0,none⟩ 4)=⟨k9,iu,none⟩/\aF w7 k9 lR z4/\(iu+1)<=z4.length/\k0≠k9/\k8≠k9/\
    ∀w8:av,ay [k9] w7 w8->aF w8 k9 lR (cd z4 iu [O U (ar U (i7-1))])->∀w9:av,ay [k0] w8 w9->ay [b] w w9/\ay [b,k0] w6 w9/\Rd F G ts w9 b l sn j fc fa (d:Int):=fun{j fc fa} h6=>by
   have h7:=h6.only fm;refine⟨((d+1:Nat):Int),Blk.dT h7.blk 4 rfl,b,4,_,_,rfl,h7.blk,by simp,by omega,by omega,fun w8 fp vT w9 fS=>?_⟩;have ed:((d+1:Nat):Int)-1=d:=by omega
   rw[ed,fQ (by omega) (by omega)]at vT;have h8:Rd F G ts w8 b l sn j fc fa (d:Int):=h7.lI fp vT h7.lt;have aaT:ay [b,k0] w6 w9:=((fm.weaken (bs':=[b,k0]) fun _ h=>(by cases h)).trans fp fun x hx=>.inl (by simp only[aN]at hx;simp[hx])).trans fS fun x hx=>.inl (by simp only[aN]at hx;simp[hx]);exact⟨(BQ.trans eh fun x hx=>.inl hx).trans aaT (fun x hx=>by
    simp only[aQ,aW,bP]at hx;rcases hx with rfl | rfl
    ·exact .inl (by simp)
    ·exact .inr hk),aaT,h8.own fS (by simp;omega)⟩
  have hd2:=hd;cases r with
  | error e=>
   obtain⟨h1,h2,j,h3⟩:=hd2;obtain⟨i7,k1,k9,iu,z,lR,k2,k3,k4,k5,k6,k7⟩:=key h3;refine⟨i7,k1,k9,iu,z,lR,k2,k3,k4,k5,k6,fun w8 fp vT w9 fS=>?_⟩;obtain⟨a1,a2,a3⟩:=k7 w8 fp vT w9 fS;exact⟨a1,h1,h2,j,a3⟩
  | ok q=>
   obtain⟨x,j⟩:=q;obtain⟨cs,h1,h2,h3⟩:=hd2;obtain⟨i7,k1,k9,iu,z,lR,k2,k3,k4,k5,k6,k7⟩:=key h3;refine⟨i7,k1,k9,iu,z,lR,k2,k3,k4,k5,k6,fun w8 fp vT w9 fS=>?_⟩;obtain⟨a1,a2,a3⟩:=k7 w8 fp vT w9 fS;have z9:=a2.size;exact⟨a1,cs,h1,(h2.only a2 fun k hk=>.inl (by simp only[aQ,aW,bP]at hk;omega)).wide (by omega) z9,a3⟩
end
section
variable {F G:aJ} {ts:List Tk} {w w':av} {b:Nat} {l sn:Sl} {i:Nat} {fc fa d:Int}
theorem ma.yi{w w':av}{d:Nat}{r:Pr}{v:aw}(h:ma F G ts w w' b l sn d r v):exT v:=by
 obtain⟨_,h⟩:=h;cases r with
 | error e=>exact h.2.1
 | ok q=>
  obtain⟨cs,rfl,hx,_⟩:=h;obtain⟨sl,rfl,_⟩:=hx.cells;exact⟨_,_,_,_,_,_,rfl⟩
theorem ma.NR{w0 w1 w2 w3:av}{d:Nat}{r:Pr}{v:aw}(h:ma F G ts w1 w2 b l sn d r v)(cE:ay [b] w0 w1){bs:List Nat}(cR:ay bs w2 w3)(hb:∀x,x∈bs->b<x/\w0.heap.size<=x/\x<w1.heap.size):ma F G ts w0 w3 b l sn d r v:=by
 obtain⟨hO,h⟩:=h;have z0:=cE.size;have z1:=hO.size;have z2:=cR.size;refine⟨(cE.trans hO fun x hx=>.inl hx).trans cR fun x hx=>.inr (hb x hx).2.1,?_⟩;cases r with
 | error e=>
  obtain⟨h1,h2,j,h3⟩:=h;exact⟨h1,h2,j,h3.own cR fun x hx=>(hb x hx).1⟩
 | ok q=>
  obtain⟨cs,h1,h2,h3⟩:=h;exact⟨cs,h1,(h2.only cR fun x hx=>.inl (hb x hx).2.2).wide z0 z2,h3.own cR fun x hx=>(hb x hx).1⟩
theorem ZP{d:Nat}{r:Pr}{k0:Nat}(h:Rd F G ts w b l sn i 0 0 (d:Int))(hk:b<k0)(hB:aF w k0 320 [ae (some ⟨b,0,none⟩)])
  (hE:∀w1,ay [] w w1->az aq 257 #[ae (some ⟨b,0,none⟩),O U 0] w1 fun e w'=>∃v,e=ak v/\ma F G ts w1 w' b l sn d r v):
  az aq 291 #[ae (some ⟨k0,0,none⟩)] w fun e w'=>∃v,e=ak v/\ma F G ts w w' b l sn d (yQ ts r) v:=by
 refine aeK ⟨k0,0,none⟩ (fun v w'=>ma F G ts w w' b l sn d (yQ ts r) v) w ?_;intro k1 w0 lr jq cE;have hb:=h.lb;have wy:aF w0 k0 320 [ae (some ⟨b,0,none⟩)]:=cE.blk hB (by simp);have RI:=hB.lt;refine⟨_,Blk.dT wy 0 rfl,(hE w0 cE).mono ?_⟩;rintro _ w1 ⟨v,rfl,hd⟩;obtain⟨k,n,s,op,sl,a,rfl⟩:=hd.yi;have z1:=hd.1.size;refine⟨_,_,_,_,_,_,rfl,hd.1.same (by simp;omega),fun k2 w2 qZ uc cR=>?_⟩;have z2:=cR.size;have qY:aF w2 k0 320 [ae (some ⟨b,0,none⟩)]:=cR.blk (hd.1.blk wy (by simp;omega)) (by simp);refine⟨_,Blk.dT qY 0 rfl,_,rfl,?_⟩;obtain⟨cA,hd⟩:=hd;have mZ:ay [b] w w2:=((cE.weaken fun _ h=>(by cases h)).trans cA fun x hx=>.inl hx).cp cR;cases r with
 | error e=>
  obtain⟨h1,h2,j,h3⟩:=hd;have h3:=h3.only cR;refine(xy h3 [41]).mono ?_;rintro _ w3 ⟨rfl,dl,hR⟩;rw[if_neg (by simp[h1]),if_neg h1,if_neg h1]at hR;refine⟨rfl,dl.same (by simp;omega),fun w4 dA=>⟨((mZ.trans dl fun x hx=>.inl hx).new dA lr),h1,⟨_,_,_,_,_,_,rfl⟩,j,hR.own dA (by simp;omega)⟩⟩
 | ok q=>
  obtain⟨x,j⟩:=q;obtain⟨cs,h1,h2,h3⟩:=hd;have h3:=h3.only cR;refine(xy h3 [41]).mono ?_;rintro _ w3 ⟨rfl,dl,hR⟩;have z3:=dl.size;refine⟨rfl,dl.same (by simp;omega),fun w4 dA=>⟨((mZ.trans dl fun x hx=>.inl hx).new dA lr),?_⟩⟩;have z4:=dA.size;by_cases hs:sg ts j [41]=true
  ·rw[if_pos (by simp[hs])]at hR;simp only[yQ,hs,if_true];exact⟨cs,h1,(((h2.only cR (by simp)).only dl fun k hk=>.inl (by simp only[aN]at hk;omega)).only dA fun k hk=>.inl (by simp only[aN]at hk;omega)).wide (by omega) (by omega),hR.own dA (by simp;omega)⟩
  ·rw[if_neg (by simp[hs]),if_pos rfl,if_pos rfl]at hR;simp only[yQ,hs,iI];exact⟨gn,⟨_,_,_,_,_,_,rfl⟩,j,hR.own dA (by simp;omega)⟩
theorem UA{f d:Nat}(hd:d<=20)(h:Rd F G ts w b l sn i 0 0 (d:Int))
  (hE:d≠20->∀w i,Rd F G ts w b l sn i 0 0 ((d+1:Nat):Int)->az aq 257 #[ae (some ⟨b,0,none⟩),O U 0] w fun e w'=>∃v,e=ak v/\ma F G ts w w' b l sn (d+1) (eP ts f 0 (d+1) i) v)
  (ahc:d≠20->∀w i,Rd F G ts w b l sn i 0 0 ((d+1:Nat):Int)->az aq 274 #[ae (some ⟨b,0,none⟩)] w fun e w'=>∃v,e=ak v/\ma F G ts w w' b l sn (d+1) (eP ts f 6 (d+1) i) v):
  az aq 274 #[ae (some ⟨b,0,none⟩)] w fun e w'=>∃v,e=ak v/\ma F G ts w w' b l sn d (eP ts (f+1) 6 d i) v:=by
 have eR:eP ts (f+1) 6 d i=AN ts (eP ts f 0 (d+1)) (eP ts f 6 (d+1)) d i:=by rw[eP,if_pos rfl]
 rw[eR];generalize hgE:eP ts f 0 (d+1)=E0 at*
 generalize hgO:eP ts f 6 (d+1)=Kx at*
 generalize hR:AN ts E0 Kx d i=R;rw[AN]at hR;refine aeG ⟨b,0,none⟩ (fun v w'=>ma F G ts w w' b l sn d R v) w ?_;intro k0 k1 w0 gH eW lr jq cE;have hb:=h.lb;refine(C6 (h.only cE)).mono ?_;rintro _ w1 ⟨rfl,cA⟩;have z1:=cA.size;have iw:=cE.cp cA;refine⟨_,_,_,_,rfl,cA.same (by simp;omega),fun k2 k3 w2 qZ uc vU ud cR=>?_⟩;have z2:=cR.size;have z0:=cE.size;have mZ:=iw.cp cR;have h2:=h.only mZ;have PA:=h.big;have sm:∀{u u':av},w2.heap.size<=u.heap.size->ay [b] u u'->bS [k0,k1,k2,k3] u u':=fun hu hO=>hO.same (by intro x hx;simp only[aQ,aW,bP]at hx⊢;omega);have X6:∀{u u':av},w2.heap.size<=u.heap.size->ay [] u u'->bS [k0,k1,k2,k3] u u':=fun hu hO=>hO.same (by intro x hx;simp only[aQ,aW,bP]at hx;exact⟨by omega,by simp⟩);refine⟨fun q _ _ _ _ _ _ vk vn vs vo vl va w'=>q=some ⟨b,0,none⟩/\ay [] w w'/\(tk ts i).k≠5/\∃t,vs=T t/\vl=Sl.nil/\R=.ok (.mk vk vn t vo [] va,i+1),?_,?_⟩
 ·rintro _ _ _ _ _ _ _ vk vn _ vo _ va w3 ⟨rfl,dl,gL,t,rfl,rfl,JZ⟩;have h3:=h.only dl;have hn:=h.en.next h.lt gL;refine⟨_,rfl,(i:Int),Blk.dT h3.blk 1 rfl,_,rfl,b,1,_,_,rfl,h3.blk,by simp,by omega,by omega,by omega,by omega,fun w4 dA ub w5 eJ=>?_⟩;rw[fQ (by omega) (by omega)]at ub;have h4:Rd F G ts w4 b l sn (i+1) 0 0 (d:Int):=h3.lI dA ub hn;rw[JZ];refine⟨((dl.weaken (bs':=[b]) fun _ h=>(by cases h)).trans dA fun x hx=>.inl hx).new eJ (by omega),_,rfl,.leaf ..,h4.own eJ (by simp;omega)⟩
 refine(zn h2).mono ?_;rintro _ w6 ⟨rfl,eh⟩;have z6:=eh.size;have h6:=h2.only eh;refine⟨_,rfl,X6 (by omega) eh,fun hc=>(by simp at hc),fun _=>?_⟩;obtain⟨s8,w8,k8,fp,hc8⟩:=is2 h6;have z8:=fp.size;refine⟨s8,w8,k8,X6 (by omega) fp,hc8.mono ?_⟩;rintro _ w9 ⟨rfl,fS⟩;have z9:=fS.size;have mq:=eh.cp (fp.cp fS);have h9:=h2.only mq;rw[show((0:Int)==0)=true from rfl,dk];have Wb:=mZ.cp mq;refine⟨_,rfl,X6 (by omega) fS,fun hc dw dR=>?_,fun hc=>?_⟩
 ·rw[if_pos hc]at hR;have gL:(tk ts i).k≠5:=by
   rcases cD _ _▸hc with e | e<;>exact AM e
  have hn:=h.en.next h.lt gL;have key:∀op:Int,op=(if(tk ts i).t=[33]then 15 else 14)->∀dr,ay [] w dr->w2.heap.size<=dr.heap.size->_:=fun op BR dr dS Wc=>C7 hd (h.only dS) hn (g:=274) (z1:=[ae (some ⟨b,0,none⟩)]) (z2:=[]) (gN (by kernel_rfl)) ⟨.func (.func 274) #[ae (some ⟨b,0,none⟩)] #[],rfl⟩ rfl (r:=Kx (i+1)) fun Wd w1 _ h1=>ahc Wd w1 (i+1) h1;refine⟨fun k n s op sl a w'=>k=4/\n=0/\s=T []/\op=(if(tk ts i).t=[33]then 15 else 14)/\sl=Sl.nil/\a=(tk ts i).a/\ay [] w w'/\w2.heap.size<=w'.heap.size,?_,?_,?_⟩
  ·rintro _ _ _ _ _ _ dr ⟨rfl,rfl,rfl,BR,rfl,rfl,dS,Wc⟩;refine(key _ BR dr dS Wc).mono ?_;rintro _ dX ⟨v,rfl,hD⟩;obtain⟨vk,vn,vs,vo,vl,va,rfl⟩:=hD.yi;have z12:=hD.1.size;obtain⟨eS,sO,yt,ez⟩:=L8 dX [oO vk vn vs vo vl va] (by simp) (by simp) (by simp) (parts:=#[(0,ah (oO vk vn vs vo vl va).toArray)]) rfl;refine⟨_,_,_,_,_,_,rfl,sm Wc hD.1,⟨some ⟨dX.heap.size,0,none⟩,1,1⟩,eS,sO,X6 (by omega) ez,fun eZ dN=>?_⟩;have Ol:=ez.size;have TA:=dN.size;have hOf:ay [b] w eZ:=(((dS.weaken (bs':=[b]) fun _ h=>(by cases h)).trans hD.1 fun x hx=>.inl hx).cp ez).trans dN fun x hx=>.inr (by simp only[aQ,aW,bP]at hx;omega);have hob:∀x,x∈[k1,k3]->b<x:=by simp;omega
   have hoo:∀x,x∈[k1,k3]->x<dr.heap.size:=by simp;omega
   refine⟨hOf,?_⟩;obtain⟨_,hD⟩:=hD;rw[<-hR];cases hN:pd d (tk ts i).a (Kx (i+1))with
   | error e=>
    rw[hN]at hD;obtain⟨a1,a2,j,a3⟩:=hD;exact⟨a1,⟨_,_,_,_,_,_,rfl⟩,j,(a3.only ez).own dN hob⟩
   | ok q=>
    obtain⟨x,j⟩:=q;rw[hN]at hD;obtain⟨cs,a1,a2,a3⟩:=hD;refine⟨_,rfl,?_,(a3.only ez).own dN hob⟩;have lQ:(oO vk vn vs vo vl va)=cs:=bO Array.toList (Value.agg.inj a1);rw[BR];have ahe:RX eZ dr.heap.size dX.heap.size x cs:=(a2.only ez (by simp)).only dN fun k hk=>.inl (hoo k hk);have Ec:aF eZ dX.heap.size 64 cs:=by
     have:=dN.blk yt fun hm=>by have:=hoo _ hm;omega
     rw[cY,List.flatten_nil,bN]at this;rw[<-lQ];exact this
    exact .one w.heap.size dX.heap.size dX.heap.size _ _ _ _ _ _ x cs (ahe.wide (by omega) (aV _)) (by omega) (aV _) (by have:=yt.lt;omega) id Ec
  ·rw[show(ao #[33])=T [33]from rfl,kH];intro he fU ix;have he:=aP he;exact⟨rfl,rfl,rfl,by rw[if_pos he],rfl,rfl,(Wb.new dR (by omega)).new ix (by omega),by have:=ix.size;have:=dR.size;omega⟩
  ·rw[show(ao #[33])=T [33]from rfl,kH];intro he;have he:=aU he;exact⟨rfl,rfl,rfl,by rw[if_neg he],rfl,rfl,Wb.new dR (by omega),by have:=dR.size;omega⟩
 ·rw[if_neg (by rw[hc];decide)]at hR;obtain⟨N9,gy,yD,ic,ahf⟩:=is1 h9 [40];have z16:=ic.size;refine⟨N9,gy,yD,X6 (by omega) ic,ahf.mono ?_⟩;rintro _ fR ⟨rfl,jp⟩;have z17:=jp.size;have II:=Wb.cp (ic.cp jp);have KN:=h.only II;have FY:ay [b] w fR:=II.weaken fun _ h=>(by cases h)
  rw[show((0:Int)==0)=true from rfl,dk];refine⟨_,rfl,X6 (by omega) jp,fun hp hB _ _ _=>?_,fun hp=>?_⟩
  ·rw[if_pos hp]at hR;have hn:=h.en.next h.lt (AM hp);subst hR;refine(C7 hd KN hn (g:=291) (z1:=[]) (z2:=[ae (some ⟨k0,0,none⟩)]) (gN (by kernel_rfl)) ⟨.func (.func 291) #[] #[ae (some ⟨k0,0,none⟩)],rfl⟩ rfl (r:=yQ ts (E0 (i+1))) fun Wd w1 cA h1=>ZP h1 (by omega) (cA.blk hB (by simp;omega)) fun w1' ahh=>hE Wd w1' (i+1) (h1.only ahh)).mono ?_;rintro _ gI ⟨v,rfl,hD⟩;obtain⟨vk,vn,vs,vo,vl,va,rfl⟩:=hD.yi;have z18:=hD.1.size;refine⟨_,_,_,_,_,_,rfl,hD.1.same (by simp;omega),_,hD.1.blk hB (by simp;omega),fun iL jN _=>?_⟩;exact hD.NR FY jN (by simp;omega)
  rw[if_neg (by rw[hp];decide)]at hR;have hp':(tk ts i).k≠5->i+1<ts.length:=h.en.next h.lt;refine⟨fun hi gJ lJ _ _ _ _ _ gL=>⟨fun k=>k=k2,rfl,fun e=>gL e.symm,fun e=>gL e.symm,fun jO jr=>?_⟩,fun hi=>⟨fun hv mR yu _ _ _ _ _ gL=>⟨fun k=>k=k2,rfl,fun e=>gL e.symm,fun e=>gL e.symm,fun mw ob=>?_⟩,fun hv=>⟨fun hw=>?_,fun hw=>?_⟩⟩⟩
  ·have hi:(tk ts i).k=3:=by simpa using hi
   rw[if_pos hi]at hR;exact⟨rfl,(II.cp lJ).new jr (by omega),by rw[hi];decide,[],rfl,rfl,hR.symm⟩
  ·have hi:¬(tk ts i).k=3:=by simpa using hi
   have hv:(tk ts i).k=1:=by simpa using hv
   rw[if_neg hi,if_pos hv]at hR;exact⟨rfl,(II.cp yu).new ob (by omega),by rw[hv];decide,_,rfl,rfl,hR.symm⟩
  ·have hi:¬(tk ts i).k=3:=by simpa using hi
   have hv:¬(tk ts i).k=1:=by simpa using hv
   rw[show(ao #[105,110])=T [105,110]from rfl,kH]at hw;have hw:(tk ts i).k=2/\(tk ts i).t=[105,110]:=by simpa using hw
   rw[if_neg hi,if_neg hv,if_pos hw]at hR;have hn:=hp' (by rw[hw.1];decide);refine⟨(i:Int),Blk.dT KN.blk 1 rfl,b,1,_,_,rfl,KN.blk,by simp,by omega,by omega,by omega,by omega,fun mS ue aaU=>?_⟩;rw[fQ (by omega) (by omega)]at aaU;have h24:Rd F G ts mS b l sn (i+1) 0 0 (d:Int):=KN.lI ue aaU hn;have z24:=ue.size;refine(xy h24 [40]).mono ?_;rintro _ kX ⟨rfl,qB,RJ⟩;have z25:=qB.size;refine⟨rfl,sm (by omega) qB,?_⟩;have TB:ay [b] w kX:=(FY.trans ue fun x hx=>.inl hx).trans qB fun x hx=>.inl hx;have bad:∀{j:Nat} {c a:Int},Rd F G ts kX b l sn j c a (d:Int)->c≠0->az aq 293 #[ae (some ⟨b,0,none⟩)] kX fun e w'=>e=ak (ab (T []))/\ay [b] kX w'/\Rd F G ts w' b l sn j c a (d:Int):=fun{j c a} RL hc=>by
    refine(G8 RL).mono ?_;rintro e my ⟨gv,hh⟩;rw[if_neg (fun hh=>hc hh.1),if_neg hc,if_neg hc]at hh;exact⟨hh.1,gv,hh.2⟩
   have aaW:∀{my pN:av} {j:Nat} {c a:Int},ay [b] kX my->ay [k3] my pN->Rd F G ts my b l sn j c a (d:Int)->c≠0->R=.error (c,a)->∀s6:aK,az aq 292 #[ae (some (Addr.add ⟨b,0,none⟩ 0)),ab (ao #[41])] pN fun e8 sM=>e8=(ak (ai #[]))/\bS [k0,k1,k2,k3] pN sM/\∀uV:av,ay [k1] sM uV->ma F G ts w uV b l sn d R (ah #[O U 3,O U 0,ab s6,O U 0,Sl.nil.v,O U (tk ts i).a]):=fun{my pN j c a} gv oc h26 hc JZ s6=>by
    have z26:=gv.size;have z27:=oc.size;refine(xy (h26.own oc (by simp;omega)) [41]).mono ?_;rintro _ sM ⟨rfl,rj,FZ⟩;rw[if_neg (by simp[hc]),if_neg hc,if_neg hc]at FZ;refine⟨rfl,sm (by omega) rj,fun uV mq=>?_⟩;rw[JZ];refine⟨((((TB.trans gv fun x hx=>.inl hx).new oc (by omega)).trans rj fun x hx=>.inl hx).new mq (by omega)),hc,⟨3,0,s6.data.toList,0,Sl.nil,_,by unfold oO;rw[<-vE]⟩,j,FZ.own mq (by simp;omega)⟩
   by_cases h1:sg ts (i+1) [40]=true
   ·rw[if_pos (by simp[h1])]at RJ;rw[Qo,if_pos h1]at hR;refine(G8 RJ).mono ?_;rintro _ my ⟨gv,hh⟩;have z26:=gv.size;by_cases h2:(tk ts (i+2)).k=1
    ·rw[if_pos ⟨rfl,h2⟩]at hh;obtain⟨rfl,Om⟩:=hh;rw[if_pos h2]at hR;refine⟨_,rfl,sm (by omega) gv,fun pN oc=>?_⟩;have z27:=oc.size;have h27:=Om.own oc (by simp;omega);refine(xy h27 [41]).mono ?_;rintro _ sM ⟨rfl,rj,FZ⟩;refine⟨rfl,sm (by omega) rj,fun uV mq=>?_⟩;have hOf:ay [b] w uV:=(((TB.trans gv fun x hx=>.inl hx).new oc (by omega)).trans rj fun x hx=>.inl hx).new mq (by omega);refine⟨hOf,?_⟩;by_cases h3:sg ts (i+3) [41]=true
     ·rw[if_pos (by simp[h3])]at FZ;rw[if_pos h3]at hR;rw[<-hR];exact⟨_,rfl,.leaf ..,FZ.own mq (by simp;omega)⟩
     ·rw[if_neg (by simp[h3]),if_pos rfl,if_pos rfl]at FZ;rw[if_neg h3]at hR;rw[<-hR];exact⟨gn,⟨_,_,_,_,_,_,rfl⟩,_,FZ.own mq (by simp;omega)⟩
    ·rw[if_neg (fun hh=>h2 hh.2),if_pos rfl,if_pos rfl]at hh;obtain⟨rfl,Om⟩:=hh;rw[if_neg h2]at hR;exact⟨_,rfl,sm (by omega) gv,fun pN oc=>aaW gv oc Om gn hR.symm _⟩
   ·rw[if_neg (by simp[h1]),if_pos rfl,if_pos rfl]at RJ;rw[Qo,if_neg h1]at hR;refine(bad RJ gn).mono ?_;rintro _ my ⟨rfl,gv,Om⟩;exact⟨_,rfl,sm (by omega) gv,fun pN oc=>aaW gv oc Om gn hR.symm _⟩
  ·have hi:¬(tk ts i).k=3:=by simpa using hi
   have hv:¬(tk ts i).k=1:=by simpa using hv
   rw[show(ao #[105,110])=T [105,110]from rfl,kH]at hw;rw[if_neg hi,if_neg hv,if_neg (fun hh=>by rw[hh.1,hh.2]at hw;simp at hw)]at hR;refine(AP KN).mono ?_;rintro _ BP ⟨rfl,Oo,aaZ⟩;rw[if_pos rfl,if_pos rfl]at aaZ;refine⟨rfl,sm (by omega) Oo,fun Ev yv=>⟨(FY.trans Oo fun x hx=>.inl hx).new yv (by omega),?_⟩⟩;rw[<-hR];exact⟨gn,⟨0,0,[],0,Sl.nil,_,rfl⟩,i,aaZ.own yv (by simp;omega)⟩
end
section
variable {F G:aJ} {ts:List Tk} {w w':av} {b:Nat} {l sn:Sl} {i:Nat} {fc fa d:Int}
theorem Jf{E:Nat->Pr}{k:Int}{g:Nat}{x:Ex}{j:Nat}(h:xw ts k j=0):lj ts E k g x j=.ok (x,j):=by
 cases g with
 | zero=>rfl
 | succ g=>rw[lj,if_pos h]
def At5(F G:aJ)(ts:List Tk)(w:av)(b:Nat)(l sn:Sl)(d:Nat)(N:aJ)(E:Nat->Pr)(k:Int)(R:Pr)(nv:Nat)(op:Int)(cs:aI)(w':av):Prop:=ay [b] w w'/\
 ((∃(c a:Int) (j:Nat),op=0/\c≠0/\R=.error (c,a)/\Rd F G ts w' b l sn j c a (d:Int))∨
  (∃(x:Ex) (j:Nat),op=xw ts k j/\RXN w' N w.heap.size w'.heap.size x cs/\Rd F G ts w' b l sn j 0 0 (d:Int)/\R=lj ts E k nv x j/\ts.length-j<=nv))
theorem Jg{f k d:Nat}(hk6:k<6)(h:Rd F G ts w b l sn i 0 0 (d:Int))
  (hE:∀w i,Rd F G ts w b l sn i 0 0 (d:Int)->az aq 257 #[ae (some ⟨b,0,none⟩),O U ((k+1:Nat):Int)] w fun e w'=>∃v,e=ak v/\ma F G ts w w' b l sn d (eP ts f (k+1) d i) v):
  az aq 257 #[ae (some ⟨b,0,none⟩),O U (k:Int)] w fun e w'=>∃v,e=ak v/\ma F G ts w w' b l sn d (eP ts (f+1) k d i) v:=by
 have eR:eP ts (f+1) k d i=Jd (eP ts f (k+1) d i) fun x j=>lj ts (eP ts f (k+1) d) (k:Int) (ts.length-j) x j:=by rw[eP,if_neg (by omega)]
 rw[eR];have aa0:∀i x j,eP ts f (k+1) d i=.ok (x,j)->i<j:=fun i x j h=>kb f _ _ i h;generalize hgE:eP ts f (k+1) d=E at*
 generalize hR:(Jd (E i) fun x j=>lj ts E (k:Int) (ts.length-j) x j)=R;refine Zo ⟨b,0,none⟩ _ (fun v w'=>ma F G ts w w' b l sn d R v) w ?_;have ek:ar U ((k:Int)+1)=((k+1:Nat):Int):=by rw[fQ (by omega) (by omega)];rfl
 refine⟨fun hc=>absurd (by simpa using hc) (by omega:¬(k:Int)=6),fun _ k1 w3 lr jq dl=>?_⟩;have hb:=h.lb;rw[ek];refine(hE w3 i (h.only dl)).mono ?_;rintro _ w4 ⟨v,rfl,hD⟩;obtain⟨vk,vn,vs,vo,vl,va,rfl⟩:=hD.yi;have z3:=dl.size;have z4:=hD.1.size;refine⟨_,_,_,_,_,_,rfl,hD.1.same (by simp;omega),fun k2 w5 qZ uc eJ=>?_⟩;have z5:=eJ.size;have am8:ay [b] w w5:=((dl.weaken (bs':=[b]) fun _ h=>(by cases h)).trans hD.1 fun x hx=>.inl hx).cp eJ;have sm:∀{u u':av},w5.heap.size<=u.heap.size->ay [b] u u'->bS [k1,k2] u u':=fun hu hO=>hO.same (by intro x hx;simp only[aQ,aW,bP]at hx⊢;omega);have PA:=h.big;have uj:∃(j:Nat) (c a:Int),Rd F G ts w4 b l sn j c a (d:Int)/\∀w6,ay [] w4 w6->∃nv,At5 F G ts w b l sn d (fun q=>q=k1∨q=k2) E (k:Int) R nv (if c=0 then xw ts (k:Int) j else 0) (oO vk vn vs vo vl va) w6:=by
  obtain⟨dA,RM⟩:=hD;have BQ:ay [b] w w4:=(dl.weaken (bs':=[b]) fun _ h=>(by cases h)).trans dA fun x hx=>.inl hx;cases NY:E i with
  | error e=>
   rw[NY]at RM hR;obtain⟨c,a⟩:=e;obtain⟨a1,a2,j,a3⟩:=RM;exact⟨j,c,a,a3,fun w6 eh=>⟨0,BQ.cp eh,.inl ⟨c,a,j,if_neg a1,a1,hR.symm,a3.only eh⟩⟩⟩
  | ok q=>
   obtain⟨x,j⟩:=q;rw[NY]at RM hR;obtain⟨cs,a1,a2,a3⟩:=RM;have lQ:(oO vk vn vs vo vl va)=cs:=bO Array.toList (Value.agg.inj a1);rw[lQ];exact⟨j,0,0,a3,fun w6 eh=>⟨ts.length-j,BQ.cp eh,.inr ⟨x,j,if_pos rfl,((a2.only eh (by simp)).NQ fun q h1 h2 _=>(by omega)).wide z3 eh.size,a3.only eh,hR.symm,aV _⟩⟩⟩
 obtain⟨j0,c0,a0,hR4,uj⟩:=uj;refine(xz (hR4.only eJ) (k:Int)).mono ?_;rintro _ w6 ⟨rfl,eh⟩;have z6:=eh.size;obtain⟨nv0,hA0⟩:=uj w6 (eJ.cp eh);refine⟨_,rfl,eh.same (by simp;omega),fun nv op i10 i11 s2 i12 l2 i13 w'=>w5.heap.size<=w'.heap.size/\At5 F G ts w b l sn d (fun q=>q=k1∨q=k2) E (k:Int) R nv op [O U i10,O U i11,ab s2,O U i12,l2.v,O U i13] w',nv0,⟨z6,hA0⟩,?_⟩;rintro nv op i10 i11 s2 i12 l2 i13 w7 ⟨z7,fm,hA⟩;refine⟨fun BR=>?_,fun BR eZ dN=>?_⟩
 ·have BR:op≠0:=by simpa using BR
  rcases hA with⟨_,_,_,e,_⟩ | ⟨x,j,rfl,hX,N3,JZ,hnv⟩
  ·exact absurd e BR
  have hn:=N3.en.next N3.lt (uF _ _ BR);obtain⟨g,rfl⟩:∃g,nv=g+1:=⟨nv-1,by omega⟩
  rw[lj,if_neg BR]at JZ;refine⟨(j:Int),Blk.dT N3.blk 1 rfl,b,1,_,_,rfl,N3.blk,by simp,by omega,by omega,fun w8 fp vT=>?_⟩;rw[fQ (by omega) (by omega)]at vT;have h8:Rd F G ts w8 b l sn (j+1) 0 0 (d:Int):=N3.lI fp vT hn;have z8:=fp.size;refine(hE w8 (j+1) h8).mono ?_;rintro _ w9 ⟨v,rfl,hD9⟩;obtain⟨yk,yn,ys,yo,yl,ya,rfl⟩:=hD9.yi;have z9:=hD9.1.size;refine⟨_,_,_,_,_,_,rfl,sm (by omega) hD9.1,fun k8 dw hk8 RH dR=>?_⟩;have Ob:=dR.size;obtain⟨dr,lR,Ed,dS⟩:=L8 dw [[O U i10,O U i11,ab s2,O U i12,l2.v,O U i13],oO yk yn ys yo yl ya] (by simp) (by simp) (by simp) (parts:=#[(0,ah #[O U i10,O U i11,ab s2,O U i12,l2.v,O U i13]),(1,ah (oO yk yn ys yo yl ya).toArray)]) rfl;have BS:=dS.size;refine⟨⟨some ⟨dw.heap.size,0,none⟩,2,2⟩,dr,lR,dS.same (by simp;omega),fun dX eM=>?_⟩;have z12:=eM.size;have TC:ay [b] w dX:=((((fm.trans fp fun x hx=>.inl hx).trans hD9.1 fun x hx=>.inl hx).cp dR).cp dS).new eM (by omega);have Ee:ay [k2] w9 dX:=((dR.cp dS).weaken (bs':=[k2]) fun _ h=>(by cases h)).trans eM fun x hx=>.inl hx;have We:∃(j':Nat) (c a:Int),Rd F G ts w9 b l sn j' c a (d:Int)/\∀eS,ay [] dX eS->∃nv,nv<g+1/\At5 F G ts w b l sn d (fun q=>q=k1∨q=k2) E (k:Int) R nv (if c=0 then xw ts (k:Int) j' else 0) (oO 5 0 [] (xw ts (k:Int) j) ⟨some ⟨dw.heap.size,0,none⟩,2,2⟩ i13) eS:=by
   obtain⟨fS,RM⟩:=hD9;cases NY:E (j+1)with
   | error e=>
    rw[NY]at RM JZ;obtain⟨c,a⟩:=e;obtain⟨a1,a2,j',a3⟩:=RM;exact⟨j',c,a,a3,fun eS ez=>⟨0,by omega,TC.cp ez,.inl ⟨c,a,j',if_neg a1,a1,JZ,(a3.own Ee (by simp;omega)).only ez⟩⟩⟩
   | ok q=>
    obtain⟨y,j'⟩:=q;rw[NY]at RM JZ;obtain⟨cs,a1,a2,a3⟩:=RM;have lQ:(oO yk yn ys yo yl ya)=cs:=bO Array.toList (Value.agg.inj a1);have hjj:=aa0 _ _ _ NY;obtain⟨xl,tY,_⟩:=hX.cells;have hxa:i13=x.a:=by
     simp only[oO,pG,Value.int.injEq]at tY;exact tY.2.2.2.2.2.1.2
    refine⟨j',0,0,a3,fun eS ez=>⟨g,by omega,TC.cp ez,.inr ⟨.mk 5 0 [] (xw ts (k:Int) j) [x,y] x.a,j',if_pos rfl,?_,(a3.own Ee (by simp;omega)).only ez,JZ,?_⟩⟩⟩
    ·have Ol:=ez.size;have aa2:ay [b,k2] w7 eS:=(((((fp.weaken (bs':=[b,k2]) fun x hx=>.inl (by simp only[aN]at hx;simp[hx])).trans fS fun x hx=>.inl (by simp only[aN]at hx;simp[hx])).trans Ee fun x hx=>.inl (by simp only[aN]at hx;simp[hx])).cp ez))
     have aa3:ay [k2] w9 eS:=Ee.cp ez;have yt:aF eS dw.heap.size 64 ([O U i10,O U i11,ab s2,O U i12,l2.v,O U i13]++cs):=by
      have:=ez.blk (eM.blk Ed (by simp;omega)) (by simp);rw[<-lQ];simpa using this
     have ahm:RXN eS (fun q=>q=k1∨q=k2) w.heap.size w7.heap.size x [O U i10,O U i11,ab s2,O U i12,l2.v,O U i13]:=by
      exact hX.only aa2 fun q hq=>by
       simp only[aQ,aW,bP]at hq;rcases hq with rfl | rfl
       ·exact .inl hb
       ·exact .inr (.inr (.inr rfl))
     have ahn:RXN eS (fun q=>q=k1∨q=k2) w8.heap.size w9.heap.size y cs:=(a2.only aa3 fun q hq=>.inl (by simp only[aN]at hq;omega)).NQ fun q h1 h2 _=>(by omega)
     rw[hxa];exact .two w.heap.size w7.heap.size w8.heap.size w9.heap.size dw.heap.size _ _ _ _ _ _ x y _ cs ahm z8 ahn (by omega) (by omega) (by omega) (by omega) (by have:=yt.lt;omega) (by omega) yt
    ·omega
  obtain⟨j',c',a',hR9,We⟩:=We;refine(xz (hR9.own Ee (by simp;omega)) (k:Int)).mono ?_;rintro _ eS ⟨rfl,ez⟩;obtain⟨nv',aho,hA'⟩:=We eS ez;exact⟨_,rfl,ez.same (by simp;omega),nv',aho,by have:=ez.size;omega,hA'⟩
 ·have BR:op=0:=by simpa using BR
  refine⟨fm.new dN (by omega),?_⟩;rcases hA with⟨c,a,j,_,hc,JZ,N3⟩ | ⟨x,j,Th,hX,N3,JZ,hnv⟩
  ·rw[JZ];exact⟨hc,⟨i10,i11,s2.data.toList,i12,l2,i13,by unfold oO;rw[<-vE]⟩,j,N3.own dN (by simp;omega)⟩
  ·rw[JZ,Jf (by rw[<-Th,BR])];exact⟨_,rfl,((hX.only dN fun q hq=>.inr (.inr (.inl (by simpa using hq)))).NQ fun _ _ _ _ h=>h).wide (aV _) dN.size,N3.own dN (by simp;omega)⟩
theorem C8 : ∀ f : Nat, (∀ (k d i : Nat) (w : av), k <= 6 -> d <= 20 -> jE k d <= f -> Rd F G ts w b l sn i 0 0 (d : Int) ->
      az aq 257 #[ae (some ⟨b, 0, none⟩), O U (k : Int)] w fun e w' => ∃ v, e = ak v /\ ma F G ts w w' b l sn d (eP ts f k d i) v) /\
    (∀ (d i : Nat) (w : av), d <= 20 -> jE 6 d <= f -> Rd F G ts w b l sn i 0 0 (d : Int) ->
      az aq 274 #[ae (some ⟨b, 0, none⟩)] w fun e w' => ∃ v, e = ak v /\ ma F G ts w w' b l sn d (eP ts f 6 d i) v)
  | 0 => ⟨fun k d i w hk hd hn => by unfold jE at hn; omega, fun d i w hd hn => by unfold jE at hn; omega⟩
  | f + 1 => by
    obtain ⟨KM, Py⟩ := C8 f
    have one : ∀ (d i : Nat) (w : av), d <= 20 -> jE 6 d <= f + 1 -> Rd F G ts w b l sn i 0 0 (d : Int) ->
      az aq 274 #[ae (some ⟨b, 0, none⟩)] w fun e w' => ∃ v, e = ak v /\ ma F G ts w w' b l sn d (eP ts (f + 1) 6 d i) v := fun d i w hd hn h => by
      unfold jE at hn
      exact UA hd h (fun Wf w i h => KM 0 (d + 1) i w (by omega) (by omega) (by unfold jE; omega) h) (fun Wf w i h => Py (d + 1) i w (by omega) (by unfold jE; omega) h)
    refine ⟨fun k d i w hk hd hn h => ?_, one⟩
    by_cases h6 : k = 6
    · subst h6
      refine Zo ⟨b, 0, none⟩ _ (fun v w' => ma F G ts w w' b l sn d (eP ts (f + 1) 6 d i) v) w ?_
      refine ⟨fun _ k0 w0 gH eW cE => ?_, fun hc => absurd hc (by decide)⟩
      refine (one d i w0 hd hn (h.only cE)).mono ?_
      rintro _ w1 ⟨v, rfl, hD⟩
      obtain ⟨vk, vn, vs, vo, vl, va, rfl⟩ := hD.yi
      have hb := h.lb
      exact ⟨_, _, _, _, _, _, rfl, hD.1.same (by simp; omega), fun w2 cR => hD.NR (cE.weaken fun _ h => (by cases h)) cR (by simp; omega)⟩
    · unfold jE at hn
      exact Jg (by omega) h fun w i h => KM (k + 1) d i w (by omega) hd (by unfold jE; omega) h
end
theorem Jh(w:av):∃(s:Sl) (w':av),(au 31 16 #[.mk 1 (ab (ao #[43])),.mk 2 (ab (ao #[45])),.mk 3 (ab (ao #[42])),.mk 4 (ab (ao #[47])),.mk 5 (ab (ao #[37])),.mk 6 (ab (ao #[60])),.mk 7 (ab (ao #[60,61])),.mk 8 (ab (ao #[62])),.mk 9 (ab (ao #[62,61])),.mk 10 (ab (ao #[61,61])),.mk 11 (ab (ao #[33,61])),.mk 12 (ab (ao #[38,38])),.mk 13 (ab (ao #[124,124])),.mk 14 (ab (ao #[45])),.mk 15 (ab (ao #[33]))]).run aq w=.ok (Sl.v s) w'/\
  aA im 1 w' (fun k=>w.heap.size<=k/\k<w'.heap.size) s yP/\ay [] w w':=by
 have sB:=run_buildSlice (P:=aq) w 31 9 16 #[.mk 1 (ab (ao #[43])),.mk 2 (ab (ao #[45])),.mk 3 (ab (ao #[42])),.mk 4 (ab (ao #[47])),.mk 5 (ab (ao #[37])),.mk 6 (ab (ao #[60])),.mk 7 (ab (ao #[60,61])),.mk 8 (ab (ao #[62])),.mk 9 (ab (ao #[62,61])),.mk 10 (ab (ao #[61,61])),.mk 11 (ab (ao #[33,61])),.mk 12 (ab (ao #[38,38])),.mk 13 (ab (ao #[124,124])),.mk 14 (ab (ao #[45])),.mk 15 (ab (ao #[33]))]
  (yP.map fun x=>Value.string (T x)).toArray Tryz.t9 _ (by kernel_rfl) (by kernel_rfl) rfl (by decide) (by decide) (by kernel_rfl)
 refine⟨⟨some ⟨w.heap.size,0,none⟩,16,16⟩,_,sB,⟨rfl,aV _,fun h=>(by cases h),(by decide:(16:Nat)<=9223372036854775807),fun j x hx=>?_⟩,Only.alloc _ _⟩;have hB:=Blk.alloc w 9 (yP.map fun x=>Value.string (T x));have bQ:=hB.lt;refine⟨⟨w.heap.size,0,none⟩,[ab (T x)],rfl,⟨aV _,bQ⟩,rfl,?_,rfl⟩;rw[iR];exact Blk.dT hB j (by rw[cF,hx];rfl)
theorem SE(w:av):az aq 256 #[] w fun e w'=>∃s:Sl,e=ak s.v/\aA im 1 w' (fun k=>w.heap.size<=k/\k<w'.heap.size) s yP/\ay [] w w':=by
 refine(aeF (fun v w'=>∃s:Sl,v=s.v/\aA im 1 w' (fun k=>w.heap.size<=k/\k<w'.heap.size) s yP/\ay [] w w') w ?_).mono (by
  rintro e w' ⟨v,rfl,s,rfl,h⟩;exact⟨s,rfl,h⟩)
 obtain⟨s,w',h1,h2,h3⟩:=Jh w;exact⟨s,w',h1,s,rfl,h2,h3⟩
def kQ(ts:List Tk):Nat:=(ts.takeWhile fun t=>t.k !=5).length
theorem G9(ts:List Tk):kQ ts<=ts.length:=by
 unfold kQ;exact(List.takeWhile_sublist _).length_le
theorem zo{t:Tk}{ts:List Tk}{i:Nat}:tk (t::ts) (i+1)=tk ts i:=by unfold tk;rw[cz]
theorem zq{t:Tk}{ts:List Tk}:tk (t::ts) 0=t:=rfl
theorem AQ:∀(ts:List Tk) (i:Nat),i<kQ ts->(tk ts i).k≠5
 | [],_,h=>by simp[kQ]at h
 | t::ts,i,h=>by
  unfold kQ at h;rw[dF]at h;split at h
  ·rename_i ht;cases i with
   | zero=>rw[zq];simpa using ht
   | succ i=>rw[zo];exact AQ ts i (by simpa[kQ]using h)
  ·simp at h
theorem AR:∀(ts:List Tk),kQ ts<ts.length->(tk ts (kQ ts)).k=5
 | [],h=>by simp at h
 | t::ts,h=>by
  unfold kQ at h⊢;rw[dF]at h⊢;split
  ·rename_i ht;rw[if_pos ht]at h;rw[bf,zo];exact AR ts (by simpa[kQ]using h)
  ·rename_i ht;rw[cu,zq];simpa using ht
theorem L9{ts:List Tk}(h:kQ ts+1=ts.length):uD ts:=fun i hi=>by
 constructor
 ·intro hk;refine ch fun hn=>AQ ts i (by omega) hk
 ·intro hn;have:i=kQ ts:=by omega
  rw[this];exact AR ts (by omega)
theorem Qp(w:av)(t:Tk):az aq 255 #[t.v] w fun e w'=>e=ak (aj (t.k==5))/\ay [] w w':=by
 refine ret (v3w t.k (T t.t) t.n t.a (fun v w'=>v=aj (t.k==5)/\ay [] w w') w ?_);exact fun k0 w0 _ _ hO=>⟨rfl,hO⟩
theorem Mb{w:av}{F:aJ}{l:Sl}{ts:List Tk}(h:aA GY 4 w F l ts):az aq 254 #[l.v,.func (.func 255) #[] #[]] w fun e w'=>e=ak (O U (if kQ ts<ts.length then(kQ ts:Int)else -1))/\ay [] w w':=by
 refine ret (Zn l ⟨.func (.func 255) #[] #[],rfl⟩ (fun v w'=>v=O U (if kQ ts<ts.length then(kQ ts:Int)else -1)/\ay [] w w') w ?_);have eH:=h.len;have pE:=h.big;have mY:=h.cap;refine⟨fun nv i w'=>∃n:Nat,n<=kQ ts/\i=(n:Int)/\nv=ts.length-n/\ay [] w w',ts.length,⟨0,bp _,rfl,rfl,Only.refl _ _⟩,?_⟩;rintro nv _ w0 ⟨n,hn,rfl,rfl,cE⟩;have pC:=G9 ts;refine⟨fun hc=>?_,fun hc=>?_⟩
 ·have bQ:(n:Int)<l.n:=aP hc;obtain⟨ad,x,cs,g1,g2,g3,g4,g5,g6⟩:=(SliceF.only iy (by decide) h cE (by simp)).get (bm n) bQ;rw[aZ,G5 (by omega)]at g2;injection g2 with g2;subst g2;unfold GY at g6;subst g6;refine⟨ad,g1,_,_,_,_,g5,255,[],[],rfl,gN (by kernel_rfl),?_⟩;refine(Qp w0 (tk ts n)).mono ?_;rintro _ w1 ⟨rfl,cA⟩;refine⟨_,rfl,fun hb=>⟨?_,cE.cp cA⟩,fun hb=>⟨ts.length-(n+1),by omega,n+1,?_,by rw[fQ (by omega) (by omega)];rfl,rfl,cE.cp cA⟩⟩
  ·have hb:(tk ts n).k=5:=by simpa using hb
   have:n=kQ ts:=by
    refine ch fun gL=>AQ ts n (by omega) hb
   rw[if_pos (by omega),this]
  ·have hb:¬(tk ts n).k=5:=by simpa using hb
   refine ch fun gL=>hb ?_;have:n=kQ ts:=by omega
   rw[this];exact AR ts (by omega)
 ·have sP:¬(n:Int)<l.n:=aU hc;rw[if_neg (by omega)];exact⟨rfl,cE⟩
def C9:Ex:=.mk 0 0 [] 0 [] 0
def da(ts:List Tk)(a:Int):Ex×Int×Int×Int:=
 if 0<=a/\a<ts.length/\kQ ts+1=ts.length then(match Fa ts a.toNat with
  | .error (c,p)=>(C9,0,c,p)
  | .ok (x,j)=>(x,(j:Int),0,0))
 else(C9,0,1, -1)
theorem rx0(w:av)(lo hi:Nat):RX w lo hi C9 [O U 0,O U 0,ab (ao #[]),O U 0,Sl.nil.v,O U 0]:=.leaf ..
theorem Ha{w:av}{F:aJ}{l:Sl}{ts:List Tk}(h:aA GY 4 w F l ts)(a:Int)(ha:rn a):az aq 240 #[l.v,O U a] w fun e w'=>
  ∃cs,e=ak (ai #[ah cs.toArray,O U (da ts a).2.1,ah #[O U (da ts a).2.2.1,O U (da ts a).2.2.2]])/\RX w' w.heap.size w'.heap.size (da ts a).1 cs/\((da ts a).2.2.1=0->0<=(da ts a).2.1/\(da ts a).2.1<ts.length)/\ay [] w w':=by
 refine(v4w l a (fun v w'=>∃cs,v=(ai #[ah cs.toArray,O U (da ts a).2.1,ah #[O U (da ts a).2.2.1,O U (da ts a).2.2.2]])/\RX w' w.heap.size w'.heap.size (da ts a).1 cs/\((da ts a).2.2.1=0->0<=(da ts a).2.1/\(da ts a).2.1<ts.length)/\ay [] w w') w ?_).mono (by
  rintro e w' ⟨v,rfl,cs,rfl,h⟩;exact⟨cs,rfl,h⟩)
 intro k0 k1 w0 gH eW lr jq cE;have eH:=h.len;have mY:=h.cap;have pE:=h.big;have z0:=cE.size;have h:=(h.inHeap iy (by decide))
 refine(Mb (SliceF.only iy (by decide) h cE (by simp))).mono ?_;rintro _ w1 ⟨rfl,cA⟩;have z1:=cA.size;have iw:=cE.cp cA;have pC:=G9 ts;have hcond:(((decide (a<0))||(decide (a>=(l.n:Int))))||((if kQ ts<ts.length then(kQ ts:Int)else -1) !=(ar U ((l.n:Int)-1))))=!decide (0<=a/\a<ts.length/\kQ ts+1=ts.length):=by
  rw[fQ (by omega) (by omega),eH];by_cases h1:kQ ts<ts.length
  ·rw[if_pos h1,bT];simp;omega
  ·rw[if_neg h1,bT];simp;omega
 refine⟨_,rfl,cA.same (by simp;omega),?_⟩;dsimp only;rw[hcond];refine⟨fun hc w2 cR=>?_,fun hc=>?_⟩
 ·have hc:¬(0<=a/\a<ts.length/\kQ ts+1=ts.length):=by
   rw[dK,fK]at hc;exact hc
  rw[da,if_neg hc];exact⟨_,rfl,rx0 _ _ _,fun h=>(by cases h),(iw.weaken (bs':=[]) fun _ h=>(by cases h)).trans cR fun x hx=>.inr (by simp only[aQ,aW,bP]at hx;omega)⟩
 ·have hc:0<=a/\a<ts.length/\kQ ts+1=ts.length:=by
   rw[El,bW]at hc;exact hc
  rw[da,if_pos hc];obtain⟨i,rfl⟩:∃i:Nat,a=(i:Int):=⟨a.toNat,by omega⟩
  refine(SE w1).mono ?_;rintro _ w3 ⟨sn,rfl,Pe,dl⟩;have z3:=dl.size;refine⟨sn,rfl,dl.same (by simp;omega),fun b w4 hb kV dA ub=>?_⟩;have z4:=dA.size;have yr:=iw.cp dl;have hR:Rd (fun k=>F k/\k<w.heap.size) (fun k=>w1.heap.size<=k/\k<w3.heap.size) ts w4 b l sn i 0 0 ((0:Nat):Int):=
   ⟨ub,SliceF.only iy (by decide) h (yr.cp dA) (by simp),SliceF.only cG (by decide) Pe dA (by simp),fun k hk=>by have:=hk.2;omega,fun k hk=>by have:=hk.2;omega,L9 hc.2.2,by omega⟩
  refine((C8 (jE 0 0)).1 0 0 i w4 (by decide) (by decide) (aV _) hR).mono ?_;rintro _ w5 ⟨v,rfl,hD⟩;obtain⟨vk,vn,vs,vo,vl,va,rfl⟩:=hD.yi;have z5:=hD.1.size;obtain⟨eJ,hD⟩:=hD;rw[aZ];have hpr:Fa ts i=eP ts (jE 0 0) 0 0 i:=rfl;rw[hpr];have fin:∀{j:Nat} {c p:Int},Rd (fun k=>F k/\k<w.heap.size) (fun k=>w1.heap.size<=k/\k<w3.heap.size) ts w5 b l sn j c p ((0:Nat):Int)->∀w8,ay [] w5 w8->∀w9,ay [k1,k0] w8 w9->ay [] w w9:=fun hR w8 fp w9 fS=>(((yr.cp dA).trans eJ fun x hx=>.inr (by simp only[aN]at hx;omega)).cp fp).trans fS fun x hx=>.inr (by simp only[aQ,aW,bP]at hx;omega);refine⟨_,_,_,_,_,_,rfl,eJ.same (by simp;omega),?_⟩;cases hE:eP ts (jE 0 0) 0 0 i with
  | error e=>
   rw[hE]at hD;obtain⟨c,p⟩:=e;obtain⟨a1,a2,j,a3⟩:=hD;refine⟨_,_,_,_,_,_,a3.blk,fun k3 w6 vU ud eh PB=>?_⟩;have z6:=eh.size;refine(zn (a3.only eh)).mono ?_;rintro _ w7 ⟨rfl,fm⟩;have h7:=(a3.only eh).only fm;have gL:(c !=0)=true:=by simpa using a1
   refine⟨_,rfl,fm.same (by simp;omega),_,_,_,_,_,_,h7.blk,fun _ w8 fp vT n1 n2 n3 n4 n5 n6=>⟨fun k=>k=b,rfl,fun e=>n2 e,fun e=>n4 e,fun w9 fS _=>⟨_,rfl,rx0 _ _ _,fun h=>absurd h a1,fin a3 w8 (eh.cp (fm.cp fp)) w9 fS⟩⟩,fun hc=>by rw[gL]at hc;cases hc⟩
  | ok q=>
   rw[hE]at hD;obtain⟨x,j⟩:=q;obtain⟨cs,a1,a2,a3⟩:=hD;refine⟨_,_,_,_,_,_,a3.blk,fun k3 w6 vU ud eh PB=>?_⟩;have z6:=eh.size;refine(zn (a3.only eh)).mono ?_;rintro _ w7 ⟨rfl,fm⟩;have z7:=fm.size;have h7:=(a3.only eh).only fm;refine⟨_,rfl,fm.same (by simp;omega),_,_,_,_,_,_,h7.blk,fun hc=>(by simp at hc),fun _ dw dR ua n1 n2 n3 n4 n5 n6=>⟨fun k=>k=b,rfl,fun e=>n2 e,fun e=>n4 e,fun dr dS _=>?_⟩⟩;have Ob:=dR.size;have BS:=dS.size;have lQ:(oO vk vn vs vo vl va)=cs:=bO Array.toList (Value.agg.inj a1);refine⟨oO vk vn vs vo vl va,rfl,?_,fun _=>⟨bm j,by have:=a3.lt;dsimp only;omega⟩,fin a3 dw (eh.cp (fm.cp dR)) dr dS⟩;rw[lQ];exact((a2.only (eh.cp (fm.cp dR)) (by simp)).only dS fun q hq=>.inl (by simp only[aQ,aW,bP]at hq;omega)).wide (by omega) (by omega)
def mG(l:aH):Ex×Int×Int:=
 if(cW l).2.1≠0 then(C9,(cW l).2.1,(cW l).2.2)
 else if(da (cW l).1 0).2.2.1≠0 then(C9,(da (cW l).1 0).2.2.1,(da (cW l).1 0).2.2.2)
 else if(tk (cW l).1 (da (cW l).1 0).2.1.toNat).k≠5 then(C9,4,(tk (cW l).1 (da (cW l).1 0).2.1.toNat).a)
 else((da (cW l).1 0).1,0,(da (cW l).1 0).2.2.2)
theorem UB{w:av}(l:aH)(hE:Er w):az aq 266 #[ab (T l)] w fun e w'=>
  ∃cs,e=ak (ai #[ah cs.toArray,ah #[O U (mG l).2.1,O U (mG l).2.2]])/\RX w' w.heap.size w'.heap.size (mG l).1 cs/\ay [] w w':=by
 refine(v5w (T l) (fun v w'=>∃cs,v=(ai #[ah cs.toArray,ah #[O U (mG l).2.1,O U (mG l).2.2]])/\RX w' w.heap.size w'.heap.size (mG l).1 cs/\ay [] w w') w ?_).mono (by
  rintro e w' ⟨v,rfl,cs,rfl,h⟩;exact⟨cs,rfl,h⟩)
 intro k0 k1 w0 gH eW lr jq cE;have z0:=cE.size;refine(C5 l (hE.only cE)).mono ?_;rintro _ w1 ⟨l0,rfl,hT,cA⟩;have z1:=cA.size;have iw:=cE.cp cA;generalize pM:cW l=tm at*
 obtain⟨ts,c,p⟩:=tm;dsimp only at hT⊢;have hra:mG l=if c≠0 then(C9,c,p)else if(da ts 0).2.2.1≠0 then(C9,(da ts 0).2.2.1,(da ts 0).2.2.2)else if(tk ts (da ts 0).2.1.toNat).k≠5 then(C9,4,(tk ts (da ts 0).2.1.toNat).a)else((da ts 0).1,0,(da ts 0).2.2.2):=by
  unfold mG;rw[pM]
 refine⟨l0,_,_,rfl,cA.same (by simp;omega),fun hc k2 w2 qZ uc cR n1 n2 n3=>⟨fun k=>k=k2,rfl,fun e=>n2 e,fun e=>n3 e,fun w3 dl=>?_⟩,fun hc k3 w4 vU ud dA=>?_⟩
 ·have hc:c≠0:=by simpa using hc
  rw[hra,if_pos hc];exact⟨_,rfl,rx0 _ _ _,((iw.cp cR).trans dl fun x hx=>.inr (by simp only[aQ,aW,bP]at hx;omega))⟩
 ·have hc:c=0:=by simpa using hc
  rw[if_neg (by simp[hc])]at hra;have z4:=dA.size;refine(Ha (hT.only dA).sl 0 ⟨by decide,by decide⟩).mono ?_;rintro _ w5 ⟨cs,rfl,hX,hj,eJ⟩;have z5:=eJ.size;generalize KL:da ts 0=pa at*
  obtain⟨x,j,c',p'⟩:=pa;dsimp only at hX hj hra⊢;obtain⟨xl,rfl,_⟩:=hX.cells;refine⟨_,_,_,_,_,_,_,_,_,rfl,eJ.same (by simp;omega),fun k4 w6 yF Ef eh=>?_⟩;have z6:=eh.size;have h6:=((hT.only (dA.cp eJ)).keep (w':=w6) fun k hk bQ=>eh.block k bQ (by
   have:=hT.blk hk.2;simp only[aN];dsimp only at this;omega))
  have hl6:=h6.len;have ahp:ay [] w w6:=((iw.cp dA).cp eJ).new eh (by omega);have fin:∀{w8 w9:av},ay [k3] w6 w8->ay [k1,k0] w8 w9->ay [] w w9:=fun h8 h9=>(ahp.new h8 (by omega)).trans h9 fun x hx=>.inr (by simp only[aQ,aW,bP]at hx;omega);refine⟨fun i9 i10 w7=>ay [k3] w6 w7/\((c'≠0/\i9=c'/\i10=p')∨(c'=0/\(tk ts j.toNat).k≠5/\i9=4/\i10=(tk ts j.toNat).a)∨(c'=0/\(tk ts j.toNat).k=5/\i9=0/\i10=p')),?_,?_⟩
  ·rintro i9 i10 w7 ⟨fm,TD⟩;have z7:=fm.size;refine⟨fun hi w8 fp n1 n2 n3 n4 n5 n6=>⟨fun k=>k=k3,rfl,?_,?_,fun w9 fS=>?_⟩,fun hi dw dR n1 n2 n3 n4 n5 n6=>⟨fun k=>k=k3,rfl,?_,?_,fun dr dS=>?_⟩⟩
   ·intro e;omega
   ·intro e;omega
   ·have hi:i9≠0:=by simpa using hi
    have hr:mG l=(C9,i9,i10):=by
     rw[hra];rcases TD with⟨a1,rfl,rfl⟩ | ⟨a1,a2,rfl,rfl⟩ | ⟨a1,a2,rfl,rfl⟩
     ·rw[if_pos a1]
     ·rw[if_neg (by simp[a1]),if_pos a2]
     ·exact absurd rfl hi
    rw[hr];exact⟨_,rfl,rx0 _ _ _,fin (fm.cp fp) fS⟩
   ·intro e;omega
   ·intro e;omega
   ·have hi:i9=0:=by simpa using hi
    have hr:mG l=(x,i9,i10):=by
     rw[hra];rcases TD with⟨a1,rfl,rfl⟩ | ⟨a1,a2,rfl,rfl⟩ | ⟨a1,a2,rfl,rfl⟩
     ·exact absurd hi a1
     ·exact absurd hi (by decide)
     ·rw[if_neg (by simp[a1]),if_neg (by simp[a2])]
    rw[hr];have vV:ay [k3,k1,k0] w5 dr:=(((eh.trans fm fun x hx=>.inl hx).cp dR).weaken (bs':=[k3,k1,k0]) fun x hx=>.inl (by simp only[aN]at hx;simp[hx])).trans dS fun x hx=>.inl (by simp only[aQ,aW,bP]at hx⊢;omega);have BS:=vV.size;exact⟨_,rfl,(hX.only vV fun q hq=>.inl (by simp only[aQ,aW,bP]at hq;omega)).wide (by omega) BS,fin (fm.cp dR) dS⟩
  ·by_cases BL:c'=0
   ·obtain⟨TE,KB⟩:=hj BL;obtain⟨n,rfl⟩:∃n:Nat,j=(n:Int):=⟨j.toNat,by omega⟩
    obtain⟨ad,t,cs,g1,g2,g3,g4,g5,g6⟩:=h6.sl.get TE (by omega);rw[aZ,G5 (by omega)]at g2;injection g2 with g2;subst g2;unfold GY at g6;subst g6;rw[aZ];refine⟨ad,fun _=>g1,(tk ts n).k,fun _=>g5.dT 0 _ rfl,fun hh=>⟨ad,g1,(tk ts n).a,g5.dT 3 _ rfl,fun dX eM=>⟨eM,.inr (.inl ⟨BL,?_,rfl,rfl⟩)⟩⟩,fun hh=>⟨Only.refl _ _,.inr (.inr ⟨BL,?_,BL,rfl⟩)⟩⟩
    ·simpa[BL]using hh
    ·simpa[BL]using hh
   ·have hb:(c'==0)=false:=by simpa using BL
    refine⟨⟨0,0,none⟩,fun hh=>(by rw[hb]at hh;cases hh),0,fun hh=>(by rw[hb]at hh;cases hh),fun hh=>(by rw[hb]at hh;cases hh),fun _=>⟨Only.refl _ _,.inl ⟨BL,rfl,rfl⟩⟩⟩
def uG:Nat->Rp Ex
 | 0=>fun _ _ _ _=>False
 | d+1=>fun w F x cs=>∃sl:Sl,cs=oO x.k x.n x.s x.op sl x.a/\aA (uG d) 6 w F sl x.eN
theorem iO:∀d,(uG d).Ok
 | 0=>⟨fun h _=>h.elim,fun h=>h.elim,fun h _=>h.elim,fun h=>h.elim⟩
 | d+1=>⟨fun⟨sl,h1,h2⟩ hk=>⟨sl,h1,SliceF.keep (iO d) h2 (by decide) hk⟩,fun⟨sl,h1,h2⟩=>⟨sl,h1,SliceF.inHeap (iO d) h2 (by decide)⟩,fun⟨sl,h1,h2⟩ hk=>⟨sl,h1,SliceF.mono (iO d) h2 hk⟩,fun⟨sl,h1,h2⟩=>by
  subst h1;intro v hv;simp only[aQ,aW,bP]at hv;rcases hv with rfl | rfl | rfl | rfl | rfl | rfl<;>rfl⟩
theorem Da{α:Type}{r q:Rp α}{size:Nat}{w:av}{F:aJ}{s:Sl}{xs:List α}(h:aA r size w F s xs)(hi:∀x cs,x∈xs->r w F x cs->q w F x cs):aA q size w F s xs:=
 ⟨h.len,h.cap,h.nil0,h.big,fun j x hx=>by
  obtain⟨base,cs,h1,h2,h3,h4,h5⟩:=h.at_ j x hx;exact⟨base,cs,h1,h2,h3,h4,hi x cs (bG hx) h5⟩⟩
section
variable {w w':av} {F:aJ} {x y:Ex} {cs ds:aI}
theorem jF{d:Nat}(h:uG d w F x cs)(hO:ay [] w w'):uG d w' F x cs:=(iO d).only h hO (by simp)
end
theorem kH(l m:aH):((T l).toList==(T m).toList)=decide (l=m):=R7 l m
theorem qQ{d:Nat}{w:av}{F:aJ}{x:Ex}{cs:aI}(h:uG d w F x cs):∃sl:Sl,cs=oO x.k x.n x.s x.op sl x.a:=by
 cases d with
 | zero=>exact h.elim
 | succ d=>obtain⟨l,lQ,_⟩:=h;exact⟨l,lQ⟩
def xA:Nat->Ex->Prop
 | 0,_=>True
 | d+1,x=>x.s.length<4611686018427387903/\∀y,y∈x.eN->xA d y
def lC(f:Ex->Nat):List Ex->Nat
 | []=>0
 | x::xs=>f x+lC f xs
def jG:Nat->Ex->Nat
 | 0,_=>0
 | d+1,x=>1+lC (jG d) x.eN
def pe:Nat->Ex->Prop
 | 0,_=>True
 | d+1,x=>rn x.n/\∀y,y∈x.eN->pe d y
theorem Hb{d:Nat}:∀{xs:List Ex},xs.length<=lC (jG (d+1)) xs
 | []=>aV _
 | x::xs=>by
  rw[lC,bf];have:=Hb (d:=d) (xs:=xs);rw[jG];omega
theorem Mc{d:Nat}:∀{xs:List Ex} {x:Ex},x∈xs->jG d x<=lC (jG d) xs
 | [],_,h=>by simp at h
 | y::xs,x,h=>by
  rw[lC];rcases aQ.1 h with rfl | h
  ·omega
  ·have:=Mc (d:=d) h;omega
def dM(l:aH):Bool:=decide (l≠[]/\l.length<=24)&&(match l with
 | c::_=>oL c
 | []=>false)&&decide (l.takeWhile gj=l)&&!pY.contains l
theorem Md{w:av}(l:aH)(hl:l.length<9223372036854775807):
  az aq 205 #[ab (T l)] w fun e w'=>e=ak (aj (dM l))/\ay [] w w':=by
 refine ret (aeT _ _ _ ?_);intro k0 w0 gH eW cE;have e0:(ao #[])=T []:=rfl;rw[de,e0,kH];refine⟨fun b s i w'=>b=dM l/\ay [] w w',fun b s i w' h=>⟨by rw[h.1],h.2⟩,fun hc=>?_,fun hc=>⟨?_,cE⟩⟩
 ·simp only[aR,dK,fK,bW]at hc;obtain⟨h1,h2⟩:=hc;have h2:l.length<=24:=by omega
  obtain⟨c,r,rfl⟩:∃c r,l=c::r:=by
   cases l with
   | nil=>exact absurd rfl h1
   | cons c r=>exact⟨c,r,rfl⟩
  have hn:dM (c::r)=(oL c&&decide ((c::r).takeWhile gj=c::r)&&!pY.contains (c::r)):=by
   unfold dM;rw[bI ⟨h1,h2⟩,dk]
  refine⟨c,⟨lU _,by rw[vd];rfl⟩,(xp w0 c).mono ?_⟩;rintro _ w2 ⟨rfl,cR⟩;have mZ:=cE.cp cR;refine⟨_,rfl,cR.same (by simp;omega),fun hb hB=>?_,fun hb=>⟨by rw[hn,hb];rfl,mZ⟩⟩;refine(L1 (i:=0) (r:=[]) hB (bp _) hl).mono ?_;rintro _ w3 ⟨rfl,dl⟩;rw[iJ];have um:aF w3 k0 223 [ab (T (c::r)),O U 0]:=(dl.block k0 hB.lt (by simp)).trans hB;refine⟨_,rfl,T (c::r),0,um,?_⟩;rw[kH];refine⟨fun he=>(GZ w3).mono ?_,fun he=>⟨?_,mZ.cp dl⟩⟩
  ·rintro _ w4 ⟨s,rfl,hs,dA⟩;have ub:aF w4 k0 223 [ab (T (c::r)),O U 0]:=(dA.block k0 um.lt (by simp)).trans um;refine⟨s,rfl,T (c::r),0,ub,(pX (tu hs) (c::r)).mono ?_⟩;rintro _ w5 ⟨rfl,eJ⟩;have uX:aF w5 k0 223 [ab (T (c::r)),O U 0]:=(eJ.block k0 ub.lt (by simp)).trans ub;exact⟨_,rfl,_,_,uX,by rw[hn,hb,he];rfl,mZ.cp (dl.cp (dA.cp eJ))⟩
  ·rw[hn,hb,he];rfl
 ·unfold dM;rw[bq]
  ·rfl
  ·rintro⟨h1,h2⟩;rw[bq h1,bI (by omega)]at hc;cases hc
def fH(x:Ex):Int:=if x.k=5 then jD x.op else 6
theorem mH{w:av}{F:aJ}{x:Ex}{cs:aI}{d:Nat}(h:uG d w F x cs):az aq 284 #[ah cs.toArray] w fun e w'=>e=ak (O U (fH x))/\ay [] w w':=by
 cases d with
 | zero=>exact h.elim
 | succ d=>
  obtain⟨sl,rfl,h⟩:=h;refine ret (ae8 _ _ _ _ _ _ _ _ ?_);refine⟨fun hc k0 w0 _ _ hO=>?_,fun hc k1 w1 hk iq hO=>(Fb w1 x.op).mono ?_⟩
  ·have hc:x.k≠5:=by simpa using hc
   rw[fH,if_neg hc];exact⟨rfl,hO⟩
  ·rintro _ w2 ⟨rfl,rfl⟩;have hc:x.k=5:=by simpa using hc
   rw[fH,if_pos hc];exact⟨_,rfl,fun _ _=>rfl,rfl,hO⟩
def UC(n:Int)(s:aH)(op len:Int)(x:Ex):Bool:=((((x.n==n)&&decide (x.s=s))&&(x.op==op))&&((x.eN.length:Int)==len))
def jU(x:Ex):Bool:=
 if x.k=1 then UC (if 0>x.n then 0 else x.n) [] 0 0 x
 else if x.k=2∨x.k=3 then dM x.s&&UC 0 x.s 0 0 x
 else if x.k=4 then UC 0 [] (if x.op=15 then 15 else 14) 1 x
 else if x.k=5 then !(jD x.op==6)&&UC 0 [] x.op 2 x
 else false
def mA(f:Ex->Bool):List Ex->Bool
 | []=>true
 | x::xs=>f x&&mA f xs
def dI:Nat->Ex->Bool
 | 0,_=>false
 | d+1,x=>jU x&&mA (dI d) x.eN
theorem Ji{f:Ex->Bool}{xs:List Ex}{n:Nat}{x:Ex}(hx:xs[n]? =some x):mA f (xs.drop n)=(f x&&mA f (xs.drop (n+1))):=by
 rw[gU (aY.1 hx).1,(aY.1 hx).2,mA]
abbrev ShD(d:Nat):Prop:=∀{w:av} {F:aJ} {x:Ex} {cs:aI},xA d x->uG d w F x cs->az aq 264 #[ah cs.toArray] w fun e w'=>e=ak (aj (dI d x))/\ay [] w w'
theorem Me{d:Nat}(hS:ShD d){w:av}{F:aJ}{x:Ex}{cs:aI}(hl:xA d x)(h:uG d w F x cs):az aq 282 #[ah cs.toArray] w fun e w'=>e=ak (aj (!dI d x))/\ay [] w w':=by
 obtain⟨sl,rfl⟩:=qQ h;refine ret (ae6 _ _ _ _ _ _ _ _ ?_);intro k0 w0 hk iq hO;refine(hS hl (jF h hO)).mono ?_;rintro _ w1 ⟨rfl,cA⟩;exact⟨_,rfl,cA.same (by simp;omega),rfl,hO.cp cA⟩
theorem Mf{d:Nat}(hS:ShD d){w:av}{F:aJ}{l:Sl}{xs:List Ex}(hl:∀y,y∈xs->xA d y)(h:aA (uG d) 6 w F l xs):az aq 296 #[l.v,.func (.func 282) #[] #[]] w fun e w'=>∃i:Int,e=ak (O U i)/\decide (i>=0)=!mA (dI d) xs/\ay [] w w':=by
 refine(Zy l ⟨.func (.func 282) #[] #[],rfl⟩ (fun v w'=>∃i:Int,v=O U i/\decide (i>=0)=!mA (dI d) xs/\ay [] w w') w ?_).mono (by
  rintro e w' ⟨v,rfl,i,rfl,h⟩;exact⟨i,rfl,h⟩)
 have eH:=h.len;have pE:=h.big;have mY:=h.cap;refine⟨fun nv i w'=>∃n:Nat,n<=xs.length/\i=(n:Int)/\nv=xs.length-n/\mA (dI d) xs=mA (dI d) (xs.drop n)/\ay [] w w',xs.length,⟨0,bp _,rfl,rfl,rfl,Only.refl _ _⟩,?_⟩;rintro nv _ w0 ⟨n,hn,rfl,rfl,kl,cE⟩;refine⟨fun hc=>?_,fun hc=>?_⟩
 ·have bQ:(n:Int)<l.n:=aP hc;obtain⟨ad,x,cs,g1,g2,g3,g4,g5,g6⟩:=(SliceF.only (iO d) (by decide) h cE (by simp)).get (bm n) bQ;rw[aZ]at g2;obtain⟨sl,rfl⟩:=qQ g6;refine⟨ad,g1,_,_,_,_,_,_,g5,282,[],[],rfl,gN (by kernel_rfl),?_⟩;refine(Me hS (hl x (bG g2)) g6).mono ?_;rintro _ w1 ⟨rfl,cA⟩;have uj:=Ji (f:=dI d) g2;refine⟨_,rfl,fun hb=>⟨_,rfl,?_,cE.cp cA⟩,fun hb=>⟨xs.length-(n+1),by omega,n+1,by omega,by rw[fQ (by omega) (by omega)];rfl,rfl,?_,cE.cp cA⟩⟩
  ·have hb:dI d x=false:=by simpa using hb
   rw[kl,uj,hb,dZ,Bool.not_false];exact bI (bm n)
  ·have hb:dI d x=true:=by simpa using hb
   rw[kl,uj,hb,dk]
 ·have sP:¬(n:Int)<l.n:=aU hc;refine⟨_,rfl,?_,cE⟩;rw[kl,iZ (by omega)];rfl
theorem Db{d:Nat}(hS:ShD d){w:av}{F:aJ}{l:Sl}{xs:List Ex}(hl:∀y,y∈xs->xA d y)(h:aA (uG d) 6 w F l xs):az aq 281 #[l.v,.func (.func 282) #[] #[]] w fun e w'=>e=ak (aj (!mA (dI d) xs))/\ay [] w w':=by
 refine ret (ae5 l ⟨.func (.func 282) #[] #[],rfl⟩ (fun v w'=>v=aj (!mA (dI d) xs)/\ay [] w w') w ?_);refine(Mf hS hl h).mono ?_;rintro _ w0 ⟨i,rfl,h1,h2⟩;exact⟨_,rfl,by rw[h1],h2⟩
theorem Hc:∀d,ShD d
 | 0,_,_,_,_,_,h=>h.elim
 | d+1,w,F,x,cs,⟨XI,hl⟩,⟨sl,h1,h2⟩=>by
  subst h1;refine ret (ae4 _ _ _ _ _ _ _ _ ?_);intro k0 k1 w0 gH eW lr jq cE;have z0:=cE.size;have hn:=h2.len;have hs:∀{b:Bool},jU x=b->dI (d+1) x=(b&&mA (dI d) x.eN):=fun e=>by rw[dI,e]
  have own:∀{w1 w2:av},ay [] w w1->ay [k1] w1 w2->ay [] w w2:=fun h1 h2=>h1.new h2 lr;refine⟨fun i0 i1 i2 s0 i3 l0 i4 w1=>∃s,s0=T s/\jU x=UC i2 s i3 i0 x/\ay [] w w1/\w0.heap.size<=w1.heap.size,?_,fun hk w4 dA=>⟨[],rfl,?_,own cE dA,dA.size⟩,fun hk=>?_⟩
  ·rintro i0 i1 i2 _ i3 l0 i4 w1 ⟨s,rfl,he,cA,z1⟩;have hc:((((x.n==i2)&&((T x.s).toList==(T s).toList))&&(x.op==i3))&&((sl.n:Int)==i0))=jU x:=by
    rw[he,kH,hn];rfl
   rw[hc];refine⟨fun b w'=>b=dI (d+1) x/\ay [] w w',?_,fun hh=>(Db (Hc d) hl (SliceF.only (iO d) (by decide) h2 cA (by simp))).mono ?_,fun hh=>⟨by rw[hs hh,dZ],cA⟩⟩
   ·rintro _ w2 ⟨rfl,h⟩;exact⟨rfl,h⟩
   ·rintro _ w3 ⟨rfl,dl⟩;exact⟨_,rfl,dl.same (by simp;omega),by rw[hs hh,dk,Bool.not_not],cA.cp dl⟩
  ·have hk:x.k=1:=by simpa using hk
   rw[jU,if_pos hk]
  ·have lr:x.k≠1:=by simpa using hk
   refine⟨fun b w'=>b=decide (x.k=2∨x.k=3)/\w'=w0,?_,fun qZ=>⟨?_,rfl⟩,fun qZ=>⟨?_,rfl⟩⟩
   ·rintro _ _ ⟨rfl,rfl⟩;refine⟨fun hk=>(Md x.s (by omega)).mono ?_,fun hk=>⟨fun yF=>⟨fun ho w8 fp=>⟨[],rfl,?_,own cE fp,fp.size⟩,fun ho w9 fS=>⟨[],rfl,?_,own cE fS,fS.size⟩⟩,fun yF=>⟨fun zT=>(Fb _ x.op).mono ?_,fun zT=>⟨?_,cE⟩⟩⟩⟩
    ·rintro _ w6 ⟨rfl,eh⟩;have z6:=eh.size;have hk:=aP hk;refine⟨_,rfl,eh.same (by simp;omega),fun hb=>⟨?_,cE.cp eh⟩,fun hb w7 fm=>⟨x.s,rfl,?_,own (cE.cp eh) fm,by have:=fm.size;omega⟩⟩
     ·have hb:dM x.s=false:=by simpa using hb
      rw[hs (b:=false) (by rw[jU,if_neg lr,if_pos hk,hb,dZ]),dZ]
     ·have hb:dM x.s=true:=by simpa using hb
      rw[jU,if_neg lr,if_pos hk,hb,dk]
    ·have hk:=aU hk;have yF:x.k=4:=by simpa using yF
     have ho:x.op=15:=by simpa using ho
     rw[jU,if_neg lr,if_neg hk,if_pos yF,if_pos ho]
    ·have hk:=aU hk;have yF:x.k=4:=by simpa using yF
     have ho:x.op≠15:=by simpa using ho
     rw[jU,if_neg lr,if_neg hk,if_pos yF,if_neg ho]
    ·rintro _ dw ⟨rfl,rfl⟩;have hk:=aU hk;have yF:x.k≠4:=by simpa using yF
     have zT:x.k=5:=by simpa using zT
     refine⟨_,rfl,fun _ _=>rfl,fun hb=>⟨?_,cE⟩,fun hb dr dS=>⟨[],rfl,?_,own cE dS,dS.size⟩⟩
     ·rw[hs (b:=false) (by rw[jU,if_neg lr,if_neg hk,if_neg yF,if_pos zT,hb,Bool.not_true,dZ]),dZ]
     ·rw[jU,if_neg lr,if_neg hk,if_neg yF,if_pos zT,hb,Bool.not_false,dk]
    ·have hk:=aU hk;have yF:x.k≠4:=by simpa using yF
     have zT:x.k≠5:=by simpa using zT
     rw[hs (b:=false) (by rw[jU,if_neg lr,if_neg hk,if_neg yF,if_neg zT]),dZ]
   ·have qZ:x.k=2:=by simpa using qZ
    rw[qZ];rfl
   ·have qZ:x.k≠2:=by simpa using qZ
    rw[bT];simp[qZ]
def Tb(w:av):Prop:=Lib.TabIs aq w "internal/strconv.uint64pow10" .u64 Lib.pow10Tab
theorem tb_num:Tryz.prog.globalNamed "internal/strconv.uint64pow10" =some 2:=by kernel_rfl
theorem Tb.keep{w w':av}(h:Tb w)(hk:2<w.heap.size->w'.heap[2]? =w.heap[2]?):Tb w':=by
 unfold Tb Lib.TabIs World.var? at h⊢;rw[tb_num]at h⊢;simp only[kr]at h⊢;rw[hk]
 ·exact h
 ·refine ch fun hn=>?_;rw[dU (by omega)]at h;cases h
theorem Tb.lt{w:av}(h:Tb w):2<w.heap.size:=by
 unfold Tb Lib.TabIs World.var? at h;rw[tb_num]at h;simp only[kr]at h;refine ch fun hn=>?_;rw[dU (by omega)]at h;cases h
theorem Tb.only{w w':av}(h:Tb w)(hO:ay [] w w'):Tb w':=h.keep fun bQ=>hO.block _ bQ (by simp)
theorem Only.grown(w:av)(k:Nat)(os:Array Obj):ay [] w (Go.Sort.grow (w.drewN k) os):=⟨rfl,rfl,rfl,by simp[Go.Sort.grow],fun q hq _=>by
 simp only[Go.Sort.grow,World.heap_drewN];rw[Array.getElem?_append_left hq]⟩
theorem we{w:av}(n:Int)(hn:rn n)(hT:Tb w):az aq 172 #[O U n] w fun e w'=>e=ak (ab (T (Lib.itoa n)))/\ay [] w w':=by
 refine ret (v1w _ _ _ ?_);refine(Tryz.strconv_Itoa n hn.1 hn.2 w hT).mono ?_;rintro _ w0 ⟨rfl,k,os,rfl⟩;exact⟨_,rfl,rfl,Only.grown _ _ _⟩
def Bf(w:av)(B:Nat)(s:Sl)(l:aH):Prop:=
 (s=Sl.nil/\l=[])∨∃g tail,s.a=some ⟨g,0,none⟩/\B<=g/\aF w g 5 (l.map fi++tail)/\tail.length=s.c-s.n/\s.n=l.length/\s.n<=s.c/\s.c<=9223372036854775807/\0<s.c
theorem Bf.len{w:av}{B:Nat}{s:Sl}{l:aH}(h:Bf w B s l):s.n=l.length:=by
 rcases h with⟨rfl,rfl⟩ | ⟨g,tail,_,_,_,_,h,_⟩
 ·rfl
 ·exact h
theorem Bf.lt{w:av}{B:Nat}{s:Sl}{l:aH}(h:Bf w B s l){g:Nat}(hg:s.a=some ⟨g,0,none⟩):B<=g/\g<w.heap.size:=by
 rcases h with⟨rfl,rfl⟩ | ⟨g',tail,h1,h2,h3,_⟩
 ·cases hg
 ·rw[hg]at h1;injection h1 with h1;injection h1 with h1;subst h1;exact⟨h2,h3.lt⟩
theorem Bf.keep{w w':av}{B:Nat}{s:Sl}{l:aH}(h:Bf w B s l)(hk:∀g,s.a=some ⟨g,0,none⟩->g<w.heap.size->w'.heap[g]? =w.heap[g]?):Bf w' B s l:=by
 rcases h with h | ⟨g,tail,h1,h2,h3,h4⟩
 ·exact .inl h
 ·exact .inr ⟨g,tail,h1,h2,(hk g h1 h3.lt).trans h3,h4⟩
theorem ZQ(l:aH):Lib.strCells (T l)=l.map fi:=rfl
theorem Dc:Tryz.prog.underlying 241=some (.slice 5):=by kernel_rfl
theorem UD:Tryz.prog.underlying 9=some .string:=by kernel_rfl
theorem Hd:Tryz.prog.info? 5=some Tryz.t5:=by kernel_rfl
theorem He{w:av}{B:Nat}{s:Sl}{l:aH}(h:Bf w B s l)(m:aH)(hB:B<=w.heap.size)(hm:l.length+m.length<=140737488355328):
  ∃s' w',(Builtin.append_ #[241,9] 241 #[s.v,ab (T m)]).run aq w=.ok s'.v w'/\Bf w' B s' (l++m)/\aD (fun k=>s.a=some ⟨k,0,none⟩) w w'/\(s'.a=s.a∨s'.a=some ⟨w.heap.size,0,none⟩):=by
 have ht:=Dc;have hu:=UD;have hi:=Hd;have Tm:Tryz.t5.size=1:=rfl;have yU:Tryz.t5.bytes=1:=rfl;have hz:Tryz.t5.zero=some (.int .u8 0):=rfl;have hsz:(T m).size=m.length:=de m;have grown:∀(jE KA:Nat),jE=l.length+m.length->0<l.length+m.length->∀cells:Array aw,cells=((l++m).map fi).toArray++Builtin.zeroCells (Value.int .u8 0).cells (grownCap w jE KA 5-jE)->
   Bf (w.drew.alloc (.cells cells 5)) B ⟨some ⟨w.heap.size,0,none⟩,jE,grownCap w jE KA 5⟩ (l++m)/\aD (fun k=>s.a=some ⟨k,0,none⟩) w (w.drew.alloc (.cells cells 5)):=by
  rintro jE KA rfl h0 cells rfl;have hO:ay [] w (w.drew.alloc (.cells (((l++m).map fi).toArray++Builtin.zeroCells (Value.int .u8 0).cells (grownCap w (l.length+m.length) KA 5-(l.length+m.length))) 5)):=(Only.drew w).cp (Only.alloc _ _);refine⟨.inr ⟨w.heap.size,(Builtin.zeroCells (Value.int .u8 0).cells (grownCap w (l.length+m.length) KA 5-(l.length+m.length))).toList,rfl,hB,?_,?_,by simp,grownCap_ge _ _ _ _,grownCap_le_maxLen _ _ _ _ (by simp only[maxLen];omega),cb h0 (grownCap_ge _ _ _ _)⟩,hO.p0⟩
  ·have e:∀(x:aI) (z:Array aw),x.toArray++z=(x++z.toList).toArray:=fun x z=>by simp
   rw[e];exact Blk.alloc w.drew 5 _
  ·exact(sS w _ (size:=1) rfl).trans (iR _)
 rcases h with⟨rfl,rfl⟩ | ⟨g,tail,h1,h2,h3,h4,h5,h6,h7,h8⟩
 ·cases m with
  | nil=>
   refine⟨Sl.nil,w,?_,.inl ⟨rfl,rfl⟩,OnlyP.refl _ _,.inl rfl⟩;have hf:=Lib.run_firstCells_string (P:=aq) w 1 (T []);have h0:(T []).size=0:=rfl;rw[h0]at hf;simp[Sl.nil,Sl.v,Builtin.append_,run_underlying ht,run_underlying hu,sizeOf,typeInfo,hi,Tm,Builtin.lenOf,h0,hf]
  | cons c m=>
   have hr:=run_append_nil_string (P:=aq) w 241 9 241 5 Tryz.t5 (.int .u8 0) ht hu hi hz (T (c::m)) (by rw[hsz];simp) (by rw[hsz];omega) (by rw[hsz,yU];omega);rw[hsz]at hr;obtain⟨g1,g2⟩:=grown (c::m).length 0 (by simp) (by simp) _ rfl;have e1:(T (c::m)).data.map (fun b=>Value.int .u8 b.toNat)=(List.map fi ([]++c::m)).toArray:=by
    apply Kk.1;rw[Array.toList_map,fV];rfl
   rw[e1]at hr;exact⟨_,_,hr,g1,g2,.inr rfl⟩
 ·obtain⟨sa,sn,sc⟩:=s;dsimp only at h1 h4 h5 h6 h7 h8;subst h1;by_cases oa:sn+m.length<=sc
  ·have hb3:=h3;unfold aF at h3;have hr:=Lib.run_append_room_string (P:=aq) w 241 9 241 5 Tryz.t5 ht hu hi Tm g sn sc _ h3 (T m) (by rw[hsz];exact oa) (by
    rw[hsz,mC,aO,bC];omega)
   rw[hsz,ZQ]at hr;refine⟨⟨some ⟨g,0,none⟩,sn+m.length,sc⟩,_,hr,.inr ⟨g,tail.drop m.length,rfl,h2,?_,?_,by dsimp only;rw[aO];omega,oa,h7,h8⟩,(Only.setRow w g _).p fun x hx=>.inl (by simp only[aN]at hx;rw[hx]),.inl rfl⟩
   ·have:=hb3.setRow ((l++m).map fi++tail.drop m.length);have e:((l.map fi++tail).toArray.toList.take sn++m.map fi++(l.map fi++tail).toArray.toList.drop (sn+m.length))=(l++m).map fi++tail.drop m.length:=by
     rw[fV,KT (by rw[bC];omega),bA (by rw[bC];omega),List.drop_append,iZ (by rw[bC];omega),cf,bC,cN,h5,dH]
    rw[e];exact this
   ·rw[cy];dsimp only;omega
  ·have vC:∀j v,(l.map fi)[j]? =some v->w.cell? ((⟨g,0,none⟩:Addr).add j)=some v:=fun j v hj=>h3.cells 0 (l.map fi) (fun j v hj=>by rw[bJ,bM (aY.1 hj).1];exact hj) j v hj;have hr:=Lib.run_append_grow_string (P:=aq) w 241 9 241 5 Tryz.t5 (.int .u8 0) ht hu hi hz ⟨g,0,none⟩ sn sc (l.map fi) (by rw[Tm,bC];omega) vC (T m) (by rw[hsz];omega) (by rw[hsz];omega) (growslice_fits (by rw[hsz];omega) (by rw[hsz,yU];omega));rw[hsz,ZQ]at hr;obtain⟨g1,g2⟩:=grown (sn+m.length) sc (by omega) (by omega) _ rfl;refine⟨_,_,hr.trans ?_,g1,g2,.inr rfl⟩;simp[cN]
theorem SF(w:av)(F:aJ):∀l:aH,kY ij 1 w F l (l.map fun b=>[fi b])
 | []=>trivial
 | c::l=>⟨⟨rfl,rfl⟩,SF w F l⟩
theorem Mg:∀l:aH,(l.map fun b=>[fi b]).flatten=l.map fi
 | []=>rfl
 | c::l=>by rw[bE,cY,Mg l];rfl
theorem Dd{w:av}{F:aJ}:∀{l:aH} {css:List (aI)},kY ij 1 w F l css->css.flatten=l.map fi
 | [],[],_=>rfl
 | c::l,d::css,h=>by
  obtain⟨⟨_,h1⟩,h2⟩:=h;unfold ij at h1;subst h1;rw[cY,Dd h2];rfl
theorem Bf.own{w:av}{B:Nat}{s:Sl}{l:aH}(h:Bf w B s l)(F:aJ):Own ij 1 5 B w F s l:=by
 rcases h with h | ⟨g,tail,h1,h2,h3,h4,h5,h6,h7,_⟩
 ·exact .inl h
 ·exact .inr ⟨g,l.map fun b=>[fi b],tail,h1,h2,by rw[Mg];exact h3,by rw[iR];exact h4,h5,h6,h7,SF _ _ _⟩
theorem Bf.of{w:av}{B:Nat}{s:Sl}{l:aH}{F:aJ}(h:Own ij 1 5 B w F s l)(h0:0<l.length):Bf w B s l:=by
 rcases h with h | ⟨g,css,tail,h1,h2,h3,h4,h5,h6,h7,h8⟩
 ·exact .inl h
 ·exact .inr ⟨g,tail,h1,h2,by rw[<-Dd h8];exact h3,by rw[h4,iR],h5,h6,h7,by omega⟩
structure Pg (G:aJ) (w:av) (b:Nat) (sl sn:Sl) (l:aH):Prop where
 blk:∃q:Option Addr,(q=none∨q=some ⟨b,0,none⟩)/\aF w b 334 [ae q,sl.v,sn.v]
 buf:Bf w (b+1) sl l
 sig:aA im 1 w G sn yP
 hG:∀k,G k->k<b
def rb(b:Nat)(sl:Sl)(w:av)(nf:Sl)(w':av):Prop:=aD (fun k=>k=b∨sl.a=some ⟨k,0,none⟩) w w'/\∀k,nf.a=some ⟨k,0,none⟩->sl.a=some ⟨k,0,none⟩∨w.heap.size<=k
theorem rb.trans{b:Nat}{sl nf aa5:Sl}{w w' sA:av}(h:rb b sl w nf w')(k:rb b nf w' aa5 sA):rb b sl w aa5 sA:=by
 have z:=h.1.size;refine⟨h.1.trans k.1 fun x hx=>?_,fun x hx=>?_⟩
 ·rcases hx with hx | hx
  ·exact .inl (.inl hx)
  ·rcases h.2 x hx with e | e
   ·exact .inl (.inr e)
   ·exact .inr e
 ·rcases k.2 x hx with e | e
  ·exact h.2 x e
  ·exact .inr (by omega)
theorem rb.only{b:Nat}{sl:Sl}{w w':av}(h:ay [] w w'):rb b sl w sl w':=⟨h.p0,fun _ h=>.inl h⟩
theorem rb.same{b:Nat}{sl nf:Sl}{w w':av}(h:rb b sl w nf w'){k:Nat}(hk:k≠b)(hs:sl.a≠some ⟨k,0,none⟩)(hl:k<w.heap.size):bS [k] w w':=h.1.same (by
 intro x hx;simp only[aN]at hx;subst hx;exact⟨hl,fun e=>e.elim hk hs⟩)
theorem Pg.only{G:aJ}{w w':av}{b:Nat}{sl sn:Sl}{l:aH}(h:Pg G w b sl sn l)(hO:ay [] w w'):Pg G w' b sl sn l:=by
 obtain⟨q,hq,hB⟩:=h.blk;exact⟨⟨q,hq,hO.blk hB (by simp)⟩,h.buf.keep fun g _ hl=>hO.block g hl (by simp),SliceF.only cG (by decide) h.sig hO (by simp),h.hG⟩
theorem Pg.lb{G:aJ}{w:av}{b:Nat}{sl sn:Sl}{l:aH}(h:Pg G w b sl sn l):b<w.heap.size:=by
 obtain⟨q,hq,hB⟩:=h.blk;exact hB.lt
theorem SG(v:aw)(w:av):(I3 241 #[v]).run aq w=.ok v w:=by
 unfold I3;rw[Sem.run_bind,run_callFunc_extern Tryz.func241 (by kernel_rfl) (by kernel_rfl) (by kernel_rfl) (e:=Extern.AbiNoEscape.same) (by kernel_rfl)];rw[Lib.run_noEscape];rfl
theorem Hf{w:av}{b:Nat}{q:Option Addr}{sl sn:Sl}(hq:q=none∨q=some ⟨b,0,none⟩)(h:aF w b 334 [ae q,sl.v,sn.v]):
  az aq 225 #[ae (some ⟨b,0,none⟩)] w fun e w'=>e=ak (ai #[])/\ay [b] w w'/\aF w' b 334 [ae (some ⟨b,0,none⟩),sl.v,sn.v]:=by
 refine ret (Sy _ _ _ ?_);have Ey:w.shape? b=some (334,3):=by
  unfold World.shape?;unfold aF at h;rw[h];rfl
 refine⟨q,Blk.dT h 0 rfl,fun hn=>?_,fun hn=>⟨q,Blk.dT h 0 rfl,?_⟩⟩
 ·have hr1:=Lib.run_to_unsafe (P:=aq) (src:=240) (dst:=308) w ⟨b,0,none⟩ (t:=243) (j:=Tryz.t243) (by kernel_rfl) (by kernel_rfl) (by kernel_rfl) (by decide) Ey (by decide:(0:Nat)<3);have hr2:=Lib.run_from_unsafe (P:=aq) (src:=308) (dst:=240) w ⟨b,0,none⟩ (u:=243) (j:=Tryz.t243) (by kernel_rfl) (by kernel_rfl) (by kernel_rfl) Ey (by kernel_rfl);exact⟨⟨ae (some ⟨b,0,none⟩),rfl⟩,w,hr1,⟨ae (some ⟨b,0,none⟩),rfl⟩,w,SG _ w,some ⟨b,0,none⟩,w,hr2,b,0,_,_,rfl,h,by simp,fun w3 hO hB=>⟨rfl,hO,hB⟩⟩
 ·rcases hq with rfl | rfl
  ·cases hn
  ·exact⟨false,w,Lib.run_neq_ptr_same w _ (te:=243) (j:=Tryz.t243) (by kernel_rfl) (by kernel_rfl),fun e=>(by cases e),fun _=>⟨rfl,Only.refl _ _,h⟩⟩
section
variable {G:aJ} {w:av} {b:Nat} {sl sn:Sl} {l:aH}
theorem UE(h:Pg G w b sl sn l):az aq 211 #[ae (some ⟨b,0,none⟩)] w fun e w'=>e=ak (O U (l.length:Int))/\w'=w:=by
 refine ret (Sv _ _ _ ?_);obtain⟨q,hq,hB⟩:=h.blk;exact⟨sl,Blk.dT hB 1 rfl,by rw[h.buf.len],rfl⟩
theorem mU(h:Pg G w b sl sn l)(m:aH)(hm:l.length+m.length<=140737488355328):az aq 202 #[ae (some ⟨b,0,none⟩),ab (T m)] w fun e w'=>
  ∃nf,e=ak (ai #[O U (m.length:Int),.nilIface])/\Pg G w' b nf sn (l++m)/\rb b sl w nf w':=by
 refine(Sw ⟨b,0,none⟩ (T m) (fun v w'=>∃nf,v=ai #[O U (m.length:Int),.nilIface]/\Pg G w' b nf sn (l++m)/\rb b sl w nf w') w ?_).mono (by
  rintro e w' ⟨v,rfl,s,rfl,h⟩;exact⟨s,rfl,h⟩)
 obtain⟨q,hq,hB⟩:=h.blk;refine(Hf hq hB).mono ?_;rintro _ w0 ⟨rfl,cE,wy⟩;have z0:=cE.size;have hb:=hB.lt;have uf:Bf w0 (b+1) sl l:=h.buf.keep fun g hg hl=>cE.block g hl (by have:=(h.buf.lt hg).1;simp;omega);obtain⟨s',w1,k1,k2,k3,k4⟩:=He uf m (by omega) hm;have z1:=k3.size;have vw:aF w1 b 334 [ae (some ⟨b,0,none⟩),sl.v,sn.v]:=k3.blk wy fun e=>by have:=(uf.lt e).1;omega
 have JW:∀g,s'.a=some ⟨g,0,none⟩->b<g:=fun g hg=>by
  rcases k4 with e | e
  ·rw[e]at hg;exact(uf.lt hg).1
  ·rw[e]at hg;injection hg with hg;injection hg with hg;omega
 refine⟨rfl,sl,Blk.dT wy 1 rfl,s',w1,k1,b,1,_,_,rfl,vw,by simp,fun w2 cR qY=>⟨s',by rw[de],⟨⟨_,.inr rfl,qY⟩,k2.keep fun g hg hl=>cR.block g hl (by have:=JW g hg;simp;omega),?_,h.hG⟩,?_,?_⟩⟩
 ·have h0:=SliceF.only cG (by decide) h.sig cE fun k hk _ hm=>by have:=h.hG k hk;simp only[aN]at hm;omega
  have h1:=SliceF.kU cG (by decide) h0 k3 fun k hk _ hm=>by have:=h.hG k hk;have:=(uf.lt hm).1;omega
  exact SliceF.only cG (by decide) h1 cR fun k hk _ hm=>by have:=h.hG k hk;simp only[aN]at hm;omega
 ·refine((cE.p (F:=fun k=>k=b∨sl.a=some ⟨k,0,none⟩) fun x hx=>.inl (.inl (by simpa using hx))).trans k3 fun k hk=>.inl (.inr hk)).trans (cR.p (F:=fun k=>k=b) fun x hx=>.inl (by simpa using hx)) fun k hk=>.inl (.inl hk)
 ·intro k hk;rcases k4 with e | e
  ·rw[e]at hk;exact .inl hk
  ·rw[e]at hk;injection hk with hk;injection hk with hk;exact .inr (by omega)
theorem SH(h:Pg G w b sl sn l)(c:UInt8)(hm:l.length+1<=140737488355328):GV ⟨b,0,none⟩ (c.toNat:Int) (fun v w'=>∃nf,v=.nilIface/\Pg G w' b nf sn (l++[c])/\rb b sl w nf w') w:=by
 unfold GV;obtain⟨q,hq,hB⟩:=h.blk;refine(Hf hq hB).mono ?_;rintro _ w0 ⟨rfl,cE,wy⟩;have z0:=cE.size;have hb:=hB.lt;have uf:Bf w0 (b+1) sl l:=h.buf.keep fun g hg hl=>cE.block g hl (by have:=(h.buf.lt hg).1;simp;omega);obtain⟨y,w1,k1,k2,k3,_⟩:=uB w0 [c] (n:=1) (parts:=#[(0,.int .u8 (c.toNat:Int))]) rfl rfl (by decide) (by decide);have z1:=k3.size;have aa7:Bf w1 (b+1) sl l:=uf.keep fun g hg hl=>k3.block g hl (by simp);obtain⟨s',w2,m1,m2,gs,m3,m4,m5⟩:=oA (P:=aq) (t:=241) (ty:=241) (e:=5) (i:=Tryz.t5) (bytes:=1) (size:=1) (r:=ij) Dc Hd rfl rfl rfl rfl sU (aa7.own fun _=>True) ((zj k2).mono sU fun k hk=>⟨trivial,fun e=>by have:=(uf.lt e).2;have:=hk.1;omega⟩) (by omega) (by rw[bK];omega) (by decide);have z2:=m3.size;have cR:aD (fun k=>sl.a=some ⟨k,0,none⟩) w1 w2:=m3.p fun x hx=>.inl (m4 x hx).1;have qY:aF w2 b 334 [ae (some ⟨b,0,none⟩),sl.v,sn.v]:=cR.blk (k3.blk wy (by simp)) fun e=>by have:=(uf.lt e).1;omega
 have JW:∀g,s'.a=some ⟨g,0,none⟩->b<g:=fun g hg=>by
  rcases m5 with e | e
  ·rw[e]at hg;exact(uf.lt hg).1
  ·rw[e]at hg;injection hg with hg;injection hg with hg;omega
 refine⟨rfl,sl,Blk.dT wy 1 rfl,y,w1,k1,s',w2,m1,b,1,_,_,rfl,qY,by simp,fun w3 dl um=>⟨s',rfl,⟨⟨_,.inr rfl,um⟩,(Bf.of m2 (by simp)).keep fun g hg hl=>dl.block g hl (by have:=JW g hg;simp;omega),?_,h.hG⟩,?_,?_⟩⟩
 ·have h0:=SliceF.only cG (by decide) h.sig (cE.cp k3) fun k hk _ hm=>by have:=h.hG k hk;simp only[aN]at hm;omega
  have h1:=SliceF.kU cG (by decide) h0 cR fun k hk _ hm=>by have:=h.hG k hk;have:=(uf.lt hm).1;omega
  exact SliceF.only cG (by decide) h1 dl fun k hk _ hm=>by have:=h.hG k hk;simp only[aN]at hm;omega
 ·refine(((cE.cp k3).p (F:=fun k=>k=b∨sl.a=some ⟨k,0,none⟩) fun x hx=>.inl (.inl (by simpa using hx))).trans cR fun k hk=>.inl (.inr hk)).trans (dl.p (F:=fun k=>k=b) fun x hx=>.inl (by simpa using hx)) fun k hk=>.inl (.inl hk)
 ·intro k hk;rcases m5 with e | e
  ·rw[e]at hk;exact .inl hk
  ·rw[e]at hk;injection hk with hk;injection hk with hk;exact .inr (by omega)
theorem Qq(h:Pg G w b sl sn l)(c:UInt8)(hm:l.length+1<=140737488355328):az aq 283 #[ae (some ⟨b,0,none⟩),.int .u8 (c.toNat:Int)] w fun e w'=>
 ∃nf,e=ak .nilIface/\Pg G w' b nf sn (l++[c])/\rb b sl w nf w':=(Zz _ _ _ w (SH h c hm)).mono (by
 rintro e w' ⟨v,rfl,s,rfl,h⟩;exact⟨s,rfl,h⟩)
theorem Qr(h:Pg G w b sl sn l)(c:UInt8)(hm:l.length+1<=140737488355328):jh aq 283 #[ae (some ⟨b,0,none⟩),.int .u8 (c.toNat:Int)] w fun v w'=>
 ∃nf,v=.nilIface/\Pg G w' b nf sn (l++[c])/\rb b sl w nf w':=kP _ _ _ w (SH h c hm)
structure Pt (w:av) (b:Nat) (sl:Sl) (l:aH):Prop where
 blk:∃q sn:aw,aF w b 334 [q,sl.v,sn]
 len:sl.n=l.length
 some:l≠[]->∃g,sl.a=.some ⟨g,0,none⟩/\b<g/\sl.c≠0/\(∃n,w.shape? g=.some (5,n)/\l.length<=n)/\aB w ⟨g,0,none⟩ (l.map fi)
 cap:sl.a=none∨sl.c≠0
 big:l.length<=9223372036854775807
theorem xB{w w':av}{g:Nat}(h:w'.heap[g]? =w.heap[g]?):w'.shape? g=w.shape? g:=by
 unfold World.shape?;rw[h]
theorem Pt.only{w':av}(h:Pt w b sl l)(hO:ay [] w w'):Pt w' b sl l:=by
 obtain⟨⟨q,sn,h1⟩,h2,h3,h4,h5⟩:=h;refine⟨⟨q,sn,hO.blk h1 (by simp)⟩,h2,fun hl=>?_,h4,h5⟩;obtain⟨g,a1,a2,a3,⟨n,a4,a5⟩,a6⟩:=h3 hl;have hg:g<w.heap.size:=by
  refine ch fun hn=>?_;unfold World.shape? at a4;rw[dU (by omega)]at a4;cases a4
 have hk:=hO.block g hg (by simp);exact⟨g,a1,a2,a3,⟨n,(xB hk).trans a4,a5⟩,a6.keep hk⟩
theorem Pg.pt(h:Pg G w b sl sn l):Pt w b sl l:=by
 obtain⟨q,hq,hB⟩:=h.blk;refine⟨⟨_,_,hB⟩,h.buf.len,fun hl=>?_,?_,?_⟩
 ·rcases h.buf with⟨_,e⟩ | ⟨g,tail,h1,h2,h3,h4,h5,h6,h7,h8⟩
  ·exact absurd e hl
  ·have h0:l.length≠0:=fun e=>hl (ca e);refine⟨g,h1,h2,by omega,⟨_,by unfold World.shape?;unfold aF at h3;rw[h3],by simp⟩,h3.cells 0 (l.map fi) fun j v hj=>by rw[bJ,bM (aY.1 hj).1];exact hj⟩
 ·rcases h.buf with⟨e,_⟩ | ⟨g,tail,h1,h2,h3,h4,h5,h6,h7,h8⟩
  ·exact .inl (by rw[e])
  ·exact .inr (by omega)
 ·rcases h.buf with⟨_,e⟩ | ⟨g,tail,h1,h2,h3,h4,h5,h6,h7⟩
  ·subst e;simp
  ·omega
end
theorem tB(w:av)(p:Addr)(n:Nat)(a:Nat):(w.freeze p n).shape? a=w.shape? a:=by
 unfold World.freeze;split
 ·rfl
 ·unfold World.shape?;simp only[yx];by_cases KL:p.block=a
  ·rw[if_pos KL];cases h:w.heap[a]? with
   | none=>rfl
   | some o=>
    cases o with
    | cells c e f=>obtain⟨lo,hi⟩:=f;rfl
    | _=>rfl
  ·rw[if_neg KL]
section
variable {w:av} {b:Nat} {sl:Sl} {l:aH}
theorem Mh(h:Pt w b sl l):az aq 175 #[ae (some ⟨b,0,none⟩)] w fun e w'=>e=ak (ab (T l))/\Pt w' b sl l/\aD (fun k=>b<k/\sl.a=some ⟨k,0,none⟩) w w':=by
 refine ret (Sz _ _ _ ?_);intro w0 cE;have h0:=h.only cE;obtain⟨⟨q,sn,hB⟩,eH,Eg,mY,pE⟩:=h0;refine⟨fun k=>k=b,sl,Blk.dT hB 1 rfl,rfl,sl,Blk.dT hB 1 rfl,sl.a,w0,?_,fun k _ _=>rfl,?_⟩
 ·obtain⟨sa,yw,sc⟩:=sl;cases sa with
  | none=>exact Lib.run_unsafeSliceData_nil _ _ _ _ _
  | some a=>
   rcases mY with e | e
   ·cases e
   ·exact Lib.run_unsafeSliceData_row _ _ _ _ _ _ e
 ·by_cases hl:l=[]
  ·subst hl;have hn:sl.n=0:=eH;refine⟨T [],w0,?_,fun k _ _=>rfl,rfl,⟨⟨q,sn,hB⟩,eH,Eg,mY,pE⟩,cE.p0⟩;rw[hn];exact Lib.run_unsafeString_none _ _ _ _ _
  ·obtain⟨g,ha,PA,hc,⟨m,Ey,hm⟩,sD⟩:=Eg hl;have hF:=qb w0 ⟨g,0,none⟩ l.length;have BM:b<w0.heap.size:=hB.lt;refine⟨T l,w0.freeze ⟨g,0,none⟩ l.length,?_,fun k hk bQ=>hF.block k bQ (by dsimp only;omega),rfl,⟨⟨q,sn,hF.blk hB (by dsimp only;omega)⟩,eH,fun _=>⟨g,ha,PA,hc,⟨m,(tB _ _ _ _).trans Ey,hm⟩,fun j v hj=>by rw[pZ];exact sD j v hj⟩,mY,pE⟩,cE.oZ (hF.mono fun k _ hk=>by dsimp only at hk;subst hk;exact⟨PA,ha⟩)⟩;rw[ha,eH];exact Lib.run_unsafeString_row _ _ _ _ 5 (by kernel_rfl) (by kernel_rfl) g m Ey l hl hm pE fun j x hj=>sD j (fi x) (by rw[cF,hj];rfl)
end
end Go.Proofs.YtbkjcdocjfknfaaGreatDoor.Con
