import Derived.Test.YtmhoiicofhlgbaaGreatDoorQl5
set_option linter.unusedSectionVars false
namespace Go.Proofs.YtmhoiicofhlgbaaGreatDoor.Con
open Go Go.RowKit Go.Kt Go.Kt.V Go.Proofs.YtmhoiicofhlgbaaGreatDoor.Vc
set_option linter.unusedSimpArgs false
set_option linter.unusedVariables false
set_option maxHeartbeats 4000000
theorem agk {w:World} {F:Nat->Prop} {s:Sl} {xs:List (List UInt8)} (h:SliceF jJ 1 w F s xs) (sep:List UInt8) (hl:(Lib.join xs sep).length<=140737488355328) (hn:xs.length<=140737488355328):
  Calls Tryz.prog 149 #[s.v,.string (T sep)] w fun e w'=>e=.returned (.string (T (Lib.join xs sep)))/\Only [] w w':=by
 have dN:=h.len;have nT:=h.cap;obtain⟨sa,sn,sc⟩:=s;dsimp only at dN nT;subst dN;cases xs with
 | nil=>
  refine(Tryz.strings_Join_none sa sc (T sep) w).mono ?_;rintro _ w2 ⟨rfl,rfl⟩;exact⟨rfl,Only.refl _ _⟩
 | cons x xs=>
  obtain⟨base,cs,g1,g2,g3,g4,g5⟩:=h.at_ 0 x rfl;have g1:sa=some base:=g1;unfold jJ at g5;subst g5 g1;have h0:=g4 0 _ rfl;have Rb:base.spot=none:=by
   unfold World.cell? at h0;split at h0
   ·split at h0
    ·cases h0
    ·rename_i hs;have e:((base.add (0*1)).add 0).spot=base.spot:=rfl;rw[e]at hs;cases hb:base.spot with
     | none=>rfl
     | some v=>rw[hb]at hs;simp at hs
   ·cases h0
  obtain⟨bk,o,sp⟩:=base;dsimp only at Rb;subst Rb;have bp:bk<w.heap.size:=by
   have e:((Addr.add ⟨bk,o,none⟩ (0*1)).add 0:Addr)=⟨bk,o,none⟩:=by simp[Addr.add]
   rw[e]at h0;refine aP fun hn=>?_;unfold World.cell? at h0;rw[dP (by dsimp only;omega)]at h0;cases h0
  have:=Tryz.strings_Join bk o sc ((x::xs).map T) (T sep) w (fun j y hj=>by
   rw[bD,cY]at hj;obtain⟨z,hz,rfl⟩:=hj;obtain⟨base,cs,g1,g2,g3,g4,g5⟩:=h.at_ j z hz;unfold jJ at g5;subst g5;cases g1;have:=g4 0 _ rfl;have e:((Addr.add ⟨bk,o,none⟩ (j*1)).add 0:Addr)=⟨bk,o+j,none⟩:=by simp[Addr.add]
   rw[e]at this;exact this) bp (by rw[aQ];omega) (by rw[aQ];omega) (by
   rw[fN];have:((fun x:ByteArray=>x.data.toList)∘T)=id:=rfl;rw[this,JP];exact hl)
  rw[aQ]at this;refine this.mono ?_;rintro _ w2 ⟨rfl,hB⟩;refine⟨?_,Only.below hB⟩;rw[fN];have:((fun x:ByteArray=>x.data.toList)∘T)=id:=rfl;rw[this,JP]
theorem HA:∀l:List (List UInt8),Lib.joinTail [44,32] l=I4 l
 | []=>rfl
 | s::l=>by
  unfold Lib.joinTail;rw[aI,bT];show[44,32]++s++Lib.joinTail [44,32] l=_;rw[HA l];rfl
theorem HB (s:List UInt8) (l:List (List UInt8)):(Lib.join (s::l) [44,32]).length<=2*Df (s::l):=by
 have h1:∀l:List (List UInt8),(I4 l).length<=2*Df l:=fun l=>by
  induction l with
  | nil=>exact aF _
  | cons s l ih=>
   unfold Df at ih⊢;rw[aI,bd,I4,ao,ao,ah];omega
 rw[Lib.join_cons,HA,ah];have:=h1 l;have e:Df (s::l)=(s.length+1)+Df l:=by unfold Df;rw[aI,bd]
 omega
theorem HC (l:List (List UInt8)):l.length<=Df l:=by
 unfold Df
 induction l with
 | nil=>exact aF _
 | cons s l ih=>rw[aI,bd,ao];omega
theorem Qf {s:List UInt8} {l:List (List UInt8)} (h:s∈l):s.length+1<=Df l:=by
 unfold Df
 induction l with
 | nil=>simp at h
 | cons x l ih=>
  rw[aI,bd];rcases ak.1 h with rfl | h
  ·omega
  ·have:=ih h;omega
def Sm (m:Mv):List UInt8:=if m.k=1 then eB [xq,m.ev]else if m.k=3 then eB [eY,Lib.itoa m.wt]else eO
def Uv (m:Mv):List UInt8:=if m.gd then 91::(ui m.g++[93])else[]
def JU (m:Mv):List UInt8:=match m.tg with
 | []=>[]
 | s::l=>45::62::32::(s++I4 l)
theorem xH {n:Int} (h:InI n):(Lib.itoa n).length<=21:=Lib.itoa_length_le n h.1 h.2
theorem Qg (n:Int):ne (Lib.itoa n)=true:=by
 have:Lib.itoa n≠[]:=by
  unfold Lib.itoa;split
  ·simp
  ·rw[Lib.decDigits];split<;>simp
 unfold ne;rw[aK this];rfl
theorem Mh {m:Mv} (h:mO m=true):eB [Sm m,Uv m,(if m.acts=[]then[]else yC m.acts),JU m]++[59]=E6 m:=by
 unfold mO at h;simp only[ab]at h;obtain⟨⟨⟨⟨⟨h1,h2⟩,h3⟩,h4⟩,h5⟩,h6⟩:=h;have hh:Sm m=hdT m/\ne (Sm m)=true:=by
  unfold Sm hdT;by_cases k1:m.k=1
  ·rw[if_pos k1]at h2;rw[if_pos k1,if_pos k1,mD (by decide),dW (oz h2),dc,dV,kc,aN];exact⟨rfl,rfl⟩
  ·rw[if_neg k1,if_neg k1];by_cases k3:m.k=3
   ·rw[if_pos k3,if_pos k3,mD (by decide),dW (Qg _),dc,dV,kc,aN];exact⟨rfl,rfl⟩
   ·rw[if_neg k3,if_neg k3];exact⟨rfl,by decide⟩
 rw[mD hh.2,hh.1];unfold E6;rw[av];congr 1;have e1:Lib.joinTail [32] ([Uv m,(if m.acts=[]then[]else yC m.acts),JU m].filter ne)=P7 m++((if m.acts=[]then[]else 32::yC m.acts)++(match m.tg with
  | []=>[]
  | s::l=>32::45::62::32::(s++I4 l))):=by
  have eg:∀ws:List (List UInt8),Lib.joinTail [32] ((Uv m::ws).filter ne)=P7 m++Lib.joinTail [32] (ws.filter ne):=fun ws=>by
   unfold Uv P7;cases m.gd
   ·simp only[dG,fI];rw[Me];rfl
   ·simp only[if_true];rw[dW (by rfl),dV];rfl
  have ea:∀ws:List (List UInt8),Lib.joinTail [32] (((if m.acts=[]then[]else yC m.acts)::ws).filter ne)=(if m.acts=[]then[]else 32::yC m.acts)++Lib.joinTail [32] (ws.filter ne):=fun ws=>by
   by_cases ha:m.acts=[]
   ·rw[if_pos ha,if_pos ha,Me];rfl
   ·rw[if_neg ha,if_neg ha,dW (by rfl),dV];rfl
  rw[eg,ea];congr 2;unfold JU;cases m.tg with
  | nil=>rfl
  | cons s l=>
   rw[dW (by rfl),dV,dc,kc,aN]
 rw[e1];simp only[av]
 all_goals rfl
theorem mvB (m:Mv):((((if m.k=1 then cN m.ev else if m.k=3 then decide (0<=m.wt)else decide (m.k=2))&&((decide (m.ev=[])||(m.k==1))&&((m.wt==0)||(m.k==3))))&&(if m.gd then sS m.g else oH m.g))&&(m.tg.all cN&&m.acts.all gw))=mO m:=by
 unfold mO;generalize (if m.gd then sS m.g else oH m.g)=A;generalize m.tg.all cN=B;generalize m.acts.all gw=C;generalize cN m.ev=D;by_cases k1:m.k=1
 ·rw[if_pos k1,if_pos k1,k1];cases D<;>cases A<;>cases B<;>cases C<;>by_cases hw:m.wt=0<;>simp[hw]
 ·rw[if_neg k1,if_neg k1];by_cases k3:m.k=3
  ·rw[if_pos k3,k3];cases A<;>cases B<;>cases C<;>by_cases he:m.ev=[]<;>by_cases hw:m.wt=0<;>by_cases hp:0<m.wt<;>simp[hw,he,hp]<;>omega
  ·rw[if_neg k3];by_cases k2:m.k=2
   ·rw[k2];cases A<;>cases B<;>cases C<;>by_cases he:m.ev=[]<;>by_cases hw:m.wt=0<;>simp[hw,he]
   ·have:¬(1<=m.k/\m.k<=3):=by omega
    rw[aK this,aK k2];simp
section
variable {w0 w:World} {b:Nat} {l:List UInt8} {st:St}
theorem Uw (h:Qz w0 b w l st) {F:Nat->Prop} {m:Mv} {cs:List Value} (hx:BG false w F m cs) (hF:∀k,F k->k<w0.heap.size) (hn:OU m) (hs:Md m<=16777216) (hE:Er w0) (hT:Tb w0):
  Calls Tryz.prog 89 #[rp b,.agg cs.toArray] w fun e w'=>∃t bH,e=.returned (.string (T t))/\t.length<=16450*Md m/\(bH.1=false->t=E6 m)/\Up st (mO m) m.acts.length bH/\Qz w0 b w' l bH/\Mw true b w w':=by
 obtain⟨gc,ql,tg,rfl,hg,Ke,tS⟩:=hx;obtain⟨gl,rfl⟩:=fV hg;have Ke:=Ke.1;have tS:=tS.1;have hsz:=hs;unfold Md at hsz;refine(afD ⟨b,0,none⟩ m.k (T m.ev) m.wt m.gd m.g.k m.g.n (T m.g.s) m.g.op gl m.g.a ql tg m.a (fun v w'=>∃t bH,v=.string (T t)/\t.length<=16450*Md m/\(bH.1=false->t=E6 m)/\Up st (mO m) m.acts.length bH/\Qz w0 b w' l bH/\Mw true b w w') w ?_).mono (by
  rintro e w' ⟨v,rfl,s,bH,rfl,h⟩;exact⟨s,bH,rfl,h⟩)
 unfold Zx;intro k0 w1 fQ eE bR;have t1:=(h.z true).al bR fQ eE;have Ih:=tS.len;have htn:=HC m.tg;refine⟨fun s0 w'=>∃hd bH,s0=T hd/\hd.length<=30+m.ev.length/\(bH.1=false->hd=Sm m)/\Up st (if m.k=1 then cN m.ev else if m.k=3 then decide (0<=m.wt)else decide (m.k=2)) 0 bH/\Zq true w0 w b w' l bH [k0],?_,fun hc=>?_,fun hc=>⟨fun Rc=>?_,fun Rc=>?_⟩⟩
 ·rintro _ w2 ⟨hd,u9,rfl,Ek,hdt,Xl,t2⟩;refine(iv t2.toQz _).mono ?_;rintro _ w3 ⟨rfl,Wb,u1,u2,u3⟩;have t3:=t2.nx u2 u3;have hU3:=Xl.tr u1;rw[show ByteArray.mk #[]=T []from rfl,jW]at hU3;refine⟨rfl,t2.sm u3 (by simp),fun s1 w'=>∃gt bH,s1=T gt/\gt.length<=16386/\(bH.1=false->gt=Uv m)/\Up Wb (if m.gd then sS m.g else oH m.g) 0 bH/\Zq true w0 w b w' l bH [k0],?_,fun OX=>?_,fun OX=>?_⟩
  ·rintro _ w4 ⟨gt,F9,rfl,gtl,gtt,hU4,t4⟩;refine⟨fun nv i w'=>∃(j:Nat) (bH:St),i=j/\j<=m.tg.length/\nv=m.tg.length-j/\Up F9 ((m.tg.take j).all cN) 0 bH/\Zq true w0 w b w' l bH [k0],m.tg.length,⟨0,F9,rfl,aF _,rfl,t4.toQz.U5,t4⟩,?_⟩;rintro nv _ w5 ⟨j,Q9,rfl,hj,rfl,Wf,t5⟩;have acJ:SliceF jJ 1 w5 F tg m.tg:=SliceF.keep cL tS (by decide) fun k hk _=>h.arg t5.toQz (hF k hk);refine⟨fun hc=>?_,fun hc=>?_⟩
   ·have bp:(j:Int)<tg.n:=aj hc;obtain⟨ad,x,cs,g1,g2,g3,g4,g5,g6⟩:=acJ.get (aG j) bp;rw[az]at g2;unfold jJ at g6;subst g6;have hxm:=Qf (aE g2);refine⟨ad,g1,_,g5,(ku t5.toQz x (by omega)).mono ?_⟩;rintro _ w6 ⟨rfl,st6,v1,v2,v3⟩;refine⟨_,rfl,t5.sm v3 (by simp),m.tg.length-(j+1),by omega,j+1,st6,by rw[gV (by omega) (by omega)];rfl,by omega,rfl,(Wf.tr v1).cg ?_ rfl,t5.nx v2 v3⟩;rw[aY,g2,wv];simp
   ·have yg:¬(j:Int)<tg.n:=ar hc;have mc:j=m.tg.length:=by omega
    subst mc;rw[aO (aq _)]at Wf;refine⟨fun s4 w'=>s4=T (JU m)/\Zq true w0 w b w' l Q9 [k0],?_,fun hc=>?_,fun hc=>?_⟩
    ·rintro _ w7 ⟨rfl,t7⟩;refine(A1 t7.toQz (SliceF.keep (cA false) Ke (by decide) fun k hk _=>h.arg t7.toQz (hF k hk)) hF hn.a (by omega) hE hT).mono ?_;rintro _ w8 ⟨bt,Wg,rfl,btl,btt,hU8,v2,v3⟩;have t8:=t7.nx v2 v3;have an4:(JU m).length<=3+2*Df m.tg:=by
      unfold JU;cases hm:m.tg with
      | nil=>exact aF _
      | cons s l=>
       have:=HB s l;rw[Lib.join_cons,HA]at this;rw[ao,ao,ao];omega
     have mF:=fY [hd,gt,bt,JU m];simp only[aI,ep,bd,fO]at mF;have Ii:Md m=(iP m.acts+AR m.g)+(Df m.tg+(m.ev.length+1)):=rfl;obtain⟨q9,w9,e9,fG,_,hj9⟩:=zo w8 [hd,gt,bt,JU m] (n:=4) (parts:=#[.mk 0 (.string (T hd)),.mk 1 (.string (T gt)),.mk 2 (.string (T bt)),.mk 3 (.string (T (JU m)))]) rfl rfl (by decide) (by decide) (by omega);have z9:=fG.size;refine⟨_,rfl,t7.sm v3 (by simp),q9,w9,e9,t8.sq fG (by simp),hj9.mono ?_⟩;rintro _ cI ⟨rfl,acO⟩;have t10:=t8.q (pQ fG acO);have hU:=(hU3.tr hU4).tr (Wf.tr hU8);refine⟨_,rfl,t8.sj z9 acO (by simp),by rw[cK];omega,eB [hd,gt,bt,JU m]++[59],Wg,by rw[show ByteArray.mk #[59]=T [59]from rfl,jR],by rw[ah,aL];omega,fun e=>?_,hU.cg ?_ (by omega),t10.toQz,t10.m⟩
     ·obtain⟨x5,x8,_⟩:=hU8.ok e;obtain⟨x4,x5',_⟩:=Wf.ok x5;obtain⟨x3,x4',_⟩:=hU4.ok x4;obtain⟨x2,x3',_⟩:=u1.ok x3;obtain⟨x1,x2',_⟩:=Xl.ok x2;rw[hdt x2,gtt x4,btt e];refine Mh ?_;obtain⟨_,y,_⟩:=hU.ok e;exact(mvB m).symm.trans y
     ·exact mvB m
    ·have Q2:m.tg≠[]:=fun e=>by
      rw[e]at Ih;have:tg.n=0:=Ih;rw[this]at hc;exact absurd hc (by decide)
     have mF:(Lib.join m.tg [44,32]).length<=2*Df m.tg:=by
      cases hm:m.tg with
      | nil=>exact absurd hm Q2
      | cons s l=>exact HB s l
     refine(agk acJ [44,32] (by omega) (by omega)).mono ?_;rintro _ w7 ⟨rfl,fg⟩;refine⟨_,rfl,t5.sq fg (by simp),by rw[cK];omega,?_,t5.q fg⟩;rw[show ByteArray.mk #[45,62,32]=T [45,62,32]from rfl,jR];congr 1;unfold JU;cases hm:m.tg with
     | nil=>exact absurd hm Q2
     | cons s l=>
      rw[Lib.join_cons,HA];rfl
    ·have hz:m.tg=[]:=aW (by have:=ar hc;omega);refine⟨?_,t5⟩;unfold JU;rw[hz]
  ·refine(Hw t3.toQz ((gv false).keep hg fun k hk _=>h.arg t3.toQz (hF k hk)) hn.g (by omega) hE hT).mono ?_;rintro _ w4 ⟨rfl,F9,v1,v2,v3⟩;have t4:=t3.nx v2 v3;have:=Hz m.g;refine⟨_,rfl,t3.sm v3 (by simp),by rw[cK];omega,?_,91::(ui m.g++[93]),F9,?_,by simp;omega,fun _=>by unfold Uv;rw[if_pos OX],by rw[if_pos OX];exact v1,t4⟩
   ·rw[show ByteArray.mk #[91]=T [91]from rfl,jR,cK,ah,aL];omega
   ·rw[show ByteArray.mk #[91]=T [91]from rfl,show ByteArray.mk #[93]=T [93]from rfl,jR,jR];rfl
  ·refine(Hx t3.toQz ((gv false).keep hg fun k hk _=>h.arg t3.toQz (hF k hk))).mono ?_;rintro _ w4 ⟨rfl,F9,v1,v2,v3⟩;exact⟨rfl,t3.sm v3 (by simp),[],F9,rfl,aF _,fun _=>by unfold Uv;rw[if_neg (by rw[OX];decide)],by rw[if_neg (by rw[OX];decide)];exact v1,t3.nx v2 v3⟩
 ·have hk:m.k=1:=by simpa using hc
  refine(ku t1.toQz m.ev (by omega)).mono ?_;rintro _ w2 ⟨rfl,u9,v1,v2,v3⟩;have t2:=t1.nx v2 v3;have mF:=fY [xq,m.ev];simp only[aI,ep,bd,fO]at mF;have hw:xq.length=2:=rfl;obtain⟨q3,w3,e3,cU,_,OD⟩:=zo w2 [xq,m.ev] (n:=2) (parts:=#[.mk 0 (.string (T xq)),.mk 1 (.string (T m.ev))]) rfl rfl (by decide) (by decide) (by omega);have z3:=cU.size;refine⟨_,rfl,t1.sm v3 (by simp),q3,w3,e3,t2.sq cU (by simp),OD.mono ?_⟩;rintro _ w4 ⟨rfl,hP4⟩;exact⟨_,rfl,t2.sj z3 hP4 (by simp),_,u9,rfl,by omega,fun _=>by unfold Sm;rw[if_pos hk],by rw[if_pos hk];exact v1,t2.q (pQ cU hP4)⟩
 ·have kJ:m.k≠1:=by simpa using hc
  have hk:m.k=3:=by simpa using Rc
  refine(iv t1.toQz _).mono ?_;rintro _ w2 ⟨rfl,u9,v1,v2,v3⟩;have t2:=t1.nx v2 v3;refine⟨rfl,t1.sm v3 (by simp),(vX m.wt hn.w (hT.only t2.o)).mono ?_⟩;rintro _ w3 ⟨rfl,cU⟩;have t3:=t2.q cU;have mF:=fY [eY,Lib.itoa m.wt];simp only[aI,ep,bd,fO]at mF;have hw:eY.length=5:=rfl;have Jx:=xH hn.w;obtain⟨q4,w4,e4,cZ,_,hj4⟩:=zo w3 [eY,Lib.itoa m.wt] (n:=2) (parts:=#[.mk 0 (.string (T eY)),.mk 1 (.string (T (Lib.itoa m.wt)))]) rfl rfl (by decide) (by decide) (by omega);have z4:=cZ.size;refine⟨_,rfl,t2.sq cU (by simp),q4,w4,e4,t3.sq cZ (by simp),hj4.mono ?_⟩;rintro _ w5 ⟨rfl,hP5⟩;exact⟨_,rfl,t3.sj z4 hP5 (by simp),_,u9,rfl,by omega,fun _=>by unfold Sm;rw[if_neg kJ,if_pos hk],by rw[if_neg kJ,if_pos hk];exact v1,t3.q (pQ cZ hP5)⟩
 ·have kJ:m.k≠1:=by simpa using hc
  have yp:m.k≠3:=by simpa using Rc
  refine(iv t1.toQz _).mono ?_;rintro _ w2 ⟨rfl,u9,v1,v2,v3⟩;have t2:=t1.nx v2 v3;refine⟨rfl,t1.sm v3 (by simp),eO,u9,rfl,by show 6<=_;omega,fun _=>by unfold Sm;rw[if_neg kJ,if_neg yp],by rw[if_neg kJ,if_neg yp];exact v1,t2⟩
end
theorem Mi {w:World} {b:Nat} {q:Option Addr} {v1 v2 v3:Value} (hq:q=none∨q=some ⟨b,0,none⟩) (h:Blk w b 72 [.pointer q,v1,v2,v3]):
  Calls Tryz.prog 145 #[.pointer (some ⟨b,0,none⟩)] w fun e w'=>e=.returned (.tuple #[])/\Only [b] w w'/\Blk w' b 72 [.pointer (some ⟨b,0,none⟩),v1,v2,v3]:=by
 refine ret (R6 ⟨b,0,none⟩ (fun v w'=>v=.tuple #[]/\Only [b] w w'/\Blk w' b 72 [.pointer (some ⟨b,0,none⟩),v1,v2,v3]) w ?_);unfold Lc;have tJ:w.shape? b=some (72,4):=by
  unfold World.shape?;unfold Blk at h;rw[h];rfl
 refine⟨q,Blk.eo h 0 rfl,fun hn=>?_,fun hn=>⟨q,Blk.eo h 0 rfl,?_⟩⟩
 ·have hr1:=Lib.run_to_unsafe (P:=Tryz.prog) (src:=67) (dst:=248) w ⟨b,0,none⟩ (t:=70) (j:=Tryz.t70) (by kernel_rfl) (by kernel_rfl) (by kernel_rfl) (by decide) tJ (by decide:(0:Nat)<4);have hr2:=Lib.run_from_unsafe (P:=Tryz.prog) (src:=248) (dst:=67) w ⟨b,0,none⟩ (u:=70) (j:=Tryz.t70) (by kernel_rfl) (by kernel_rfl) (by kernel_rfl) tJ (by kernel_rfl);exact⟨⟨.pointer (some ⟨b,0,none⟩),rfl⟩,w,hr1,⟨.pointer (some ⟨b,0,none⟩),rfl⟩,w,Sb _ w,some ⟨b,0,none⟩,w,hr2,b,0,_,_,rfl,h,by simp,fun w3 hO hB=>⟨rfl,hO,hB⟩⟩
 ·rcases hq with rfl | rfl
  ·cases hn
  ·exact⟨false,w,Lib.run_neq_ptr_same w _ (te:=70) (j:=Tryz.t70) (by kernel_rfl) (by kernel_rfl),fun e=>(by cases e),fun _=>⟨rfl,Only.refl _ _,h⟩⟩
section
variable {w0 w:World} {b:Nat} {l:List UInt8} {st:St}
theorem Qh (h:Qz w0 b w l st) (m:List UInt8) (hm:l.length+m.length<=274877906944):Calls Tryz.prog 82 #[.pointer (some ⟨b,0,none⟩),.string (T m)] w fun e w'=>
  e=.returned (.tuple #[.int .i64 (m.length:Int),.nilIface])/\Qz w0 b w' (l++m) st/\Mw false b w w':=by
 refine ret (R5 ⟨b,0,none⟩ (T m) (fun v w'=>v=.tuple #[.int .i64 (m.length:Int),.nilIface]/\Qz w0 b w' (l++m) st/\Mw false b w w') w ?_);unfold Lb;obtain⟨q,sl,hq,hB,Td⟩:=h.ex;refine(Mi hq hB).mono ?_;rintro _ w1 ⟨rfl,cd,wm⟩;have z0:=cd.size;have hb:=hB.lt;have tL:Bf w1 (b+1) sl l:=Td.keep fun g hg hl=>cd.block g hl (by have:=(Td.lt hg).1;simp;omega);obtain⟨s',w2,k1,k2,k3,k4⟩:=GX tL m (by omega) (by omega);have z1:=k3.size;have vG:Blk w2 b 72 [.pointer (some ⟨b,0,none⟩),sl.v,.bool st.1,.int .i64 st.2]:=k3.blk wm fun e=>by have:=(tL.lt e).1;omega
 have zL:∀g,s'.a=some ⟨g,0,none⟩->b<g:=fun g hg=>by
  rcases k4 with e | e
  ·rw[e]at hg;exact(tL.lt hg).1
  ·rw[e]at hg;injection hg with hg;injection hg with hg;omega
 refine⟨rfl,sl,Blk.eo wm 1 rfl,s',w2,k1,b,1,_,_,rfl,vG,by simp,fun w3 cO ru=>?_⟩;have ru:Blk w3 b 72 [.pointer (some ⟨b,0,none⟩),s'.v,.bool st.1,.int .i64 st.2]:=ru;have ij:OnlyP (fun k=>k=b∨(false=false/\Bu w b k)) w w3:=((cd.p (F:=fun k=>k=b∨(false=false/\Bu w b k)) fun x hx=>.inl (.inl (by simpa using hx))).trans k3 fun k hk=>.inl (.inr ⟨rfl,Dc hB hk⟩)).trans (cO.p (F:=fun k=>k=b) fun x hx=>.inl (by simpa using hx)) fun k hk=>.inl (.inl hk);refine⟨by rw[cK],⟨?_,h.lo,⟨_,_,.inr rfl,ru,k2.keep fun g hg hl=>cO.block g hl (by have:=zL g hg;simp;omega)⟩,h.i,by rw[ah];exact hm⟩,ij,fun k hk=>?_⟩
 ·refine⟨ij.os.trans h.o.os,ij.tape.trans h.o.tape,ij.output.trans h.o.output,ay h.o.size ij.size,fun k hk _=>(ij.block k (bC hk h.o.size) ?_).trans (h.o.block k hk (by simp))⟩;rintro(e | ⟨_,e⟩)
  ·have:=h.lo;omega
  ·have:=(h.bu e).1;have:=h.lo;omega
 ·have e:=Hu ru hk;rcases k4 with e2 | e2
  ·exact .inl (Dc hB (e2▸e))
  ·rw[e2]at e;injection e with e;injection e with e;exact .inr ⟨rfl,by omega⟩
theorem Zq.sl {f g:Bool} {ws w1 w':World} {ks ks':List Nat} (t:Zq f w0 ws b w l st ks) (hO:Only [] w w1) (m:Mw g b w w') (hk:∀k,k∈ks'->k∈ks):aD ks' w1 w':=fun x hx=>
 (t.sm m hk x hx).trans (t.sq hO hk x hx).symm
theorem HD:∀d,Lib.repeatL [32,32] d=CY d
 | 0=>rfl
 | d+1=>by rw[Lib.repeatL,HD d];rfl
theorem HE:∀d,(CY d).length=2*d
 | 0=>rfl
 | d+1=>by rw[CY,ao,ao,HE d];omega
theorem uV (h:Qz w0 b w l st) (ws:List (List UInt8)) {n:Nat} {parts:Array (Nat×Value)} (hp:parts=(((ws.map fun x=>Value.string (T x)).zipIdx 0).map fun x=>(x.2,x.1)).toArray) (hn:ws.length=n) (h0:0<n) (zK:n*1<=16777216) (d:Nat) (hd:d<=12) (hl:(eB ws).length<=274877889536):
  ∃(q:Sl) (w1:World),(Instr.buildSlice 52 n parts).run Tryz.prog w=.ok q.v w1/\Only [] w w1/\Calls Tryz.prog 38 #[rp b,.int .i64 (d:Int),q.v] w1 fun e w'=>e=.returned (.tuple #[])/\Qz w0 b w' (if st.1 then l else jN l (d,eB ws)) st/\Mw false b w w':=by
 obtain⟨q,w1,e1,ait,bR⟩:=lI w ws hp hn h0 zK;refine⟨q,w1,e1,bR,?_⟩;have t1:=(h.z true).q bR;have hb:=h.lb;have hbu:∀k,Bu w b k->k<w.heap.size:=fun k hk=>(h.bu hk).2;refine ret (afm ⟨b,0,none⟩ (d:Int) q (fun v w'=>v=.tuple #[]/\Qz w0 b w' (if st.1 then l else jN l (d,eB ws)) st/\Mw false b w w') w1 ?_);unfold Zb;refine(Hy t1.toQz).mono ?_;rintro _ w2 ⟨rfl,rfl⟩;obtain⟨qq,sl,hB,_⟩:=t1.toQz.set;refine⟨_,rfl,st.1,fun _=>Blk.eo hB 2 rfl,fun hc w3 cU=>?_,fun hc=>?_⟩
 ·simp only[ab,ch,dE]at hc;obtain⟨F8,Eb⟩:=hc;have t3:=t1.q cU;refine(Tryz.strings_Repeat (T [32,32]) d w3 (by omega) (by show 2*d<=_;omega)).mono ?_;rintro _ w4 ⟨rfl,tK⟩;have cZ:=Only.below tK;have t4:=t3.q cZ;have We:=ait.keep cL (w':=w4) fun k hk bp=>(cU.cf cZ).block k bp (by simp);have Ek:=HE d;refine⟨T (CY d),by rw[show(T [32,32]).data.toList=[32,32]from rfl,HD],(xD We (by omega) (by omega)).mono ?_⟩;rintro _ w5 ⟨rfl,hP5⟩;have t5:=t4.row hb hbu hP5;refine⟨_,rfl,by rw[cK,cK];omega,by rw[jR,cK,ah];omega,?_⟩;rw[show ByteArray.mk #[10]=T [10]from rfl,jR,jR,show(Addr.add ⟨b,0,none⟩ 0:Addr)=⟨b,0,none⟩from rfl];refine(Qh t5.toQz _ ?_).mono ?_
  ·simp only[ah,ao,aM];omega
  rintro _ w6 ⟨rfl,h6,m6⟩;refine⟨_,⟨.nilIface,rfl⟩,rfl,rfl,?_,t5.m.up.trans m6⟩;rw[Eb,if_neg (by decide)];unfold jN JS;rw[if_neg F8];dsimp only;rw[av]at h6;exact h6
 ·refine⟨rfl,?_,t1.m.up⟩;have:(if st.1 then l else jN l (d,eB ws))=l:=by
   cases e:st.1
   ·rw[e]at hc;have hc:16384<l.length:=by simpa using hc
    rw[if_neg (by decide)];unfold jN;rw[if_pos hc]
   ·rfl
  rw[this];exact t1.toQz
theorem xI (h:Qz w0 b w l st) (d:Nat) (hd:d<=12) (word text:List UInt8) (hw:word.length<=100) (hl:text.length<=274877880000):
  Calls Tryz.prog 87 #[rp b,.int .i64 (d:Int),.string (T word),.string (T text)] w fun e w'=>e=.returned (.tuple #[])/\Qz w0 b w' (if st.1||decide (text=[])then l else jN l (d,eB [word,text])) st/\Mw false b w w':=by
 refine ret (afs ⟨b,0,none⟩ (d:Int) (T word) (T text) (fun v w'=>v=.tuple #[]/\Qz w0 b w' (if st.1||decide (text=[])then l else jN l (d,eB [word,text])) st/\Mw false b w w') w ?_);unfold Zj;rw[show ByteArray.mk #[]=T []from rfl,jW];refine⟨fun hc=>?_,fun hc=>?_⟩
 ·have hc:text≠[]:=by simpa using hc
  have mF:=fY [word,text];simp only[aI,ep,bd,fO]at mF;obtain⟨q,w1,e1,bR,hj⟩:=uV h [word,text] (n:=2) (parts:=#[.mk 0 (.string (T word)),.mk 1 (.string (T text))]) rfl rfl (by decide) (by decide) d hd (by omega);refine⟨q,w1,e1,hj.mono ?_⟩;rintro _ w2 ⟨rfl,h2,m2⟩;refine⟨rfl,rfl,?_,m2⟩;rw[aK hc,Bool.or_false];exact h2
 ·have hc:text=[]:=by simpa using hc
  refine⟨rfl,?_,Mw.refl _ _ _⟩;rw[aZ hc,mh,if_pos rfl];exact h
end
def tc:List Mv->Nat
 | []=>0
 | m::l=>Md m+tc l
def Fj (b:Nb):Nat:=((b.nm.length+b.ini.length)+(b.dft.length+1))+((iP b.en+iP b.lv)+tc b.mv)
mutual
def mY:Nd->Nat
 | .mk b l=>Fj b+iC l
def iC:List Nd->Nat
 | []=>0
 | x::l=>mY x+iC l
end
theorem xJ {m:Mv}:∀{l:List Mv},m∈l->Md m<=tc l
 | [],h=>by simp at h
 | x::l,h=>by
  rw[tc];rcases ak.1 h with rfl | h
  ·omega
  ·have:=xJ h;omega
theorem nL:∀(l:List Mv),l.length<=tc l
 | []=>aF _
 | m::l=>by
  have:=nL l;rw[tc,ao];unfold Md;omega
theorem nM {x:Nd}:∀{l:List Nd},x∈l->mY x<=iC l
 | [],h=>by simp at h
 | y::l,h=>by
  rw[iC];rcases ak.1 h with rfl | h
  ·omega
  ·have:=nM h;omega
theorem Qi (x:Nd):1<=mY x:=by
 obtain⟨b,l⟩:=x;rw[mY];unfold Fj;omega
theorem pR:∀(l:List Nd),l.length<=iC l
 | []=>aF _
 | x::l=>by
  have:=pR l;have:=Qi x;rw[iC,ao];omega
theorem Dh {x:Nd}:∀{l:List Nd},ma l->x∈l->vu x
 | [],_,h=>by simp at h
 | y::l,hn,h=>by
  rw[ma]at hn;rcases ak.1 h with rfl | h
  ·exact hn.1
  ·exact Dh hn.2 h
theorem xK (d:Nat) (x:Nd):∀l:List Nd,fW d (l++[x])=(fW d l&&jk d x)
 | []=>by simp[fW]
 | y::l=>by rw[bc,fW,fW,xK d x l,yQ]
theorem zu (x:Nd):∀l:List Nd,jc (l++[x])=jc l+rL x
 | []=>by simp[jc]
 | y::l=>by rw[bc,jc,jc,zu x l];omega
theorem zv (d:Nat) (x:Nd):∀l:List Nd,oy d (l++[x])=oy d l++I5 d x
 | []=>by simp[oy]
 | y::l=>by rw[bc,oy,oy,zv d x l,av]
def vA (x:Nb) (ks:List Nd) (d:Nat):Bool:=(decide (x.ini=[])||cN x.ini)&&(x.en.all gw&&(x.lv.all gw&&(x.mv.all mO&&fW d ks)))
theorem ke (l:List UInt8) (p:Ln):eA l [p]=jN l p:=rfl
theorem Mj (l:List Ac):yC l≠[]:=by unfold yC;simp
theorem td {bH:St} {l l1 l2:List UInt8} {L M:List Ln} {Il:St} {c:Bool} {n:Nat} (hU:Up Il c n bH) (h1:Il.1=false->l1=eA l L) (h2:bH.1=false->l2=eA l1 M):bH.1=false->l2=eA l (L++M):=fun e=>by
 rw[h2 e,h1 (hU.ok e).1,iu]
def Ml (D:Nat):Prop:=∀(w0 w:World) (b:Nat) (l:List UInt8) (st:St) (F:Nat->Prop) (x:Nd) (cs:List Value) (d:Nat),Qz w0 b w l st->lQ false D w F x cs->(∀k,F k->k<w0.heap.size)->vu x->mY x<=8388608->d<=12->Er w0->Tb w0->
 Calls Tryz.prog 90 #[rp b,.agg cs.toArray,.int .i64 (d:Int)] w fun e w'=>e=.returned (.tuple #[])/\∃bH l',Up st (jk d x) (rL x) bH/\(bH.1=false->l'=eA l (I5 d x))/\Qz w0 b w' l' bH/\Mw false b w w'
section
variable {w0 w:World} {b:Nat} {l:List UInt8} {st:St}
theorem Mm {D:Nat} (hN:Ml D) (h:Qz w0 b w l st) {F:Nat->Prop} {x:Nb} {en lv mv kids:Sl} {ks:List Nd} (hb:AP false w F x en lv mv) (hk:gH false (lQ false D) 9 27 w F kids ks) (hF:∀k,F k->k<w0.heap.size) (hn:OW x) (hnk:ma ks) (hs:Fj x+iC ks<=8388608) (d:Nat) (hd:d<=12) (hE:Er w0) (hT:Tb w0):
  Calls Tryz.prog 41 #[rp b,.agg (ly x.k x.nm x.ini x.dft en lv mv kids x.a).toArray,.int .i64 (d:Int)] w fun e w'=>e=.returned (.tuple #[])/\∃bH l',Up st (vA x ks d) (xx x+jc ks) bH/\(bH.1=false->l'=eA l (LV d x++oy d ks))/\Qz w0 b w' l' bH/\Mw false b w w':=by
 have Jw:=hs;unfold Fj at Jw;have Ka:=nL x.mv;have FV:=pR ks;obtain⟨ve,tN,lA⟩:=hb;have ve:=ve.1;have tN:=tN.1;have lA:=lA.1;have hk:=hk.1;refine ret (afr ⟨b,0,none⟩ x.k (T x.nm) (T x.ini) (T x.dft) en lv mv kids x.a (d:Int) (fun v w'=>v=.tuple #[]/\∃bH l',Up st (vA x ks d) (xx x+jc ks) bH/\(bH.1=false->l'=eA l (LV d x++oy d ks))/\Qz w0 b w' l' bH/\Mw false b w w') w ?_);unfold Zh;intro k0 w1 fQ eE bR;have t1:=(h.z false).al bR fQ eE;rw[show ByteArray.mk #[]=T []from rfl,jW];refine⟨fun w'=>∃Il l1,Up st (decide (x.ini=[])||cN x.ini) 0 Il/\(Il.1=false->l1=eA l (LU d x))/\Zq false w0 w b w' l1 Il [k0],?_,fun hc=>?_,fun hc=>?_⟩
 ·rintro w2 ⟨u9,l2,Xl,BL,t2⟩;refine(A1 t2.toQz (SliceF.keep (cA false) ve (by decide) fun k hk _=>h.arg t2.toQz (hF k hk)) hF hn.en (by omega) hE hT).mono ?_;rintro _ w3 ⟨tx3,Wb,rfl,tl3,tt3,hU3,q3,m3⟩;have t3:=t2.nx q3 m3.up;refine⟨_,rfl,t2.sm m3 (by simp),(xI t3.toQz d hd eS tx3 (by decide) (by omega)).mono ?_⟩;rintro _ w4 ⟨rfl,q4,m4⟩;have t4:=t3.nx q4 m4;have hl4:Wb.1=false->(if Wb.1||decide (tx3=[])then l2 else jN l2 (d,eB [eS,tx3]))=eA l2 (enL d x):=fun e=>by
   rw[e,tt3 e];unfold enL;by_cases he:x.en=[]
   ·rw[if_pos he,if_pos he];rfl
   ·rw[if_neg he,if_neg he,aK (Mj _),if_neg (by decide),ke,mD (by decide),dW (by rfl),dc,dV,kc,aN]
  generalize (if Wb.1||decide (tx3=[])then l2 else jN l2 (d,eB [eS,tx3]))=l4 at*
  refine⟨rfl,t3.sm m4 (by simp),(A1 t4.toQz (SliceF.keep (cA false) tN (by decide) fun k hk _=>h.arg t4.toQz (hF k hk)) hF hn.lv (by omega) hE hT).mono ?_⟩;rintro _ w5 ⟨tx5,Q9,rfl,tl5,tt5,Wf,q5,m5⟩;have t5:=t4.nx q5 m5.up;refine⟨_,rfl,t4.sm m5 (by simp),(xI t5.toQz d hd eT tx5 (by decide) (by omega)).mono ?_⟩;rintro _ w6 ⟨rfl,q6,m6⟩;have t6:=t5.nx q6 m6;have hl6:Q9.1=false->(if Q9.1||decide (tx5=[])then l4 else jN l4 (d,eB [eT,tx5]))=eA l4 (lvL d x):=fun e=>by
   rw[e,tt5 e];unfold lvL;by_cases he:x.lv=[]
   ·rw[if_pos he,if_pos he];rfl
   ·rw[if_neg he,if_neg he,aK (Mj _),if_neg (by decide),ke,mD (by decide),dW (by rfl),dc,dV,kc,aN]
  generalize (if Q9.1||decide (tx5=[])then l4 else jN l4 (d,eB [eT,tx5]))=l6 at*
  have hL4:=td hU3 BL hl4;have Te:=td Wf hL4 hl6;refine⟨rfl,t5.sm m6 (by simp),fun nv i w'=>∃(j:Nat) (bH:St) (l':List UInt8),i=j/\j<=x.mv.length/\nv=x.mv.length-j/\Up Q9 ((x.mv.take j).all mO) ((x.mv.take j).map fun m=>m.acts.length).sum bH/\(bH.1=false->l'=eA l6 ((x.mv.take j).map fun m=>(d,E6 m)))/\Zq false w0 w b w' l' bH [k0],
   x.mv.length,⟨0,Q9,l6,rfl,aF _,rfl,t6.toQz.U5,fun _=>rfl,t6⟩,?_⟩
  rintro nv _ w7 ⟨j,Ta,l7,rfl,hj,rfl,It,Wh,t7⟩;have ali:=lA.len;have aiv:SliceF (BG false) 13 w7 F mv x.mv:=SliceF.keep (eU false) lA (by decide) fun k hk _=>h.arg t7.toQz (hF k hk);refine⟨fun hc=>?_,fun hc=>?_⟩
  ·have bp:(j:Int)<mv.n:=aj hc;obtain⟨ad,m,cs,g1,g2,g3,g4,g5,g6⟩:=aiv.get (aG j) bp;rw[az]at g2;have Ir:=aE g2;have hms:=xJ Ir;have pc:x.mv.take (j+1)=x.mv.take j++[m]:=by
    rw[aY,g2];rfl
   have Wi:=g6;obtain⟨gc,ql,tg,rfl,r1,r2,r3⟩:=Wi;obtain⟨gl,rfl⟩:=fV r1;refine⟨ad,g1,_,_,_,_,_,_,_,_,_,_,_,_,_,g5,fun k3 w8 yp vL fy=>?_⟩;have t8:=t7.al fy yp vL;refine(Uw t8.toQz ((eU false).keep g6 fun k _ bp=>fy.block k bp (by simp)) hF (hn.mv m Ir) (by omega) hE hT).mono ?_;rintro _ w9 ⟨tx9,Wc,rfl,tl9,tt9,Tc,q9,m9⟩;have t9:=t8.nx q9 m9.up;have mF:=fY [tx9];simp only[aI,ep,bd,fO]at mF;obtain⟨q10,cI,D4,dm,Wj⟩:=uV t9.toQz [tx9] (n:=1) (parts:=#[.mk 0 (.string (T tx9))]) rfl rfl (by decide) (by decide) d hd (by omega);refine⟨_,rfl,t8.sm m9 (by simp),q10,cI,D4,t9.sq dm (by simp),Wj.mono ?_⟩;rintro _ cS ⟨rfl,Vs,m11⟩;have t11:=t9.nx Vs m11;refine⟨rfl,t9.sl dm m11 (by simp),x.mv.length-(j+1),by omega,j+1,Wc,_,by rw[gV (by omega) (by omega)];rfl,by omega,rfl,(It.tr Tc).cg ?_ ?_,fun e=>?_,⟨t11.toQz,t11.m,fun k hk=>t11.k k (by simp at hk;simp[hk])⟩⟩
   ·rw[pc,wv];simp
   ·rw[pc,cq,List.sum_append];simp
   ·rw[e,if_neg (by decide),Wh (Tc.ok e).1,pc,cq,iu,tt9 e];show _=jN _ (d,E6 m);have:ne (E6 m)=true:=by
     have:E6 m≠[]:=by unfold E6;simp
     unfold ne;rw[aK this];rfl
    rw[mD this,dc,kc,aN]
  ·have yg:¬(j:Int)<mv.n:=ar hc;have mc:j=x.mv.length:=by omega
   subst mc;rw[aO (aq _)]at It Wh;have Tf:=td It Te Wh;refine⟨fun nv i w'=>∃(j:Nat) (bH:St) (l':List UInt8),i=j/\j<=ks.length/\nv=ks.length-j/\Up Ta (fW d (ks.take j)) (jc (ks.take j)) bH/\(bH.1=false->l'=eA l7 (oy d (ks.take j)))/\Zq false w0 w b w' l' bH [k0],
    ks.length,⟨0,Ta,l7,rfl,aF _,rfl,by rw[cQ,fW,jc];exact t7.toQz.U5,fun _=>by rw[cQ,oy];rfl,t7⟩,?_⟩
   rintro nv _ cS ⟨j,Wk,qW,rfl,hj,rfl,Re,Wl,t11⟩;have alj:=hk.len;have aix:SliceF (lQ false D) 9 cS F kids ks:=SliceF.keep (bI false D) hk (by decide) fun k hk _=>h.arg t11.toQz (hF k hk);refine⟨fun hc=>?_,fun hc=>?_⟩
   ·have bp:(j:Int)<kids.n:=aj hc;obtain⟨ad,y,cs,g1,g2,g3,g4,g5,g6⟩:=aix.get (aG j) bp;rw[az]at g2;have hym:=aE g2;have hys:=nM hym;have pc:ks.take (j+1)=ks.take j++[y]:=by
     rw[aY,g2];rfl
    have Wi:=g6;cases D with
    | zero=>exact Wi.elim
    | succ D=>
    obtain⟨uH,uI,pd,jj,rfl,_⟩:=Wi;refine⟨ad,g1,_,_,_,_,uH,uI,pd,jj,_,g5,fun k7 dK hk7 Wm eJ=>?_⟩;have t12:=t11.al eJ hk7 Wm;refine(hN _ _ _ _ _ _ _ _ d t12.toQz ((bI false _).keep g6 fun k _ bp=>eJ.block k bp (by simp)) hF (Dh hnk hym) (by omega) hd hE hT).mono ?_;rintro _ dX ⟨rfl,Wn,wi,acU,aiz,q13,m13⟩;have t13:=t12.nx q13 m13;refine⟨rfl,t12.sm m13 (by simp),ks.length-(j+1),by omega,j+1,Wn,wi,by rw[gV (by omega) (by omega)];rfl,by omega,rfl,(Re.tr acU).cg ?_ ?_,fun e=>?_,⟨t13.toQz,t13.m,fun k hk=>t13.k k (by simp at hk;simp[hk])⟩⟩
    ·rw[pc,xK]
    ·rw[pc,zu]
    ·rw[aiz e,Wl (acU.ok e).1,pc,zv,iu]
   ·have yg:¬(j:Int)<kids.n:=ar hc;have mc:j=ks.length:=by omega
    subst mc;rw[aO (aq _)]at Re Wl;have aiA:=td Re Tf Wl;refine⟨rfl,Wk,qW,(Xl.tr (hU3.tr (Wf.tr (It.tr Re)))).cg rfl ?_,fun e=>?_,t11.toQz,t11.m⟩
    ·unfold xx;omega
    ·rw[aiA e];unfold LV mvL;simp only[av]
 ·have hc:x.ini≠[]:=by simpa using hc
  refine(ku t1.toQz x.ini (by omega)).mono ?_;rintro _ w2 ⟨rfl,u9,Xl,q2,m2⟩;have t2:=t1.nx q2 m2.up;refine⟨_,rfl,t1.sm m2 (by simp),by rw[cK];omega,?_⟩;rw[show ByteArray.mk #[59]=T [59]from rfl,jR];refine(xI t2.toQz d hd dw (x.ini++[59]) (by decide) (by rw[ah,aL];omega)).mono ?_;rintro _ w3 ⟨rfl,q3,m3⟩;refine⟨rfl,t2.sm m3 (by simp),u9,_,Xl.cg (by rw[aK hc,Bool.false_or]) rfl,fun e=>?_,t2.nx q3 m3⟩;have eI:x.ini++[59]≠[]:=by simp
  have N9:ne (x.ini++[59])=true:=by unfold ne;rw[aK eI];rfl
  rw[e,aK eI,if_neg (by decide),mD (by decide),dW N9,dc,dV,kc,aN];unfold LU;rw[if_neg hc];rfl
 ·have hc:x.ini=[]:=by simpa using hc
  refine⟨st,l,h.U5.cg (by rw[aZ hc];rfl) rfl,fun _=>by unfold LU;rw[if_pos hc];rfl,t1⟩
end
theorem Up.more {st bH:St} {c:Bool} {n:Nat} (h:Up st c 0 bH) (hn:c=true->n=0):Up st c n bH:=by
 cases c with
 | true=>rw[hn rfl];exact h
 | false=>
  refine⟨?_,fun e=>?_⟩
  ·rw[h.w];simp
  ·have:=h.w;rw[e]at this;simp at this
def Sn:List (List UInt8):=[[],AH,qC,sQ,G0]
theorem aam {k:Int} (h1:1<=k) (h2:k<=4):Sn[k.toNat]? =some (kW k):=by
 have:k=1∨k=2∨k=3∨k=4:=by omega
 rcases this with rfl | rfl | rfl | rfl<;>rfl
theorem So (k:Int):ne (kW k)=true:=by
 unfold kW;split
 ·rfl
 split
 ·rfl
 split
 ·rfl
 ·rfl
theorem Ux (k:Int):(kW k).length<=8:=by
 unfold kW;split
 ·decide
 split
 ·decide
 split
 ·decide
 ·decide
theorem HF {d:Nat} {b:Nb} {l:List Nd} (hk:b.k=1∨b.k=2) (hd:d<12):((decide (b.dft=[])&&cN b.nm)&&vA b l (d+1))=jk d (.mk b l):=by
 have hh:gW b.k=false:=by unfold gW;exact aK (by omega)
 rw[jk,aZ hd,dl];unfold rK vA;rw[hh,if_neg (by decide)];have:decide ((b.k=1∨b.k=2)/\b.dft=[])=decide (b.dft=[]):=by simp[hk]
 rw[this];generalize decide (b.dft=[])=A;generalize cN b.nm=B;generalize (decide (b.ini=[])||cN b.ini)=C;generalize b.en.all gw=D;generalize b.lv.all gw=E;generalize b.mv.all mO=G;generalize fW (d+1) l=H;cases A<;>cases B<;>cases C<;>cases D<;>cases E<;>cases G<;>cases H<;>rfl
theorem HG {d:Nat} {b:Nb} {l:List Nd} (hk:b.k=3∨b.k=4) (hd:d<12):(((decide (b.ini=[])&&decide (b.en=[]/\b.lv=[]/\b.mv=[]/\l=[]))&&cN b.nm)&&cN b.dft)=jk d (.mk b l):=by
 have hh:gW b.k=true:=by unfold gW;exact aZ hk
 rw[jk,aZ hd,dl];unfold rK;rw[hh,if_pos rfl];by_cases hl:l=[]
 ·subst hl;have:decide (b.ini=[]/\b.en=[]/\b.lv=[]/\b.mv.length=0/\([]:List Nd).length=0)=(decide (b.ini=[])&&decide (b.en=[]/\b.lv=[]/\b.mv=[]/\([]:List Nd)=[])):=by
   rw[br];simp
  rw[this,fW];generalize decide (b.ini=[])=A;generalize decide (b.en=[]/\b.lv=[]/\b.mv=[]/\([]:List Nd)=[])=B;cases A<;>cases B<;>cases cN b.nm<;>cases cN b.dft<;>rfl
 ·have h1:decide (b.en=[]/\b.lv=[]/\b.mv=[]/\l=[])=false:=aK fun h=>hl h.2.2.2;have h2:decide (b.ini=[]/\b.en=[]/\b.lv=[]/\b.mv.length=0/\l.length=0)=false:=aK fun h=>hl (aW h.2.2.2.2);rw[h1,h2];simp
theorem HH {d:Nat} {b:Nb} {l:List Nd} (h:¬(1<=b.k/\b.k<=4)∨12<=d):jk d (.mk b l)=false:=by
 rw[jk];rcases h with h | h
 ·have hh:gW b.k=false:=by unfold gW;exact aK (by omega)
  have:decide ((b.k=1∨b.k=2)/\b.dft=[])=false:=aK (by omega);unfold rK;rw[hh,if_neg (by decide),this];simp
 ·rw[aK (by omega)];rfl
theorem HI:∀D,Ml D
 | 0=>by
  intro w0 w b l st F x cs d h hx;exact hx.elim
 | D+1=>by
  intro w0 w b l st F x cs d h hx hF hn hs hd hE hT;obtain⟨bb,ks⟩:=x;have Tg:=hx;obtain⟨en,lv,mv,kids,rfl,vF,rz⟩:=hx;have vF:AP false w F bb en lv mv:=vF;have rz:gH false (lQ false D) 9 27 w F kids ks:=rz;show Calls Tryz.prog 90 #[rp b,.agg (ly bb.k bb.nm bb.ini bb.dft en lv mv kids bb.a).toArray,.int .i64 (d:Int)] w _;rw[vu]at hn;rw[mY]at hs;have Jw:=hs;unfold Fj at Jw;refine ret (afE ⟨b,0,none⟩ bb.k (T bb.nm) (T bb.ini) (T bb.dft) en lv mv kids bb.a (d:Int) (fun v w'=>v=.tuple #[]/\∃bH l',Up st (jk d (.mk bb ks)) (rL (.mk bb ks)) bH/\(bH.1=false->l'=eA l (I5 d (.mk bb ks)))/\Qz w0 b w' l' bH/\Mw false b w w') w ?_);unfold Zy;intro k0 w1 fQ eE bR;have t1:=(h.z false).al bR fQ eE;obtain⟨q,sl,hB,_⟩:=t1.toQz.set;have bad:∀{w':World} {bH:St} {lx:List UInt8},bH.1=true->Zq false w0 w b w' lx bH [k0]->(st.1=true∨jk d (.mk bb ks)=false)->∃bH l',Up st (jk d (.mk bb ks)) (rL (.mk bb ks)) bH/\(bH.1=false->l'=eA l (I5 d (.mk bb ks)))/\Qz w0 b w' l' bH/\Mw false b w w':=by
   intro w' bH lx e t hc;refine⟨bH,lx,⟨?_,fun e2=>absurd (e.symm.trans e2) (by decide)⟩,fun e2=>absurd (e.symm.trans e2) (by decide),t.toQz,t.m⟩;rw[e];rcases hc with hc | hc
   ·rw[hc];rfl
   ·rw[hc];simp
  refine⟨st.1,Blk.eo hB 2 rfl,fun hc=>?_,fun hc=>?_⟩
  ·refine(iv t1.toQz false).mono ?_;rintro _ w2 ⟨rfl,u9,u1,u2,u3⟩;refine⟨rfl,t1.sm u3 (by simp),rfl,bad (by rw[u1.w];simp) (t1.nx u2 u3.up) ?_⟩;rw[cp]at hc;rcases hc with hc | hc
   ·exact .inl hc
   ·exact .inr (HH (.inr (by have:=aj hc;omega)))
  rw[gK]at hc;have Wo:d<12:=by have:=ar hc.2;omega
  obtain⟨q2,w2,g,cs,e2,cO,hg1,hg2,ru,bN⟩:=Mb w1 Sn (n:=5) (parts:=#[.mk 0 (.string (ByteArray.mk #[])),.mk 1 (.string (ByteArray.mk #[115,116,97,116,101])),.mk 2 (.string (ByteArray.mk #[112,97,114,97,108,108,101,108])),.mk 3 (.string (ByteArray.mk #[104,105,115,116,111,114,121])),.mk 4 (.string (ByteArray.mk #[100,101,101,112]))]) rfl rfl (by decide) (by decide);have t2:=t1.al cO hg1 hg2;have hwd:1<=bb.k/\bb.k<=4->cD q2 bb.k 1 ⟨g,bb.k.toNat,none⟩/\∀w',Blk w' g 9 cs->aB w' ⟨g,bb.k.toNat,none⟩ [.string (T (kW bb.k))]:=fun hk=>by
   have:=bN _ _ (aam hk.1 hk.2);rwa[dT (by omega)]at this
  have FV:=Ux bb.k;have z2:∀{w3:World},Only [] w2 w3->Blk w3 g 9 cs:=fun hO=>hO.blk ru (by simp);have z2m:∀{w3 w4:World} {lx:List UInt8} {sx:St} {f:Bool},Zq false w0 w b w3 lx sx [g,k0]->Mw f b w3 w4->Blk w3 g 9 cs->Blk w4 g 9 cs:=fun t m hB=>(t.sm (ks':=[g]) m (by simp) g (by simp)).trans hB;refine⟨q2,w2,e2,t1.sq cO (by simp),fun b1 w3=>w2=w3/\b1=decide (bb.k=1∨bb.k=2),?_,fun F8=>⟨rfl,?_⟩,fun F8=>⟨rfl,?_⟩⟩
  ·rintro b1 _ ⟨rfl,rfl⟩;refine⟨fun Rc=>?_,fun Rc=>?_⟩
   ·have hk:=aj Rc;have hkr:1<=bb.k/\bb.k<=4:=by omega
    obtain⟨y1,y2⟩:=hwd hkr;rw[show ByteArray.mk #[]=T []from rfl,jW];refine(iv t2.toQz _).mono ?_;rintro _ w4 ⟨rfl,F9,u1,u2,u3⟩;have t4:=t2.nx u2 u3.up;refine⟨rfl,t2.sm u3 (by simp),fun w5 eC=>⟨fun k=>k∈[k0,g],by simp,_,y1,by simp,_,y2 w5 (eC.blk (z2m t2 u3 ru) (by simp)),?_⟩⟩;have t5:=t4.q eC;refine(ku t5.toQz bb.nm (by omega)).mono ?_;rintro _ w6 ⟨rfl,st6,v1,v2,v3⟩;have t6:=t5.nx v2 v3.up;have mF:=fY [kW bb.k,bb.nm,[123]];simp only[aI,ep,bd,fO,ao,aM]at mF;obtain⟨q7,w7,e7,fg,hj7⟩:=uV t6.toQz [kW bb.k,bb.nm,[123]] (n:=3) (parts:=#[.mk 0 (.string (T (kW bb.k))),.mk 1 (.string (T bb.nm)),.mk 2 (.string (T [123]))]) rfl rfl (by decide) (by decide) d hd (by omega);refine⟨_,rfl,t5.sm v3 (by simp),be.of (t5.sm v3 (by simp)),q7,w7,e7,t6.sq fg (by simp),be.of (t6.sq fg (by simp)),hj7.mono ?_⟩;rintro _ w8 ⟨rfl,x1,x2⟩;have t8:=t6.nx x1 x2;have hl8:st6.1=false->(if st6.1 then l else jN l (d,eB [kW bb.k,bb.nm,[123]]))=eA l [(d,kW bb.k++32::(bb.nm++[32,123]))]:=fun e=>by
     rw[e,if_neg (by decide),ke,mD (So _),dW (oz (v1.ok e).2.1),dW (by rfl),dc,dV,dV,kc];rfl
    generalize (if st6.1 then l else jN l (d,eB [kW bb.k,bb.nm,[123]]))=l8 at*
    have ed:IntKind.wrap .i64 ((d:Int)+1)=((d+1:Nat):Int):=by rw[gV (by omega) (by omega)];rfl
    rw[ed];refine⟨rfl,t6.sl fg x2 (by simp),be.of (t6.sl fg x2 (by simp)),(Mm (HI D) t8.toQz (vF.keep fun k hk _=>h.arg t8.toQz (hF k hk)) (rz.keep (bI false D) (by decide) fun k hk _=>h.arg t8.toQz (hF k hk)) hF hn.1 hn.2 hs (d+1) (by omega) hE hT).mono ?_⟩;rintro _ w9 ⟨rfl,Wc,l9,Tc,hl9,y3,y4⟩;have t9:=t8.nx y3 y4;obtain⟨q10,cI,D4,dm,Wj⟩:=uV t9.toQz [[125]] (n:=1) (parts:=#[.mk 0 (.string (T [125]))]) rfl rfl (by decide) (by decide) d hd (by decide);refine⟨rfl,t8.sm y4 (by simp),q10,cI,D4,t9.sq dm (by simp),Wj.mono ?_⟩;rintro _ cS ⟨rfl,x3,x4⟩;have t11:=t9.nx x3 x4;refine⟨rfl,t9.sl dm x4 (by simp),rfl,Wc,_,((u1.tr v1).tr Tc).cg (HF hk Wo) (by rw[rL];omega),fun e=>?_,t11.toQz,t11.m⟩;have hh:gW bb.k=false:=by unfold gW;exact aK (by omega)
    rw[I5,hh,e];simp only[dG,fI];rw[hl9 e,hl8 (Tc.ok e).1,<-iu];have e1:eB [[125]]=[125]:=by decide
    rw[e1,<-ke,<-iu];simp only[av,bc,aV]
   ·have hnk:=ar Rc;refine⟨fun b2 dK=>w2=dK/\b2=decide (bb.k=3∨bb.k=4),?_,fun hc4=>⟨rfl,?_⟩,fun hc4=>⟨rfl,?_⟩⟩
    ·rintro b2 _ ⟨rfl,rfl⟩;refine⟨fun hc5=>?_,fun hc5=>?_⟩
     ·have hk:=aj hc5;have hkr:1<=bb.k/\bb.k<=4:=by omega
      obtain⟨y1,y2⟩:=hwd hkr;have n4:=vF.1.1.len;have n5:=vF.2.1.1.len;have n6:=vF.2.2.1.len;have n7:=rz.1.len;have a4:=lU bb.en;have a5:=lU bb.lv;have a6:=nL bb.mv;have a7:=pR ks;have aiE:(IntKind.wrap .i64 ((IntKind.wrap .i64 ((IntKind.wrap .i64 ((en.n:Int)+(lv.n:Int)))+(mv.n:Int)))+(kids.n:Int))==0)=decide (bb.en=[]/\bb.lv=[]/\bb.mv=[]/\ks=[]):=by
       rw[gV (x:=(en.n:Int)+(lv.n:Int)) (by omega) (by omega),gV (x:=(en.n:Int)+(lv.n:Int)+(mv.n:Int)) (by omega) (by omega),gV (by omega) (by omega),br];simp only[iR,bB];refine⟨fun e=>?_,fun⟨e1,e2,e3,e4⟩=>?_⟩
       ·exact⟨aW (by omega),aW (by omega),aW (by omega),aW (by omega)⟩
       ·rw[n4,n5,n6,n7,e1,e2,e3,e4];rfl
      rw[show ByteArray.mk #[]=T []from rfl,jW,aiE];refine(iv t2.toQz _).mono ?_;rintro _ dX ⟨rfl,Wn,u1,u2,u3⟩;have t13:=t2.nx u2 u3.up;refine⟨rfl,t2.sm u3 (by simp),fun eK dz=>⟨fun k=>k∈[k0,g],by simp,_,y1,by simp,_,y2 eK (dz.blk (z2m t2 u3 ru) (by simp)),by simp,?_⟩⟩;have t14:=t13.q dz;refine(ku t14.toQz bb.nm (by omega)).mono ?_;rintro _ gn ⟨rfl,aob,v1,v2,v3⟩;have t15:=t14.nx v2 v3.up;refine⟨_,rfl,t14.sm v3 (by simp),be.of (t14.sm v3 (by simp)),(ku t15.toQz bb.dft (by omega)).mono ?_⟩;rintro _ gR ⟨rfl,aiF,x1,x2,x3⟩;have t16:=t15.nx x2 x3.up;have mF:=fY [kW bb.k,bb.nm,[45,62],bb.dft++[59]];simp only[aI,ep,bd,fO,ao,aM,ah]at mF;obtain⟨q17,fR,e17,jI,aiG⟩:=uV t16.toQz [kW bb.k,bb.nm,[45,62],bb.dft++[59]] (n:=4) (parts:=#[.mk 0 (.string (T (kW bb.k))),.mk 1 (.string (T bb.nm)),.mk 2 (.string (T [45,62])),.mk 3 (.string (T (bb.dft++[59])))]) rfl rfl (by decide) (by decide) d hd (by omega);refine⟨T bb.dft,rfl,t15.sm x3 (by simp),be.of (t15.sm x3 (by simp)),by rw[cK];omega,q17,fR,by rw[show ByteArray.mk #[59]=T [59]from rfl,jR];exact e17,t16.sq jI (by simp),be.of (t16.sq jI (by simp)),aiG.mono ?_⟩;rintro _ jH ⟨rfl,y3,y4⟩;have t18:=t16.nx y3 y4;have hU:=((u1.tr v1).tr x1).cg (HG hk Wo) rfl;refine⟨rfl,t16.sl jI y4 (by simp),be.of (t16.sl jI y4 (by simp)),rfl,aiF,_,hU.more fun oB=>?_,fun e=>?_,t18.toQz,t18.m⟩
      ·rw[<-HG hk Wo]at oB;simp only[ab,bB]at oB;obtain⟨⟨⟨_,e1,e2,e3,e4⟩,_⟩,_⟩:=oB;rw[rL,e4,jc];unfold xx;rw[e1,e2,e3];rfl
      ·have hh:gW bb.k=true:=by unfold gW;exact aZ hk
       have N9:ne (bb.dft++[59])=true:=by
        have:bb.dft++[59]≠[]:=by simp
        unfold ne;rw[aK this];rfl
       rw[I5,hh,if_pos rfl,e,if_neg (by decide),ke,mD (So _),dW (oz (v1.ok (x1.ok e).1).2.1),dW (by rfl),dW N9,dc,dV,dV,dV,kc,aN];rfl
     ·have aod:=ar hc5;refine(iv t2.toQz false).mono ?_;rintro _ dX ⟨rfl,Wn,u1,u2,u3⟩;have t13:=t2.nx u2 u3.up;exact⟨rfl,t2.sm u3 (by simp),rfl,bad (by rw[u1.w];simp) ⟨t13.toQz,t13.m,fun k hk=>t13.k k (by simp at hk;simp[hk])⟩ (.inr (HH (.inl (by omega))))⟩
    ·have:bb.k=3:=by simpa using hc4
     rw[hc4,aZ (.inl this)]
    ·have:bb.k≠3:=by simpa using hc4
     rw[br];simp[this]
  ·have:bb.k=1:=by simpa using F8
   rw[F8,aZ (.inl this)]
  ·have:bb.k≠1:=by simpa using F8
   rw[br];simp[this]
mutual
theorem Uy:∀x:Nd,iB x<=mY x
 | .mk b l=>by
  rw[iB,mY];have:=tf l;unfold Fj;omega
theorem tf:∀l:List Nd,dj l<=iC l
 | []=>by rw[dj];exact aF _
 | x::l=>by
  rw[dj,iC];exact ec (Uy x) (tf l)
end
mutual
theorem Uz:∀x:Nd,qS x<=mY x
 | .mk b l=>by
  rw[qS,mY];have:=th l;have:=nL b.mv;unfold Fj;omega
theorem th:∀l:List Nd,jC l<=iC l
 | []=>by rw[jC];exact aF _
 | x::l=>by
  rw[jC,iC];exact ec (Uz x) (th l)
end
theorem uo (x:Nd):∀l:List Nd,dj (l++[x])=dj l+iB x
 | []=>by simp[dj]
 | y::l=>by rw[bc,dj,dj,uo x l];omega
theorem uq (x:Nd):∀l:List Nd,jC (l++[x])=jC l+qS x
 | []=>by simp[jC]
 | y::l=>by rw[bc,jC,jC,uq x l];omega
theorem xL:∀l m:List Nd,iC (l++m)=iC l+iC m
 | [],m=>by rw[aV,iC];omega
 | y::l,m=>by rw[bc,iC,iC,xL l m];omega
theorem HJ:∀(D:Nat) (w:World) (F:Nat->Prop) (x:Nd) (cs:List Value),lQ false D w F x cs->mY x<=8388608->Calls Tryz.prog 36 #[.agg cs.toArray] w fun e w'=>e=.returned (.tuple #[.int .i64 (iB x:Int),.int .i64 (qS x:Int)])/\Only [] w w'
 | 0,w,F,x,cs,hx,_=>hx.elim
 | D+1,w,F,x,cs,hx,hs=>by
  obtain⟨bb,ks⟩:=x;obtain⟨en,lv,mv,kids,rfl,vF,rz⟩:=hx;have lA:=vF.2.2.1;have lA:SliceF (BG false) 13 w F mv bb.mv:=lA;have hk:SliceF (lQ false D) 9 w F kids ks:=rz.1;show Calls Tryz.prog 36 #[.agg (ly bb.k bb.nm bb.ini bb.dft en lv mv kids bb.a).toArray] w _;refine ret (afi bb.k (T bb.nm) (T bb.ini) (T bb.dft) en lv mv kids bb.a (fun v w'=>v=.tuple #[.int .i64 (iB (.mk bb ks):Int),.int .i64 (qS (.mk bb ks):Int)]/\Only [] w w') w ?_);unfold Y7;have z1:=tf ks;have z2:=th ks;have z3:=nL bb.mv;rw[mY]at hs;have Jw:=hs;unfold Fj at Jw;have n6:=lA.len;have n7:=hk.len;have z4:=pR ks;intro k0 w1 fQ eE bR w2 cO;refine⟨fun nv a m i w'=>∃j:Nat,i=j/\j<=ks.length/\nv=ks.length-j/\a=(1+dj (ks.take j):Nat)/\m=(bb.mv.length+jC (ks.take j):Nat)/\k0<w'.heap.size/\Only [] w w',ks.length,⟨0,rfl,aF _,rfl,by rw[cQ,dj];rfl,by rw[cQ,jC,n6];rfl,bC eE cO.size,bR.cf cO⟩,?_⟩;rintro nv _ _ _ w3 ⟨j,rfl,hj,rfl,rfl,rfl,yp,cU⟩;have aoe:iC ks=iC (ks.take j)+iC (ks.drop j):=by rw[<-xL,dC]
  have y1:=tf (ks.take j);have y2:=th (ks.take j);refine⟨fun hc=>?_,fun hc=>?_⟩
  ·have bp:(j:Int)<kids.n:=aj hc;obtain⟨ad,y,cs,g1,g2,g3,g4,g5,g6⟩:=(SliceF.only (bI false D) (by decide) hk cU (by simp)).get (aG j) bp;rw[az]at g2;have hys:=nM (aE g2);have pc:ks.take (j+1)=ks.take j++[y]:=by
    rw[aY,g2];rfl
   have alm:iC ks=iC (ks.take (j+1))+iC (ks.drop (j+1)):=by rw[<-xL,dC]
   have y3:dj (ks.take j)+iB y<=iC (ks.take (j+1)):=by rw[<-uo,<-pc];exact tf _
   have y4:jC (ks.take j)+qS y<=iC (ks.take (j+1)):=by rw[<-uq,<-pc];exact th _
   have Wi:=g6;cases D with
   | zero=>exact Wi.elim
   | succ D=>
   obtain⟨uH,uI,pd,jj,rfl,_⟩:=Wi;refine⟨ad,g1,_,_,_,_,uH,uI,pd,jj,_,g5,fun k3 w4 vL aln cZ=>?_⟩;refine(HJ (D+1) w4 F y _ ((bI false _).keep g6 fun k _ bp=>cZ.block k bp (by simp)) (by omega)).mono ?_;rintro _ w5 ⟨rfl,eC⟩;refine⟨_,_,rfl,eC.same (by have:=cZ.size;simp;omega),ks.length-(j+1),by omega,j+1,by rw[gV (by omega) (by omega)];rfl,by omega,rfl,?_,?_,?_,(cU.cf cZ).cf eC⟩
   ·rw[pc,uo,gV (by omega) (by omega)];omega
   ·rw[pc,uq,gV (by omega) (by omega)];omega
   ·have:=cZ.size;have:=eC.size;omega
  ·have yg:¬(j:Int)<kids.n:=ar hc;have mc:j=ks.length:=by omega
   subst mc;rw[aO (aq _)];refine⟨?_,cU⟩;rw[iB,qS,iU]
structure Pt4 (w:World) (b:Nat) (sl:Sl) (l:List UInt8) (v2 v3:Value):Prop where
 blk:∃q:Option Addr,Blk w b 72 [.pointer q,sl.v,v2,v3]
 len:sl.n=l.length
 some:l≠[]->∃g,sl.a=.some ⟨g,0,none⟩/\b<g/\sl.c≠0/\(∃n,w.shape? g=.some (5,n)/\l.length<=n)/\aB w ⟨g,0,none⟩ (l.map eN)
 cap:sl.a=none∨sl.c≠0
 big:l.length<=9223372036854775807
section
variable {w:World} {b:Nat} {sl:Sl} {l:List UInt8} {v2 v3:Value}
theorem Pt4.only {w':World} (h:Pt4 w b sl l v2 v3) (hO:Only [] w w'):Pt4 w' b sl l v2 v3:=by
 obtain⟨⟨q,h1⟩,h2,h3,h4,h5⟩:=h;refine⟨⟨q,hO.blk h1 (by simp)⟩,h2,fun hl=>?_,h4,h5⟩;obtain⟨g,a1,a2,a3,⟨n,a4,a5⟩,a6⟩:=h3 hl;have hg:g<w.heap.size:=by
  refine aP fun hn=>?_;unfold World.shape? at a4;rw[dP (by omega)]at a4;cases a4
 have hk:=hO.block g hg (by simp);exact⟨g,a1,a2,a3,⟨n,(xo hk).trans a4,a5⟩,a6.keep hk⟩
theorem Qz.pt {w0:World} {st:St} (h:Qz w0 b w l st):∃sl,Pt4 w b sl l (.bool st.1) (.int .i64 st.2)/\∀k,sl.a=some ⟨k,0,none⟩->Bu w b k:=by
 obtain⟨q,sl,hq,hB,hb⟩:=h.ex;refine⟨sl,⟨⟨_,hB⟩,hb.len,fun hl=>?_,?_,?_⟩,fun k hk=>Dc hB hk⟩
 ·rcases hb with⟨_,e⟩ | ⟨g,tail,h1,h2,h3,h4,h5,h6,h7,h8⟩
  ·exact absurd e hl
  ·have h0:l.length≠0:=fun e=>hl (aW e);refine⟨g,h1,h2,by omega,⟨_,by unfold World.shape?;unfold Blk at h3;rw[h3],by simp⟩,h3.cells 0 (l.map eN) fun j v hj=>by rw[aJ,aR (au.1 hj).1];exact hj⟩
 ·rcases hb with⟨e,_⟩ | ⟨g,tail,h1,h2,h3,h4,h5,h6,h7,h8⟩
  ·exact .inl (by rw[e])
  ·exact .inr (by omega)
 ·rcases hb with⟨_,e⟩ | ⟨g,tail,h1,h2,h3,h4,h5,h6,h7⟩
  ·subst e;simp
  ·omega
theorem HK (h:Pt4 w b sl l v2 v3):Calls Tryz.prog 43 #[.pointer (some ⟨b,0,none⟩)] w fun e w'=>e=.returned (.string (T l))/\Pt4 w' b sl l v2 v3/\OnlyP (fun k=>b<k/\sl.a=some ⟨k,0,none⟩) w w':=by
 refine ret (R7 ⟨b,0,none⟩ (fun v w'=>v=.string (T l)/\Pt4 w' b sl l v2 v3/\OnlyP (fun k=>b<k/\sl.a=some ⟨k,0,none⟩) w w') w ?_);unfold Ld;intro w0 cd;have h0:=h.only cd;obtain⟨⟨q,hB⟩,dN,D9,nT,rU⟩:=h0;refine⟨fun k=>k=b,sl,Blk.eo hB 1 rfl,rfl,sl,Blk.eo hB 1 rfl,sl.a,w0,?_,fun k _ _=>rfl,?_⟩
 ·obtain⟨sa,sn',sc⟩:=sl;cases sa with
  | none=>exact Lib.run_unsafeSliceData_nil _ _ _ _ _
  | some a=>
   rcases nT with e | e
   ·cases e
   ·exact Lib.run_unsafeSliceData_row _ _ _ _ _ _ e
 ·by_cases hl:l=[]
  ·subst hl;have hn:sl.n=0:=dN;refine⟨T [],w0,?_,fun k _ _=>rfl,rfl,⟨⟨q,hB⟩,dN,D9,nT,rU⟩,cd.p0⟩;rw[hn];exact Lib.run_unsafeString_none _ _ _ _ _
  ·obtain⟨g,ha,OS,hc,⟨m,tJ,hm⟩,rT⟩:=D9 hl;have hF:=pB w0 ⟨g,0,none⟩ l.length;have D0:b<w0.heap.size:=hB.lt;refine⟨T l,w0.freeze ⟨g,0,none⟩ l.length,?_,fun k hk bp=>hF.block k bp (by dsimp only;omega),rfl,⟨⟨q,hF.blk hB (by dsimp only;omega)⟩,dN,fun _=>⟨g,ha,OS,hc,⟨m,(sM _ _ _ _).trans tJ,hm⟩,fun j v hj=>by rw[pA];exact rT j v hj⟩,nT,rU⟩,cd.BH (hF.mono fun k _ hk=>by dsimp only at hk;exact⟨by omega,by rw[hk];exact ha⟩)⟩;rw[ha,dN];exact Lib.run_unsafeString_row _ _ _ _ 5 (by kernel_rfl) (by kernel_rfl) g m tJ l hl hm rU fun j x hj=>rT j (eN x) (by rw[bD,hj];rfl)
end
def dF (c:Ch):List UInt8×Int:=
 if lR c=true then(if 16384<(eA [] (rM c)).length then([],2)else if(dr (eA [] (rM c))).2.1≠0 then([],22)else(eA [] (rM c),0))else([],22)
def oQ:List Vr->Nat
 | []=>0
 | v::l=>(v.n.length+1)+oQ l
theorem xM {v:Vr}:∀{l:List Vr},v∈l->v.n.length+1<=oQ l
 | [],h=>by simp at h
 | x::l,h=>by
  rw[oQ];rcases ak.1 h with rfl | h
  ·omega
  ·have:=xM h;omega
theorem xN:∀l:List Vr,l.length<=oQ l
 | []=>aF _
 | v::l=>by
  have:=xN l;rw[oQ,ao];omega
def yI (v:Vr):Bool:=cN v.n&&decide (v.v≠ -9223372036854775808)
theorem Qj (c:Ch):((((((decide (c.root.b.k=1)&&decide (c.root.b.dft=[]))&&decide (c.vars.length<=16))&&decide (iB c.root<=64))&&decide (qS c.root<=200))&&cN c.root.b.nm)&&(c.vars.all yI&&vA c.root.b c.root.kids 1)&&decide (rL c.root<=400))=lR c:=by
 obtain⟨vars,⟨b,l⟩⟩:=c;unfold lR;show((((((decide (b.k=1)&&decide (b.dft=[]))&&decide (vars.length<=16))&&decide (iB (.mk b l)<=64))&&decide (qS (.mk b l)<=200))&&cN b.nm)&&(vars.all yI&&vA b l 1)&&decide (rL (.mk b l)<=400))=(vars.all yI&&jk 0 (.mk b l)&&decide (b.k=1/\vars.length<=16/\iB (.mk b l)<=64/\qS (.mk b l)<=200/\rL (.mk b l)<=400))
 by_cases hk:b.k=1
 ·rw[<-HF (d:=0) (.inl hk) (by decide)];have:decide (b.k=1/\vars.length<=16/\iB (.mk b l)<=64/\qS (.mk b l)<=200/\rL (.mk b l)<=400)=(decide (vars.length<=16)&&decide (iB (.mk b l)<=64)&&decide (qS (.mk b l)<=200)&&decide (rL (.mk b l)<=400)):=by
   rw[br];simp[hk,and_assoc]
  rw[this,aZ hk];generalize decide (b.dft=[])=A;generalize decide (vars.length<=16)=B;generalize decide (iB (.mk b l)<=64)=C;generalize decide (qS (.mk b l)<=200)=D;generalize decide (rL (.mk b l)<=400)=E;generalize cN b.nm=G;generalize vars.all yI=H;show _=(H&&((A&&G)&&vA b l (0+1))&&(B&&C&&D&&E))
  generalize vA b l (0+1)=I;cases A<;>cases B<;>cases C<;>cases D<;>cases E<;>cases G<;>cases H<;>cases I<;>rfl
 ·have:decide (b.k=1/\vars.length<=16/\iB (.mk b l)<=64/\qS (.mk b l)<=200/\rL (.mk b l)<=400)=false:=aK fun h=>hk h.1;rw[this,aK hk];simp
theorem Qk {w:World} {F:Nat->Prop} {D:Nat} {c:Ch} {vs:Sl} {cs:List Value} (hx:ChR false D w F c vs cs) (hn:Ea c) (hs:oQ c.vars+mY c.root<=8388608) (hE:Er w) (hT:Tb w):
  Calls Tryz.prog 14 #[.agg (vs.v::cs).toArray] w fun e w'=>e=.returned (.tuple #[.string (T (dF c).1),.int .i64 (dF c).2])/\Only [] w w':=by
 obtain⟨vars,⟨bb,ks⟩⟩:=c;cases D with
 | zero=>exact hx.root.elim
 | succ D=>
 have Th:lQ false (D+1) w F (.mk bb ks) cs:=hx.root;have Wp:=(bI false _).inHeap Th;have wh:SliceF Om 3 w F vs vars:=hx.vars.1;obtain⟨en,lv,mv,kids,rfl,vF,rz⟩:=Wp;have vF:AP false w (fun k=>F k/\k<w.heap.size) bb en lv mv:=vF;have rz:gH false (lQ false D) 9 27 w (fun k=>F k/\k<w.heap.size) kids ks:=rz;have hr:=hn.r;have hr:vu (.mk bb ks):=hr;have hvn:∀v,v∈vars->InI v.v:=hn.v;rw[vu]at hr;have hs:oQ vars+mY (.mk bb ks)<=8388608:=hs;have hsN:mY (.mk bb ks)=Fj bb+iC ks:=by rw[mY]
 have Jw:=hs;rw[hsN]at Jw;unfold Fj at Jw;have acV:=Qj ⟨vars,.mk bb ks⟩;generalize hP:dF ⟨vars,.mk bb ks⟩=P;unfold dF at hP;rw[<-acV]at hP;clear acV;have hP:(if((((((decide (bb.k=1)&&decide (bb.dft=[]))&&decide (vars.length<=16))&&decide (iB (.mk bb ks)<=64))&&decide (qS (.mk bb ks)<=200))&&cN bb.nm)&&(vars.all yI&&vA bb ks 1)&&decide (rL (.mk bb ks)<=400))=true then(if 16384<(eA [] (rM ⟨vars,.mk bb ks⟩)).length then([],2)else if(dr (eA [] (rM ⟨vars,.mk bb ks⟩))).2.1≠0 then([],22)else(eA [] (rM ⟨vars,.mk bb ks⟩),0))else([],22))=P:=hP;show Calls Tryz.prog 14 #[.agg (vs.v::ly bb.k bb.nm bb.ini bb.dft en lv mv kids bb.a).toArray] w _;refine ret (afh vs bb.k (T bb.nm) (T bb.ini) (T bb.dft) en lv mv kids bb.a (fun v w'=>v=.tuple #[.string (T P.1),.int .i64 P.2]/\Only [] w w') w ?_);unfold Y6;intro k0 b w1 fQ eE hb kH bR;have hvl:=wh.len;have hvz:=xN vars;refine(HJ (D+1) w1 F (.mk bb ks) _ ((bI false _).keep Th fun k _ bp=>bR.block k bp (by simp)) (by omega)).mono ?_;rintro _ w2 ⟨rfl,cO⟩;have z2:=cO.size;refine⟨_,_,rfl,cO.same (by simp;omega),fun ru eI=>?_⟩;have q2:Qz w b w2 [] (false,0):=⟨bR.cf cO,hb,⟨none,Sl.nil,.inl rfl,ru,.inl ⟨rfl,rfl⟩⟩,fun _=>⟨jQ 0,by decide⟩,aF _⟩
 have t2:Zq false w w2 b w2 [] (false,0) [k0]:=⟨q2,Mw.refl _ _ _,fun k hk=>by
  simp only[ae]at hk;subst hk;exact⟨by omega,eI,fun h=>by have:=Hu ru h;cases this⟩⟩
 have hF:∀k,(fun k=>F k/\k<w.heap.size) k->k<w.heap.size:=fun k hk=>hk.2;have hw:=q2.o;rw[show ByteArray.mk #[]=T []from rfl,jW,hvl];refine(iv t2.toQz _).mono ?_;rintro _ w3 ⟨rfl,Wb,u1,u2,u3⟩;have t3:=t2.nx u2 u3.up;have Rc:((((bb.k==1)&&decide (bb.dft=[]))&&decide ((vars.length:Int)<=16))&&decide ((iB (.mk bb ks):Int)<=64)&&decide ((qS (.mk bb ks):Int)<=200))=((((decide (bb.k=1)&&decide (bb.dft=[]))&&decide (vars.length<=16))&&decide (iB (.mk bb ks)<=64))&&decide (qS (.mk bb ks)<=200)):=by
  rw[br];simp only[ab,iR,bB];constructor
  ·rintro⟨⟨⟨⟨a1,a2⟩,a3⟩,a4⟩,a5⟩;exact⟨⟨⟨⟨a1,a2⟩,by omega⟩,by omega⟩,by omega⟩
  ·rintro⟨⟨⟨⟨a1,a2⟩,a3⟩,a4⟩,a5⟩;exact⟨⟨⟨⟨a1,a2⟩,by omega⟩,by omega⟩,by omega⟩
 rw[Rc]at u1;obtain⟨q3a,q3b,_,wk,_⟩:=t3.ex;refine⟨rfl,t2.sm u3 (by simp),q3a,q3b,_,_,wk,(ku t3.toQz bb.nm (by omega)).mono ?_⟩;rintro _ w4 ⟨rfl,F9,v1,v2,v3⟩;have t4:=t3.nx v2 v3.up;obtain⟨q4a,q4b,_,tK,_⟩:=t4.ex;have mF:=fY [eh,bb.nm,[123]];simp only[aI,ep,bd,fO,ao,aM]at mF;have hwc:eh.length=5:=rfl;obtain⟨q5,w5,e5,eC,hj5⟩:=uV t4.toQz [eh,bb.nm,[123]] (n:=3) (parts:=#[.mk 0 (.string (T eh)),.mk 1 (.string (T bb.nm)),.mk 2 (.string (T [123]))]) rfl rfl (by decide) (by decide) 0 (by decide) (by omega);refine⟨_,rfl,t3.sm v3 (by simp),q4a,q4b,_,_,tK,q5,w5,e5,?_,hj5.mono ?_⟩
 ·refine eC.same fun x hx=>⟨?_,by simp⟩
  simp only[ak,aw,bf]at hx;rcases hx with rfl | rfl
  ·exact(t4.k x (by simp)).1
  ·exact t4.toQz.lb
 rintro _ w6 ⟨rfl,x1,x2⟩;have t6:=t4.nx x1 x2;have hU6:=u1.tr v1;have hl6:F9.1=false->(if F9.1 then([]:List UInt8)else jN [] (0,eB [eh,bb.nm,[123]]))=eA [] [(0,eh++32::(bb.nm++[32,123]))]:=fun e=>by
  rw[e];simp only[dG,fI];rw[ke,mD (by decide),dW (oz (v1.ok e).2.1),dW (by rfl),dc,dV,dV,kc];rfl
 generalize (if F9.1 then([]:List UInt8)else jN [] (0,eB [eh,bb.nm,[123]]))=l6 at*
 obtain⟨q6a,q6b,_,S5,_⟩:=t6.ex;refine⟨rfl,t4.sl eC x2 (by simp),q6a,q6b,_,_,S5,fun nv i q l' wr ac w'=>∃(j:Nat) (bH:St) (l':List UInt8),i=j/\j<=vars.length/\nv=vars.length-j/\Up F9 ((vars.take j).all yI) 0 bH/\(bH.1=false->l'=eA l6 ((vars.take j).map fun v=>(1,vrT v)))/\Zq false w w2 b w' l' bH [k0],
  vars.length,⟨0,F9,l6,rfl,aF _,rfl,t6.toQz.U5,fun _=>rfl,t6⟩,?_⟩
 rintro nv _ qa la wr ac w7 ⟨j,Ta,l7,rfl,hj,rfl,It,Wh,t7⟩;refine⟨fun hc=>?_,fun hc=>?_⟩
 ·have bp:(j:Int)<vars.length:=aj hc;obtain⟨ad,v,cs,g1,g2,g3,g4,g5,g6⟩:=(SliceF.only fb (by decide) wh t7.o (by simp)).get (aG j) (by omega);rw[az]at g2;have hvm:=aE g2;have hvz:=xM hvm;have pc:vars.take (j+1)=vars.take j++[v]:=by
   rw[aY,g2];rfl
  unfold Om at g6;subst g6;refine⟨ad,g1,_,_,_,g5,fun k4 w8 yN FY fy _=>?_⟩;have t8:=t7.al fy yN FY;refine(iv t8.toQz _).mono ?_;rintro _ w9 ⟨rfl,Wc,y1,y2,y3⟩;have t9:=t8.nx y2 y3.up;obtain⟨q9a,q9b,_,hB9,_⟩:=t9.ex;refine⟨rfl,t8.sm y3 (by simp),q9a,q9b,_,_,hB9,fun cI dm _=>⟨fun k=>k∈[k4],by simp,?_⟩⟩;have t10:=t9.q dm;refine(ku t10.toQz v.n (by omega)).mono ?_;rintro _ cS ⟨rfl,Wk,y4,y5,y6⟩;have t11:=t10.nx y5 y6.up;obtain⟨aiJ,aiK,_,D7,_⟩:=t11.ex;refine⟨_,rfl,t10.sm y6 (by simp),aiJ,aiK,_,_,D7,be.of (t10.sm y6 (by simp)),(vX v.v (hvn v hvm) (hT.only t11.o)).mono ?_⟩;rintro _ dK ⟨rfl,eJ⟩;have t12:=t11.q eJ;obtain⟨aiL,aiM,_,Wq,_⟩:=t12.ex;have Jx:=xH (hvn v hvm);have mF:=fY [rI,v.n,[61],Lib.itoa v.v++[59]];simp only[aI,ep,bd,fO,ao,aM,ah]at mF;have hwv:rI.length=3:=rfl;obtain⟨q13,dX,e13,dZ,aiN⟩:=uV t12.toQz [rI,v.n,[61],Lib.itoa v.v++[59]] (n:=4) (parts:=#[.mk 0 (.string (T rI)),.mk 1 (.string (T v.n)),.mk 2 (.string (T [61])),.mk 3 (.string (T (Lib.itoa v.v++[59])))]) rfl rfl (by decide) (by decide) 1 (by decide) (by omega);refine⟨T (Lib.itoa v.v),rfl,t11.sq eJ (by simp),aiL,aiM,_,_,Wq,be.of (t11.sq eJ (by simp)),by rw[cK];omega,q13,dX,by rw[show ByteArray.mk #[59]=T [59]from rfl,jR];exact e13,?_,be.of (t12.sq dZ (by simp)),aiN.mono ?_⟩
  ·refine dZ.same fun x hx=>⟨?_,by simp⟩
   simp only[ak,aw,bf]at hx;rcases hx with rfl | rfl | rfl
   ·exact(t12.k x (by simp)).1
   ·exact t12.toQz.lb
   ·exact(t12.k x (by simp)).1
  rintro _ eK ⟨rfl,y7,y8⟩;have t14:=t12.nx y7 y8;obtain⟨aiO,aiP,_,D6,_⟩:=t14.ex;refine⟨rfl,t12.sl dZ y8 (by simp),aiO,aiP,_,_,D6,be.of (t12.sl dZ y8 (by simp)),vars.length-(j+1),by omega,j+1,Wk,_,by rw[gV (by omega) (by omega)];rfl,by omega,rfl,((It.tr y1).tr y4).cg ?_ rfl,fun e=>?_,⟨t14.toQz,t14.m,fun k hk=>t14.k k (by simp at hk;simp[hk])⟩⟩
  ·rw[pc,wv];have:(v.v != -9223372036854775808)=decide (v.v≠ -9223372036854775808):=by rw[br];simp
   rw[this];unfold yI;simp only[gY,List.all_nil,dk];rw[yQ,Bool.and_comm (decide _) (cN _)]
  ·have N9:ne (Lib.itoa v.v++[59])=true:=by
    have:Lib.itoa v.v++[59]≠[]:=by simp
    unfold ne;rw[aK this];rfl
   rw[e];simp only[dG,fI];rw[Wh (y1.ok (y4.ok e).1).1,pc,cq,iu,mD (by decide),dW (oz (y4.ok e).2.1),dW (by rfl),dW N9,dc,dV,dV,dV,kc,aN];rfl
 have yg:¬(j:Int)<vars.length:=ar hc;have mc:j=vars.length:=by omega
 subst mc;rw[aO (aq _)]at It Wh;refine(Mm (HI D) t7.toQz (vF.keep fun k hk _=>t7.o.block k hk.2 (by simp)) (rz.keep (bI false D) (by decide) fun k hk _=>t7.o.block k hk.2 (by simp)) hF hr.1 hr.2 (by omega) 1 (by decide) hE hT).mono ?_;rintro _ w8 ⟨rfl,Wg,l8,hU8,hl8,y1,y2⟩;have t8:=t7.nx y1 y2;obtain⟨q8a,q8b,_,wl,_⟩:=t8.ex;obtain⟨q9,w9,e9,fG,hj9⟩:=uV t8.toQz [[125]] (n:=1) (parts:=#[.mk 0 (.string (T [125]))]) rfl rfl (by decide) (by decide) 0 (by decide) (by decide);refine⟨rfl,t7.sm y2 (by simp),q8a,q8b,_,_,wl,q9,w9,e9,?_,hj9.mono ?_⟩
 ·refine fG.same fun x hx=>⟨?_,by simp⟩
  simp only[ak,aw,bf]at hx;rcases hx with rfl | rfl
  ·exact(t8.k x (by simp)).1
  ·exact t8.toQz.lb
 rintro _ cI ⟨rfl,x3,x4⟩;have t10:=t8.nx x3 x4;have hU:=hU6.tr (It.tr hU8);have hlF:Wg.1=false->(if Wg.1 then l8 else jN l8 (0,eB [[125]]))=eA [] (rM ⟨vars,.mk bb ks⟩):=fun e=>by
  obtain⟨e7,_⟩:=hU8.ok e;obtain⟨e4,_⟩:=It.ok e7;rw[e];simp only[dG,fI];rw[hl8 e,Wh e7,hl6 e4];have e1:eB [[125]]=[125]:=by decide
  rw[e1,<-ke,<-iu,<-iu,<-iu];unfold rM;rw[av (LV 1 bb)];exact rfl
 generalize (if Wg.1 then l8 else jN l8 (0,eB [[125]]))=lF at*
 obtain⟨acX,acY,_,vK,_⟩:=t10.ex;have hcond:((((((decide (bb.k=1)&&decide (bb.dft=[]))&&decide (vars.length<=16))&&decide (iB (.mk bb ks)<=64))&&decide (qS (.mk bb ks)<=200))&&cN bb.nm)&&(vars.all yI&&vA bb ks 1)&&decide (rL (.mk bb ks)<=400))=!Wg.1:=by
  have h1:=hU.w;have aiQ:decide (400<(0:Int)+((0+0+(0+(xx bb+jc ks)):Nat):Int))=!decide (rL (.mk bb ks)<=400):=by
   rw[rL];by_cases h4:xx bb+jc ks<=400
   ·rw[aZ h4,aK (by omega)];rfl
   ·rw[aK h4,aZ (by omega)];rfl
  have h1:Wg.1=((false||!((((((decide (bb.k=1)&&decide (bb.dft=[]))&&decide (vars.length<=16))&&decide (iB (.mk bb ks)<=64))&&decide (qS (.mk bb ks)<=200))&&cN bb.nm)&&(vars.all yI&&vA bb ks 1)))||decide (400<(0:Int)+((0+0+(0+(xx bb+jc ks)):Nat):Int))):=h1;rw[aiQ]at h1;rw[h1];generalize ((((((decide (bb.k=1)&&decide (bb.dft=[]))&&decide (vars.length<=16))&&decide (iB (.mk bb ks)<=64))&&decide (qS (.mk bb ks)<=200))&&cN bb.nm)&&(vars.all yI&&vA bb ks 1))=A;generalize decide (rL (.mk bb ks)<=400)=B;cases A<;>cases B<;>rfl
 rw[hcond]at hP;have fin:∀{w':World},Only [] w2 w'->Only [] w w':=fun h=>hw.cf h;have O0:Only [] w cI:=t10.o;refine⟨rfl,t8.sl fG x4 (by simp),acX,acY,_,_,vK,fun e=>?_,fun e=>(Hy t10.toQz).mono ?_⟩
 ·rw[if_neg (by rw[e];decide)]at hP;subst hP;exact⟨rfl,O0⟩
 rw[if_pos (by rw[e];rfl),<-hlF e]at hP;rintro _ _ ⟨rfl,rfl⟩;obtain⟨slP,hPt,hPb⟩:=t10.toQz.pt;have hbu:=fun k hk=>t10.toQz.bu (hPb k hk);refine⟨_,rfl,fun _ _=>rfl,acX,acY,_,_,vK,fun e2=>?_,fun e2=>(HK hPt).mono ?_⟩
 ·rw[if_pos (aj e2)]at hP;subst hP;exact⟨rfl,O0⟩
 rw[if_neg (ar e2)]at hP;rintro _ cS ⟨rfl,Ti,dx⟩;have Eo:=dx.size;have hlb:=t10.toQz.lb;have k0h:=t10.k k0 (by simp);have ko:∀k,(b<k/\slP.a=some ⟨k,0,none⟩)->w.heap.size<=k:=fun k hk=>by have:=t10.lo;omega
 have o11:Only [] w cS:=(O0.BH dx).only ko;obtain⟨Vs,D7⟩:=Ti.blk;refine⟨_,rfl,dx.same fun x hx=>?_,Vs,slP,_,_,D7,(Db _ (hE.only o11)).mono ?_⟩
 ·simp only[ae]at hx;subst hx;exact⟨k0h.1,fun h=>k0h.2.2 (hPb _ h.2)⟩
 rintro _ dK ⟨vsx,csx,rfl,hC,eJ⟩;obtain⟨xe,xl,xm,xk,rfl,_⟩:=hC.root;have Tj:=Ti.only eJ;obtain⟨q12,Wq⟩:=Tj.blk;have o12:=o11.cf eJ;have z12:=eJ.size;refine⟨vsx,_,_,_,_,xe,xl,xm,xk,_,_,_,rfl,eJ.same (by simp;omega),q12,slP,_,_,Wq,fun e3 k6 k7 dX _ _ _ _ dZ _=>?_,fun e3 k8 k9 eK hk8 Vz hk9 aiT dz _=>?_⟩
 ·rw[if_pos (by simpa using e3)]at hP;subst hP;exact⟨rfl,o12.cf dZ⟩
 ·rw[if_neg (by simpa using e3)]at hP;subst hP;refine(HK (Tj.only dz)).mono ?_;rintro _ gn ⟨rfl,ac1,jo⟩;obtain⟨q15,V6⟩:=ac1.blk;have z14:=dz.size;refine⟨_,rfl,jo.same fun x hx=>?_,q15,slP,_,_,V6,rfl,((o12.cf dz).BH jo).only ko⟩;simp only[ak,aw,bf]at hx;rcases hx with rfl | rfl | rfl
  ·exact⟨by omega,fun h=>k0h.2.2 (hPb _ h.2)⟩
  ·exact⟨Vz,fun h=>by have:=(hbu _ h.2).2;omega⟩
  ·exact⟨aiT,fun h=>by have:=(hbu _ h.2).2;omega⟩
def inB (n:Int):Bool:=decide (-9223372036854775808<=n/\n<=9223372036854775807)
theorem Mn {n:Int} (h:inB n=true):InI n:=by
 have h:=aj h;exact⟨h.1,h.2⟩
mutual
def WL:Ex->Bool
 | .mk _ n _ _ l _=>inB n&&Ql l
def Ql:List Ex->Bool
 | []=>true
 | x::l=>WL x&&Ql l
end
theorem HL {y:Ex}:∀{l:List Ex},Ql l=true->y∈l->WL y=true
 | [],_,h=>by simp at h
 | x::l,h,hy=>by
  rw[Ql,ab]at h;rcases ak.1 hy with rfl | hy
  ·exact h.1
  ·exact HL h.2 hy
theorem UA:∀(d:Nat) {x:Ex},WL x=true->lM d x
 | 0,_,_=>trivial
 | d+1,.mk k n s op l a,h=>by
  rw[WL,ab]at h;exact⟨Mn h.1,fun y hy=>UA d (HL h.2 hy)⟩
def nAb (a:Ac):Bool:=WL a.x
def nMb (m:Mv):Bool:=WL m.g&&m.acts.all nAb&&inB m.wt
def nNb (b:Nb):Bool:=b.en.all nAb&&b.lv.all nAb&&b.mv.all nMb
mutual
def nDb:Nd->Bool
 | .mk b l=>nNb b&&Qm l
def Qm:List Nd->Bool
 | []=>true
 | x::l=>nDb x&&Qm l
end
theorem Mo {l:List Ac} (h:l.all nAb=true):∀a,a∈l->C0 a:=fun a ha d=>UA d ((cJ.1 h) a ha)
theorem agn {m:Mv} (h:nMb m=true):OU m:=by
 unfold nMb at h;simp only[ab]at h;exact⟨fun d=>UA d h.1.1,Mo h.1.2,Mn h.2⟩
theorem ago {b:Nb} (h:nNb b=true):OW b:=by
 unfold nNb at h;simp only[ab]at h;exact⟨Mo h.1.1,Mo h.1.2,fun m hm=>agn ((cJ.1 h.2) m hm)⟩
mutual
theorem aan:∀(x:Nd),nDb x=true->vu x
 | .mk b l,h=>by
  rw[nDb,ab]at h;rw[vu];exact⟨ago h.1,Sp l h.2⟩
theorem Sp:∀(l:List Nd),Qm l=true->ma l
 | [],_=>by rw[ma];trivial
 | x::l,h=>by
  rw[Qm,ab]at h;rw[ma];exact⟨aan x h.1,Sp l h.2⟩
end
def nCb (c:Ch):Bool:=(c.vars.all fun v=>inB v.v)&&nDb c.root
theorem agq {c:Ch} (h:nCb c=true):Ea c:=by
 unfold nCb at h;simp only[ab]at h;exact⟨fun v hv=>Mn ((cJ.1 h.1) v hv),aan _ h.2⟩
def agr (c:Ch):Bool:=decide (oQ c.vars+mY c.root<=8388608)
theorem ChR.off {d:Nat} {w:World} {F:Nat->Prop} {c:Ch} {vs:Sl} {cs:List Value} (h:ChR true d w F c vs cs):ChR false d w F c vs cs:=⟨h.vars.off fun _ _ _ h=>h,G9 h.root⟩
end Go.Proofs.YtmhoiicofhlgbaaGreatDoor.Con
namespace Go.Proofs.YtmhoiicofhlgbaaGreatDoor.Con
open Go Go.RowKit Go.Kt Go.Kt.V Go.Proofs.YtmhoiicofhlgbaaGreatDoor.Vc
set_option linter.unusedSimpArgs false
set_option linter.unusedVariables false
set_option maxHeartbeats 4000000
set_option maxRecDepth 100000
def UB (x:eG):List Value:=[.int .i64 x.k,.string (T x.nm),.int .i64 x.pa,.int .i64 x.dp,.int .i64 x.en]
def zw:Rp eG:=fun _ _ x cs=>cs=UB x
theorem ic:zw.Ok:=⟨fun h _=>h,fun h=>h,fun h _=>h,fun h=>by
 unfold zw UB at h;subst h;intro v hv;simp only[ak,aw,bf]at hv;rcases hv with rfl | rfl | rfl | rfl | rfl<;>rfl⟩
abbrev fZ (B:Nat) (w:World) (s:Sl) (xs:List eG):Prop:=Own zw 5 43 B w (fun _=>False) s xs
theorem fZ.of {B:Nat} {w:World} {F:Nat->Prop} {s:Sl} {xs:List eG} (h:Own zw 5 43 B w F s xs):fZ B w s xs:=by
 rcases h with⟨rfl,rfl⟩ | ⟨g,css,tail,h1,h2,h4,h5,h6,h7,h9,h8⟩
 ·exact .inl ⟨rfl,rfl⟩
 ·exact .inr ⟨g,css,tail,h1,h2,h4,h5,h6,h7,h9,ey.QM (fun x c _ hc=>hc) h8⟩
theorem fZ.u6 {B:Nat} {w w':World} {G:Nat->Prop} {s:Sl} {xs:List eG} (h:fZ B w s xs) (hO:OnlyP G w w') (hG:∀k,B<=k->s.a=some ⟨k,0,none⟩->¬G k):fZ B w' s xs:=
 h.keep ic fun k hk bp=>hO.block k bp (hk.elim (fun h=>h.elim) fun h=>hG k h.1 h.2)
theorem Sq (t:Bool):∀(D:Nat) {w:World} {F:Nat->Prop} {x:Nd} {cs:List Value} {b:Nat} {s:Sl} {xs:List eG} {pa dp:Int},lQ t D w F x cs->(∀k,F k->k<b)->Blk w b 92 [s.v]->fZ (b+1) w s xs->
  xs.length+iB x<=1000000->0<=dp->dp+iB x<=1000000->
  Calls Tryz.prog 51 #[.pointer (some ⟨b,0,none⟩),.agg cs.toArray,.int .i64 pa,.int .i64 dp] w fun e w'=>e=.returned (.tuple #[])/\∃s',Blk w' b 92 [s'.v]/\fZ (b+1) w' s' (xs++zl xs.length pa dp x)/\pD b s w s' w'
 | 0,_,_,_,_,_,_,_,_,_,h,_,_,_,_,_,_=>h.elim
 | D+1,w,F,.mk bb ks,cs,b,s,xs,pa,dp,⟨en,lv,mv,kids,kK,_,fQ⟩,hF,hB,hS,hn,h0,hd=>by
  have hk:=fQ.1;clear fQ;dsimp only[Nd.kids,Nd.b]at hk kK;subst kK;rw[iB]at hn hd;have FV:=hk.len;have hnn:=sV ks;refine ret (afH ⟨b,0,none⟩ bb.k (T bb.nm) (T bb.ini) (T bb.dft) en lv mv kids bb.a pa dp (fun v w'=>v=.tuple #[]/\∃s',Blk w' b 92 [s'.v]/\fZ (b+1) w' s' (xs++zl xs.length pa dp (.mk bb ks))/\pD b s w s' w') w ?_);unfold ZB;intro k0 w0 fQ eE cd;have z0:=cd.size;have D0:=hB.lt;have cell:∀{u:World} {q:Sl},Blk u b 92 [q.v]->aB u ((⟨b,0,none⟩:Addr).add 0) [q.v]:=fun h=>h.cells 0 [_] fun j v hj=>by rw[aJ];exact hj
  have wm:=cd.blk hB (by simp);refine⟨s,cell wm,fun w1 bR=>⟨fun k=>k=b,rfl,s,cell (bR.blk wm (by simp)),?_⟩⟩;have o1:=cd.cf bR;have z1:=bR.size;have hS1:fZ (b+1) w1 s xs:=hS.u6 o1.p0 fun _ _ _ h=>h;have vG:=o1.blk hB (by simp);obtain⟨y,w2,k1,k3,s3,w3,g1,g2,⟨gs,g3,g4⟩,g5⟩:=js (P:=Tryz.prog) (t:=90) (ty:=90) (e:=43) (i:=Tryz.t43) (bytes:=48) (size:=5) (r:=zw) (G:=fun _=>False) (v:=.agg #[.int .i64 bb.k,.string (T bb.nm),.int .i64 pa,.int .i64 dp,.int .i64 0]) (x:=⟨bb.k,bb.nm,pa,dp,0⟩) (by kernel_rfl) (by kernel_rfl) rfl rfl rfl rfl (by decide) (by decide) (by decide) ic hS1 (by omega) rfl rfl (fun _ h=>h.elim) (by omega);have z2:=k3.size;have z3:=g3.size;have gb:∀g,g∈gs->g≠b/\g<w1.heap.size/\s.a=some ⟨g,0,none⟩:=fun g hg=>⟨by have:=(g4 g hg).2.1;omega,(g4 g hg).2.2,(g4 g hg).1⟩
  have Oa:s.a≠some ⟨k0,0,none⟩:=fun e=>by have:=(hS.blk e).2;dsimp only at this;omega
  have wk:Blk w3 b 92 [s.v]:=g3.blk (k3.blk vG (by simp)) fun h=>(gb b h).1 rfl;refine⟨y,w2,k1,k3.same (by simp;omega),be.only k3,s3,w3,g1,g3.same fun x hx=>?_,fun k hk bp=>?_,b,0,_,_,rfl,wk,aq 1,by omega,fun w4 cZ tK=>?_⟩
  ·simp only[ae]at hx;subst hx;exact⟨by omega,fun h=>Oa (gb _ h).2.2⟩
  ·subst hk;exact g3.block _ bp fun h=>(gb _ h).1 rfl
  have z4:=cZ.size;have Xm:fZ (b+1) w3 s3 (xs++[⟨bb.k,bb.nm,pa,dp,0⟩]):=fZ.of g2;have Xn:fZ (b+1) w4 s3 (xs++[⟨bb.k,bb.nm,pa,dp,0⟩]):=Xm.u6 (G:=fun k=>k=b) (cZ.p (by simp)) fun k h _=>by omega
  have m4:pD b s w s3 w4:=by
   refine⟨((o1.cf k3).BH (g3.p (F:=fun k=>k=b∨s.a=some ⟨k,0,none⟩) fun g hg=>.inl (.inr (gb g hg).2.2))).trans (cZ.p (F:=fun k=>k=b∨s.a=some ⟨k,0,none⟩) (by simp)) fun k hk=>.inl hk,fun k hk=>?_⟩;rcases g5 with e | ⟨g,e,h⟩
   ·exact .inl (by rw[<-e];exact hk)
   ·rw[e]at hk;injection hk with hk;injection hk with hk;exact .inr (by omega)
  have n4:∀k,s3.a=some ⟨k,0,none⟩->k≠k0:=fun k hk e=>by
   subst e;rcases g5 with e | ⟨g,e,h⟩
   ·exact Oa (by rw[<-e];exact hk)
   ·rw[e]at hk;injection hk with hk;injection hk with hk;omega
  have wj:∀{u:World} {q:Sl},pD b s w q u->SliceF (lQ t D) 9 u F kids ks:=fun hm=>SliceF.tE (bI t D) (by decide) hk hm.1 fun k hFk _=>by
   have:=hF k hFk;exact fun h=>h.elim (by omega) fun h=>by have:=(hS.blk h).1;dsimp only at this;omega
  refine⟨fun kv i w'=>∃(j:Nat) (q:Sl),i=(j:Int)/\kv+j=ks.length/\j<=ks.length/\Blk w' b 92 [q.v]/\fZ (b+1) w' q (xs++⟨bb.k,bb.nm,pa,dp,0⟩::pb (xs.length+1) xs.length (dp+1) (ks.take j))/\pD b s w q w'/\w4.heap.size<=w'.heap.size/\∀k,q.a=some ⟨k,0,none⟩->k≠k0,ks.length,⟨0,s3,rfl,by omega,aF _,tK,by rw[cQ,pb];exact Xn,m4,aq _,n4⟩,?_⟩;rintro kv _ w5 ⟨j,q,rfl,BN,mF,yh,Iu,m5,z5,n5⟩;have O1:s.n=xs.length:=hS.len;constructor
  ·intro hc;have hj:j<ks.length:=by have:=aj hc;omega
   obtain⟨y,hy⟩:∃y,ks[j]? =some y:=⟨_,bn hj⟩
   obtain⟨ad,y',ds,a1,a2,a3,a4,a5,a6⟩:=(wj m5).get (aG j) (by omega);rw[az,hy]at a2;injection a2 with a2;subst a2;have JI:=a6;obtain⟨D',rfl⟩:∃D',D=D'+1:=by
    cases D with
    | zero=>exact a6.elim
    | succ D'=>exact⟨D',rfl⟩
   obtain⟨uH,uI,pd,jj,rfl,_⟩:=JI;have tH:=qD hy;have SR:(xs++⟨bb.k,bb.nm,pa,dp,0⟩::pb (xs.length+1) xs.length (dp+1) (ks.take j)).length=xs.length+1+dj (ks.take j):=by
    rw[ah,ao,sU];omega
   refine⟨ad,a1,_,_,_,_,uH,uI,pd,jj,_,a5,fun k6 w6 hk6 Ws dD=>?_⟩;have z6:=dD.size;have m6:pD b s w q w6:=m5.trans (pD.only dD);rw[gV (by omega) (by omega),O1];refine(Sq t (D'+1) (pa:=((xs.length:Nat):Int)) ((bI t (D'+1)).keep a6 fun k _ bp=>dD.block k bp (by simp)) (s:=q) (xs:=xs++⟨bb.k,bb.nm,pa,dp,0⟩::pb (xs.length+1) xs.length (dp+1) (ks.take j)) (b:=b) (dp:=dp+1) hF (dD.blk yh (by simp)) (Iu.u6 dD.p0 fun _ _ _ h=>h) (by rw[SR];omega) (by omega) (by omega)).mono ?_;rintro _ w7 ⟨rfl,q7,hB7,hS7,m7⟩;have z7:=m7.1.size;refine⟨rfl,m7.1.same fun x hx=>?_,kv-1,by omega,j+1,q7,by rw[gV (by omega) (by omega)];rfl,by omega,by omega,hB7,?_,m6.trans m7,by omega,fun k hk e=>?_⟩
   ·simp only[ak,aw,bf]at hx;rcases hx with rfl | rfl
    ·exact⟨by omega,fun h=>h.elim (by omega) fun h=>n5 _ h rfl⟩
    ·refine⟨Ws,fun h=>h.elim (by omega) fun h=>?_⟩;have:=(Iu.blk h).2;dsimp only at this;omega
   ·have e:ks.take (j+1)=ks.take j++[y]:=by rw[aY,hy];rfl
    rw[e,Hf,pb,pb,aN];rw[SR,av,bc]at hS7;exact hS7
   ·subst e;rcases m7.2 _ hk with h | h
    ·exact n5 _ h rfl
    ·omega
  ·intro hc w8 fy;have mc:j=ks.length:=by have:=ar hc;omega
   subst mc;rw[aO (aq _)]at Iu;have wl:=fy.blk yh (by simp);have hS8:fZ (b+1) w8 q _:=Iu.u6 fy.p0 fun _ _ _ h=>h;have z8:=fy.size;have bN:(xs++⟨bb.k,bb.nm,pa,dp,0⟩::pb (xs.length+1) xs.length (dp+1) ks)[xs.length]? =some ⟨bb.k,bb.nm,pa,dp,0⟩:=by
    rw[bh (aq _),qn];rfl
   obtain⟨g,cells,Bn,p1,p2,p3,p4,p5,p6,p7⟩:=Own.agA ic hS8 bN;have aiW:Bn=UB ⟨bb.k,bb.nm,pa,dp,0⟩:=p6;subst aiW;have hql:q.n=xs.length+1+dj ks:=by rw[Iu.len,ah,ao,sU];omega
   obtain⟨p8,p9⟩:=p7 4 (.int .i64 (q.n:Int)) ⟨bb.k,bb.nm,pa,dp,(q.n:Int)⟩ (fun _=>False) (by decide) rfl fun _ h=>h.elim;rw[<-O1]at p2;have hgb:=(Iu.blk p1).1;dsimp only at hgb;refine⟨q,cell wl,q,cell wl,_,p2,g,xs.length*5+4,cells,_,by rw[eV,O1],p3,by rw[<-O1]at p8⊢;exact p8,fun e=>n5 g p1 e.symm,fun w9 fG hB9=>⟨rfl,q,fG.blk wl (by simp;omega),?_,?_⟩⟩
   ·have:=p9 w9 fG hB9;rw[yr _ _ (aq _),qn,Ed]at this;rw[zl];have e:(q.n:Int)=((xs.length+1+dj ks:Nat):Int):=by rw[hql]
    rw[e]at this;exact this
   ·refine(m5.trans (pD.only fy)).trans ⟨fG.p fun k hk=>?_,fun k hk=>.inl hk⟩;simp only[ae]at hk;subst hk;exact .inl (.inr p1)
theorem Qn {w:World} {F:Nat->Prop} {D:Nat} {c:Ch} {vs:Sl} {cs:List Value} (hx:ChR false (D+1) w F c vs cs) (hn:Ea c) (hs:oQ c.vars+mY c.root<=8388608) (hE:Er w) (hT:Tb w):
  Calls Tryz.prog 13 #[.agg (vs.v::cs).toArray] w fun e w'=>e=.returned (.int .i64 (dF c).2)/\Only [] w w':=by
 obtain⟨en,lv,mv,kids,rfl,_⟩:=hx.root;refine ret (afF vs c.root.b.k (T c.root.b.nm) (T c.root.b.ini) (T c.root.b.dft) en lv mv kids c.root.b.a (fun v w'=>v=.int .i64 (dF c).2/\Only [] w w') w ?_);unfold Zz;intro k0 w0 fQ eE cd;have Tg:ChR false (D+1) w0 F c vs (ly c.root.b.k c.root.b.nm c.root.b.ini c.root.b.dft en lv mv kids c.root.b.a):=⟨hx.vars.keep fb (by decide) fun k _ bp=>cd.block k bp (by simp),(bI false _).keep hx.root fun k _ bp=>cd.block k bp (by simp)⟩
 refine(Qk Tg hn hs (hE.only cd) (hT.only cd)).mono ?_;rintro _ w1 ⟨rfl,bR⟩;exact⟨_,_,rfl,bR.same (by simp;omega),rfl,cd.cf bR⟩
theorem ur {c:Ch} (h:(dF c).2=0):iB c.root<=64:=by
 unfold dF at h;by_cases h1:lR c=true
 ·unfold lR at h1;simp only[ab]at h1;exact(aj h1.2).2.2.1
 ·rw[if_neg h1]at h;exact absurd h (by decide)
theorem Mp {w:World} {F:Nat->Prop} {D:Nat} {c:Ch} {vs:Sl} {cs:List Value} (hx:ChR false (D+1) w F c vs cs) (hn:Ea c) (hs:oQ c.vars+mY c.root<=8388608) (hE:Er w) (hT:Tb w):
  Calls Tryz.prog 18 #[.agg (vs.v::cs).toArray] w fun e w'=>(∃s,e=.returned (.tuple #[Sl.v s,.int .i64 (dF c).2])/\((dF c).2=0->fZ w.heap.size w' s (ji c))/\((dF c).2≠0->s=Sl.nil))/\Only [] w w':=by
 obtain⟨en,lv,mv,kids,kK,_⟩:=hx.root;subst kK;refine(afG vs c.root.b.k (T c.root.b.nm) (T c.root.b.ini) (T c.root.b.dft) en lv mv kids c.root.b.a (fun v w'=>(∃s,v=.tuple #[Sl.v s,.int .i64 (dF c).2]/\((dF c).2=0->fZ w.heap.size w' s (ji c))/\((dF c).2≠0->s=Sl.nil))/\Only [] w w') w ?_).mono ?_
 ·unfold ZA;intro k0 w0 fQ eE cd;have z0:=cd.size;have keep:∀{u:World},Only [] w u->ChR false (D+1) u F c vs (ly c.root.b.k c.root.b.nm c.root.b.ini c.root.b.dft en lv mv kids c.root.b.a):=fun hO=>⟨hx.vars.keep fb (by decide) fun k _ bp=>hO.block k bp (by simp),(bI false _).keep hx.root fun k _ bp=>hO.block k bp (by simp)⟩
  refine(Qn (keep cd) hn hs (hE.only cd) (hT.only cd)).mono ?_;rintro _ w1 ⟨rfl,bR⟩;have z1:=bR.size;have o1:=cd.cf bR;refine⟨_,rfl,bR.same (by simp;omega),fun hc=>?_,fun hc k1 w2 kJ jp cO ru=>?_⟩
  ·have hc:(dF c).2≠0:=by simpa using hc
   exact⟨⟨Sl.nil,rfl,fun h=>absurd h hc,fun _=>rfl⟩,o1⟩
  have hc:(dF c).2=0:=by simpa using hc
  have hnd:=ur hc;have o2:=o1.cf cO;have z2:=cO.size;have hr2:lQ false (D+1) w2 (fun k=>k<w.heap.size) c.root (ly c.root.b.k c.root.b.nm c.root.b.ini c.root.b.dft en lv mv kids c.root.b.a):=
   (bI false _).keep ((bI false _).mono ((bI false _).inHeap hx.root) fun k hk=>hk.2) fun k _ bp=>o2.block k bp (by simp)
  refine(Sq false (D+1) (s:=Sl.nil) (xs:=[]) (pa:= -1) (dp:=0) hr2 (fun k hk=>by omega) ru (Own.nil _ _ _ _ _ _) (by rw[aM];omega) (by decide) (by omega)).mono ?_;rintro _ w3 ⟨rfl,s',wk,Xm,m3⟩;have z3:=m3.1.size;refine⟨rfl,m3.1.same fun x hx=>?_,s',wk,⟨s',by rw[hc],fun _=>?_,fun h=>absurd hc h⟩,?_⟩
  ·simp only[ae]at hx;subst hx;exact⟨by omega,fun h=>h.elim (by omega) fun h=>by cases h⟩
  ·rw[aV]at Xm;exact Own.low Xm (by omega)
  ·exact(o2.BH m3.1).only fun k hk=>hk.elim (by omega) fun h=>by cases h
 ·rintro _ w' ⟨v,rfl,⟨s,rfl,h1,h2⟩,h3⟩;exact⟨⟨s,rfl,h1,h2⟩,h3⟩
section
variable {w:World} {F:Nat->Prop} {l:Sl} {xs:List eG}
theorem ti (h:SliceF zw 5 w F l xs) {i:Nat} {x:eG} (hx:xs[i]? =some x):∃ad,cD l (i:Int) 5 ad/\aB w ad (UB x)/\aB w (ad.add 2) [.int .i64 x.pa]/\aB w (ad.add 3) [.int .i64 x.dp]/\aB w (ad.add 4) [.int .i64 x.en]:=by
 have bp:=(au.1 hx).1;have hl:=h.len;obtain⟨ad,y,cs,g1,g2,g3,g4,g5,g6⟩:=h.get (aG i) (by omega);rw[az,hx]at g2;injection g2 with g2;subst g2;have g6:cs=UB x:=g6;subst g6;have one:∀(n:Nat) (v:Value),(UB x)[n]? =some v->aB w (ad.add n) [v]:=fun n v hv j u hu=>by
  cases j with
  | zero=>
   rw[bm,ai]at hu;subst hu;have:=g5 n v hv;rw[nq,db];exact this
  | succ j=>simp at hu
 exact⟨ad,g1,g5,one 2 _ rfl,one 3 _ rfl,one 4 _ rfl⟩
def A2 (xs:List eG) (n:Int):Bool:=decide (n>=0)&&decide (n<(xs.length:Int))
theorem nN {n:Int}:A2 xs n=true↔vv xs n:=by
 unfold A2 vv;rw[ab,dv,dv]
theorem Mq (h:SliceF zw 5 w F l xs) (n:Int):Calls Tryz.prog 102 #[l.v,.int .i64 n] w fun e w'=>e=.returned (.bool (A2 xs n))/\w'=w:=by
 refine ret (afK l n (fun v w'=>v=.bool (A2 xs n)/\w'=w) w ?_);unfold ZE;rw[h.len];exact⟨rfl,rfl⟩
noncomputable def Jc (xs:List eG) (b a:Int):Bool:=open Classical in decide (∃i j:Nat,b=i/\a=j/\vZ xs i j)
theorem nP {b a:Int}:Jc xs b a=true↔∃i j:Nat,b=i/\a=j/\vZ xs i j:=by
 unfold Jc;exact @dv _ (Classical.propDecidable _)
theorem Di (h:SliceF zw 5 w F l xs) (hF:Fo xs) (b a:Int):Calls Tryz.prog 103 #[l.v,.int .i64 b,.int .i64 a] w fun e w'=>e=.returned (.bool (Jc xs b a))/\w'=w:=by
 refine ret (afL l b a (fun v w'=>v=.bool (Jc xs b a)/\w'=w) w ?_);unfold ZH;refine⟨fun r w'=>r=Jc xs b a/\w'=w,fun r w' ⟨h1,h2⟩=>⟨by rw[h1],h2⟩,(Mq h a).mono ?_⟩;rintro _ _ ⟨rfl,rfl⟩;refine⟨_,rfl,fun ha=>(Mq h b).mono ?_,fun ha=>⟨?_,rfl⟩⟩
 ·rintro _ _ ⟨rfl,rfl⟩;have ha:=nN.1 ha;by_cases hb:(A2 xs b&&decide (b<=a))=true
  ·rw[ab]at hb;have yL:=nN.1 hb.1;have x7:=aj hb.2;obtain⟨i,rfl⟩:∃i:Nat,b=i:=⟨b.toNat,by have:=yL.1;omega⟩
   obtain⟨j,rfl⟩:∃j:Nat,a=j:=⟨a.toNat,by have:=ha.1;omega⟩
   obtain⟨x,hx⟩:=pL (xs:=xs) (i:=i) (by have:=yL.2;omega);obtain⟨ad,g1,g2,_,_,g5⟩:=ti h hx;refine⟨_,rfl,ad,fun _=>g1,x.en,fun _=>g5,?_,rfl⟩;rw[hb.1,hb.2,dl,dl,br,nP,dv];constructor
   ·exact fun h=>⟨i,j,rfl,rfl,x,hx,by omega,h⟩
   ·rintro⟨i',j',e1,e2,y,hy,h1,h2⟩;have e1:i=i':=by omega
    subst e1;rw[hx,ai]at hy;subst hy;omega
  ·rw[nW]at hb;refine⟨_,rfl,⟨0,0,none⟩,fun h=>(by rw[hb]at h;cases h),0,fun h=>(by rw[hb]at h;cases h),?_,rfl⟩;rw[hb,dI,eq_comm,<-nW,nP];rintro⟨i,j,rfl,rfl,y,hy,h1,h2⟩;have:=pK hy;rw[show A2 xs (i:Int)=true from nN.2 ⟨by omega,by omega⟩,show decide ((i:Int)<=(j:Int))=true from aZ (by omega)]at hb;cases hb
 ·rw[eq_comm,<-nW,nP];rintro⟨i,j,rfl,rfl,hc⟩;have:=hF.U0 hc;rw[show A2 xs (j:Int)=true from nN.2 ⟨by omega,by omega⟩]at ha;cases ha
noncomputable def Jd (xs:List eG) (a b:Int):Bool:=open Classical in decide (∃i j:Nat,b=i/\a=j/\i<j/\vZ xs i j)
theorem xO {a b:Int}:Jd xs a b=true↔∃i j:Nat,b=i/\a=j/\i<j/\vZ xs i j:=by
 unfold Jd;exact @dv _ (Classical.propDecidable _)
theorem Je (h:SliceF zw 5 w F l xs) (hF:Fo xs) (a b:Int):Calls Tryz.prog 50 #[l.v,.int .i64 a,.int .i64 b] w fun e w'=>e=.returned (.bool (Jd xs a b))/\w'=w:=by
 refine ret (afM l a b (fun v w'=>v=.bool (Jd xs a b)/\w'=w) w ?_);unfold ZI;refine⟨fun r w'=>r=Jd xs a b/\w'=w,fun r w' ⟨h1,h2⟩=>⟨by rw[h1],h2⟩,fun hc=>(Di h hF b a).mono ?_,fun hc=>⟨?_,rfl⟩⟩
 ·rintro _ _ ⟨rfl,rfl⟩;have hc:a≠b:=by simpa using hc
  refine⟨_,rfl,?_,rfl⟩;rw[br,nP,xO];refine⟨fun⟨i,j,e1,e2,Bp⟩=>⟨i,j,e1,e2,?_,Bp⟩,fun⟨i,j,e1,e2,_,Bp⟩=>⟨i,j,e1,e2,Bp⟩⟩;obtain⟨s,_,tH,_⟩:=Bp;omega
 ·have hc:a=b:=by simpa using hc
  subst hc;rw[eq_comm,<-nW,xO];rintro⟨i,j,e1,e2,hl,_⟩;omega
abbrev vB (B:Nat) (w:World) (s:Sl) (l:List Int):Prop:=Own pe 1 3 B w (fun _=>False) s l
theorem vB.of {B:Nat} {w:World} {F:Nat->Prop} {s:Sl} {l:List Int} (h:Own pe 1 3 B w F s l):vB B w s l:=by
 rcases h with⟨rfl,rfl⟩ | ⟨g,css,tail,h1,h2,h4,h5,h6,h7,h9,h8⟩
 ·exact .inl ⟨rfl,rfl⟩
 ·exact .inr ⟨g,css,tail,h1,h2,h4,h5,h6,h7,h9,ey.QM (fun x c _ hc=>hc) h8⟩
end
end Go.Proofs.YtmhoiicofhlgbaaGreatDoor.Con
namespace Go.Proofs.YtmhoiicofhlgbaaGreatDoor.Con
open Go Go.RowKit Go.Kt Go.Kt.V Go.Proofs.YtmhoiicofhlgbaaGreatDoor.Vc
set_option linter.unusedSimpArgs false
set_option linter.unusedVariables false
set_option maxHeartbeats 800000
set_option maxRecDepth 100000
section
variable {w:World} {F G:Nat->Prop} {l sN:Sl} {xs:List eG} {ns:List Int}
theorem Qo {k0:Nat} (h:SliceF zw 5 w F l xs) (hB:Blk w k0 38 [l.v]) (n:Int):Calls Tryz.prog 101 #[.int .i64 n,.pointer (some ⟨k0,0,none⟩)] w fun e w'=>e=.returned (.bool (!A2 xs n))/\w'=w:=by
 refine ret (afJ n ⟨k0,0,none⟩ (fun v w'=>v=.bool (!A2 xs n)/\w'=w) w ?_);unfold ZD;refine⟨l,hB.cells 0 [_] fun j v hj=>(by rw[aJ];exact hj),(Mq h n).mono ?_⟩;rintro _ _ ⟨rfl,rfl⟩;exact⟨_,rfl,rfl,rfl⟩
theorem Mr {k0:Nat} (h:SliceF zw 5 w F l xs) (hB:Blk w k0 38 [l.v]) (hN:SliceF pe 1 w G sN ns):Calls Tryz.prog 166 #[sN.v,.func (.func 101) #[] #[.pointer (some ⟨k0,0,none⟩)]] w fun e w'=>(∃i:Int,e=.returned (.int .i64 i)/\(i>=0↔∃n,n∈ns/\¬vv xs n))/\w'=w:=by
 refine(ZG sN ⟨.func (.func 101) #[] #[.pointer (some ⟨k0,0,none⟩)],rfl⟩ (fun v w'=>(∃i:Int,v=.int .i64 i/\(i>=0↔∃n,n∈ns/\¬vv xs n))/\w'=w) w ?_).mono ?_
 ·unfold TX;have hl:=hN.len;have Kb:=hN.cap;have BJ:=hN.big;refine⟨fun kv i w'=>∃j:Nat,i=(j:Int)/\kv+j=ns.length/\j<=ns.length/\(∀n,n∈ns.take j->vv xs n)/\w'=w,ns.length,⟨0,rfl,by omega,aF _,fun n hn=>by simp at hn,rfl⟩,?_⟩;rintro kv _ u ⟨j,rfl,BN,hj,hh,hu⟩;obtain rfl:w=u:=hu.symm;refine⟨fun hc=>?_,fun hc=>⟨⟨-1,rfl,fun h=>absurd h (by decide),fun⟨n,hn,hb⟩=>absurd (hh n ?_) hb⟩,rfl⟩⟩
  ·have hc:=aj hc;obtain⟨ad,y,cs,g1,g2,g3,g4,g5,g6⟩:=hN.get (aG j) (by omega);rw[az]at g2;obtain⟨rfl,hy⟩:=g6;refine⟨ad,g1,y,g5,101,[],[.pointer (some ⟨k0,0,none⟩)],rfl,gr (by kernel_rfl),(Qo h hB y).mono ?_⟩;rintro _ u ⟨rfl,hu⟩;obtain rfl:w=u:=hu.symm;refine⟨_,rfl,fun hb=>⟨⟨j,rfl,fun _=>⟨y,aE g2,fun hh'=>?_⟩,fun _=>by omega⟩,rfl⟩,fun hb=>⟨kv-1,by omega,j+1,by rw[gV (by omega) (by omega)];rfl,by omega,by omega,fun n hn=>?_,rfl⟩⟩
   ·rw[nN.2 hh']at hb;cases hb
   ·rw[aY,g2,bJ]at hn;rcases hn with hn | hn
    ·exact hh n hn
    ·simp only[Option.toList,ae]at hn;subst hn;exact nN.1 (by simpa using hb)
  ·have hc:=ar hc;rwa[aO (by omega)]
 ·rintro _ w' ⟨v,rfl,⟨i,rfl,h1⟩,h2⟩;exact⟨⟨i,rfl,h1⟩,h2⟩
def aao (xs:List eG) (ns:List Int):Prop:=ns=[]∨∃n,n∈ns/\¬vv xs n
theorem UC (h:SliceF zw 5 w F l xs) (hF:Fo xs) (hN:SliceF pe 1 w G sN ns):Calls Tryz.prog 49 #[l.v,sN.v] w fun e w'=>(∃r:Int,e=.returned (.int .i64 r)/\Mt xs ns r)/\Only [] w w':=by
 refine(afI l sN (fun v w'=>(∃r:Int,v=.int .i64 r/\Mt xs ns r)/\Only [] w w') w ?_).mono ?_
 ·unfold ZC;intro k0 w0 fQ eE cd;have hl:=hN.len;have Kb:=hN.cap;have BJ:=hN.big;have QV:=h.len;have kL:∀{u:World},Only [] w u->SliceF zw 5 u F l xs:=fun hO=>SliceF.only ic (by decide) h hO (by simp);have kN:∀{u:World},Only [] w u->SliceF pe 1 u G sN ns:=fun hO=>SliceF.only kZ (by decide) hN hO (by simp);refine⟨fun b q u=>(b=true↔aao xs ns)/\l=q/\Only [] w u,?_,fun hc=>?_,fun hc hB=>?_⟩
  ·rintro b _ u ⟨hb,rfl,hO⟩;refine⟨fun hbt=>⟨⟨-1,rfl,.inl ⟨hb.1 hbt,rfl⟩⟩,hO⟩,fun hbf=>?_⟩;have hg:¬aao xs ns:=fun hh=>by rw[hb.2 hh]at hbf;cases hbf
   have eI:ns≠[]:=fun e=>hg (.inl e);have hh:∀n,n∈ns->vv xs n:=fun n hn=>Classical.byContradiction fun hx=>hg (.inr ⟨n,hn,hx⟩);have hlp:0<ns.length:=o8.2 eI;obtain⟨ad,n0,cs,g1,g2,g3,g4,g5,g6⟩:=(kN hO).get (i:=0) (by omega) (by omega);obtain⟨rfl,_⟩:=g6;have g2:ns[0]? =some n0:=g2;have Wt:=hh n0 (aE g2);obtain⟨m0,rfl⟩:∃m:Nat,n0=m:=⟨n0.toNat,by have:=Wt.1;omega⟩
   have ht1:ns.take 1=[(m0:Int)]:=by
    cases ns with
    | nil=>exact absurd rfl eI
    | cons a ns=>
     rw[bm,ai]at g2;subst g2;rfl
   refine⟨ad,g1,_,g5,⟨by omega,Kb⟩,fun kv i1 i2 q u=>∃m j:Nat,i1=(m:Int)/\i2=(j:Int)/\kv+j=ns.length-1/\j<=ns.length-1/\l=q/\Only [] w u/\WJ xs (ns.take (j+1)) m,ns.length-1,⟨m0,0,rfl,rfl,by omega,by omega,rfl,hO,?_⟩,?_⟩
   ·rw[ht1];refine⟨m0,rfl,fun n hn=>?_,fun j hj=>?_⟩
    ·simp only[ae]at hn;subst hn;exact⟨m0,rfl,hF.Nz (by have:=Wt.2;omega)⟩
    ·obtain⟨k,e,s,_,tH,_⟩:=hj m0 (by simp);omega
   rintro kv _ _ _ u1 ⟨m,j,rfl,rfl,BN,hj,rfl,bR,Ob⟩;have NE:=SliceF.cut (kN bR) (lo:=1) (hi:=sN.n) (m:=sN.c) (by omega) Kb (aq _) (aq _);have nY:(sN.cut 1 sN.n sN.c 1).n=ns.length-1:=by
    rw[NE.len,ck,bK];omega
   refine⟨fun hc=>?_,fun hc=>?_⟩
   ·have hc:=aj hc;obtain⟨ad1,n3,cs,p1,p2,p3,p4,p5,p6⟩:=NE.get (aG j) (by omega);obtain⟨rfl,_⟩:=p6;rw[az,List.getElem?_take_of_lt (by omega),iT]at p2;have p2:ns[j+1]? =some n3:=by rw[<-p2];congr 1;omega
    have hn3:=hh n3 (aE p2);obtain⟨t,rfl⟩:∃m:Nat,n3=m:=⟨n3.toNat,by have:=hn3.1;omega⟩
    have pc:ns.take (j+1+1)=ns.take (j+1)++[(t:Int)]:=by rw[aY,p2];rfl
    obtain⟨m',em,t1,t2⟩:=Ob;have em:m=m':=by omega
    subst em;refine⟨ad1,p1,_,p5,fun kv' i4 q u=>∃m:Nat,i4=(m:Int)/\m=kv'/\l=q/\Only [] w u/\(∀n,n∈ns.take (j+1)->∃k:Nat,n=k/\vZ xs m k)/\∀j':Nat,(∀n,n∈ns.take (j+1+1)->∃k:Nat,n=k/\vZ xs j' k)->j'<=m,m,⟨m,rfl,rfl,rfl,bR,t1,fun j' Oz=>t2 j' fun n hn=>Oz n ?_⟩,?_⟩
    ·rw[pc];exact yR _ hn
    rintro kv' _ _ u2 ⟨m2,rfl,rfl,rfl,cO,q1,q2⟩;refine(Di (kL cO) hF m2 t).mono ?_;rintro _ u3 ⟨rfl,hu⟩;obtain rfl:u2=u3:=hu.symm;refine⟨_,rfl,aD.refl _ _,fun Rf=>?_,fun Rf=>?_⟩
    ·have Rf:¬∃i j:Nat,(m2:Int)=i/\(t:Int)=j/\vZ xs i j:=fun e=>by rw[nP.2 e]at Rf;cases Rf
     have Ih:t<xs.length:=by have:=hn3.2;omega
     have vH:0<m2:=Nat.pos_of_ne_zero fun e=>Rf ⟨0,t,by omega,rfl,hF.NA Ih⟩;have Oc:(m0:Int)∈ns.take (j+1):=by
      rw[List.mem_iff_getElem?];exact⟨0,by rw[List.getElem?_take_of_lt (by omega)];exact g2⟩
     have aiX:m2<xs.length:=by
      obtain⟨k,_,s,e,_⟩:=q1 _ Oc;exact pK e
     obtain⟨y,hy⟩:=pL aiX;obtain⟨p,s,r1,r2,r3,r4,r5,r6⟩:=hF.QP hy vH;obtain⟨ad2,b1,_,b3,_,_⟩:=ti (kL cO) hy;have cpm:vZ xs p m2:=⟨s,r3,by omega,r5⟩
     refine⟨ad2,b1,y.pa,b3,p,r1,p,r2,rfl,rfl,cO,fun n hn=>?_,fun j' Oz=>?_⟩
     ·obtain⟨k,e,hk⟩:=q1 n hn;exact⟨k,e,hF.U1 cpm hk⟩
     ·have tH:=q2 j' Oz;have aoE:j'≠m2:=fun e=>by
       subst e;obtain⟨k,e,hk⟩:=Oz t (by rw[pc];simp);exact Rf ⟨j',k,rfl,e,hk⟩
      obtain⟨k,e,hk⟩:=Oz m0 (by rw[pc];exact yR _ Oc);obtain⟨k',e',wj⟩:=q1 m0 Oc;have:k=k':=by omega
      subst this;obtain⟨s',v1,v2,v3⟩:=hF.U2 hk wj tH;exact r6 j' s' v1 (by omega) v3
    ·have Rf:Jc xs m2 t=true:=by simpa using Rf
     obtain⟨i',t',e1,e2,hct⟩:=nP.1 Rf;have e1:m2=i':=by omega
     have e2:t=t':=by omega
     subst e1 e2;refine⟨kv-1,by omega,m2,j+1,rfl,by rw[gV (by omega) (by omega)];rfl,by omega,by omega,rfl,cO,m2,rfl,fun n hn=>?_,q2⟩;rw[pc,bJ]at hn;rcases hn with hn | hn
     ·exact q1 n hn
     ·simp only[ae]at hn;subst hn;exact⟨t,rfl,hct⟩
   ·have hc:=ar hc;rw[aO (by omega)]at Ob;exact⟨⟨m,rfl,.inr ⟨⟨eI,hh⟩,Ob⟩⟩,bR⟩
  ·have hc:(sN.n:Int)=0:=by simpa using hc
   exact⟨⟨fun _=>.inl (aW (by omega)),fun _=>rfl⟩,rfl,cd⟩
  ·have hc:¬(sN.n:Int)=0:=by simpa using hc
   refine(ZF sN ⟨.func (.func 101) #[] #[.pointer (some ⟨k0,0,none⟩)],rfl⟩ (fun v w'=>(∃b:Bool,v=.bool b/\(b=true↔∃n,n∈ns/\¬vv xs n))/\w'=w0) w0 ?_).mono ?_
   ·unfold TW;refine(Mr (kL cd) hB (kN cd)).mono ?_;rintro _ u ⟨⟨i,rfl,hi⟩,hu⟩;obtain rfl:w0=u:=hu.symm;exact⟨i,rfl,⟨_,rfl,by rw[dv];exact hi⟩,rfl⟩
   ·rintro _ u ⟨v,rfl,⟨b,rfl,hb⟩,hu⟩;obtain rfl:w0=u:=hu.symm;refine⟨b,rfl,l,hB,⟨fun h=>.inr (hb.1 h),fun h=>?_⟩,rfl,cd⟩;rcases h with h | h
    ·subst h;exact absurd (by rw[hl];rfl) hc
    ·exact hb.2 h
 ·rintro _ w' ⟨v,rfl,⟨r,rfl,h1⟩,h2⟩;exact⟨⟨r,rfl,h1⟩,h2⟩
end
end Go.Proofs.YtmhoiicofhlgbaaGreatDoor.Con
namespace Go.Kt
open Go Go.RowKit Go.MapKept
set_option linter.unusedSimpArgs false
set_option linter.unusedVariables false
structure Ga {κ:Type} (d:TypeDesc) (kv:κ->Value) (g:κ->Prop):Prop where
 is:∀k,IsKey d (kv k)
 inj:∀{k l},kv k=kv l->k=l
structure MapV {κ:Type} (kv:κ->Value) (g:κ->Prop) (w:World) (r:Nat) (m:κ->Option Value) (n:Nat):Prop where
 mem:∃es clock,w.heap[r]? =some (.map es clock)/\Stamped es clock/\es.size<=n/\(∀x,x∈es.toList->∃k,x.key=kv k/\g k)/\
  ∀k v,m k=some v↔∃x,x∈es.toList/\x.key=kv k/\x.val=v
section
variable {κ:Type} {d:TypeDesc} {kv:κ->Value} {g:κ->Prop} {P:Program} {w w':World} {r n:Nat} {m:κ->Option Value} {mty kt et:TypeId}
theorem MapV.keep (h:MapV kv g w r m n) (hk:w'.heap[r]? =w.heap[r]?):MapV kv g w' r m n:=by
 obtain⟨es,c,h1,h2⟩:=h.mem;exact⟨es,c,hk.trans h1,h2⟩
theorem MapV.le (h:MapV kv g w r m n) {n':Nat} (hn:n<=n'):MapV kv g w r m n':=by
 obtain⟨es,c,h1,h2,h3,h4⟩:=h.mem;exact⟨es,c,h1,h2,ay h3 hn,h4⟩
theorem MapV.lt (h:MapV kv g w r m n):r<w.heap.size:=by
 obtain⟨es,c,h1,h2⟩:=h.mem;exact(jL.1 h1).1
theorem MapV.only (h:MapV kv g w r m n) {bs:List Nat} (hO:Only bs w w') (hn:r∉bs):MapV kv g w' r m n:=h.keep (hO.block r h.lt hn)
theorem MapV.ext (h:MapV kv g w r m n) {m':κ->Option Value} (he:∀k,m' k=m k):MapV kv g w r m' n:=by
 obtain⟨es,c,h1,h2,h3,h4,h5⟩:=h.mem;exact⟨es,c,h1,h2,h3,h4,fun k v=>by rw[he,h5]⟩
theorem MapV.ok (h:MapV kv g w r m n) (K:Ga d kv g) {k:κ} (hk:m k≠none):g k:=by
 obtain⟨es,c,h1,h2,h3,h4,h5⟩:=h.mem;cases hm:m k with
 | none=>exact absurd hm hk
 | some v=>
  obtain⟨x,hx,e1,_⟩:=(h5 k v).1 hm;obtain⟨l,e2,hl⟩:=h4 x hx;rwa[K.inj (e1.symm.trans e2)]
theorem MapV.make (w:World):(Instr.makeMap mty none).run P w=.ok (.map (some w.heap.size)) (w.alloc (.map #[] 0))/\MapV kv g (w.alloc (.map #[] 0)) w.heap.size (fun _=>none) 0/\Only [] w (w.alloc (.map #[] 0)):=
 ⟨rfl,⟨#[],0,heap_alloc_new w _,stamped_empty 0,by simp,by simp,by simp⟩,Only.alloc _ _⟩
theorem HM (K:Ga d kv g) {es:Array MapEntry} (h:∀x,x∈es.toList->∃k,x.key=kv k/\g k):∀x∈es.toList,IsKey d x.key:=fun x hx=>by
 obtain⟨k,e,_⟩:=h x hx;rw[e];exact K.is k
theorem MapV.lookup (K:Ga d kv g) (hm:P.underlying mty=some (.map kt et)) (hd:P.underlying kt=some d) {z:Value} (hz:∀w,(zeroValue et).run P w=.ok z w) (h:MapV kv g w r m n) (k:κ):
  (Instr.lookup mty (.map (some r)) (kv k) false).run P w=.ok ((m k).getD z) w:=by
 obtain⟨es,c,h1,h0,hn,h2,h4⟩:=h.mem;rcases findNow_spec (K.is k) es.toList 0 (HM K h2)with⟨g1,g2⟩ | ⟨j,e,g1,g2,g3⟩
 ·have hn:m k=none:=by
   cases Bq:m k with
   | none=>rfl
   | some v=>
    obtain⟨x,hx,hk,_⟩:=(h4 k v).1 Bq;exact absurd hk (g2 x hx)
  simp[Instr.lookup,run_underlying hm,MapKept.run_getObj_map h1,MapKept.run_checkKey hd (K.is k),MapKept.run_findKey hd g1,Result.andThen,hz,hn]
 ·have he:=aE g2;have Bq:m k=some e.val:=(h4 k e.val).2 ⟨e,he,g3,rfl⟩;simp[Instr.lookup,run_underlying hm,MapKept.run_getObj_map h1,MapKept.run_checkKey hd (K.is k),MapKept.run_findKey hd g1,Result.andThen,Bq]
variable [DecidableEq κ]
theorem MapV.update (K:Ga d kv g) (hm:P.underlying mty=some (.map kt et)) (hd:P.underlying kt=some d) (h:MapV kv g w r m n) {k:κ} (hg:g k) (v:Value):
  ∃w',(Instr.mapUpdate mty (.map (some r)) (kv k) v).run P w=.ok () w'/\MapV kv g w' r (fun x=>if x=k then some v else m x) (if m k=none then n+1 else n)/\Only [r] w w':=by
 obtain⟨es,c,h1,h0,hn,h2,h4⟩:=h.mem;have fin:∀{Wu:Array MapEntry} {c' n':Nat},Stamped Wu c'->Wu.size<=n'->(∀x,x∈Wu.toList->∃k,x.key=kv k/\g k)->
   (∀k' v',(∃x,x∈Wu.toList/\x.key=kv k'/\x.val=v')↔(k'=k/\v'=v)∨(k'≠k/\m k'=some v'))->∀w',w'.heap[r]? =some (.map Wu c')->MapV kv g w' r (fun x=>if x=k then some v else m x) n':=by
  intro Wu c' n' e0 en e1 e3 w' hw;refine⟨Wu,c',hw,e0,en,e1,fun k' v'=>?_⟩;rw[e3];by_cases JE:k'=k
  ·simp only[JE,if_true,ai,qZ,ne_eq,not_true_eq_false,false_and,bf];exact⟨fun h=>h.symm,fun h=>h.symm⟩
  ·simp only[if_neg JE,JE,false_and,false_or,ne_eq,not_false_eq_true,qZ,fI]
 rcases findNow_spec (K.is k) es.toList 0 (HM K h2)with⟨g1,g2⟩ | ⟨j,e,g1,g2,g3⟩
 ·have Bq:m k=none:=by
   cases hq:m k with
   | none=>rfl
   | some v=>
    obtain⟨x,hx,hk,_⟩:=(h4 k v).1 hq;exact absurd hk (g2 x hx)
  rw[if_pos Bq];refine⟨{w with heap:=w.heap.setIfInBounds r (.map (es.push {key:=kv k,val:=v,born:=c}) (c+1))},?_,fin (stamped_push h0 g2) (by simp;omega) ?_ ?_ _ (heap_set h1).1,kz h1⟩
  ·simp[Instr.mapUpdate,run_underlying hm,MapKept.run_getObj_map h1,MapKept.run_checkKey hd (K.is k),MapKept.run_findKey hd g1,MapKept.run_setObj_map _ h1,Result.andThen]
  ·intro x hx;simp only[mg,bJ,ae]at hx;rcases hx with hx | rfl
   ·exact h2 x hx
   ·exact⟨k,rfl,hg⟩
  ·intro k' v';simp only[mg,bJ,ae];constructor
   ·rintro⟨x,hx | rfl,e1,e2⟩
    ·exact .inr ⟨fun h=>g2 x hx (by rw[e1,h]),(h4 k' v').2 ⟨x,hx,e1,e2⟩⟩
    ·exact .inl ⟨(K.inj e1).symm,e2.symm⟩
   ·rintro(⟨rfl,rfl⟩ | ⟨hn,h⟩)
    ·exact⟨_,.inr rfl,rfl,rfl⟩
    ·obtain⟨x,hx,e1,e2⟩:=(h4 k' v').1 h;exact⟨x,.inl hx,e1,e2⟩
 ·have hj:es[j]? =some e:=by simpa using g2
  have mF:j<es.toList.length:=(au.1 g2).1;have Bq:m k≠none:=by rw[(h4 k e.val).2 ⟨e,aE g2,g3,rfl⟩];simp
  have h3:=((stamped_iff _ _).1 h0).2.2;rw[if_neg Bq];refine⟨{w with heap:=w.heap.setIfInBounds r (.map (es.modify j fun e=>{e with key:=kv k,val:=v}) c)},?_,
   fin (stamped_modify h0 j (fun e=>{e with key:=kv k,val:=v}) (fun _ _=>rfl) (fun e' _ he=>by rw[hj]at he;injection he with he;rw[<-he];exact g3.symm)) (by simpa using hn) ?_ ?_ _ (heap_set h1).1,kz h1⟩
  ·simp[Instr.mapUpdate,run_underlying hm,MapKept.run_getObj_map h1,MapKept.run_checkKey hd (K.is k),MapKept.run_findKey hd g1,hj,g3,MapKept.run_keyThatStays (K.is k),MapKept.run_setObj_map _ h1,Result.andThen]
  all_goals rw[Array.toList_modify,wA g2]
  ·intro x hx;rcases rW hx with hx | rfl
   ·exact h2 x hx
   ·exact⟨k,rfl,hg⟩
  ·intro k' v';constructor
   ·rintro⟨x,hx,e1,e2⟩;obtain⟨i,hi⟩:=eF hx;rw[mf]at hi;split at hi
    ·injection hi with hi;rw[<-hi]at e1 e2;exact .inl ⟨(K.inj e1).symm,e2.symm⟩
    ·rename_i qd;have hxm:=aE hi;by_cases JE:k'=k
     ·have Jx:=(au.1 hi).1;have eI:=kx.1 h3;have ex:=(au.1 hi).2;have ee:=(au.1 g2).2;exfalso;rcases ra qd with bp | Vd
      ·exact eI j i mF Jx bp (by rw[ee,ex,g3,e1,JE])
      ·exact eI i j Jx mF Vd (by rw[ee,ex,g3,e1,JE])
     ·exact .inr ⟨JE,(h4 k' v').2 ⟨x,hxm,e1,e2⟩⟩
   ·rintro(⟨rfl,rfl⟩ | ⟨hn,h⟩)
    ·exact⟨_,List.mem_set mF _,rfl,rfl⟩
    ·obtain⟨x,hx,e1,e2⟩:=(h4 k' v').1 h;obtain⟨i,hi⟩:=eF hx;refine⟨x,aE (i:=i) ?_,e1,e2⟩;rw[yP]
     ·exact hi
     ·rintro rfl;rw[g2]at hi;injection hi with hi;rw[<-hi,g3]at e1;exact hn (K.inj e1).symm
theorem MapV.delete (K:Ga d kv g) (hm:P.underlying mty=some (.map kt et)) (hd:P.underlying kt=some d) (h:MapV kv g w r m n) (k:κ) (ty:TypeId):
  ∃w',(Builtin.delete_ #[mty,kt] ty #[.map (some r),kv k]).run P w=.ok (.tuple #[]) w'/\MapV kv g w' r (fun x=>if x=k then none else m x) (if m k=none then n else n-1)/\Only [r] w w':=by
 obtain⟨es,c,h1,h0,hn,h2,h4⟩:=h.mem;have h3:=((stamped_iff _ _).1 h0).2.2;rcases findNow_spec (K.is k) es.toList 0 (HM K h2)with⟨g1,g2⟩ | ⟨j,e,g1,g2,g3⟩
 ·have Bq:m k=none:=by
   cases hq:m k with
   | none=>rfl
   | some v=>
    obtain⟨x,hx,hk,_⟩:=(h4 k v).1 hq;exact absurd hk (g2 x hx)
  rw[if_pos Bq];refine⟨{w with heap:=w.heap.setIfInBounds r (.map es c)},?_,⟨_,_,(heap_set h1).1,h0,hn,h2,?_⟩,kz h1⟩
  ·simp[Builtin.delete_,run_underlying hm,MapKept.run_getObj_map h1,MapKept.run_checkKey hd (K.is k),MapKept.run_findKey hd g1,MapKept.run_setObj_map _ h1,Result.andThen]
  ·intro k' v';by_cases hk:k'=k
   ·subst hk;simp only[if_true];constructor
    ·intro h;cases h
    ·rintro⟨x,hx,e1,_⟩;exact absurd e1 (g2 x hx)
   ·rw[if_neg hk,h4]
 ·have mF:j<es.toList.length:=(au.1 g2).1;have mc:=(au.1 g2).2;have Ve:(es.eraseIdxIfInBounds j).toList=es.toList.eraseIdx j:=by
   unfold Array.eraseIdxIfInBounds;rw[dif_pos (by simpa using mF),Array.toList_eraseIdx]
  have Bq:m k≠none:=by rw[(h4 k e.val).2 ⟨e,aE g2,g3,rfl⟩];simp
  rw[if_neg Bq];have hsz:(es.eraseIdxIfInBounds j).size<=n-1:=by
   rw[<-fK,Ve,List.length_eraseIdx_of_lt mF];have:es.toList.length=es.size:=fK;omega
  refine⟨{w with heap:=w.heap.setIfInBounds r (.map (es.eraseIdxIfInBounds j) c)},?_,⟨_,_,(heap_set h1).1,stamped_erase h0 j,hsz,?_,?_⟩,kz h1⟩
  ·simp[Builtin.delete_,run_underlying hm,MapKept.run_getObj_map h1,MapKept.run_checkKey hd (K.is k),MapKept.run_findKey hd g1,MapKept.run_setObj_map _ h1,Result.andThen]
  ·rw[Ve];exact fun x hx=>h2 x ((jq _ _).subset hx)
  ·intro k' v';rw[Ve];have eI:=kx.1 h3;by_cases hk:k'=k
   ·subst hk;simp only[if_true];constructor
    ·intro h;cases h
    ·rintro⟨x,hx,e1,_⟩;rw[iH]at hx;obtain⟨i,hi,qd,DZ⟩:=hx;rcases ra qd with bp | Vd
     ·exact absurd (by rw[mc,DZ,e1,g3]) (eI i j hi mF bp)
     ·exact absurd (by rw[mc,DZ,e1,g3]) (eI j i mF hi Vd)
   ·rw[if_neg hk,h4];constructor
    ·rintro⟨x,hx,e1,e2⟩;refine⟨x,?_,e1,e2⟩;rw[iH];obtain⟨i,hi,DZ⟩:=List.getElem_of_mem hx;refine⟨i,hi,?_,DZ⟩;rintro rfl;rw[mc]at DZ;rw[<-DZ,g3]at e1;exact hk (K.inj e1).symm
    ·rintro⟨x,hx,e1,e2⟩;exact⟨x,(jq _ _).subset hx,e1,e2⟩
end
abbrev kS (s:List UInt8):Value:=.string ⟨s.toArray⟩
abbrev gS (s:List UInt8):Prop:=s.length<=maxLen
theorem aap:Ga .string kS gS:=⟨fun _=>trivial,fun h=>by simpa using h⟩
abbrev kN (k:Int):Value:=.int .i64 k
end Go.Kt
namespace Go.Kt
open Go Go.RowKit Go.MapKept
set_option linter.unusedSimpArgs false
set_option linter.unusedVariables false
section
variable {κ:Type} {d:TypeDesc} {kv:κ->Value} {g:κ->Prop} {P:Program} {w w':World} {r n:Nat} {m:κ->Option Value} {mty kt et:TypeId}
theorem MapV.QT (K:Ga d kv g) (hm:P.underlying mty=some (.map kt et)) (hd:P.underlying kt=some d) {z:Value} (hz:∀w,(zeroValue et).run P w=.ok z w) (h:MapV kv g w r m n) (k:κ):
  (Instr.lookup mty (.map (some r)) (kv k) true).run P w=.ok (.tuple #[(m k).getD z,.bool (m k).isSome]) w:=by
 obtain⟨es,c,h1,h0,hn,h2,h4⟩:=h.mem;rcases findNow_spec (K.is k) es.toList 0 (HM K h2)with⟨g1,g2⟩ | ⟨j,e,g1,g2,g3⟩
 ·have hn:m k=none:=by
   cases Bq:m k with
   | none=>rfl
   | some v=>
    obtain⟨x,hx,hk,_⟩:=(h4 k v).1 Bq;exact absurd hk (g2 x hx)
  simp[Instr.lookup,run_underlying hm,MapKept.run_getObj_map h1,MapKept.run_checkKey hd (K.is k),MapKept.run_findKey hd g1,Result.andThen,hz,hn]
 ·have he:=aE g2;have Bq:m k=some e.val:=(h4 k e.val).2 ⟨e,he,g3,rfl⟩;simp[Instr.lookup,run_underlying hm,MapKept.run_getObj_map h1,MapKept.run_checkKey hd (K.is k),MapKept.run_findKey hd g1,Result.andThen,Bq]
end
end Go.Kt
namespace Go.Proofs.YtmhoiicofhlgbaaGreatDoor.Con
open Go Go.RowKit Go.Kt Go.Kt.V Go.Proofs.YtmhoiicofhlgbaaGreatDoor.Vc
set_option linter.unusedSimpArgs false
set_option linter.unusedVariables false
set_option maxHeartbeats 800000
set_option maxRecDepth 100000
def mI (l:List (List UInt8)):List UInt8->Option Value:=fun k=>if oP k l<l.length then some (.int .i64 (oP k l:Nat))else none
theorem HN (l:List (List UInt8)) (x k:List UInt8):mI (l++[x]) k=if x∈l then mI l k else if k=x then some (.int .i64 (l.length:Nat))else mI l k:=by
 unfold mI;rw[ah,aL];by_cases hk:k∈l
 ·have h1:=lj.2 hk;rw[Hm [x] hk,if_pos (by omega),if_pos h1];by_cases hx:x∈l
  ·rw[if_pos hx]
  ·rw[if_neg hx,if_neg fun e=>hx (by rw[<-e];exact hk)]
 ·have h1:¬oP k l<l.length:=fun h=>hk (lj.1 h);rw[if_neg h1];by_cases e:k=x
  ·subst e;rw[if_neg hk,if_pos rfl,AZ [] hk,if_pos (by omega)]
  ·have:¬oP k (l++[x])<(l++[x]).length:=fun h=>by
    have:=lj.1 h;rw[bJ,ae]at this;exact this.elim hk e
   rw[ah,aL]at this;rw[if_neg this,if_neg e];split<;>rfl
theorem Qp (l:List (List UInt8)) (k:List UInt8):(mI l k).isSome=decide (k∈l):=by
 unfold mI;by_cases hk:k∈l
 ·rw[if_pos (lj.2 hk),aZ hk];rfl
 ·rw[if_neg fun h=>hk (lj.1 h),aK hk];rfl
abbrev Ov (w:World) (r:Nat) (l:List (List UInt8)):Prop:=MapV kS gS w r (mI l) l.length
theorem Ov.at {w:World} {r:Nat} {l:List (List UInt8)} (h:Ov w r l) (k:List UInt8):(Instr.lookup 97 (.map (some r)) (.string (T k)) true).run Tryz.prog w=.ok (.tuple #[.int .i64 (if oP k l<l.length then(oP k l:Nat)else 0:Int),.bool (decide (k∈l))]) w:=by
 have:=h.QT (P:=Tryz.prog) (mty:=97) (kt:=9) (et:=3) (z:=.int .i64 0) aap (by kernel_rfl) (by kernel_rfl) (fun w=>Tryz.zeroValue3 w) k;rw[Qp]at this;rw[this];unfold mI;split<;>rfl
theorem Ov.add {w:World} {r:Nat} {l:List (List UInt8)} (h:Ov w r l) {x:List UInt8} (hx:gS x) (hn:x∉l):
  ∃w',(Instr.mapUpdate 97 (.map (some r)) (.string (T x)) (.int .i64 (l.length:Nat))).run Tryz.prog w=.ok () w'/\Ov w' r (l++[x])/\Only [r] w w':=by
 obtain⟨w',h1,h2,h3⟩:=h.update (P:=Tryz.prog) (mty:=97) (kt:=9) (et:=3) aap (by kernel_rfl) (by kernel_rfl) hx (.int .i64 (l.length:Nat));refine⟨w',h1,(h2.ext fun k=>?_).le ?_,h3⟩
 ·rw[HN,if_neg hn]
 ·rw[ah,aL];split<;>omega
theorem Ov.has {w:World} {r:Nat} {l:List (List UInt8)} (h:Ov w r l) {x:List UInt8} (hx:x∈l):Ov w r (l++[x]):=by
 refine(h.ext fun k=>?_).le (by rw[ah];omega);rw[HN,if_pos hx]
structure Lo (w:World) (b m0 m1:Nat) (s:Sl) (nn vn:List (List UInt8)) (f:Ft):Prop where
 blk:Blk w b 99 [.map (some m0),s.v,.map (some m1),.int .i64 f.1,.int .i64 f.2]
 nm:Ov w m0 nn
 vr:Ov w m1 vn
 n0:m0<m1
 n1:m1<b
section
variable {w w':World} {b m0 m1:Nat} {s:Sl} {nn vn:List (List UInt8)} {f:Ft}
theorem Lo.only (h:Lo w b m0 m1 s nn vn f) {bs:List Nat} (hO:Only bs w w') (h0:b∉bs) (h1:m0∉bs) (h2:m1∉bs):Lo w' b m0 m1 s nn vn f:=⟨hO.blk h.blk h0,h.nm.only hO h1,h.vr.only hO h2,h.n0,h.n1⟩
theorem Lo.o0 (h:Lo w b m0 m1 s nn vn f) (hO:Only [] w w'):Lo w' b m0 m1 s nn vn f:=h.only hO (by simp) (by simp) (by simp)
theorem Lo.lm (h:Lo w b m0 m1 s nn vn f) (hO:Only [b] w w') {s':Sl} {f':Ft} (hB:Blk w' b 99 [.map (some m0),s'.v,.map (some m1),.int .i64 f'.1,.int .i64 f'.2]):Lo w' b m0 m1 s' nn vn f':=
 ⟨hB,h.nm.only hO (by have:=h.n0;have:=h.n1;simp;omega),h.vr.only hO (by have:=h.n1;simp;omega),h.n0,h.n1⟩
theorem Lo.lt (h:Lo w b m0 m1 s nn vn f):b<w.heap.size:=h.blk.lt
theorem wb (w:World) (k:Int):Calls Tryz.prog 167 #[.int .i64 k] w fun e w'=>e=.returned (.bool (gW k))/\w'=w:=by
 refine ret (afU k (fun v w'=>v=.bool (gW k)/\w'=w) w ?_);unfold ZR;refine⟨?_,rfl⟩;unfold gW;rw[show((k==3)||(k==4))=decide (k=3∨k=4) by rw[br];simp]
theorem A3 (h:Lo w b m0 m1 s nn vn f) (ok:Bool) (e a:Int):Calls Tryz.prog 105 #[.pointer (some ⟨b,0,none⟩),.bool ok,.int .i64 e,.int .i64 a] w fun r w'=>r=.returned (.tuple #[])/\Lo w' b m0 m1 s nn vn (mP f (bad ok e a))/\Only [b] w w':=by
 refine ret (afR ⟨b,0,none⟩ ok e a (fun v w'=>v=.tuple #[]/\Lo w' b m0 m1 s nn vn (mP f (bad ok e a))/\Only [b] w w') w ?_);unfold ZO;rw[Hg];refine⟨f.1,fun _=>Blk.eo h.blk 3 rfl,fun hc=>⟨b,3,_,_,rfl,h.blk,by simp,fun w0 hO hB=>⟨rfl,?_,hO⟩⟩,fun hc=>⟨rfl,?_,Only.refl _ _⟩⟩
 ·rw[if_pos hc];exact h.lm hO hB
 ·rw[if_neg (by rw[hc];decide)];exact h
theorem Ms (h:Lo w b m0 m1 s nn vn f) {x:List UInt8} (hx:gS x) (a:Int):Calls Tryz.prog 54 #[.pointer (some ⟨b,0,none⟩),.map (some m0),.string (T x),.int .i64 (nn.length:Nat),.int .i64 a] w fun r w'=>r=.returned (.tuple #[])/\Lo w' b m0 m1 s (nn++[x]) vn (mP f (bad (!decide (x∈nn)) 24 a))/\Only [b,m0] w w':=by
 refine ret (ZN ⟨b,0,none⟩ (some m0) (T x) (nn.length:Nat) a (fun v w'=>v=.tuple #[]/\Lo w' b m0 m1 s (nn++[x]) vn (mP f (bad (!decide (x∈nn)) 24 a))/\Only [b,m0] w w') w ?_);unfold TY;refine⟨_,_,w,h.nm.at x,(A3 h _ 24 a).mono ?_⟩;rintro _ w1 ⟨rfl,h1,bR⟩;refine⟨rfl,fun hc=>?_,fun hc=>?_⟩
 ·obtain⟨w2,u1,u2,u3⟩:=h1.nm.add hx (by simpa using hc);refine⟨w2,u1,rfl,⟨u3.blk h1.blk (by have:=h.n0;have:=h.n1;simp;omega),u2,h1.vr.only u3 (by have:=h.n0;simp;omega),h.n0,h.n1⟩,(bR.weaken (bs':=[b,m0]) (fun x hx=>.inl (by simp at hx;simp[hx]))).trans u3 fun x hx=>.inl (by simp at hx;simp[hx])⟩
 ·exact⟨rfl,⟨h1.blk,h1.nm.has (by simpa using hc),h1.vr,h.n0,h.n1⟩,bR.weaken fun x hx=>.inl (by simp at hx;simp[hx])⟩
theorem Mu (h:Lo w b m0 m1 s nn vn f) {x:List UInt8} (hx:gS x) (a:Int):Calls Tryz.prog 54 #[.pointer (some ⟨b,0,none⟩),.map (some m1),.string (T x),.int .i64 (vn.length:Nat),.int .i64 a] w fun r w'=>r=.returned (.tuple #[])/\Lo w' b m0 m1 s nn (vn++[x]) (mP f (bad (!decide (x∈vn)) 24 a))/\Only [b,m1] w w':=by
 refine ret (ZN ⟨b,0,none⟩ (some m1) (T x) (vn.length:Nat) a (fun v w'=>v=.tuple #[]/\Lo w' b m0 m1 s nn (vn++[x]) (mP f (bad (!decide (x∈vn)) 24 a))/\Only [b,m1] w w') w ?_);unfold TY;refine⟨_,_,w,h.vr.at x,(A3 h _ 24 a).mono ?_⟩;rintro _ w1 ⟨rfl,h1,bR⟩;refine⟨rfl,fun hc=>?_,fun hc=>?_⟩
 ·obtain⟨w2,u1,u2,u3⟩:=h1.vr.add hx (by simpa using hc);refine⟨w2,u1,rfl,⟨u3.blk h1.blk (by have:=h.n1;simp;omega),h1.nm.only u3 (by have:=h.n0;simp;omega),u2,h.n0,h.n1⟩,(bR.weaken (bs':=[b,m1]) (fun x hx=>.inl (by simp at hx;simp[hx]))).trans u3 fun x hx=>.inl (by simp at hx;simp[hx])⟩
 ·exact⟨rfl,⟨h1.blk,h1.nm,h1.vr.has (by simpa using hc),h.n0,h.n1⟩,bR.weaken fun x hx=>.inl (by simp at hx;simp[hx])⟩
end
def Fk (P:Nat->Prop) (s:Sl) (w:World) (s':Sl) (w':World):Prop:=OnlyP (fun k=>P k∨s.a=some ⟨k,0,none⟩) w w'/\∀k,s'.a=some ⟨k,0,none⟩->s.a=some ⟨k,0,none⟩∨w.heap.size<=k
theorem Fk.trans {P:Nat->Prop} {s t u:Sl} {w w' rQ:World} (h:Fk P s w t w') (g:Fk P t w' u rQ):Fk P s w u rQ:=by
 refine⟨h.1.trans g.1 fun k hk=>?_,fun k hk=>?_⟩
 ·rcases hk with hk | hk
  ·exact .inl (.inl hk)
  ·exact(h.2 k hk).elim (fun h=>.inl (.inr h)) .inr
 ·rcases g.2 k hk with hk | hk
  ·exact h.2 k hk
  ·exact .inr (ay h.1.size hk)
theorem Fk.of {P:Nat->Prop} {s:Sl} {w w':World} {bs:List Nat} (hO:Only bs w w') (hb:∀k,k∈bs->P k):Fk P s w s w':=⟨hO.p fun k hk=>.inl (.inl (hb k hk)),fun k hk=>.inl hk⟩
def Ss:eG:=⟨0,[],0,0,0⟩
theorem Mx:∀(D:Nat) {w:World} {F:Nat->Prop} {x:Nd} {cs:List Value} {b m0 m1:Nat} {s:Sl} {nn vn:List (List UInt8)} {f:Ft},lQ false D w F x cs->(∀k,F k->k<m0)->Lo w b m0 m1 s nn vn f->fZ (b+1) w s (List.replicate nn.length Ss)->
  mY x<=8388608->nn.length+iB x<=1000000->
  Calls Tryz.prog 53 #[.pointer (some ⟨b,0,none⟩),.agg cs.toArray] w fun e w'=>e=.returned (.tuple #[])/\∃s',Lo w' b m0 m1 s' (nn++(AX x).map fun p=>p.1) vn (mP f (uU nn (AX x)))/\fZ (b+1) w' s' (List.replicate (nn.length+iB x) Ss)/\Fk (fun k=>k=b∨k=m0) s w s' w'
 | 0,_,_,_,_,_,_,_,_,_,_,_,h,_,_,_,_,_=>h.elim
 | D+1,w,F,.mk bb ks,cs,b,m0,m1,s,nn,vn,f,⟨en,lv,mv,kids,kK,_,fQ⟩,hF,hL,hS,hz,hn=>by
  have hk:=fQ.1;clear fQ;dsimp only[Nd.kids,Nd.b]at hk kK;subst kK;rw[iB]at hn;rw[mY]at hz;have FV:=hk.len;have hnn:=sV ks;have n0:=hL.n0;have n1:=hL.n1;have Tl:gS bb.nm:=by
   show bb.nm.length<=maxLen;have:maxLen=9223372036854775807:=rfl;unfold Fj at hz;omega
  refine ret (afQ ⟨b,0,none⟩ bb.k (T bb.nm) (T bb.ini) (T bb.dft) en lv mv kids bb.a (fun v w'=>v=.tuple #[]/\∃s',Lo w' b m0 m1 s' (nn++(AX (.mk bb ks)).map fun p=>p.1) vn (mP f (uU nn (AX (.mk bb ks))))/\fZ (b+1) w' s' (List.replicate (nn.length+iB (.mk bb ks)) Ss)/\Fk (fun k=>k=b∨k=m0) s w s' w') w ?_);unfold ZM;intro k0 w0 fQ eE cd;have z0:=cd.size;have D0:=hL.lt;have WU:=hL.o0 cd;have hS0:fZ (b+1) w0 s _:=hS.u6 cd.p0 fun _ _ _ h=>h;have Va:s.n=nn.length:=by rw[hS.len,List.length_replicate]
  have Oa:s.a≠some ⟨k0,0,none⟩:=fun e=>by have:=(hS.blk e).2;dsimp only at this;omega
  refine⟨_,Blk.eo WU.blk 0 rfl,s,Blk.eo WU.blk 1 rfl,?_⟩;rw[Va];refine(Ms WU Tl bb.a).mono ?_;rintro _ w1 ⟨rfl,hL1,bR⟩;have z1:=bR.size;have hS1:fZ (b+1) w1 s (List.replicate nn.length Ss):=hS0.u6 (G:=fun k=>k=b∨k=m0) (bR.p fun k hk=>.inl (by simpa using hk)) fun k h _=>by omega
  have m1':Fk (fun k=>k=b∨k=m0) s w s w1:=(Fk.of cd (by simp)).trans (Fk.of bR (by simp));obtain⟨y,w2,k1,k3,s3,w3,g1,g2,⟨gs,g3,g4⟩,g5⟩:=js (P:=Tryz.prog) (t:=38) (ty:=38) (e:=43) (i:=Tryz.t43) (bytes:=48) (size:=5) (r:=zw) (G:=fun _=>False) (v:=.agg #[.int .i64 0,.string (ByteArray.mk #[]),.int .i64 0,.int .i64 0,.int .i64 0]) (x:=Ss) (by kernel_rfl) (by kernel_rfl) rfl rfl rfl rfl (by decide) (by decide) (by decide) ic hS1 (by omega) rfl rfl (fun _ h=>h.elim) (by rw[List.length_replicate];omega);have z2:=k3.size;have z3:=g3.size;have gb:∀g,g∈gs->b<g/\g<w1.heap.size/\s.a=some ⟨g,0,none⟩:=fun g hg=>⟨by have:=(g4 g hg).2.1;omega,(g4 g hg).2.2,(g4 g hg).1⟩
  have hL3:Lo w3 b m0 m1 s (nn++[bb.nm]) vn _:=(hL1.o0 k3).only g3 (fun h=>by have:=gb _ h;omega) (fun h=>by have:=gb _ h;omega) (fun h=>by have:=gb _ h;omega);refine⟨rfl,bR.same (by simp;omega),s,Blk.eo hL1.blk 1 rfl,y,w2,k1,k3.same (by simp;omega),s3,w3,g1,g3.same fun x hx=>?_,b,1,_,_,rfl,hL3.blk,by simp,by omega,fun w4 cZ tK=>?_⟩
  ·simp only[ae]at hx;subst hx;exact⟨by omega,fun h=>Oa (gb _ h).2.2⟩
  have z4:=cZ.size;have hL4:Lo w4 b m0 m1 s3 (nn++[bb.nm]) vn (mP f (bad (!decide (bb.nm∈nn)) 24 bb.a)):=hL3.lm cZ tK;have Xm:fZ (b+1) w3 s3 (List.replicate (nn.length+1) Ss):=by
   have:=fZ.of g2;rwa[<-List.replicate_succ']at this
  have Xn:fZ (b+1) w4 s3 (List.replicate (nn.length+1) Ss):=Xm.u6 (G:=fun k=>k=b) (cZ.p (by simp)) fun k h _=>by omega
  have m4:Fk (fun k=>k=b∨k=m0) s w s3 w4:=by
   refine m1'.trans ⟨((k3.BH (g3.p (F:=fun k=>(k=b∨k=m0)∨s.a=some ⟨k,0,none⟩) fun g hg=>.inl (.inr (gb g hg).2.2))).trans (cZ.p (F:=fun k=>k=b) (by simp)) fun k hk=>.inl (.inl (.inl hk))),fun k hk=>?_⟩;rcases g5 with e | ⟨g,e,h⟩
   ·exact .inl (by rw[<-e];exact hk)
   ·rw[e]at hk;injection hk with hk;injection hk with hk;exact .inr (by omega)
  have n4:∀k,s3.a=some ⟨k,0,none⟩->k≠k0:=fun k hk e=>by
   subst e;rcases g5 with e | ⟨g,e,h⟩
   ·exact Oa (by rw[<-e];exact hk)
   ·rw[e]at hk;injection hk with hk;injection hk with hk;omega
  have wj:∀{u:World} {q:Sl},Fk (fun k=>k=b∨k=m0) s w q u->SliceF (lQ false D) 9 u F kids ks:=fun hm=>SliceF.tE (bI false D) (by decide) hk hm.1 fun k hFk _=>by
   have:=hF k hFk;exact fun h=>h.elim (by omega) fun h=>by have:=(hS.blk h).1;dsimp only at this;omega
  refine⟨fun kv i w'=>∃(j:Nat) (q:Sl),i=(j:Int)/\kv+j=ks.length/\j<=ks.length/\Lo w' b m0 m1 q (nn++bb.nm::(sW (ks.take j)).map fun p=>p.1) vn (mP f (uU nn ((bb.nm,bb.a)::sW (ks.take j))))/\fZ (b+1) w' q (List.replicate (nn.length+1+dj (ks.take j)) Ss)/\Fk (fun k=>k=b∨k=m0) s w q w'/\w4.heap.size<=w'.heap.size/\∀k,q.a=some ⟨k,0,none⟩->k≠k0,ks.length,⟨0,s3,rfl,by omega,aF _,by
   rw[cQ,sW,uU,uU,aN];exact hL4,by rw[cQ,dj,db];exact Xn,m4,aq _,n4⟩,?_⟩
  rintro kv _ w5 ⟨j,q,rfl,BN,mF,Xo,Iu,m5,z5,n5⟩;constructor
  ·intro hc;have hj:j<ks.length:=by have:=aj hc;omega
   obtain⟨y,hy⟩:∃y,ks[j]? =some y:=⟨_,bn hj⟩
   obtain⟨ad,y',ds,a1,a2,a3,a4,a5,a6⟩:=(wj m5).get (aG j) (by omega);rw[az,hy]at a2;injection a2 with a2;subst a2;have JI:=a6;obtain⟨D',rfl⟩:∃D',D=D'+1:=by
    cases D with
    | zero=>exact a6.elim
    | succ D'=>exact⟨D',rfl⟩
   obtain⟨uH,uI,pd,jj,rfl,_⟩:=JI;have tH:=qD hy;have hzy:=nM (aE hy);have O1:(nn++bb.nm::(sW (ks.take j)).map fun p=>p.1).length=nn.length+1+dj (ks.take j):=by
    rw[ah,ao,aQ,Qa];omega
   refine⟨ad,a1,_,_,_,_,uH,uI,pd,jj,_,a5,fun k6 w6 hk6 Ws dD=>?_⟩;have z6:=dD.size;have Te:=Xo.o0 dD;have Ij:=Xo.lt;refine(Mx (D'+1) ((bI false (D'+1)).keep a6 fun k _ bp=>dD.block k bp (by simp)) hF Te (by rw[O1];exact Iu.u6 dD.p0 fun _ _ _ h=>h) (by omega) (by rw[O1];omega)).mono ?_;rintro _ w7 ⟨rfl,q7,Tf,hS7,m7⟩;have z7:=m7.1.size;have e:ks.take (j+1)=ks.take j++[y]:=by rw[aY,hy];rfl
   have en1:sW (ks.take (j+1))=sW (ks.take j)++AX y:=by rw[e,Hh,sW,sW,aN]
   refine⟨rfl,m7.1.same fun x hx=>?_,kv-1,by omega,j+1,q7,by rw[gV (by omega) (by omega)];rfl,by omega,by omega,?_,?_,(m5.trans (Fk.of dD (by simp))).trans m7,by omega,fun k hk e=>?_⟩
   ·simp only[ak,aw,bf]at hx;rcases hx with rfl | rfl
    ·exact⟨by omega,fun h=>h.elim (by omega) fun h=>n5 _ h rfl⟩
    ·refine⟨Ws,fun h=>h.elim (by omega) fun h=>?_⟩;have:=(Iu.blk h).2;dsimp only at this;omega
   ·have e1:nn++bb.nm::(sW (ks.take (j+1))).map (fun p=>p.1)=(nn++bb.nm::(sW (ks.take j)).map fun p=>p.1)++(AX y).map fun p=>p.1:=by
     rw[en1,cq,av,bc]
    have e2:uU nn ((bb.nm,bb.a)::sW (ks.take (j+1)))=uU nn ((bb.nm,bb.a)::sW (ks.take j))++uU (nn++bb.nm::(sW (ks.take j)).map fun p=>p.1) (AX y):=by
     rw[en1,<-bc,AY];rfl
    rw[e1,e2,gQ];exact Tf
   ·rw[O1]at hS7;rw[e,xz,dj,dj,db,<-cb];exact hS7
   ·subst e;rcases m7.2 _ hk with h | h
    ·exact n5 _ h rfl
    ·omega
  ·intro hc;have mc:j=ks.length:=by have:=ar hc;omega
   subst mc;rw[aO (aq _)]at Iu Xo;refine⟨rfl,q,?_,?_,m5⟩
   ·rw[AX];exact Xo
   ·rw[iB,show nn.length+(dj ks+1)=nn.length+1+dj ks by omega];exact Iu
end Go.Proofs.YtmhoiicofhlgbaaGreatDoor.Con
namespace Go.Kt
open Go Go.RowKit
set_option linter.unusedSimpArgs false
set_option linter.unusedVariables false
section
variable {P:Program} {w:World}
set_option maxRecDepth 20000 in
theorem tj {t it ty e:TypeId} {i:TypeInfo} {z:Value} (ht:P.underlying t=some (.slice e)) (hit:P.underlying it=some (.int .i64)) (hi:P.info? e=some i) (hz:i.zero=some z)
  {n:Nat} (Wt:0<n) (Jw:0<i.size) (WR:n<=9223372036854775807) (QU:n*i.bytes<=281474976710656) (DX:Builtin.nextslicecap n 0*i.bytes<=281474976710656):
  (Builtin.append_ #[t,it] ty #[.slice none 0 0,.int .i64 n]).run P w=
   .ok (.slice (some ⟨w.heap.size,0,none⟩) n (grownCap w n 0 e))
    (w.drew.alloc (.cells (Builtin.zeroCells z.cells n++Builtin.zeroCells z.cells (grownCap w n 0 e-n)) e)):=by
 have hn:¬(n<=0):=by omega
 have aiY:¬(9223372036854775807<(n:Int)):=by omega
 have aiZ:¬(281474976710656<Builtin.nextslicecap n 0*i.bytes):=by omega
 have hwr:IntKind.i64.wrap (n:Int)=n:=gV (by omega) (by omega);have kH:¬(281474976710656<(n:Int)*(i.bytes:Int)):=by
  have:((n*i.bytes:Nat):Int)<=281474976710656:=Int.ofNat_le.2 QU;rw[Int.natCast_mul]at this;omega
 have ai0:¬((n:Int)<0):=by omega
 have eI:n≠0:=by omega
 have OT:n*i.size≠0:=by have:=Nat.mul_pos Wt Jw;omega
 simp[Builtin.append_,run_underlying ht,run_underlying hit,sizeOf,typeInfo,zeroValue,hi,hz,asInt,asIntOf,hwr,ai0,kH,eI,OT,aiY,aiZ,Question.forced,run_firstCells_none,newRow,grownCap]
theorem My {α:Type} {r:Rp α} {F:Nat->Prop} {size bytes:Nat} {t it ty e:TypeId} {i:TypeInfo} {z:Value} (ht:P.underlying t=some (.slice e)) (hit:P.underlying it=some (.int .i64)) (hi:P.info? e=some i) (hz:i.zero=some z) (nQ:i.size=size) (QU:i.bytes=bytes) (FK:z.cells.size=size)
  {n:Nat} (Wt:0<n) (h0:0<size) (hm:n*bytes<=140737488355328) (BJ:0<bytes):
  ∃s w',(Builtin.append_ #[t,it] ty #[.slice none 0 0,.int .i64 n]).run P w=.ok (Sl.v s) w'/\Own r size e w.heap.size w' F (s.cut 0 0 s.c size) []/\Only [] w w'/\s.a=some ⟨w.heap.size,0,none⟩:=by
 subst nQ;subst QU;have WR:n<=140737488355328:=ay (by have:=Nat.mul_le_mul_left n BJ;omega) hm;have hf:=(growslice_fits Wt hm:Builtin.nextslicecap n 0*i.bytes<=281474976710656)
 refine⟨⟨some ⟨w.heap.size,0,none⟩,n,grownCap w n 0 e⟩,_,tj ht hit hi hz Wt h0 (by omega) (by omega) hf,?_,(Only.drew w).cf (Only.alloc _ _),rfl⟩;have yg:=grownCap_ge w n 0 e;have tH:=grownCap_le_maxLen w n 0 e (by simp only[maxLen];omega);refine .inr ⟨w.heap.size,([]:List (List Value)),(Builtin.zeroCells z.cells n++Builtin.zeroCells z.cells (grownCap w n 0 e-n)).toList,?_,aq _,?_,?_,rfl,?_,?_,trivial⟩
 ·simp[Sl.cut,Addr.add]
 ·have:=Blk.alloc w.drew e (Builtin.zeroCells z.cells n++Builtin.zeroCells z.cells (grownCap w n 0 e-n)).toList;rw[Array.toArray_toList]at this;exact this
 ·rw[Array.toList_append,ah,si w _ FK,si w _ FK,<-dH];simp only[Sl.cut];congr 1;omega
 ·simp[Sl.cut]
 ·simp only[Sl.cut];simp only[maxLen]at tH;omega
end
end Go.Kt
namespace Go.Proofs.YtmhoiicofhlgbaaGreatDoor.Con
open Go Go.RowKit Go.Kt Go.Kt.V Go.Proofs.YtmhoiicofhlgbaaGreatDoor.Vc
set_option linter.unusedSimpArgs false
set_option linter.unusedVariables false
set_option maxHeartbeats 800000
set_option maxRecDepth 100000
structure Lx (w:World) (b m0 m1:Nat) (F:Nat->Prop) (s:Sl) (xs:List eG) (vn:List (List UInt8)) (f:Ft):Prop where
 lo:Lo w b m0 m1 s (xs.map fun x:eG=>x.nm) vn f
 sp:SliceF zw 5 w F s xs
 fo:Fo xs
 ln:xs.length<=64
 nF:∀k,F k->k≠b
section
variable {w w':World} {b m0 m1:Nat} {F G:Nat->Prop} {s:Sl} {xs:List eG} {vn:List (List UInt8)} {f g:Ft}
theorem Lx.o0 (h:Lx w b m0 m1 F s xs vn f) (hO:Only [] w w'):Lx w' b m0 m1 F s xs vn f:=⟨h.lo.o0 hO,SliceF.only ic (by decide) h.sp hO (by simp),h.fo,h.ln,h.nF⟩
theorem Lx.to (h:Lx w b m0 m1 F s xs vn f) (hO:Only [b] w w') (hl:Lo w' b m0 m1 s (xs.map fun x:eG=>x.nm) vn g):Lx w' b m0 m1 F s xs vn g:=
 ⟨hl,SliceF.only ic (by decide) h.sp hO fun k hk _ hm=>h.nF k hk (by simpa using hm),h.fo,h.ln,h.nF⟩
theorem jD (h:Lx w b m0 m1 F s xs vn f) (ok:Bool) (e a:Int):Calls Tryz.prog 105 #[.pointer (some ⟨b,0,none⟩),.bool ok,.int .i64 e,.int .i64 a] w fun r w'=>r=.returned (.tuple #[])/\Lx w' b m0 m1 F s xs vn (mP f (bad ok e a))/\Only [b] w w':=by
 refine(A3 h.lo ok e a).mono ?_;rintro _ w' ⟨rfl,h1,hO⟩;exact⟨rfl,h.to hO h1,hO⟩
theorem xP (xs:List eG) (n:List UInt8):dM xs n= -1∨∃j:Nat,dM xs n=j/\j<xs.length:=by
 rcases mC xs n with⟨h,_⟩ | ⟨j,x,h,hx,_⟩
 ·exact .inl h
 ·exact .inr ⟨j,h,pK hx⟩
theorem A4 (h:Lx w b m0 m1 F s xs vn f) (n:List UInt8):Calls Tryz.prog 168 #[.map (some m0),.string (T n)] w fun r w'=>r=.returned (.int .i64 (dM xs n))/\w'=w:=by
 refine ret (afV (some m0) (T n) (fun v w'=>v=.int .i64 (dM xs n)/\w'=w) w ?_);unfold ZS;refine⟨_,_,w,h.lo.nm.at n,fun hb=>⟨?_,rfl⟩,fun hb=>⟨?_,rfl⟩⟩
 ·have hl:=lj.2 (aj hb);unfold dM;rw[if_pos hl,if_pos (by rwa[aQ]at hl)]
 ·have hl:¬_:=fun h=>ar hb (lj.1 h);unfold dM;rw[if_neg (by rwa[aQ]at hl)]
theorem Dj (h:Lx w b m0 m1 F s xs vn f) {n:Int} (hn:n<xs.length):Calls Tryz.prog 169 #[.pointer (some ⟨b,0,none⟩),.int .i64 n] w fun r w'=>r=.returned (.bool (decide (0<=n)&&!gW (pM xs n)))/\w'=w:=by
 refine ret (afW ⟨b,0,none⟩ n (fun v w'=>v=.bool (decide (0<=n)&&!gW (pM xs n))/\w'=w) w ?_);unfold ZT;refine⟨fun r w'=>r=(decide (0<=n)&&!gW (pM xs n))/\w'=w,fun r w' ⟨h1,h2⟩=>⟨by rw[h1],h2⟩,fun hc=>?_,fun hc=>⟨?_,rfl⟩⟩
 ·have hc:0<=n:=aj hc;obtain⟨j,rfl⟩:∃j:Nat,n=j:=⟨n.toNat,by omega⟩
  obtain⟨x,hx⟩:=pL (xs:=xs) (i:=j) (by omega);obtain⟨ad,a1,a2,_⟩:=ti h.sp hx;refine⟨s,Blk.eo h.lo.blk 1 rfl,ad,a1,x.k,a2.eo 0 _ rfl,(wb w x.k).mono ?_⟩;rintro _ w1 ⟨rfl,hu⟩;refine⟨_,rfl,?_,hu⟩;rw[lS hx,aZ hc];rfl
 ·rw[show decide (0<=n)=false from hc];rfl
theorem A5 {b k0:Nat} (hO:Only [b] w w') (h:k0≠b):be (fun k=>k=k0) w w':=fun k hk bp=>hO.block k bp (by subst hk;simp[h])
theorem pS {b:Nat} {u v:World} (h:Only [b] w u) (g:Only [b] u v):Only [b] w v:=h.trans g fun x hx=>.inl hx
theorem vC {b:Nat} (h:Only [] w w'):Only [b] w w':=h.weaken fun x hx=>(by simp at hx)
theorem A6:∀(d:Nat) {w:World} {x:Ex} {cs:List Value} {f:Ft},G8 false d w G x cs->(∀k,G k->k≠b)->Lx w b m0 m1 F s xs vn f->
  Calls Tryz.prog 108 #[.pointer (some ⟨b,0,none⟩),.agg cs.toArray] w fun r w'=>r=.returned (.tuple #[])/\Lx w' b m0 m1 F s xs vn (mP f (Ot xs vn x))/\Only [b] w w'
 | 0,_,_,_,_,h,_,_=>h.elim
 | d+1,w,x,cs,f,⟨sl,kK,qL⟩,hG,h=>by
  subst kK;have qL:=qL.1;refine ret (af0 ⟨b,0,none⟩ x.k x.n (T x.s) x.op sl x.a (fun v w'=>v=.tuple #[]/\Lx w' b m0 m1 F s xs vn (mP f (Ot xs vn x))/\Only [b] w w') w ?_);unfold ZX;intro k0 w0 fQ eE cd;have z0:=cd.size;have D0:=h.lo.lt;have h0:=h.o0 cd;have O1:=qL.len;have hcp:=qL.cap;have OS:=qL.big;have Od:k0≠b:=by omega
  refine⟨fun u=>Lx u b m0 m1 F s xs vn (mP f (bad (Oq xs vn x.k x.s) 23 x.a))/\Only [b] w u/\w0.heap.size<=u.heap.size,?_,fun hk=>?_,fun hk=>⟨fun yp=>?_,fun yp=>?_⟩⟩
  ·rintro w1 ⟨h1,o1,z1⟩;refine⟨fun kv i u=>∃j:Nat,i=(j:Int)/\kv+j=x.cX.length/\j<=x.cX.length/\Lx u b m0 m1 F s xs vn (mP f (bad (Oq xs vn x.k x.s) 23 x.a++qT xs vn (x.cX.take j)))/\Only [b] w u/\w0.heap.size<=u.heap.size,x.cX.length,⟨0,rfl,rfl,aF _,by rw[cQ,qT,aN];exact h1,o1,z1⟩,?_⟩;rintro kv _ w2 ⟨j,rfl,BN,hj,h2,o2,z2⟩;refine⟨fun hc=>?_,fun hc=>?_⟩
   ·have hc:=aj hc;have hs2:SliceF (G8 false d) 6 w2 G sl x.cX:=SliceF.only (jb false d) (by decide) qL o2 fun k hk _ hm=>hG k hk (by simpa using hm);obtain⟨ad,y,ds,a1,a2,a3,a4,a5,a6⟩:=hs2.get (aG j) (by omega);rw[az]at a2;have JI:=a6;obtain⟨d',rfl⟩:∃e,d=e+1:=by
     cases d with
     | zero=>exact a6.elim
     | succ e=>exact⟨e,rfl⟩
    obtain⟨mZ,rfl,_⟩:=JI;refine⟨ad,a1,_,_,_,_,_,_,a5,fun k3 w3 yp vL cU=>?_⟩;have z3:=cU.size;refine(A6 (d'+1) ((jb false (d'+1)).keep a6 fun k hk bp=>cU.block k bp (by simp)) hG (h2.o0 cU)).mono ?_;rintro _ w4 ⟨rfl,h4,cZ⟩;have z4:=cZ.size;have pc:x.cX.take (j+1)=x.cX.take j++[y]:=by rw[aY,a2];rfl
    have x7:=h2.lo.lt;refine⟨rfl,cZ.same (by simp;omega),kv-1,by omega,j+1,by rw[gV (by omega) (by omega)];rfl,by omega,by omega,?_,(o2.cf cU).trans cZ fun x hx=>.inl hx,by omega⟩;rw[pc,C4,qT,qT,aN,<-av,gQ];exact h4
   ·have hc:=ar hc;have mc:j=x.cX.length:=by omega
    subst mc;rw[aO (aq _),<-Ug]at h2;exact⟨rfl,h2,o2⟩
  ·have hk:x.k=2:=by simpa using hk
   intro w5 eC;have z5:=eC.size;have h5:=h0.o0 eC;refine⟨_,Blk.eo h5.lo.blk 2 rfl,_,_,w5,h5.lo.vr.at x.s,aD.refl _ _,(jD h5 _ 23 x.a).mono ?_⟩;rintro _ w7 ⟨rfl,h7,fg⟩;have z7:=fg.size;refine⟨rfl,fg.same (by simp;omega),?_,pS (vC (cd.cf eC)) fg,by omega⟩;have:Oq xs vn x.k x.s=decide (x.s∈vn):=by unfold Oq;rw[hk];simp
   rw[this];exact h7
  ·have yp:x.k=3:=by simpa using yp
   intro w8 fy;have z8:=fy.size;have h8:=h0.o0 fy;refine⟨fun k=>k=k0,_,Blk.eo h8.lo.blk 0 rfl,rfl,(A4 h8 x.s).mono ?_⟩;rintro _ w9 ⟨rfl,hu⟩;obtain rfl:w8=w9:=hu.symm;refine⟨_,rfl,aD.refl _ _,be.refl _ _,(Dj h8 (by rcases xP xs x.s with h | ⟨j,h,hl⟩<;>omega)).mono ?_⟩;rintro _ cI ⟨rfl,hu⟩;obtain rfl:w8=cI:=hu.symm;refine⟨_,rfl,aD.refl _ _,be.refl _ _,(jD h8 _ 23 x.a).mono ?_⟩;rintro _ cS ⟨rfl,JG,dx⟩;have Eo:=dx.size;refine⟨rfl,dx.same (by simp;omega),A5 dx Od,?_,pS (vC (cd.cf fy)) dx,by omega⟩;have:Oq xs vn x.k x.s=WK xs x.s:=by unfold Oq;rw[yp];simp
   rw[this];exact JG
  ·have qM:x.k≠2:=by simpa using hk
   have yp:x.k≠3:=by simpa using yp
   have:Oq xs vn x.k x.s=true:=by unfold Oq;simp[qM,yp]
   rw[this];exact⟨h0,vC cd,aq _⟩
end
def Dk:Rp Sl:=fun _ _ x cs=>cs=[x.v]
theorem oA:Dk.Ok:=⟨fun h _=>h,fun h=>h,fun h _=>h,fun h=>by
 unfold Dk at h;subst h;intro v hv;simp only[ae]at hv;subst hv;rfl⟩
abbrev zx (B:Nat) (w:World) (G:Nat->Prop) (s:Sl) (l:List Ac):Prop:=Own (rl false) 9 116 B w G s l
theorem Qq (w:World) (G:Nat->Prop) {n:Nat} (hn:n<=20000000):Calls Tryz.prog 125 #[Sl.nil.v,.int .i64 (n:Int)] w fun e w'=>(∃s:Sl,e=.returned s.v/\zx w.heap.size w' G s [])/\Only [] w w':=by
 refine(afZ Sl.nil n (fun v w'=>(∃s:Sl,v=s.v/\zx w.heap.size w' G s [])/\Only [] w w') w ?_).mono (by rintro _ w' ⟨v,rfl,⟨s,rfl,h⟩,h'⟩;exact⟨⟨s,rfl,h⟩,h'⟩);unfold ZW;have e0:IntKind.wrap .i64 ((n:Int)-(IntKind.wrap .i64 ((Sl.nil.c:Int)-(Sl.nil.n:Int))))=n:=by
  show IntKind.wrap .i64 ((n:Int)-(IntKind.wrap .i64 (((0:Nat):Int)-((0:Nat):Int))))=n;rw[gV (x:=((0:Nat):Int)-((0:Nat):Int)) (by omega) (by omega),gV (by omega) (by omega)];omega
 refine⟨fun u=>w=u,?_,fun hc=>?_,fun _=>rfl⟩
 ·rintro _ rfl;rw[e0];refine⟨fun l u=>zx w.heap.size u G l []/\Only [] w u,fun l u h=>⟨⟨l,rfl,h.1⟩,h.2⟩,fun hc=>?_,fun hc=>⟨Own.nil _ _ _ _ _ _,Only.refl _ _⟩⟩;have hc:=aj hc;obtain⟨s,w2,g1,g2,g3,_⟩:=My (P:=Tryz.prog) (w:=w) (r:=rl false) (F:=G) (size:=9) (bytes:=104) (t:=23) (it:=3) (ty:=23) (e:=116) (i:=Tryz.t116) (n:=n) (by kernel_rfl) (by kernel_rfl) (by kernel_rfl) rfl rfl rfl rfl (by omega) (by decide) (by omega) (by decide);exact⟨0,⟨rfl,aq _⟩,s,w2,g1,0,⟨rfl,aF _⟩,g2,g3⟩
 ·have:=aj hc;omega
def kf (l:List (Sl×List Ac)):List Ac:=l.flatMap fun p=>p.2
theorem qF {l:List (Sl×List Ac)} {j:Nat} {p:Sl×List Ac} (h:l[j]? =some p):kf (l.take (j+1))=kf (l.take j)++p.2:=by
 rw[aY,h];unfold kf;rw[ky];simp
theorem HO {l:List (Sl×List Ac)} (j:Nat):(kf (l.take j)).length<=(kf l).length:=by
 have:kf l=kf (l.take j)++kf (l.drop j):=by
  unfold kf;rw[<-ky,dC]
 rw[this,ah];omega
theorem Jf {w:World} {rows:Sl} {F G:Nat->Prop} {l:List (Sl×List Ac)} (hR:SliceF Dk 1 w F rows (l.map fun p=>p.1)) (hA:∀p,p∈l->SliceF (rl false) 9 w G p.1 p.2) (hm:(kf l).length<=20000000):
  Calls Tryz.prog 66 #[rows.v] w fun e w'=>(∃s:Sl,e=.returned s.v/\zx w.heap.size w' (fun k=>G k/\k<w.heap.size) s (kf l))/\Only [] w w':=by
 refine(afY rows (fun v w'=>(∃s:Sl,v=s.v/\zx w.heap.size w' (fun k=>G k/\k<w.heap.size) s (kf l))/\Only [] w w') w ?_).mono (by rintro _ w' ⟨v,rfl,⟨s,rfl,h⟩,h'⟩;exact⟨⟨s,rfl,h⟩,h'⟩);unfold ZV;have hrl:=hR.len;have hcp:=hR.cap;have OS:=hR.big;rw[aQ]at hrl;have row:∀{u:World} {j:Nat},Only [] w u->j<l.length->∃ad p,cD rows (j:Int) 1 ad/\l[j]? =some p/\aB u ad [p.1.v]/\SliceF (rl false) 9 u (fun k=>G k/\k<w.heap.size) p.1 p.2:=fun{u j} hO hj=>by
  obtain⟨ad,y,ds,a1,a2,a3,a4,a5,a6⟩:=(SliceF.only oA (by decide) hR hO (by simp)).get (aG j) (by omega);rw[az,bD,cY]at a2;obtain⟨p,hp,rfl⟩:=a2;have a6:ds=[p.1.v]:=a6;subst a6;exact⟨ad,p,a1,hp,a5,((hA p (aE hp)).inHeap (cA false) (by decide)).keep (cA false) (by decide) fun k _ bp=>hO.block k bp (by simp)⟩
 refine⟨fun kv n i u=>∃j:Nat,i=(j:Int)/\n=((kf (l.take j)).length:Nat)/\kv+j=l.length/\j<=l.length/\w=u,l.length,⟨0,rfl,rfl,rfl,aF _,rfl⟩,?_⟩;rintro kv _ _ _ ⟨j,rfl,rfl,BN,hj,rfl⟩;refine⟨fun hc=>?_,fun hc=>?_⟩
 ·have hc:=aj hc;obtain⟨ad,p,a1,a2,a3,a4⟩:=row (Only.refl _ _) (j:=j) (by omega);have VN:=a4.len;have tH:=HO (l:=l) (j+1);rw[qF a2,ah]at tH;have hw:IntKind.wrap .i64 (((kf (l.take j)).length:Nat)+(p.1.n:Int))=((kf (l.take (j+1))).length:Nat):=by
   rw[gV (by omega) (by omega),qF a2,ah];omega
  refine⟨fun n u=>n=((kf (l.take (j+1))).length:Nat)/\w=u,?_,ad,a1,p.1,a3,fun hb=>?_,fun _=>⟨hw,rfl⟩⟩
  ·rintro _ _ ⟨rfl,rfl⟩;exact⟨kv-1,by omega,j+1,by rw[gV (by omega) (by omega)];rfl,rfl,by omega,by omega,rfl⟩
  ·have:=aj hb;rw[hw]at this;omega
 ·have hc:=ar hc;have mc:j=l.length:=by omega
  subst mc;rw[aO (aq _)];refine(Qq w (fun k=>G k/\k<w.heap.size) hm).mono ?_;rintro _ w2 ⟨⟨s,rfl,hS⟩,cO⟩;refine⟨s,rfl,fun kv t i u=>∃j:Nat,i=(j:Int)/\kv+j=l.length/\j<=l.length/\zx w.heap.size u (fun k=>G k/\k<w.heap.size) t (kf (l.take j))/\Only [] w u,l.length,⟨0,rfl,rfl,aF _,by rw[cQ];exact hS,cO⟩,?_⟩;rintro kv t _ w3 ⟨j,rfl,BN,hj,hT,cU⟩;refine⟨fun hc=>?_,fun hc=>?_⟩
  ·have hc:=aj hc;obtain⟨ad,p,a1,a2,a3,a4⟩:=row cU (j:=j) (by omega);have tH:=HO (l:=l) (j+1);rw[qF a2,ah]at tH;obtain⟨t',w4,g1,g2,gs,g3,g4,_⟩:=vO (P:=Tryz.prog) (t:=23) (ty:=23) (e:=116) (i:=Tryz.t116) (bytes:=104) (size:=9) (r:=rl false) (by kernel_rfl) (by kernel_rfl) rfl rfl rfl rfl (cA false) hT (a4.mono (cA false) fun k hk=>⟨hk,fun e=>by have:=(hT.blk e).1;dsimp only at this;omega⟩) cU.size (by omega) (by decide);refine⟨ad,a1,p.1,a3,t',w4,g1,kv-1,by omega,j+1,by rw[gV (by omega) (by omega)];rfl,by omega,by omega,by rw[qF a2];exact g2,cU.trans g3 fun g hg=>.inr (g4 g hg).2.1⟩
  ·have hc:=ar hc;have mc:j=l.length:=by omega
   subst mc;rw[aO (aq _)]at hT;exact⟨⟨t,rfl,hT⟩,cU⟩
section
variable {w w':World} {b m0 m1:Nat} {F G H:Nat->Prop} {s:Sl} {xs:List eG} {vn:List (List UInt8)} {f g:Ft}
theorem HP {rows:Sl} {l:List (Sl×List Ac)} (hR:SliceF Dk 1 w H rows (l.map fun p=>p.1)) (hA:∀p,p∈l->SliceF (rl false) 9 w G p.1 p.2) (hm:(kf l).length<=20000000) (hG:∀k,G k->k≠b) (h:Lx w b m0 m1 F s xs vn f):
  Calls Tryz.prog 107 #[.pointer (some ⟨b,0,none⟩),rows.v] w fun r w'=>r=.returned (.tuple #[])/\Lx w' b m0 m1 F s xs vn (mP f (qU xs vn (kf l)))/\Only [b] w w':=by
 refine ret (afX ⟨b,0,none⟩ rows (fun v w'=>v=.tuple #[]/\Lx w' b m0 m1 F s xs vn (mP f (qU xs vn (kf l)))/\Only [b] w w') w ?_);unfold ZU;refine(Jf hR hA hm).mono ?_;rintro _ w0 ⟨⟨t,rfl,hT⟩,cd⟩;have D0:=h.lo.lt;have z0:=cd.size;generalize kf l=al at*
 have htn:=hT.len;refine⟨t,rfl,fun kv i u=>∃j:Nat,i=(j:Int)/\kv+j=al.length/\j<=al.length/\Lx u b m0 m1 F s xs vn (mP f (qU xs vn (al.take j)))/\Only [b] w0 u,al.length,⟨0,rfl,rfl,aF _,by rw[cQ];exact h.o0 cd,Only.refl _ _⟩,?_⟩;rintro kv _ w1 ⟨j,rfl,BN,hj,h1,bR⟩;have z1:=bR.size;refine⟨fun hc=>?_,fun hc=>?_⟩
 ·have hc:=aj hc;have hT1:SliceF (rl false) 9 w1 _ t al:=SliceF.only (cA false) (by decide) (hT.slice (cA false)) bR fun k hk _ hm=>by
   simp only[ae]at hm;rcases hk with hk | hk
   ·exact hG k hk.1 hm
   ·omega
  obtain⟨ad,y,ds,a1,a2,a3,a4,a5,a6⟩:=hT1.get (aG j) (by omega);rw[az]at a2;obtain⟨xc,rfl,hx⟩:=a6;obtain⟨sl,rfl⟩:=fV hx;have yL:=h1.lo.lt;refine⟨ad,a1,_,_,_,_,_,_,sl,_,_,a5,fun k2 w2 qM yj cO=>?_⟩;have z2:=cO.size;have h2:=h1.o0 cO;have e1:qU xs vn (al.take (j+1))=qU xs vn (al.take j)++(bad (decide (y.k≠1)||decide (y.n∈vn)) 23 y.a++Ot xs vn y.x):=by
   rw[aY,a2];unfold qU;rw[ky];simp[acF]
  refine⟨fun u=>Lx u b m0 m1 F s xs vn (mP f (qU xs vn (al.take j)++bad (decide (y.k≠1)||decide (y.n∈vn)) 23 y.a))/\Only [b] w2 u,?_,fun hk w5 eC=>?_,fun hk=>?_⟩
  ·rintro w3 ⟨h3,cU⟩;have z3:=cU.size;obtain⟨d,hxd⟩:=hx;have hfp:∀k,((G k/\k<w.heap.size)∨(w.heap.size<=k/\t.a=some ⟨k,0,none⟩))->k≠b:=fun k hk=>hk.elim (fun h=>hG k h.1) fun h=>by omega
   refine(A6 d ((jb false d).keep ((jb false d).keep hxd fun k _ bp=>cO.block k bp (by simp)) fun k hk bp=>cU.block k bp (by simp;exact hfp k hk)) hfp h3).mono ?_;rintro _ w4 ⟨rfl,h4,cZ⟩;have z4:=cZ.size;refine⟨rfl,cZ.same (by simp;omega),kv-1,by omega,j+1,by rw[gV (by omega) (by omega)];rfl,by omega,by omega,?_,pS (pS (bR.cf cO) cU) cZ⟩;rw[e1,<-av,gQ];exact h4
  ·have hk:y.k=1:=by simpa using hk
   have z5:=eC.size;have h5:=h2.o0 eC;refine⟨_,Blk.eo h5.lo.blk 2 rfl,_,_,w5,h5.lo.vr.at y.n,aD.refl _ _,(jD h5 _ 23 y.a).mono ?_⟩;rintro _ w7 ⟨rfl,h7,fg⟩;have z7:=fg.size;refine⟨rfl,fg.same (by simp;omega),?_,pS (vC eC) fg⟩;rw[gQ,hk];exact h7
  ·have hk:y.k≠1:=by simpa using hk
   refine⟨?_,Only.refl _ _⟩;rw[gQ,aZ hk];exact h2
 ·have hc:=ar hc;have mc:j=al.length:=by omega
  subst mc;rw[aO (aq _)]at h1;exact⟨rfl,h1,pS (vC cd) bR⟩
end
theorem ags (u:World) {a b:Int} (ha:InI a) (hb:InI b):∃y w1,(Instr.buildSlice 106 2 #[.mk 0 (.int .i64 a),.mk 1 (.int .i64 b)]).run Tryz.prog u=.ok (Sl.v y) w1/\Only [] u w1/\SliceF pe 1 w1 (fun _=>True) y [a,b]:=by
 obtain⟨y,w1,k1,k2,k3,_⟩:=jf (P:=Tryz.prog) (t:=106) (e:=3) (i:=Tryz.t3) (z:=.int .i64 0) (w:=u) (F:=fun _=>False) (vs:=[.int .i64 a,.int .i64 b]) (parts:=#[.mk 0 (.int .i64 a),.mk 1 (.int .i64 b)]) (len:=2) (xs:=[a,b]) (r:=pe) (size:=1) (by kernel_rfl) (by kernel_rfl) rfl rfl (by decide) rfl rfl (by decide) (by decide) kZ ⟨⟨rfl,rfl,ha⟩,⟨rfl,rfl,hb⟩,trivial⟩;exact⟨y,w1,k1,k3,(k2.slice kZ).mono kZ fun _ _=>trivial⟩
theorem fZ.sl {B:Nat} {w:World} {s:Sl} {xs:List eG} (h:fZ B w s xs):SliceF zw 5 w (fun k=>B<=k) s xs:=(h.slice ic).mono ic fun k hk=>hk.elim (fun h=>h.elim) fun h=>h.1
def tup (x:eG):Int×List UInt8×Int×Int×Int:=(x.k,x.nm,x.pa,x.dp,x.en)
section
variable {w w':World} {b m0 m1:Nat} {F G:Nat->Prop} {s:Sl} {xs:List eG} {vn:List (List UInt8)} {f g:Ft}
theorem Fl {n:Int} (h:vv xs n) (hl:xs.length<=64):InI n:=⟨by have:=h.1;omega,by have:=h.2;omega⟩
theorem Mz (h:Lx w b m0 m1 F s xs vn f) {n o:Int} (hn:vv xs n) (ho:vv xs o):Calls Tryz.prog 171 #[.pointer (some ⟨b,0,none⟩),.int .i64 n,.int .i64 o] w fun r w'=>r=.returned (.bool (L0 xs n o))/\Only [] w w':=by
 refine ret (af3 ⟨b,0,none⟩ n o (fun v w'=>v=.bool (L0 xs n o)/\Only [] w w') w ?_);unfold Z0;obtain⟨y,w1,k1,k2,k3⟩:=ags w (Fl hn h.ln) (Fl ho h.ln);have h1:=h.o0 k2;refine⟨s,Blk.eo h.lo.blk 1 rfl,y,w1,k1,(UC h1.sp h.fo k3).mono ?_⟩;rintro _ w2 ⟨⟨r,rfl,hr⟩,cO⟩;have h2:=h1.o0 cO;have er:=h.fo.QS hr hn ho;have Ob:=hr.U3 (by simp) fun i hi=>by
  simp only[ak,aw,bf]at hi;rcases hi with rfl | rfl
  ·exact hn
  ·exact ho
 obtain⟨m,e,t1,_⟩:=Ob;obtain⟨k,_,x,hx,_⟩:=t1 n (by simp);obtain⟨ad,a1,a2,_⟩:=ti h2.sp hx;subst e;refine⟨_,rfl,s,fun _=>Blk.eo h2.lo.blk 1 rfl,ad,fun _=>a1,x.k,fun _=>a2.eo 0 _ rfl,?_,k2.cf cO⟩;unfold L0;rw[<-er,lS hx];congr 1;rw[br];simp
theorem UD {k0 k4:Nat} (h:Lx w b m0 m1 F s xs vn f) {n o:Int} (hn:vv xs n) (ho:vv xs o) (h0:Blk w k0 95 [.pointer (some ⟨b,0,none⟩)]) (h4:Blk w k4 3 [.int .i64 n]):
  Calls Tryz.prog 170 #[.int .i64 o,.pointer (some ⟨k0,0,none⟩),.pointer (some ⟨k4,0,none⟩)] w fun r w'=>r=.returned (.bool (!L0 xs n o))/\Only [] w w':=by
 refine ret (af2 o ⟨k0,0,none⟩ ⟨k4,0,none⟩ (fun v w'=>v=.bool (!L0 xs n o)/\Only [] w w') w ?_);unfold ZZ;refine⟨_,h0.cells 0 [_] fun j v hj=>(by rw[aJ];exact hj),_,h4.cells 0 [_] fun j v hj=>(by rw[aJ];exact hj),(Mz h hn ho).mono ?_⟩;rintro _ w1 ⟨rfl,hO⟩;exact⟨_,rfl,rfl,hO⟩
theorem UE {k0 k4:Nat} (h:Lx w b m0 m1 F s xs vn f) {n:Int} (hn:vv xs n) {sN:Sl} {ns:List Int} (hN:SliceF pe 1 w G sN ns) (S7:∀o,o∈ns->vv xs o) (h0:Blk w k0 95 [.pointer (some ⟨b,0,none⟩)]) (h4:Blk w k4 3 [.int .i64 n]):
  Calls Tryz.prog 100 #[sN.v,.func (.func 170) #[] #[.pointer (some ⟨k0,0,none⟩),.pointer (some ⟨k4,0,none⟩)]] w fun r w'=>r=.returned (.bool (ns.any fun o=>!L0 xs n o))/\Only [] w w':=by
 refine ret (ZF sN ⟨.func (.func 170) #[] #[.pointer (some ⟨k0,0,none⟩),.pointer (some ⟨k4,0,none⟩)],rfl⟩ (fun v w'=>v=.bool (ns.any fun o=>!L0 xs n o)/\Only [] w w') w ?_);unfold TW;refine(ZG sN ⟨.func (.func 170) #[] #[.pointer (some ⟨k0,0,none⟩),.pointer (some ⟨k4,0,none⟩)],rfl⟩ (fun v w'=>(∃i:Int,v=.int .i64 i/\decide (i>=0)=ns.any fun o=>!L0 xs n o)/\Only [] w w') w ?_).mono (by
  rintro _ w' ⟨v,rfl,⟨i,rfl,hi⟩,hO⟩;exact⟨i,rfl,by rw[hi],hO⟩)
 unfold TX;have hl:=hN.len;have Kb:=hN.cap;have BJ:=hN.big;refine⟨fun kv i u=>∃j:Nat,i=(j:Int)/\kv+j=ns.length/\j<=ns.length/\((ns.take j).any fun o=>!L0 xs n o)=false/\Only [] w u,ns.length,⟨0,rfl,by omega,aF _,rfl,Only.refl _ _⟩,?_⟩;rintro kv _ u ⟨j,rfl,BN,hj,hh,hO⟩;refine⟨fun hc=>?_,fun hc=>?_⟩
 ·have hc:=aj hc;obtain⟨ad,y,cs,g1,g2,g3,g4,g5,g6⟩:=(SliceF.only kZ (by decide) hN hO (by simp)).get (aG j) (by omega);rw[az]at g2;obtain⟨rfl,hy⟩:=g6;have hym:=aE g2;refine⟨ad,g1,y,g5,170,[],[.pointer (some ⟨k0,0,none⟩),.pointer (some ⟨k4,0,none⟩)],rfl,gr (by kernel_rfl),(UD (h.o0 hO) hn (S7 y hym) (hO.blk h0 (by simp)) (hO.blk h4 (by simp))).mono ?_⟩;rintro _ u1 ⟨rfl,bR⟩;refine⟨_,rfl,fun hb=>⟨⟨j,rfl,?_⟩,hO.cf bR⟩,fun hb=>⟨kv-1,by omega,j+1,by rw[gV (by omega) (by omega)];rfl,by omega,by omega,?_,hO.cf bR⟩⟩
  ·rw[aZ (by omega:(j:Int)>=0)];exact(List.any_eq_true.2 ⟨y,hym,hb⟩).symm
  ·rw[aY,g2,List.any_append,hh];simpa using hb
 ·have hc:=ar hc;rw[aO (by omega)]at hh;exact⟨⟨-1,rfl,by rw[hh];rfl⟩,hO⟩
theorem Qr (hF:Fo xs) {n:List UInt8} (h:¬dM xs n<1):vv xs (L1 xs n):=by
 rcases mC xs n with⟨e,_⟩ | ⟨j,x,e,hx,_⟩
 ·omega
 ·have hl:=pK hx;unfold L1;rw[e,lS hx,pN hx];split
  ·obtain⟨p,_,h1,h2,_⟩:=hF.QP hx (by omega);exact⟨by omega,by omega⟩
  ·exact⟨by omega,by omega⟩
theorem vB.kp {B:Nat} {w w':World} {s:Sl} {l:List Int} (h:vB B w s l) (hO:Only [] w w'):vB B w' s l:=Own.keep kZ h fun k _ bp=>hO.block k bp (by simp)
theorem aaq (w0:World) {u:World} {s:Sl} {is:List Int} (h:vB w0.heap.size u s is) (hO:Only [] w0 u) (n:Int) (hn:InI n) (hm:is.length<=20000000):
  ∃y w1,(Instr.buildSlice 106 1 #[.mk 0 (.int .i64 n)]).run Tryz.prog u=.ok (Sl.v y) w1/\Only [] u w1/\∃s' w2,(Builtin.append_ #[106,106] 106 #[Sl.v s,Sl.v y]).run Tryz.prog w1=.ok (Sl.v s') w2/\vB w0.heap.size w2 s' (is++[n])/\Only [] w0 w2/\w1.heap.size<=w2.heap.size/\
   (∀k,k<u.heap.size->s.a≠some ⟨k,0,none⟩->w2.heap[k]? =w1.heap[k]?)/\∀k,k<u.heap.size->s.a≠some ⟨k,0,none⟩->s'.a≠some ⟨k,0,none⟩:=by
 obtain⟨y,w1,k1,k3,s',w2,g1,g2,⟨gs,g3,g4⟩,g5⟩:=js (P:=Tryz.prog) (t:=106) (ty:=106) (e:=3) (i:=Tryz.t3) (bytes:=8) (size:=1) (r:=pe) (G:=fun _=>False) (v:=.int .i64 n) (x:=n) (by kernel_rfl) (by kernel_rfl) rfl rfl rfl rfl (by decide) (by decide) (by decide) kZ h hO.size rfl ⟨rfl,hn⟩ (fun _ h=>h.elim) (by omega);have z3:=k3.size;refine⟨y,w1,k1,k3,s',w2,g1,vB.of g2,((hO.cf k3).BH (g3.p (F:=fun k=>w0.heap.size<=k) fun g hg=>.inl (g4 g hg).2.1)).only fun k hk=>hk,g3.size,fun k hk hs=>g3.block k (by omega) fun hg=>hs (g4 k hg).1,fun k hk hs e=>?_⟩;rcases g5 with e' | ⟨g,e',h⟩
 ·exact hs (by rw[<-e',e])
 ·rw[e']at e;injection e with e;injection e with e;omega
theorem Dl (l:List Int) (n:List UInt8) (r:List (List UInt8)):P9 xs l (n::r)=if dM xs n<1 then false else if(l.any fun o=>!L0 xs (L1 xs n) o)=true then false else P9 xs (l++[L1 xs n]) r:=rfl
theorem Fm (h:Lx w b m0 m1 F s xs vn f) {sT:Sl} {tg:List (List UInt8)} (hT:SliceF jJ 1 w G sT tg) (hm:tg.length<=20000000):Calls Tryz.prog 109 #[.pointer (some ⟨b,0,none⟩),sT.v] w fun r w'=>r=.returned (.bool (P9 xs [] tg))/\Only [] w w':=by
 refine ret (af1 ⟨b,0,none⟩ sT (fun v w'=>v=.bool (P9 xs [] tg)/\Only [] w w') w ?_);unfold ZY;intro k0 w0 fQ eE cd;have z0:=cd.size;have D0:=h.lo.lt;have htn:=hT.len;refine⟨fun kv l i q u=>∃(j:Nat) (al:List Int),i=(j:Int)/\kv+j=tg.length/\j<=tg.length/\q=some ⟨b,0,none⟩/\vB w.heap.size u l al/\(∀o,o∈al->vv xs o)/\al.length<=j/\P9 xs [] tg=P9 xs al (tg.drop j)/\Only [] w u/\w0.heap.size<=u.heap.size/\l.a≠some ⟨k0,0,none⟩,tg.length,
  ⟨0,[],rfl,rfl,aF _,rfl,Own.nil _ _ _ _ _ _,by simp,aq _,rfl,cd,aq _,by intro e;cases e⟩,?_⟩
 rintro kv l _ _ w1 ⟨j,al,rfl,BN,hj,rfl,hS,hal,ij,tS,bR,z1,OB⟩;refine⟨fun hc=>?_,fun hc=>?_⟩
 ·have hc:=aj hc;obtain⟨ad,y,cs,g1,g2,g3,g4,g5,g6⟩:=(SliceF.only cL (by decide) hT bR (by simp)).get (aG j) (by omega);rw[az]at g2;have g6:cs=[.string (T y)]:=g6;subst g6;have h1:=h.o0 bR;have hdr:tg.drop j=y::tg.drop (j+1):=by
   obtain⟨bp,e⟩:=au.1 g2;rw[<-e,List.getElem_cons_drop]
  rw[hdr,Dl]at tS;refine⟨ad,g1,_,g5,_,rfl,_,Blk.eo h1.lo.blk 0 rfl,(A4 h1 y).mono ?_⟩;rintro _ w2 ⟨rfl,hu⟩;obtain rfl:w1=w2:=hu.symm;refine⟨_,rfl,aD.refl _ _,fun hb k3 w3 _ _ cU=>⟨?_,bR.cf cU⟩,fun hb k4 w4 yN FY cZ=>?_⟩
  ·have hb:=aj hb;rw[tS,if_pos hb]
  have hb:=ar hb;rw[if_neg hb]at tS;have Wv:=Qr h.fo hb;have z4:=cZ.size;have o4:=bR.cf cZ;have Xn:vB w.heap.size w4 l al:=hS.kp cZ;have hl4:l.a≠some ⟨k4,0,none⟩:=fun e=>by have:=(hS.blk e).2;dsimp only at this;omega
  refine⟨fun q i u=>q=some ⟨b,0,none⟩/\i=L1 xs y/\Only [] w u/\vB w.heap.size u l al/\w4.heap.size<=u.heap.size,?_,_,rfl,fun w9 fG=>?_⟩
  ·rintro _ _ w5 ⟨rfl,rfl,o5,Iu,z5⟩ wm tK;have h5:=h.o0 o5;refine(UE h5 Wv (Iu.slice kZ) hal wm tK).mono ?_;rintro _ w6 ⟨rfl,dD⟩;have z6:=dD.size;have o6:=o5.cf dD;refine⟨_,rfl,_,dD.blk wm (by simp),_,dD.blk tK (by simp),fun ha=>⟨?_,o6⟩,fun ha=>?_⟩
   ·rw[tS,if_pos ha]
   rw[if_neg (by rw[ha];decide)]at tS;have hS6:vB w.heap.size w6 l al:=Iu.kp dD;obtain⟨y1,w7,p1,p3,s',w8,q1,q2,q3,z8,q4,q5⟩:=aaq w hS6 o6 (L1 xs y) (Fl Wv h.ln) (by omega);have z7:=p3.size;refine⟨y1,w7,p1,p3.same (by simp;omega),s',w8,q1,fun k hk=>?_,kv-1,by omega,j+1,al++[L1 xs y],by rw[gV (by omega) (by omega)];rfl,by omega,by omega,rfl,q2,fun o ho=>?_,by rw[ah,aL];omega,tS,q3,by omega,q5 k0 (by omega) OB⟩
   ·simp only[ak,aw,bf]at hk;rcases hk with rfl | rfl
    ·exact q4 _ (by omega) OB
    ·exact q4 _ (by omega) hl4
   ·rcases bJ.1 ho with ho | ho
    ·exact hal o ho
    ·simp only[ae]at ho;subst ho;exact Wv
  ·have z9:=fG.size;have o9:=o4.cf fG;have h9:=h.o0 o9;obtain⟨e,_⟩ | ⟨jx,x,e,hx,_⟩:=mC xs y
   ·omega
   obtain⟨ad2,b1,b2,b3,_⟩:=ti h9.sp hx;rw[e]at hb⊢;refine⟨_,Blk.eo h9.lo.blk 1 rfl,ad2,b1,x.k,b2.eo 0 _ rfl,(wb w9 x.k).mono ?_⟩;rintro _ cI ⟨rfl,hu⟩;obtain rfl:w9=cI:=hu.symm;refine⟨_,rfl,aD.refl _ _,fun hh=>⟨_,rfl,fun cS dx=>?_⟩,fun hh=>⟨rfl,?_,o9,Xn.kp fG,by omega⟩⟩
   ·have Eo:=dx.size;have o11:=o9.cf dx;have JG:=h.o0 o11;obtain⟨ad3,c1,_,c3,_⟩:=ti JG.sp hx;refine⟨_,Blk.eo JG.lo.blk 1 rfl,ad3,c1,x.pa,c3,fun dK eJ=>⟨rfl,?_,o11.trans eJ fun k hk=>.inr (by simp only[ae]at hk;omega),?_,by have:=eJ.size;omega⟩⟩
    ·unfold L1;rw[e,lS hx,pN hx,if_pos hh]
    ·refine Own.keep kZ ((Xn.kp fG).kp dx) fun k hk bp=>eJ.block k bp ?_;simp only[ae];rintro rfl;exact hk.elim (fun h=>h) fun h=>hl4 h.2
   ·unfold L1;rw[e,lS hx,if_neg (by rw[hh];decide)]
 ·have hc:=ar hc;have mc:j=tg.length:=by omega
  subst mc;rw[du (aq _)]at tS;exact⟨by rw[tS];rfl,bR⟩
end
section
variable {w w':World} {b m0 m1:Nat} {F G:Nat->Prop} {s:Sl} {xs:List eG} {vn:List (List UInt8)} {f g:Ft}
theorem Dm {l:List Nd} {j:Nat} {y:Nd} (h:l[j]? =some y):Fe (l.take (j+1))=Fe (l.take j)+if gW y.b.k=true then 0 else 1:=by
 unfold Fe;rw[aY,h,iV,ah];simp only[Option.toList,nX,dc];cases gW y.b.k<;>simp
theorem UF (l:List Nd):Fe l<=l.length:=List.length_filter_le _ _
theorem MA {D:Nat} {bb:Nb} {ks:List Nd} {cs:List Value} (hx:lQ false (D+1) w G (.mk bb ks) cs) (hG:∀k,G k->k≠b) (h:Lx w b m0 m1 F s xs vn f) {n:Nat} (hn:n<xs.length):
  Calls Tryz.prog 106 #[.pointer (some ⟨b,0,none⟩),.agg cs.toArray,.int .i64 (n:Int)] w fun r w'=>r=.returned (.tuple #[])/\Lx w' b m0 m1 F s xs vn (mP f (vw xs bb ks n))/\Only [b] w w':=by
 obtain⟨en,lv,mv,kids,kK,_,fQ⟩:=hx;have hk:=fQ.1;clear fQ;dsimp only[Nd.kids,Nd.b]at hk kK;subst kK;refine ret (afT ⟨b,0,none⟩ bb.k (T bb.nm) (T bb.ini) (T bb.dft) en lv mv kids bb.a n (fun v w'=>v=.tuple #[]/\Lx w' b m0 m1 F s xs vn (mP f (vw xs bb ks n))/\Only [b] w w') w ?_);unfold ZQ;intro k0 w0 fQ eE cd;have z0:=cd.size;have D0:=h.lo.lt;have FV:=hk.len;have ac5:=hk.cap;have ac6:=hk.big;have Od:k0≠b:=by omega
 refine⟨fun kv c bg i u=>∃j:Nat,i=(j:Int)/\kv+j=ks.length/\j<=ks.length/\c=(Fe (ks.take j):Nat)/\bg=xB bb.ini (ks.take j)/\Only [] w u/\w0.heap.size<=u.heap.size,ks.length,⟨0,rfl,by omega,aF _,rfl,rfl,cd,aq _⟩,?_⟩;rintro kv _ _ _ w1 ⟨j,rfl,BN,hj,rfl,rfl,bR,z1⟩;refine⟨fun hc=>?_,fun hc=>?_⟩
 ·have hc:=aj hc;obtain⟨ad,y,ds,a1,a2,a3,a4,a5,a6⟩:=(SliceF.only (bI false D) (by decide) hk bR (by simp)).get (aG j) (by omega);rw[az]at a2;obtain⟨D',rfl⟩:∃D',D=D'+1:=by
   cases D with
   | zero=>exact a6.elim
   | succ D'=>exact⟨D',rfl⟩
  obtain⟨uH,uI,pd,jj,rfl,_⟩:=a6;have oJ:=UF (ks.take j);have qL:(ks.take j).length<=j:=by rw[ck];omega
  refine⟨ad,a1,_,_,_,_,uH,uI,pd,jj,_,a5,fun k3 w2 yp vL cO=>?_⟩;have z2:=cO.size;refine⟨fun c u=>c=(Fe (ks.take (j+1)):Nat)/\Only [] w2 u,?_,(wb w2 y.b.k).mono ?_⟩
  ·rintro _ w3 ⟨rfl,cU⟩;have z3:=cU.size;refine⟨kv-1,by omega,j+1,by rw[gV (by omega) (by omega)];rfl,by omega,by omega,rfl,?_,(bR.cf cO).cf cU,by omega⟩;unfold xB;rw[aY,a2,List.any_append,jW];simp
  ·rintro _ w4 ⟨rfl,hu⟩;obtain rfl:w2=w4:=hu.symm;refine⟨_,rfl,aD.refl _ _,fun hh=>⟨?_,Only.refl _ _⟩,fun hh=>⟨?_,Only.refl _ _⟩⟩
   ·rw[gV (by omega) (by omega),Dm a2,if_neg (by intro e;rw[e]at hh;cases hh)];rfl
   ·rw[Dm a2,if_pos (by simpa using hh)];rfl
 ·have hc:=ar hc;have mc:j=ks.length:=by omega
  subst mc;rw[aO (aq _)];have h1:=h.o0 bR;have q0:∀u:List UInt8,((T u).toList==(ByteArray.mk #[]).toList)=decide (u=[]):=fun u=>jW u [];refine(wb w1 bb.k).mono ?_;rintro _ w5 ⟨rfl,hu⟩;obtain rfl:w1=w5:=hu.symm;refine⟨_,rfl,aD.refl _ _,fun hh w6 dD=>?_,fun hh=>⟨fun hp=>?_,fun hp=>⟨fun hs=>?_,fun hs=>?_⟩⟩⟩
  ·have z6:=dD.size;have o6:=bR.cf dD;have h6:=h.o0 o6;have Tm:vw xs bb ks n=bad (WK xs bb.dft&&LY xs (dM xs bb.dft) (I6 xs n)) 26 bb.a:=by unfold vw;rw[if_pos hh]
   refine⟨_,Blk.eo h6.lo.blk 0 rfl,(A4 h6 bb.dft).mono ?_⟩;rintro _ w7 ⟨rfl,hu⟩;obtain rfl:w6=w7:=hu.symm;refine⟨_,rfl,aD.refl _ _,fun u=>Lx u b m0 m1 F s xs vn (mP f (vw xs bb ks n))/\Only [b] w u,fun u h=>⟨rfl,h.1,h.2⟩,fun w9 fG=>?_⟩;have z9:=fG.size;have o9:=o6.cf fG;have h9:=h.o0 o9;refine⟨fun k=>k=k0,rfl,(Dj h9 (by rcases xP xs bb.dft with h | ⟨j,h,hl⟩<;>omega)).mono ?_⟩;rintro _ cI ⟨rfl,hu⟩;obtain rfl:w9=cI:=hu.symm;obtain⟨x,hx⟩:=pL hn;obtain⟨ad,a1,a2,a3,_⟩:=ti h9.sp hx;refine⟨_,rfl,aD.refl _ _,be.refl _ _,fun hb=>⟨s,Blk.eo h9.lo.blk 1 rfl,s,Blk.eo h9.lo.blk 1 rfl,ad,a1,x.pa,a3,(Je h9.sp h9.fo (dM xs bb.dft) x.pa).mono ?_⟩,fun hb=>(jD h9 false 26 bb.a).mono ?_⟩
   ·rintro _ cS ⟨rfl,hu⟩;obtain rfl:w9=cS:=hu.symm;refine⟨_,rfl,aD.refl _ _,be.refl _ _,(jD h9 _ 26 bb.a).mono ?_⟩;rintro _ dK ⟨rfl,F6,eJ⟩;refine⟨rfl,eJ.same (by simp;omega),A5 eJ Od,?_,pS (vC o9) eJ⟩;have e1:Jd xs (dM xs bb.dft) x.pa=LY xs (dM xs bb.dft) x.pa:=by rw[br,xO,C8]
    rw[Tm,pN hx,<-e1,show WK xs bb.dft=true from hb,dl];exact F6
   ·rintro _ dX ⟨rfl,tM,dZ⟩;refine⟨rfl,dZ.same (by simp;omega),A5 dZ Od,?_,pS (vC o9) dZ⟩;rw[Tm,show WK xs bb.dft=false from hb,dI];exact tM
  ·have hp:bb.k=2:=by simpa using hp
   have Tm:vw xs bb ks n=bad (decide (bb.ini=[])&&decide (1<Fe ks)) 25 bb.a:=by unfold vw;rw[if_neg (by rw[hh];decide),if_pos hp]
   rw[q0,show decide ((Fe ks:Int)>1)=decide (1<Fe ks)from decide_eq_decide.2 (by omega)];refine(jD h1 _ 25 bb.a).mono ?_;rintro _ eK ⟨rfl,h14,dz⟩;exact⟨rfl,dz.same (by simp;omega),rfl,by rw[Tm];exact h14,pS (vC bR) dz⟩
  ·have hp:bb.k≠2:=by simpa using hp
   have hs:=aj hs;have Tm:vw xs bb ks n=bad (xB bb.ini ks) 25 bb.a:=by unfold vw;rw[if_neg (by rw[hh];decide),if_neg hp,if_pos (by omega)]
   refine(jD h1 _ 25 bb.a).mono ?_;rintro _ eK ⟨rfl,h14,dz⟩;exact⟨rfl,dz.same (by simp;omega),rfl,by rw[Tm];exact h14,pS (vC bR) dz⟩
  ·have hp:bb.k≠2:=by simpa using hp
   have hs:=ar hs;have Tm:vw xs bb ks n=bad (decide (bb.ini=[])) 25 bb.a++bad (decide (ks.length=0)) 26 bb.a:=by unfold vw;rw[if_neg (by rw[hh];decide),if_neg hp,if_neg (by omega)]
   rw[q0];refine(jD h1 _ 25 bb.a).mono ?_;rintro _ gR ⟨rfl,h16,ix⟩;have z16:=ix.size;have e0:((kids.n:Int)==0)=decide (ks.length=0):=by rw[FV,br];simp
   rw[e0];refine⟨rfl,ix.same (by simp;omega),(jD h16 _ 26 bb.a).mono ?_⟩;rintro _ fR ⟨rfl,J7,jI⟩;exact⟨rfl,jI.same (by simp;omega),rfl,by rw[Tm,gQ];exact J7,pS (pS (vC bR) ix) jI⟩
theorem aar (u:World) (l:Sl):∃y w1,(Instr.buildSlice 113 1 #[.mk 0 l.v]).run Tryz.prog u=.ok (Sl.v y) w1/\Only [] u w1/\SliceF Dk 1 w1 (fun _=>True) y [l]:=by
 obtain⟨y,w1,k1,k2,k3,_⟩:=jf (P:=Tryz.prog) (t:=113) (e:=23) (i:=Tryz.t23) (z:=Sl.nil.v) (w:=u) (F:=fun _=>False) (vs:=[l.v]) (parts:=#[.mk 0 l.v]) (len:=1) (xs:=[l]) (r:=Dk) (size:=1) (by kernel_rfl) (by kernel_rfl) rfl rfl (by decide) rfl rfl (by decide) (by decide) oA ⟨⟨rfl,rfl⟩,trivial⟩;exact⟨y,w1,k1,k3,(k2.slice oA).mono oA fun _ _=>trivial⟩
theorem aas (u:World) (l m:Sl):∃y w1,(Instr.buildSlice 113 2 #[.mk 0 l.v,.mk 1 m.v]).run Tryz.prog u=.ok (Sl.v y) w1/\Only [] u w1/\SliceF Dk 1 w1 (fun _=>True) y [l,m]:=by
 obtain⟨y,w1,k1,k2,k3,_⟩:=jf (P:=Tryz.prog) (t:=113) (e:=23) (i:=Tryz.t23) (z:=Sl.nil.v) (w:=u) (F:=fun _=>False) (vs:=[l.v,m.v]) (parts:=#[.mk 0 l.v,.mk 1 m.v]) (len:=2) (xs:=[l,m]) (r:=Dk) (size:=1) (by kernel_rfl) (by kernel_rfl) rfl rfl (by decide) rfl rfl (by decide) (by decide) oA ⟨⟨rfl,rfl⟩,⟨rfl,rfl⟩,trivial⟩;exact⟨y,w1,k1,k3,(k2.slice oA).mono oA fun _ _=>trivial⟩
theorem MB:∀(D:Nat) {w:World} {x:Nd} {cs:List Value} {f:Ft} {n:Nat},lQ false D w G x cs->(∀k,G k->k≠b)->Lx w b m0 m1 F s xs vn f->n+iB x<=xs.length->mY x<=8388608->
  Calls Tryz.prog 55 #[.pointer (some ⟨b,0,none⟩),.agg cs.toArray,.int .i64 (n:Int)] w fun r w'=>r=.returned (.int .i64 ((n+iB x:Nat):Int))/\Lx w' b m0 m1 F s xs vn (mP f (Eh xs vn n x))/\Only [b] w w'
 | 0,_,_,_,_,_,h,_,_,_,_=>h.elim
 | D+1,w,.mk bb ks,cs,f,n,hx,hG,h,hn,hz=>by
  have Tg:=hx;obtain⟨en,lv,mv,kids,kK,⟨ve,tN,lA⟩,fQ⟩:=hx;have hk:=fQ.1;have ve:=ve.1;have tN:=tN.1;have lA:=lA.1;clear fQ;dsimp only[Nd.kids,Nd.b]at hk kK ve tN lA;subst kK;rw[iB]at hn;rw[mY]at hz;have ND:=hz;unfold Fj at ND;have hl1:=lU bb.en;have BL:=lU bb.lv;have FV:=hk.len;have Ka:=lA.len;have O1:=h.ln;have ac7:=lA.cap;have ac8:=lA.big;have aoM:=sV ks;refine ret (afS ⟨b,0,none⟩ bb.k (T bb.nm) (T bb.ini) (T bb.dft) en lv mv kids bb.a n (fun v w'=>v=.int .i64 ((n+iB (.mk bb ks):Nat):Int)/\Lx w' b m0 m1 F s xs vn (mP f (Eh xs vn n (.mk bb ks)))/\Only [b] w w') w ?_);unfold ZP;intro k0 w0 fQ eE cd;have z0:=cd.size;have D0:=h.lo.lt;have Od:k0≠b:=by omega
  have tr:∀{u v:World},Only [b] w u->Only [b] u v->Only [b] w v:=fun h g=>pS h g;refine(MA ((bI false (D+1)).keep Tg fun k hk bp=>cd.block k bp (by simp)) hG (h.o0 cd) (n:=n) (by omega)).mono ?_;rintro _ w1 ⟨rfl,h1,bR⟩;have z1:=bR.size;have o1:=tr (vC cd) bR;obtain⟨y,w2,p1,p2,p3⟩:=aas w1 en lv;have z2:=p2.size;have o2:=o1.cf p2;have row:∀{u:World} {sl:Sl} {l:List Ac},SliceF (rl false) 9 w G sl l->Only [b] w u->SliceF (rl false) 9 u G sl l:=fun hs hO=>SliceF.only (cA false) (by decide) hs hO fun k hk _ hm=>hG k hk (by simpa using hm);refine⟨rfl,bR.same (by simp;omega),y,w2,p1,p2.same (by simp;omega),(HP (l:=[(en,bb.en),(lv,bb.lv)]) p3 (fun p hp=>?_) ?_ hG (h1.o0 p2)).mono ?_⟩
  ·simp only[ak,aw,bf]at hp;rcases hp with rfl | rfl
   ·exact row ve o2
   ·exact row tN o2
  ·unfold kf;simp only[rZ,uK,ah,aN];omega
  rintro _ w3 ⟨rfl,h3,cU⟩;have z3:=cU.size;have o3:=tr o2 cU;have Ww:kf [(en,bb.en),(lv,bb.lv)]=bb.en++bb.lv:=by unfold kf;simp
  rw[Ww]at h3;refine⟨rfl,cU.same (by simp;omega),fun kv i u=>∃j:Nat,i=(j:Int)/\kv+j=bb.mv.length/\j<=bb.mv.length/\Lx u b m0 m1 F s xs vn (mP f (vw xs bb ks n++(qU xs vn (bb.en++bb.lv)++(bb.mv.take j).flatMap (Fc xs vn))))/\Only [b] w u/\w0.heap.size<=u.heap.size,bb.mv.length,
   ⟨0,rfl,by omega,aF _,by rw[cQ,uK,aN,gQ];exact h3,o3,by omega⟩,?_⟩
  rintro kv _ w4 ⟨j,rfl,BN,hj,h4,o4,z4⟩;refine⟨fun hc=>?_,fun hc=>?_⟩
  ·have hc:=aj hc;obtain⟨ad,m,ds,a1,a2,a3,a4,a5,a6⟩:=(SliceF.only (eU false) (by decide) lA o4 fun k hk _ hm=>hG k hk (by simpa using hm)).get (aG j) (by omega);rw[az]at a2;obtain⟨gc,ql,tg,rfl,Tl,Ke,tS⟩:=a6;obtain⟨gs,rfl⟩:=fV Tl;have Ke:=Ke.1;have tS:=tS.1;have hmz:=xJ (aE a2);unfold Md at hmz;have hal:=lU m.acts;have Ih:=HC m.tg;have Q4:=h4.lo.lt;refine⟨ad,a1,_,_,_,_,_,_,_,_,gs,_,ql,tg,_,a5,fun k3 w5 yp vL eC=>?_⟩;have z5:=eC.size;have h5:=h4.o0 eC;have ai4:k3≠b:=by omega
   refine(jD h5 (L3 m) 28 m.a).mono ?_;rintro _ w6 ⟨rfl,h6,dD⟩;have z6:=dD.size;obtain⟨d,hxd⟩:=Tl;refine⟨rfl,dD.same (by simp;omega),(A6 d ((jb false d).keep hxd fun k hk bp=>?_) hG h6).mono ?_⟩
   ·exact(dD.block k (by omega) (by simpa using hG k hk)).trans (eC.block k bp (by simp))
   rintro _ w7 ⟨rfl,h7,fg⟩;have z7:=fg.size;obtain⟨y8,w8,q1,q2,q3⟩:=aar w7 ql;have z8:=q2.size;have s7:Only [b] w5 w7:=pS dD fg;have s8:Only [b] w4 w8:=(pS (vC eC) s7).cf q2;refine⟨rfl,fg.same (by simp;omega),y8,w8,q1,q2.same (by simp;omega),(HP (l:=[(ql,m.acts)]) q3 (fun p hp=>?_) ?_ hG (h7.o0 q2)).mono ?_⟩
   ·simp only[ae]at hp;subst hp;exact SliceF.only (cA false) (by decide) Ke s8 fun k hk _ hm=>hG k hk (by simpa using hm)
   ·unfold kf;simp only[rZ,uK,aN];omega
   rintro _ w9 ⟨rfl,h9,fG⟩;have z9:=fG.size;have Ww:kf [(ql,m.acts)]=m.acts:=by unfold kf;simp
   rw[Ww]at h9;refine⟨rfl,fG.same (by simp;omega),fun cI dm=>⟨fun k=>k=k3,rfl,?_⟩⟩;have OP:=dm.size;have FP:Only [b] w4 cI:=(pS s8 fG).cf dm;refine(Fm (h9.o0 dm) (SliceF.only cL (by decide) tS FP fun k hk _ hm=>hG k hk (by simpa using hm)) (by omega)).mono ?_;rintro _ cS ⟨rfl,dx⟩;have Eo:=dx.size;refine⟨_,rfl,dx.same (by simp;omega),be.only dx,(jD ((h9.o0 dm).o0 dx) _ 27 m.a).mono ?_⟩;rintro _ dK ⟨rfl,F6,eJ⟩;have z12:=eJ.size;refine⟨rfl,eJ.same (by simp;omega),A5 eJ ai4,kv-1,by omega,j+1,by rw[gV (by omega) (by omega)];rfl,by omega,by omega,?_,tr o4 (pS (FP.cf dx) eJ),by omega⟩;have e1:(bb.mv.take (j+1)).flatMap (Fc xs vn)=(bb.mv.take j).flatMap (Fc xs vn)++Fc xs vn m:=by
    rw[aY,a2,ky];simp
   have e2:vw xs bb ks n++(qU xs vn (bb.en++bb.lv)++((bb.mv.take j).flatMap (Fc xs vn)++Fc xs vn m))=(vw xs bb ks n++(qU xs vn (bb.en++bb.lv)++(bb.mv.take j).flatMap (Fc xs vn)))++Fc xs vn m:=by simp only[av]
   rw[e1,e2,gQ,Fc,gQ,gQ,gQ];exact F6
  ·have hc:=ar hc;have mc:j=bb.mv.length:=by omega
   subst mc;rw[aO (aq _)]at h4;refine⟨fun kv a i u=>∃j:Nat,i=(j:Int)/\kv+j=ks.length/\j<=ks.length/\a=((n+1+dj (ks.take j):Nat):Int)/\Lx u b m0 m1 F s xs vn (mP f (vw xs bb ks n++(qU xs vn (bb.en++bb.lv)++(bb.mv.flatMap (Fc xs vn)++li xs vn (n+1) (ks.take j)))))/\Only [b] w u/\w0.heap.size<=u.heap.size,ks.length,
    ⟨0,rfl,by omega,aF _,by rw[gV (by omega) (by omega)];rfl,by rw[cQ,li,aN];exact h4,o4,z4⟩,?_⟩
   rintro kv _ _ dX ⟨j,rfl,BN,hj,rfl,tM,o13,VD⟩;refine⟨fun hc=>?_,fun hc=>?_⟩
   ·have hc:=aj hc;obtain⟨ad,y,ds,a1,a2,a3,a4,a5,a6⟩:=(SliceF.only (bI false D) (by decide) hk o13 fun k hk _ hm=>hG k hk (by simpa using hm)).get (aG j) (by omega);rw[az]at a2;have JI:=a6;obtain⟨D',rfl⟩:∃D',D=D'+1:=by
     cases D with
     | zero=>exact a6.elim
     | succ D'=>exact⟨D',rfl⟩
    obtain⟨uH,uI,pd,jj,rfl,_⟩:=JI;have tH:=qD a2;have hzy:=nM (aE a2);refine⟨ad,a1,_,_,_,_,uH,uI,pd,jj,_,a5,fun k7 eK hk7 Wm dz=>?_⟩;have z14:=dz.size;have aoN:=tM.lo.lt;refine(MB (D'+1) ((bI false (D'+1)).keep a6 fun k _ bp=>dz.block k bp (by simp)) hG (tM.o0 dz) (n:=n+1+dj (ks.take j)) (by omega) (by omega)).mono ?_;rintro _ gn ⟨rfl,J8,jo⟩;have z15:=jo.size;have e:ks.take (j+1)=ks.take j++[y]:=by rw[aY,a2];rfl
    refine⟨_,rfl,jo.same (by simp;omega),kv-1,by omega,j+1,by rw[gV (by omega) (by omega)];rfl,by omega,by omega,?_,?_,tr (o13.cf dz) jo,by omega⟩
    ·have:dj (ks.take (j+1))=dj (ks.take j)+iB y:=by rw[e,xz,dj,dj];omega
     omega
    ·have e2:vw xs bb ks n++(qU xs vn (bb.en++bb.lv)++(bb.mv.flatMap (Fc xs vn)++(li xs vn (n+1) (ks.take j)++Eh xs vn (n+1+dj (ks.take j)) y)))=(vw xs bb ks n++(qU xs vn (bb.en++bb.lv)++(bb.mv.flatMap (Fc xs vn)++li xs vn (n+1) (ks.take j))))++Eh xs vn (n+1+dj (ks.take j)) y:=by simp only[av]
     rw[e,C5,li,li,aN,e2,gQ];exact J8
   ·have hc:=ar hc;have mc:j=ks.length:=by omega
    subst mc;rw[aO (aq _)]at tM⊢;refine⟨?_,by rw[Eh];exact tM,o13⟩;rw[iB];congr 2;omega
end
def jE (c:Ch):Ft:=if(dF c).2≠0 then((dF c).2, -1)else mP (0,0) (rm c)
theorem pT {w:World} {F:Nat->Prop} {D:Nat} {c:Ch} {vs:Sl} {cs:List Value} (hx:ChR false (D+1) w F c vs cs) (hn:Ea c) (hs:oQ c.vars+mY c.root<=8388608) (hE:Er w) (hT:Tb w):
  Calls Tryz.prog 22 #[.agg (vs.v::cs).toArray] w fun e w'=>e=.returned (.agg #[.int .i64 (jE c).1,.int .i64 (jE c).2])/\Only [] w w':=by
 have hxr:=hx.root;obtain⟨en,lv,mv,kids,kK,_⟩:=hx.root;subst kK;refine ret (afP vs c.root.b.k (T c.root.b.nm) (T c.root.b.ini) (T c.root.b.dft) en lv mv kids c.root.b.a (fun v w'=>v=.agg #[.int .i64 (jE c).1,.int .i64 (jE c).2]/\Only [] w w') w ?_);unfold ZL;intro k0 k1 w0 fQ eE kJ jp cd;have z0:=cd.size;have keep:∀{u:World},Only [] w u->ChR false (D+1) u F c vs (ly c.root.b.k c.root.b.nm c.root.b.ini c.root.b.dft en lv mv kids c.root.b.a):=fun hO=>⟨hx.vars.keep fb (by decide) fun k _ bp=>hO.block k bp (by simp),(bI false _).keep hx.root fun k _ bp=>hO.block k bp (by simp)⟩
 refine(Mp (keep cd) hn hs (hE.only cd) (hT.only cd)).mono ?_;rintro _ w1 ⟨⟨t,rfl,ht,_⟩,bR⟩;have z1:=bR.size;have o1:=cd.cf bR;refine⟨_,_,rfl,bR.same (by simp;omega),fun hc w2 cO=>?_,fun hc=>?_⟩
 ·have hc:(dF c).2≠0:=by simpa using hc
  unfold jE;rw[if_pos hc];exact⟨rfl,o1.trans cO fun k hk=>.inr (by simp only[ae]at hk;omega)⟩
 have hc:(dF c).2=0:=by simpa using hc
 have elm:jE c=mP (0,0) (rm c):=by unfold jE;rw[if_neg (fun h=>h hc)]
 rw[elm];have ht:=ht hc;have hnd:=ur hc;obtain⟨r3,hM3,cU⟩:=MapV.make (P:=Tryz.prog) (mty:=97) (kv:=kS) (g:=gS) w1;have hl3:=hM3.lt;refine⟨_,_,r3,cU.same (by simp;omega),?_⟩;generalize w1.alloc (.map #[] 0)=w3 at*
 obtain⟨r4,hM4,cZ⟩:=MapV.make (P:=Tryz.prog) (mty:=97) (kv:=kS) (g:=gS) w3;have hl4:=hM4.lt;have z3:=cU.size;refine⟨_,_,r4,cZ.same (by simp;omega),?_⟩;generalize w3.alloc (.map #[] 0)=w4 at*
 have z4:=cZ.size;intro b w5 hb kH eC yh;have z5:=eC.size;have o5:=((o1.cf cU).cf cZ).cf eC;have Xo:Lo w5 b w1.heap.size w3.heap.size Sl.nil [] [] (0,0):=⟨yh,(((hM3.only cZ (by simp)).only eC (by simp)).ext fun k=>rfl).le (aq _),((hM4.only eC (by simp)).ext fun k=>rfl).le (aq _),by omega,by omega⟩
 have hxh:lQ false (D+1) w (fun k=>k<w.heap.size) c.root (ly c.root.b.k c.root.b.nm c.root.b.ini c.root.b.dft en lv mv kids c.root.b.a):=(bI false _).mono ((bI false _).inHeap hxr) fun k hk=>hk.2;have hvh:SliceF Om 3 w (fun k=>k<w.heap.size) vs c.vars:=(hx.vars.1.inHeap fb (by decide)).mono fb fun k hk=>hk.2;refine(Mx (D+1) ((bI false _).keep hxh fun k hk bp=>o5.block k bp (by simp)) (fun k hk=>by omega) Xo (Own.nil _ _ _ _ _ _) (by omega) (by rw[aM];omega)).mono ?_;rintro _ w6 ⟨rfl,s6,Te,hS6,m6⟩;have z6:=m6.1.size;rw[aV]at Te;have enm:(AX c.root).map (fun p=>p.1)=(ji c).map fun x:eG=>x.nm:=(L2 0 (-1) 0 c.root).symm;rw[enm]at Te;have p6:OnlyP (fun k=>w1.heap.size<=k) w w6:=(o5.p0).trans m6.1 fun k hk=>.inl (hk.elim (fun h=>by omega) fun h=>by cases h);have s56:aD [k0,k1] w5 w6:=m6.1.same fun x hx=>by
  simp only[ak,aw,bf]at hx;rcases hx with rfl | rfl
  ·exact⟨by omega,fun h=>h.elim (by omega) fun h=>by cases h⟩
  ·exact⟨by omega,fun h=>h.elim (by omega) fun h=>by cases h⟩
 have hvl:=hvh.len;have hvz:=xN c.vars;refine⟨rfl,s56,_,s6,_,_,_,Te.blk,fun kv i p l q x y u=>∃(j:Nat) (f:Ft),i=(j:Int)/\kv+j=c.vars.length/\j<=c.vars.length/\p=some w1.heap.size/\q=some w3.heap.size/\f=(x,y)/\Lo u b w1.heap.size w3.heap.size l ((ji c).map fun x:eG=>x.nm) ((C6 c).take j) f/\f=mP (0,0) (uU [] (AX c.root)++uU [] ((c.vars.take j).map fun v=>(v.n,v.a)))/\OnlyP (fun k=>w1.heap.size<=k) w u/\OnlyP (fun k=>k=b∨k=w3.heap.size) w6 u,c.vars.length,
  ⟨0,_,rfl,by omega,aF _,rfl,rfl,rfl,Te,by rw[cQ,ep,uU,aN],p6,OnlyP.refl _ _⟩,?_⟩
 rintro kv _ _ l2 _ _ _ w7 ⟨j,f,rfl,BN,hj,rfl,rfl,hf,Tf,hfe,p7,p67⟩;have z7:=p67.size;refine⟨fun bp=>?_,fun yg=>?_⟩
 ·have bp:=aj bp;obtain⟨ad,v,ds,a1,a2,a3,a4,a5,a6⟩:=(SliceF.tE fb (by decide) hvh p7 fun k hk _=>by omega).get (aG j) (by omega);rw[az]at a2;have a6:ds=[.string (T v.n),.int .i64 v.v,.int .i64 v.a]:=a6;subst a6;have wh:=xM (aE a2);have hgv:gS v.n:=by
   show v.n.length<=maxLen;have:maxLen=9223372036854775807:=rfl;omega
  have mF:((C6 c).take j).length=j:=by rw[ck];unfold C6;rw[aQ];omega
  refine⟨ad,a1,_,_,_,a5,fun k5 w8 uG JD fy wl=>?_⟩;have z8:=fy.size;have S2:=Tf.lt;have c9:=Mu (Tf.o0 fy) hgv v.a;rw[mF]at c9;refine c9.mono ?_;rintro _ w9 ⟨rfl,hL9,fG⟩;have z9:=fG.size;have ev:(C6 c).take (j+1)=(C6 c).take j++[v.n]:=by
   rw[aY];unfold C6;rw[bD,a2];rfl
  refine⟨rfl,fG.same (by simp;omega),_,_,_,_,_,hL9.blk,kv-1,by omega,j+1,_,by rw[gV (by omega) (by omega)];rfl,by omega,by omega,rfl,rfl,rfl,by rw[ev];exact hL9,?_,(p7.cf fy).trans (fG.p (F:=fun k=>w1.heap.size<=k) fun k hk=>.inl (by simp only[ak,aw,bf]at hk;omega)) fun k hk=>.inl hk,(p67.cf fy).trans (fG.p (F:=fun k=>k=b∨k=w3.heap.size) fun k hk=>.inl (by simpa using hk)) fun k hk=>.inl hk⟩;rw[hfe,<-gQ];have ed:uU [] ((c.vars.take (j+1)).map fun v=>(v.n,v.a))=uU [] ((c.vars.take j).map fun v=>(v.n,v.a))++bad (!decide (v.n∈(C6 c).take j)) 24 v.a:=by
   rw[aY,a2,cq,AY,aV];simp only[Option.toList,aI,ep,uU,aN,fN];unfold C6;rw[<-kQ];rfl
  rw[ed,av]
 ·have yg:=ar yg;have mc:j=c.vars.length:=by omega
  subst mc;intro cI dm vK n0 n1;have OP:=dm.size;have hvt:(C6 c).take c.vars.length=C6 c:=aO (by unfold C6;rw[aQ];exact aq _);rw[hvt]at Tf;rw[aO (aq _)]at hfe;have ai9:Lo cI b w1.heap.size w3.heap.size t ((ji c).map fun x:eG=>x.nm) (C6 c) f:=Tf.lm dm (by subst hf;exact vK);have Vt:OnlyP (fun k=>w1.heap.size<=k) w cI:=p7.trans (dm.p (F:=fun k=>w1.heap.size<=k) fun k hk=>.inl (by simp only[ae]at hk;omega)) fun k hk=>.inl hk;have Rb:SliceF zw 5 cI (fun k=>k<w1.heap.size) t (ji c):=by
   have h0:=(ht.sl.inHeap ic (by decide)).mono ic (G:=fun k=>k<w1.heap.size) fun k hk=>hk.2;have q5:Only [] w1 w5:=(cU.cf cZ).cf eC;have h1:=SliceF.only ic (by decide) h0 q5 (by simp);have h2:=SliceF.tE ic (by decide) h1 m6.1 fun k hk _ h=>h.elim (by omega) fun h=>by cases h
   have h3:=SliceF.tE ic (by decide) h2 p67 fun k hk _ h=>by omega
   exact SliceF.only ic (by decide) h3 dm fun k hk _ hm=>by simp only[ae]at hm;omega
  have hX:Lx cI b w1.heap.size w3.heap.size (fun k=>k<w1.heap.size) t (ji c) (C6 c) f:=⟨ai9,Rb,P8 c,by unfold ji;rw[mB];exact hnd,fun k hk=>by omega⟩
  refine(MB (n:=0) (D+1) ((bI false (D+1)).keep hxh fun k hk bp=>Vt.block k bp (by omega)) (fun k hk=>by omega) hX (by unfold ji;rw[mB];omega) (by omega)).mono ?_;rintro _ cS ⟨rfl,JG,dx⟩;have Eo:=dx.size;have hg:mP f (Eh (ji c) (C6 c) 0 c.root)=mP (0,0) (rm c):=by
   rw[hfe,<-gQ,av];rfl
  rw[hg]at JG;refine⟨_,rfl,dx.same (by simp;omega),_,_,_,_,_,JG.lo.blk,fun dK eJ _=>⟨rfl,?_⟩⟩;have p11:OnlyP (fun k=>w.heap.size<=k) w cS:=(Vt.mono fun k _ hk=>by omega).trans (dx.p (F:=fun k=>w.heap.size<=k) fun k hk=>.inl (by simp only[ae]at hk;omega)) fun k hk=>.inl hk;exact(p11.only fun k hk=>hk).trans eJ fun k hk=>.inr (by simp only[ae]at hk;omega)
def kg (l:List UInt8):Ft:=if(dr l).2.1=0 then jE (dr l).1 else(dr l).2
def uu (l:List UInt8):Ch:=if(kg l).1=0 then(dr l).1 else ch0
theorem A7 {w:World} (l:List UInt8) (hn:Ea (dr l).1) (hs:oQ (dr l).1.vars+mY (dr l).1.root<=8388608) (hE:Er w) (hT:Tb w):Calls Tryz.prog 28 #[.string (T l)] w fun e w'=>
  ∃(vs:Sl) (cs:List Value),e=.returned (.tuple #[.agg (vs.v::cs).toArray,.agg #[.int .i64 (kg l).1,.int .i64 (kg l).2]])/\ChR true 15 w' (Fr w.heap.size) (uu l) vs cs/\Only [] w w':=by
 refine(afO (T l) (fun v w'=>∃(vs:Sl) (cs:List Value),v=(.tuple #[.agg (vs.v::cs).toArray,.agg #[.int .i64 (kg l).1,.int .i64 (kg l).2]])/\ChR true 15 w' (Fr w.heap.size) (uu l) vs cs/\Only [] w w') w ?_).mono (by
  rintro e w' ⟨v,rfl,vs,cs,rfl,h⟩;exact⟨vs,cs,rfl,h⟩)
 unfold ZK;intro k0 k1 w0 fQ eE kJ jp cd;have z0:=cd.size;refine(Db l (hE.only cd)).mono ?_;rintro _ w1 ⟨vs,cs,rfl,hC,bR⟩;have z1:=bR.size;have o1:=cd.cf bR;obtain⟨xe,xl,xm,xk,rfl,_⟩:=hC.root;refine⟨vs,_,_,_,_,xe,xl,xm,xk,_,_,_,rfl,bR.same (by simp;omega),fun k2 k3 w2 qM yj yp vL cO=>?_⟩;have z2:=cO.size;have o2:=o1.cf cO;have kC:∀{u:World},Only [] w1 u->ChR true 15 u (Fr w0.heap.size) (dr l).1 vs (ly (dr l).1.root.b.k (dr l).1.root.b.nm (dr l).1.root.b.ini (dr l).1.root.b.dft xe xl xm xk (dr l).1.root.b.a):=fun{u} hO=>
  ⟨hC.vars.keep fb (by decide) fun k _ bp=>hO.block k bp (by simp),(bI true 15).keep hC.root fun k _ bp=>hO.block k bp (by simp)⟩
 have fin:∀{u v:World},Only [] w u->Only [k1,k0] u v->Only [] w v:=fun h1 h2=>h1.trans h2 fun x hx=>.inr (by simp only[ak,aw,bf]at hx;omega);refine⟨fun a b u=>(a,b)=kg l/\Only [] w1 u/\w2.heap.size<=u.heap.size,?_,fun hc=>?_,fun hc=>⟨?_,cO,aq _⟩⟩
 ·rintro a b w3 ⟨he,cU,z3⟩;have e1:(kg l).1=a:=by rw[<-he]
  have e2:(kg l).2=b:=by rw[<-he]
  refine⟨fun hc w4 cZ n1 n2 n3 n4 n5 n6=>⟨fun k=>k=k3,rfl,?_,?_,fun w5 eC=>⟨Sl.nil,_,by rw[e1,e2],?_,fin ((o1.cf cU).cf cZ) eC⟩⟩,fun hc w6 dD n1 n2 n3 n4 n5 n6=>⟨fun k=>k=k3,rfl,?_,?_,fun w7 fg=>⟨vs,_,by rw[e1,e2],?_,fin ((o1.cf cU).cf dD) fg⟩⟩⟩
  ·exact fun h=>n3 h
  ·exact fun h=>n5 h
  ·have hc:a≠0:=by simpa using hc
   unfold uu;rw[e1,if_neg hc];exact⟨gH.nil _ _ _ _ _ _,L9 (by decide) w5 _⟩
  ·exact fun h=>n3 h
  ·exact fun h=>n5 h
  ·have hc:a=0:=by simpa using hc
   unfold uu;rw[e1,if_pos hc];have hC6:=kC (cU.cf dD);have ap:∀k,Fr w0.heap.size k->k∉[k1,k0]:=fun k (hk:w0.heap.size<=k)=>by simp;omega
   have lo:∀k,Fr w0.heap.size k->Fr w.heap.size k:=fun k (hk:w0.heap.size<=k)=>(by omega:w.heap.size<=k)
   exact⟨(hC6.vars.keep fb (by decide) fun k hk bp=>fg.block k bp (ap k hk)).mono fb lo,(bI true 15).mono ((bI true 15).keep hC6.root fun k hk bp=>fg.block k bp (ap k hk)) lo⟩
 ·have hc:(dr l).2.1=0:=by simpa using hc
  refine(pT (D:=14) (kC cO).off hn hs (hE.only o2) (hT.only o2)).mono ?_;rintro _ w8 ⟨rfl,fy⟩;have z8:=fy.size;refine⟨_,_,rfl,fy.same (by simp;omega),fun w9 fG=>⟨?_,?_,by have:=fG.size;omega⟩⟩
  ·unfold kg;rw[if_pos hc]
  ·exact(cO.cf fy).trans fG fun x hx=>.inr (by simp only[ae]at hx;omega)
 ·have hc:(dr l).2.1≠0:=by simpa using hc
  unfold kg;rw[if_neg hc]
def MC:List UInt8:=[99,104,97,114,116,32,99,32,123,32,115,116,97,116,101,32,97,32,123,32,125,32,125]
def MD:List UInt8:=[99,104,97,114,116,32,99,32,123,32,105,110,105,116,105,97,108,32,97,59,32,115,116,97,116,101,32,97,32,123,32,111,110,32,120,32,45,62,32,99,59,32,125,32,125]
def Dp:List UInt8:=[99,104,97,114,116,32,99,32,123,32,105,110,105,116,105,97,108,32,97,59,32,115,116,97,116,101,32,97,32,123,32,111,110,32,120,32,45,62,32,97,59,32,125,32,125]
def ME (l:List UInt8):Bool:=nCb (dr l).1&&agr (dr l).1
def aat:Bool:=decide (kg MC=(25,6))&&decide (kg MD=(27,31))&&decide ((kg Dp).1=0)&&decide ((dr Dp).1.root.b.nm=[99])&&(ME MC&&ME MD&&ME Dp)
theorem Qs:aat=true:=by kernel_rfl
theorem Fp {l:List UInt8} (h:ME l=true):Ea (dr l).1/\oQ (dr l).1.vars+mY (dr l).1.root<=8388608:=by
 unfold ME at h;rw[ab]at h;exact⟨agq h.1,aj h.2⟩
theorem xQ (w:World) (hE:Er w) (hT:Tb w):Calls Tryz.prog 21 #[] w fun e w'=>e=.returned (.bool true)/\Only [] w w':=by
 refine ret (afN (fun v w'=>v=(.bool true)/\Only [] w w') w ?_);unfold ZJ;have oB:=Qs;unfold aat at oB;simp only[ab]at oB;obtain⟨⟨⟨⟨h1,h2⟩,h3⟩,h4⟩,⟨h5,h6⟩,h7⟩:=oB;have h1:=aj h1;have h2:=aj h2;have h3:=aj h3;have h4:=aj h4;have h5:=Fp h5;have h6:=Fp h6;have h7:=Fp h7;refine(A7 MC h5.1 h5.2 hE hT).mono ?_;rintro _ w0 ⟨vs,cs,rfl,hC,cd⟩;obtain⟨xe,xl,xm,xk,rfl,_⟩:=hC.root;have z0:=cd.size;refine⟨vs,_,_,_,_,xe,xl,xm,xk,_,_,_,rfl,fun k0 k1 w1 fQ eE kJ jp bR=>?_⟩;have z1:=bR.size;have o1:=cd.cf bR;refine(A7 MD h6.1 h6.2 (hE.only o1) (hT.only o1)).mono ?_;rintro _ w2 ⟨vs2,cs2,rfl,hC2,cO⟩;obtain⟨ye,yl,ym,yk,rfl,_⟩:=hC2.root;have z2:=cO.size;refine⟨vs2,_,_,_,_,ye,yl,ym,yk,_,_,_,rfl,cO.same (by simp;omega),fun k2 k3 w3 qM yj yp vL cU=>?_⟩;have z3:=cU.size;have o3:=(o1.cf cO).cf cU;refine(A7 Dp h7.1 h7.2 (hE.only o3) (hT.only o3)).mono ?_;rintro _ w4 ⟨vs4,cs4,rfl,hC4,cZ⟩;obtain⟨ue,ul,um,uk,rfl,_⟩:=hC4.root;have z4:=cZ.size;refine⟨vs4,_,_,_,_,ue,ul,um,uk,_,_,_,rfl,cZ.same (by simp;omega),fun k4 k5 w5 yN FY uG JD eC=>⟨?_,(o3.cf cZ).cf eC⟩⟩;have hn:(uu Dp).root.b.nm=[99]:=by unfold uu;rw[if_pos h3];exact h4
 rw[hn,show ByteArray.mk #[99]=T [99]from rfl,jW,h1,h2,h3];rfl
end Go.Proofs.YtmhoiicofhlgbaaGreatDoor.Con
namespace Go.Kt
open Go Go.RowKit Go.ChangeShapes Go.WideShapes
set_option linter.unusedSimpArgs false
set_option linter.unusedVariables false
def kR {α β:Type} (r:Rp α) (q:Rp β):Rp (α×β):=fun w F x cs=>∃c d,cs=c++d/\r w F x.1 c/\q w F x.2 d
def MF:Rp Unit:=fun _ _ _ cs=>cs=[]
def aau:Rp Bool:=fun _ _ b cs=>cs=[.bool b]
section
variable {H:Type} {enc:TypeId×Value->H} {P:Program}
theorem rn (hl:laidOutB P=true) {W W':World} {sp:Nat->Bool} (hb:Below W.heap.size W W'):∀{ts:List TypeId} {vs:List Value} {ds:List (DataW H)} {ps:List MemPlace},
  (∀t,t∈ts->P.readableRec t=true/\t<P.types.size)->DataW.TrodAll enc P W 0 (fun _=>true) true ts vs ds ps->(∀x,x∈ps->x.block<W.heap.size)->(∀x,x∈ps->sp x.block=true)->DataW.TrodAll enc P W' 0 sp true ts vs ds ps
 | [],vs,ds,ps,_,h,_,_=>by
  obtain⟨rfl,rfl,rfl⟩:=trodAll_nil h;exact trodAll_mk0
 | t::ts,vs,ds,ps,hr,h,bp,Rb=>by
  obtain⟨v,vs',d,ds',p,q,rfl,rfl,rfl,h1,h2⟩:=trodAll_cons h;obtain⟨r1,r2⟩:=hr t (by simp);exact trodAll_cons_mk (WideElems.Trod_stays hl r1 r2 h1 (fun x hx=>hb.same (bp x (by simp[hx]))) fun x hx=>Rb x (by simp[hx]))
   (rn hl hb (fun u hu=>hr u (by simp[hu])) h2 (fun x hx=>bp x (by simp[hx])) fun x hx=>Rb x (by simp[hx]))
theorem law_post {f:Func} {s:ChangeSpec} {fresh handsOn again:Bool} {W W':World} {args:Array Value} {ds gs:List (DataW H)} {before:List MemPlace} {tb:TypeId}
  (hW:DataW.Whole enc P f.params.toList s.vars false W args.toList ds gs before) (hv:s.vars=[])
  (V5:(s.fn H (ds++gs)).results=[.lit (.bool true)]) (hargs:(s.fn H (ds++gs)).args=ds) (wh:(s.fn H (ds++gs)).vars=[])
  (ht:f.resultTypes=#[tb]) (hu:P.underlying tb=some .bool) (hl:laidOutB P=true) (Wx:(f.params.toList.all fun t=>P.readableRec t&&decide (t<P.types.size))=true) (hO:Only [] W W'):
  s.post enc P f false fresh handsOn again W args (.bool true) W':=by
 have hb:Below W.heap.size W W':=hO.below (aq _) (by simp);have ac9:∀t,t∈f.params.toList->P.readableRec t=true/\t<P.types.size:=fun t ht=>by simpa using cJ.1 Wx t ht
 have bp:=fun p hp=>hW.lt p hp;obtain⟨p,q,hA,hV,rfl,hz,hn⟩:=id hW;rw[hv]at hV;obtain⟨rfl,rfl⟩:=trodVars_none hV;rw[aN]at*
 have hA':∀sp:Nat->Bool,(∀x∈p,sp x.block=true)->DataW.TrodAll enc P W' 0 sp true f.params.toList args.toList (s.fn H ds).args p:=fun sp Rb=>by
  rw[hargs];exact rn hl hb ac9 hA (fun x hx=>by simpa using bp x hx) Rb
 have hV':∀sp:Nat->Bool,DataW.TrodVars enc P W' sp s.vars (s.fn H ds).vars []:=fun sp=>by
  rw[hv,wh];simp[DataW.TrodVars]
 have Tn:∀(b:Nat) (sp:Nat->Bool) (hd:Bool),DataW.TrodAll enc P W' b sp hd f.resultTypes.toList ((Value.bool true).resultList f.resultTypes.size) (s.fn H ds).results []:=fun b sp hd=>by
  rw[V5,ht];exact trodAll_cons_mk (shut_bool hu true) trodAll_mk0
 have hold:∀x∈p,(fun b=>decide (b<W.heap.size)) x.block=true:=fun x hx=>by simpa using bp x hx
 refine⟨ds,[],p,[],p,[],hW,by simpa using Tn _ _ _,by simpa using hA' _ hold,by simpa using hV' _,World.keptBut_mono (fun x hx=>⟨hx,by simpa using hx⟩) (hb.frame (· ∈p)),fun _=>?_⟩;refine⟨ok_one ht rfl (okWide_bool_mk hu true),_,_,([]++p)++[],⟨[]++p,[],trodAll_append (hA' _ (fun _ _=>rfl)) (Tn _ _ _),hV' _,rfl,?_,?_⟩,?_⟩
 ·intro b off hp;have hp:MemPlace.cell b off∈p:=by simpa using hp
  rw[hb.frozen (p:=⟨b,off,none⟩) (bp _ hp)];exact hz b off hp
 ·intro ha;cases ha
 ·intro x hp _;simpa using hp
variable {W:World} {base:Nat} {spare:Nat->Bool} {held:Bool} {α:Type}
def zy (enc:TypeId×Value->H) (P:Program) (W:World) (base:Nat) (spare:Nat->Bool) (held:Bool) (t:TypeId) (r:Rp α):Prop:=
 ∀(dJ:Nat) (cs:List Value) (x:DataW H×List MemPlace),DataW.trod enc P W base spare held dJ t cs=some x->(∀n,n∈x.1.weights P t->n<=reachBytes)->∃a:α,r W (fun _=>True) a cs
theorem ff {t:TypeId} (ht:P.underlying t=some (.int .i64)):zy enc P W base spare held t pe:=fun dJ cs x h _=>by
 obtain⟨n,rfl,rfl,hw⟩:=DataW.trod_int ht h;refine⟨n,rfl,?_⟩;simpa[Lit.wf,IntKind.min,IntKind.max,IntKind.signed,IntKind.bits,InI]using hw
def WM (r:Rp α) (size bytes:Nat):Rp (List α):=fun w F xs cs=>∃s:Sl,cs=[s.v]/\SliceF r size w F s xs/\xs.length*bytes<=140737488351232
theorem pU {e:TypeId}:∀{l:List (DataW H)} {d:DataW H},d∈l->∀n,n∈d.weights P e->n∈DataW.weightsAll P e l
 | d0::l,d,hd,n,hn=>by
  simp only[DataW.weightsAll,bJ];rcases ak.1 hd with rfl | hd
  ·exact .inl hn
  ·exact .inr (pU hd n hn)
 | [],d,hd,_,_=>by simp at hd
theorem uW {β:Type} {p:Nat->β->Prop}:∀(n:Nat),(∀i,i<n->∃b,p i b)->∃l:List β,l.length=n/\∀i b,l[i]? =some b->p i b
 | 0,_=>⟨[],rfl,fun i b h=>by simp at h⟩
 | n+1,h=>by
  obtain⟨l,h1,h2⟩:=uW n fun i hi=>h i (by omega);obtain⟨b,hb⟩:=h n (by omega);refine⟨l++[b],by simp[h1],fun i c hc=>?_⟩;by_cases hi:i<l.length
  ·rw[aR hi]at hc;exact h2 i c hc
  ·rw[bh (by omega)]at hc;have:i=n:=by
    have:=(au.1 hc).1;simp at this;omega
   subst this;simp[h1]at hc;rw[<-hc];exact hb
theorem zy.map {β:Type} {t:TypeId} {r:Rp α} {q:Rp β} (h:zy enc P W base spare held t r) (f:α->β) (hf:∀a cs,r W (fun _=>True) a cs->q W (fun _=>True) (f a) cs):zy enc P W base spare held t q:=fun dJ cs x hx hw=>by
 obtain⟨a,ha⟩:=h dJ cs x hx hw;exact⟨f a,hf a cs ha⟩
theorem Fq {t:TypeId} (ht:P.underlying t=some .bool):zy enc P W base spare held t aau:=fun dJ cs x h _=>by
 obtain⟨b,rfl,rfl⟩:=DataW.trod_bool ht h;exact⟨b,rfl⟩
theorem weights_of {ts:List TypeId} {ds:List (DataW H)} (h:(DataW.weightsEach P ts ds).all (· <=reachBytes)=true) (j:Nat) {t:TypeId} {d:DataW H} (ht:ts[j]? =some t) (hd:ds[j]? =some d):∀n,n∈d.weights P t->n<=reachBytes:=
 fun n hn=>by simpa using cJ.1 h n (DataW.weights_mem_each ht hd n hn)
end
structure IsBulk {H:Type} (B:DataW H->Nat):Prop where
 one:∀d,1<=B d
 sl:∀e s,(e.map B).sum+1<=B (.slice e s)
 str:∀b,b.length+1<=B (.lit (.string b))
 agg:∀p,(p.map B).sum+1<=B (.agg p)
 ptr:∀d,B d+1<=B (.ptr d)
 iface:∀t d,B d+1<=B (.iface t d)
section
variable {H:Type} {enc:TypeId×Value->H} {P:Program} {W:World} {base:Nat} {spare:Nat->Bool} {held:Bool} {α β:Type} {B:DataW H->Nat}
def MG:Rp ByteArray:=fun _ _ s cs=>cs=[.string s]/\s.size<=140737488351232
def gf (B:DataW H->Nat) (enc:TypeId×Value->H) (P:Program) (W:World) (base:Nat) (spare:Nat->Bool) (held:Bool) (t:TypeId) (r:Rp α) (m:α->Nat):Prop:=
 ∀(dJ:Nat) (cs:List Value) (x:DataW H×List MemPlace),DataW.trod enc P W base spare held dJ t cs=some x->(∀n,n∈x.1.weights P t->n<=reachBytes)->∃a:α,r W (fun _=>True) a cs/\m a<=B x.1
theorem eP (hB:IsBulk B) {t:TypeId} {r:Rp α} (h:zy enc P W base spare held t r):gf B enc P W base spare held t r fun _=>1:=fun dJ cs x hx hw=>by
 obtain⟨a,ha⟩:=h dJ cs x hx hw;exact⟨a,ha,hB.one _⟩
theorem ig (hB:IsBulk B) {t:TypeId} (ht:P.underlying t=some .string):gf B enc P W base spare held t MG fun s=>s.size+1:=fun dJ cs x h hw=>by
 obtain⟨s,rfl,rfl,hs⟩:=DataW.trod_string ht h;have h1:=hw _ (by simp only[DataW.weights];exact cR);have e:s.data.toList.length=s.size:=by rw[fK];rfl
 simp only[e,reachBytes]at h1;refine⟨s,⟨rfl,?_⟩,?_⟩
 ·omega
 ·have:=hB.str s.data.toList;rw[e]at this;exact this
theorem MH {p:α->Nat} {g:Nat->Nat}:∀{l:List α} {o:Nat},(∀i b,l[i]? =some b->p b<=g (o+i))->(l.map p).sum<=((List.range l.length).map fun i=>g (o+i)).sum
 | [],_,_=>by simp
 | a::l,o,h=>by
  rw[ao,List.range_succ_eq_map,aI,aI,bd,bd,fN];have h0:=h 0 a rfl;have ih:=MH (p:=p) (g:=g) (l:=l) (o:=o+1) fun i b hb=>by
   have:=h (i+1) b hb;rw[show o+1+i=o+(i+1) by omega];exact this
  refine ec h0 (ay ih (Gc ?_));congr 1;refine oZ fun i _=>?_;show g _=g _;congr 1;omega
theorem fE (hB:IsBulk B) {t e:TypeId} {r:Rp α} {m:α->Nat} {size:Nat} (ht:P.underlying t=some (.slice e)) (hs:P.cellsOf e=size) {bytes:Nat} (hb:P.bytesOf e=bytes) (he:gf B enc P W base spare held e r m):
  gf B enc P W base spare held t (WM r size bytes) fun xs=>(xs.map m).sum+1:=fun dJ cs x h hw=>by
 subst hs;rcases Deep.open_slice ht h with⟨rfl,rfl⟩ | ⟨a,len,cap,mm,n,D,Pl,rfl,_,hl,hm,Ir,rfl,hel⟩
 ·exact⟨[],⟨Sl.nil,rfl,SliceF.nil _ _ _ _,by simp⟩,hB.one _⟩
 ·have hlm:len<=mm:=by rw[Ir];split<;>omega
  have hex:∀i,i<len->∃b:α,(∃Bn,Bn.length=P.cellsOf e/\aB W (a.add (i*P.cellsOf e)) Bn/\r W (fun _=>True) b Bn)/\m b<=B (D i):=fun i hi=>by
   obtain⟨Bn,g1,g2⟩:=hel i (by omega);obtain⟨_,g3,g4⟩:=World.cells?_some g1;obtain⟨b,g5,g6⟩:=he n Bn _ g2 fun k hk=>hw k (by
    simp only[DataW.weights,ht,ak,bJ];exact .inr (.inl (pU (fM.2 ⟨i,List.mem_range.2 hi,rfl⟩) k hk)))
   refine⟨b,⟨Bn,g3,fun j v hj=>?_,g5⟩,g6⟩;rw[g4 j (by have:=(au.1 hj).1;omega)];exact hj
  obtain⟨l,h1,h2⟩:=uW len hex;refine⟨l,⟨⟨some a,len,cap⟩,rfl,⟨h1.symm,hl,fun h=>(by cases h),hm,fun j x hj=>?_⟩,?_⟩,?_⟩
  ·obtain⟨⟨Bn,g1,g2,g3⟩,_⟩:=h2 j x hj;exact⟨a,Bn,rfl,trivial,g1,g2,g3⟩
  ·have:=hw _ (by simp only[DataW.weights,ht];exact cR);rw[hb]at this;simp only[aQ,List.length_range,reachBytes]at this;rw[h1];have h3:len*bytes<=(len+(mm-len))*bytes:=gI _ (by omega);omega
  ·have h3:=hB.sl ((List.range len).map D) ((List.range (mm-len)).map fun j=>D (len+j));refine ay (JM ?_) h3;have h4:=MH (p:=m) (g:=fun i=>B (D i)) (l:=l) (o:=0) fun i b hb=>by
    rw[aJ];exact(h2 i b hb).2
   rw[h1]at h4;rw[fN];simpa[Function.comp_def]using h4
def A8 (B:DataW H->Nat) (enc:TypeId×Value->H) (P:Program) (W:World) (base:Nat) (spare:Nat->Bool) (held:Bool) (T off:Nat) (fs:List Field) (r:Rp α) (m:α->Nat):Prop:=
 ∀(n:Nat) (cs:List Value) (xs:List (DataW H×List MemPlace)),cs.length=T->xs.length=fs.length->
  (∀(i:Nat) (f:Field),fs[i]? =some f->DataW.trod enc P W base spare held n f.type ((cs.drop f.offset).take (P.cellsOf f.type))=xs[i]?)->
  (∀(i:Nat) (f:Field) (x:DataW H×List MemPlace),fs[i]? =some f->xs[i]? =some x->∀k,k∈x.1.weights P f.type->k<=reachBytes)->∃a:α,r W (fun _=>True) a (cs.drop off)/\m a<=(xs.map fun x=>B x.1).sum
theorem qG {T off:Nat} (h:T=off):A8 B enc P W base spare held T off [] MF fun _=>0:=fun n cs xs hl _ _ _=>⟨(),by
 show cs.drop off=[]
 exact List.drop_eq_nil_of_le (by omega),aF _⟩
theorem cG {T off s:Nat} {f:Field} {fs:List Field} {r:Rp α} {q:Rp β} {m:α->Nat} {m':β->Nat} (ho:f.offset=off) (hs:P.cellsOf f.type=s) (hr:gf B enc P W base spare held f.type r m) (hq:A8 B enc P W base spare held T (off+s) fs q m'):
  A8 B enc P W base spare held T off (f::fs) (kR r q) fun x=>m x.1+m' x.2:=fun n cs xs hl hx hf hw=>by
 cases xs with
 | nil=>simp at hx
 | cons x xs=>
  have h0:=hf 0 f rfl;rw[ho,hs]at h0;obtain⟨a,ha,D1⟩:=hr n _ x h0 (hw 0 f x rfl rfl);obtain⟨b,hb,kH⟩:=hq n cs xs hl (by simpa using hx) (fun i g hg=>hf (i+1) g hg) (fun i g y hg hy=>hw (i+1) g y hg hy);refine⟨(a,b),⟨_,_,by rw[<-mj,dC],ha,hb⟩,?_⟩;rw[aI,bd];exact ec D1 kH
theorem gz (hB:IsBulk B) {t:TypeId} {fs:Array Field} {T:Nat} {r:Rp α} {m:α->Nat} (ht:P.underlying t=some (.struct fs)) (hT:P.cellsOf t=T) (hF:A8 B enc P W base spare held T 0 fs.toList r m):gf B enc P W base spare held t r fun x=>m x+1:=fun dJ cs x h hw=>by
 obtain⟨xs,n,rfl,rfl,hl,QV,hf⟩:=DataW.trod_struct ht h;obtain⟨a,ha,D1⟩:=hF n cs xs (by omega) (by simpa using QV) (fun i f hi=>hf i f (by simpa using hi)) (fun i f x hi hx k hk=>hw k (by
  simp only[DataW.weights,ht];refine DataW.weights_mem_each (j:=i) ?_ (by rw[bD,hx];rfl) k hk;simp only[Array.toList_map,bD,hi];rfl))
 refine⟨a,by simpa using ha,ay (JM D1) ?_⟩;have:=hB.agg (xs.map (·.1));rwa[fN]at this
theorem gf.map {t:TypeId} {r:Rp α} {q:Rp β} {m:α->Nat} {m':β->Nat} (h:gf B enc P W base spare held t r m) (f:α->β) (hf:∀a cs,r W (fun _=>True) a cs->q W (fun _=>True) (f a) cs/\m' (f a)<=m a):gf B enc P W base spare held t q m':=fun dJ cs x hx hw=>by
 obtain⟨a,ha,D1⟩:=h dJ cs x hx hw;obtain⟨h1,h2⟩:=hf a cs ha;exact⟨f a,h1,ay h2 D1⟩
theorem argB_struct {t:TypeId} {fs:Array Field} {r:Rp α} {m:α->Nat} {b0:Nat} {v:Value} {d:DataW H} {p:List MemPlace} (ht:P.underlying t=some (.struct fs)) (oB:Value.okWide P W .any b0 t v) (h:DataW.Trod enc P W base spare held t v d p)
  (rV:gf B enc P W base spare held t r m) (hw:∀n,n∈d.weights P t->n<=reachBytes):∃(a:α) (cs:List Value),v=.agg cs.toArray/\r W (fun _=>True) a cs/\m a<=B d:=by
 obtain⟨cs,rfl,_⟩:=okWide_struct ht oB;obtain⟨dJ,hf⟩:=h;obtain⟨a,ha,D1⟩:=rV dJ _ _ hf hw;exact⟨a,cs.toList,by simp,ha,D1⟩
theorem sum_one:∀l:List α,(l.map fun _=>1).sum=l.length
 | []=>rfl
 | _::l=>by rw[aI,bd,sum_one l,ao];omega
end
end Go.Kt
namespace Go.Proofs.YtmhoiicofhlgbaaGreatDoor.Con
open Go Go.RowKit Go.Kt Go.Kt.V Go.Proofs.YtmhoiicofhlgbaaGreatDoor.Vc Go.ChangeShapes Go.WideShapes
set_option linter.unusedSimpArgs false
set_option linter.unusedVariables false
set_option maxHeartbeats 4000000
set_option maxRecDepth 100000
theorem Fs {D E:Type} {B:D->Nat} {sz:E->Nat} {Q:Nat->E->Prop}:∀(xs:List D) (o:Nat),(∀j y,xs[j]? =some y->∃e,Q (o+j) e/\sz e<=B y)->
  ∃l:List E,l.length=xs.length/\(∀j e,l[j]? =some e->Q (o+j) e)/\(l.map sz).sum<=(xs.map B).sum
 | [],o,_=>⟨[],rfl,fun j p h=>by simp at h,aq _⟩
 | x::xs,o,h=>by
  obtain⟨e,h1,h2⟩:=h 0 x rfl;obtain⟨l,h3,h4,h5⟩:=Fs (B:=B) (sz:=sz) (Q:=Q) xs (o+1) fun j y hj=>by
   have:=h (j+1) y hj;rwa[cb,iU 1 j]
  refine⟨e::l,by rw[ao,ao,h3],fun j p hj=>?_,?_⟩
  ·cases j with
   | zero=>
    simp only[bm,ai]at hj;subst hj;exact h1
   | succ j=>
    have:=h4 j p hj;rwa[cb,iU 1 j]at this
  ·rw[aI,bd,aI,bd];exact ec h2 h5
theorem xR {n:Nat}:∀{l:List Nat},n∈l->n<=l.sum
 | [],h=>by simp at h
 | x::l,h=>by
  rw[bd];rcases ak.1 h with rfl | h
  ·omega
  ·have:=xR h;omega
theorem Fu {E:Type} (f:E->Nat):∀(l:List E),∃m,∀p,p∈l->f p<=m
 | []=>⟨0,fun p h=>by simp at h⟩
 | x::l=>by
  obtain⟨m,h⟩:=Fu f l;refine⟨max (f x) m,fun p hp=>?_⟩;rcases ak.1 hp with rfl | hp
  ·exact wu _ _
  ·exact ay (h p hp) (uJ _ _)
theorem HQ {α β:Type} {r:Rp α} {q:Rp β} {size:Nat} {w:World} {F:Nat->Prop} {s:Sl} {xs:List α} (f:α->β) (h:SliceF r size w F s xs) (hf:∀x cs,x∈xs->r w F x cs->q w F (f x) cs):SliceF q size w F s (xs.map f):=by
 refine⟨by rw[aQ];exact h.len,h.cap,h.nil0,h.big,fun j y hj=>?_⟩;rw[bD,cY]at hj;obtain⟨x,hx,rfl⟩:=hj;obtain⟨bs,cs,g1,g2,g3,g4,g5⟩:=h.at_ j x hx;exact⟨bs,cs,g1,g2,g3,g4,hf x cs (aE hx) g5⟩
theorem zz {α:Type} {r:Rp α} {size:Nat} {w:World} {F:Nat->Prop} {s:Sl} {xs:List α} (h:SliceF r size w F s xs) {x:α} (hx:x∈xs):∃cs,r w F x cs:=h.mem hx
def rXU:Rp (Ex×Nat):=fun w F x cs=>rE false w F x.1 cs/\Hc x.1/\AR x.1<=x.2
def Qt:Rp (Ac×Nat):=fun w F x cs=>rl false w F x.1 cs/\C0 x.1/\Mc x.1<=x.2
def UG:Rp (Mv×Nat):=fun w F x cs=>BG false w F x.1 cs/\OU x.1/\Md x.1<=x.2
def agt:Rp (Vr×Nat):=fun w F x cs=>Om w F x.1 cs/\InI x.1.v/\x.1.n.length+1<=x.2
theorem HR:∀l:List Ex,Oo l=(l.map AR).sum
 | []=>rfl
 | x::l=>by rw[Oo,aI,bd,HR l]
theorem Dr:∀l:List Ac,iP l=(l.map Mc).sum
 | []=>rfl
 | x::l=>by rw[iP,aI,bd,Dr l]
theorem Ds:∀l:List Mv,tc l=(l.map Md).sum
 | []=>rfl
 | x::l=>by rw[tc,aI,bd,Ds l]
theorem Dt:∀l:List Vr,oQ l=(l.map fun v=>v.n.length+1).sum
 | []=>rfl
 | x::l=>by rw[oQ,aI,bd,Dt l]
theorem Du:∀l:List Nd,iC l=(l.map mY).sum
 | []=>by rw[iC];rfl
 | x::l=>by rw[iC,aI,bd,Du l]
theorem wc {α:Type} {f:α->Nat}:∀{l:List (α×Nat)},(∀x,x∈l->f x.1<=x.2)->((l.map (·.1)).map f).sum<=(l.map fun x=>x.2).sum
 | [],_=>aq _
 | x::l,h=>by
  rw[aI,aI,bd,aI,bd];exact ec (h x (by simp)) (wc fun y hy=>h y (by simp[hy]))
theorem UH (s:ByteArray):s.data.toList.length=s.size:=by rw[fK];rfl
section
variable {H:Type} {enc:TypeId×Value->H} {W:World} {base:Nat} {spare:Nat->Bool} {held:Bool} {B:DataW H->Nat}
def MJ (enc:TypeId×Value->H) (W:World) (base:Nat) (spare:Nat->Bool) (held:Bool) (t:TypeId):Rp (DataW H):=fun _ _ x cs=>∃dJ p,DataW.trod enc Tryz.prog W base spare held dJ t cs=some (x,p)/\∀n,n∈x.weights Tryz.prog t->n<=reachBytes
theorem Dv (hB:IsBulk B) (t:TypeId):gf B enc Tryz.prog W base spare held t (MJ enc W base spare held t) B:=fun dJ cs x h hw=>⟨x.1,⟨dJ,x.2,h,hw⟩,aq _⟩
theorem Jg (hB:IsBulk B):gf B enc Tryz.prog W base spare held 51 (kR pe (kR pe (kR MG (kR pe (kR (WM (MJ enc W base spare held 51) 6 72) (kR pe MF))))))
  fun x=>(1+(1+((x.2.2.1.size+1)+(1+(((x.2.2.2.2.1.map B).sum+1)+(1+0))))))+1:=by
 have h:=gz (enc:=enc) (P:=Tryz.prog) (W:=W) (base:=base) (spare:=spare) (held:=held) (T:=6) hB Tryz.underlying51 (by kernel_rfl)
  (cG (s:=1) rfl (by kernel_rfl) (eP hB (ff Tryz.underlying3)) (cG (s:=1) rfl (by kernel_rfl) (eP hB (ff Tryz.underlying3)) (cG (s:=1) rfl (by kernel_rfl) (ig hB Tryz.underlying9) (cG (s:=1) rfl (by kernel_rfl) (eP hB (ff Tryz.underlying3)) (cG (s:=1) rfl (by kernel_rfl) (fE (size:=6) (bytes:=72) hB Tryz.underlying49 (by kernel_rfl) (by kernel_rfl) (Dv hB _)) (cG (s:=1) rfl (by kernel_rfl) (eP hB (ff Tryz.underlying3)) (qG rfl)))))))
 exact h
theorem ML (hB:IsBulk B):∀(N:Nat) {x:DataW H} {cs:List Value} {F:Nat->Prop},B x<=N->MJ enc W base spare held 51 W F x cs->∃(e:Ex) (d:Nat),G8 false d W (fun _=>True) e cs/\Hc e/\AR e<=B x
 | 0,x,cs,F,h,_=>by have:=hB.one x;omega
 | N+1,x,cs,F,h,⟨dJ,p,ht,hw⟩=>by
  obtain⟨⟨k,n,s,op,xs,a,u⟩,hr,hm⟩:=Jg (enc:=enc) (W:=W) (base:=base) (spare:=spare) (held:=held) hB dJ cs (x,p) ht hw;obtain⟨c1,r1,rfl,⟨rfl,i1⟩,c2,r2,rfl,⟨rfl,i2⟩,c3,r3,rfl,⟨rfl,i3⟩,c4,r4,rfl,⟨rfl,i4⟩,c5,r5,rfl,⟨sl,rfl,qL,_⟩,c6,r6,rfl,⟨rfl,i6⟩,hu⟩:=hr;have hu:r6=[]:=hu;subst hu;dsimp only at hm qL i1 i2 i3;have JH:∀y,y∈xs->B y<=(xs.map B).sum:=fun y hy=>xR (List.mem_map_of_mem hy);obtain⟨l,l1,l2,l3⟩:=Fs (B:=B) (sz:=fun e:Ex×Nat=>AR e.1) (Q:=fun j e=>∃base cs,sl.a=some base/\cs.length=6/\aB W (base.add (j*6)) cs/\G8 false e.2 W (fun _=>True) e.1 cs/\Hc e.1) xs 0 fun j y hj=>by
   rw[aJ];obtain⟨bs,ds,g1,g2,g3,g4,g5⟩:=qL.at_ j y hj;obtain⟨e,d,t1,t2,t3⟩:=ML hB N (x:=y) (by have:=JH y (aE hj);omega) g5;exact⟨(e,d),⟨bs,ds,g1,g3,g4,t1,t2⟩,t3⟩
  obtain⟨m,hmx⟩:=Fu (fun e:Ex×Nat=>e.2) l;refine⟨.mk k n s.data.toList op (l.map (·.1)) a,m+1,⟨sl,?_,?_,fun h=>(by cases h)⟩,fun d=>?_,?_⟩
  ·have e:ou k n s.data.toList op sl a=[.int .i64 k,.int .i64 n,.string s,.int .i64 op,sl.v,.int .i64 a]:=by
    show[_,_,Value.string (T s.data.toList),_,_,_]=_;rw[<-vg s]
   exact e.symm
  ·refine⟨by rw[Ex.cX,aQ,l1];exact qL.len,qL.cap,qL.nil0,qL.big,fun j e hj=>?_⟩;rw[Ex.cX,bD,cY]at hj;obtain⟨q,q1,rfl⟩:=hj;obtain⟨bs,ds,g1,g2,g3,g4,g5⟩:=l2 j q q1;rw[aJ]at g3;exact⟨bs,ds,g1,trivial,g2,g3,E3 (hmx q (aE q1)) g4⟩
  ·cases d with
   | zero=>trivial
   | succ d=>
    refine⟨i2,fun y hy=>?_⟩;obtain⟨q,q1,rfl⟩:=fM.1 hy;obtain⟨j,hj⟩:=eF q1;obtain⟨bs,ds,g1,g2,g3,g4,g5⟩:=l2 j q hj;exact g5 d
  ·rw[E5];show Oo (l.map (·.1))+(s.data.toList.length+1)<=_;rw[HR,fN,UH];have e:(l.map (AR∘fun x=>x.1)).sum=(l.map fun e:Ex×Nat=>AR e.1).sum:=rfl;omega
theorem zA (hB:IsBulk B):gf B enc Tryz.prog W base spare held 51 rXU fun x=>x.2:=fun dJ cs x h hw=>by
 obtain⟨e,d,h1,h2,h3⟩:=ML hB (B x.1) (x:=x.1) (F:=fun _=>True) (aq _) ⟨dJ,x.2,h,hw⟩;exact⟨(e,B x.1),⟨⟨d,h1⟩,h2,h3⟩,aq _⟩
theorem uv (hB:IsBulk B):gf B enc Tryz.prog W base spare held 116 Qt fun x=>x.2:=by
 have h:=gz (enc:=enc) (P:=Tryz.prog) (W:=W) (base:=base) (spare:=spare) (held:=held) (T:=9) hB Tryz.underlying116 (by kernel_rfl)
  (cG (s:=1) rfl (by kernel_rfl) (eP hB (ff Tryz.underlying3)) (cG (s:=1) rfl (by kernel_rfl) (ig hB Tryz.underlying9) (cG (s:=6) rfl (by kernel_rfl) (zA hB) (cG (s:=1) rfl (by kernel_rfl) (eP hB (ff Tryz.underlying3)) (qG rfl)))))
 refine h.map (fun x=>((⟨x.1,x.2.1.data.toList,x.2.2.1.1,x.2.2.2.1⟩:Ac),x.2.2.1.2+(x.2.1.size+1))) ?_;rintro⟨k,n,⟨e,m⟩,a,u⟩ cs ⟨c1,r1,rfl,⟨rfl,i1⟩,c2,r2,rfl,⟨rfl,i2⟩,c3,r3,rfl,⟨he,hn,hz⟩,c4,r4,rfl,⟨rfl,i4⟩,hu⟩;have hu:r4=[]:=hu;subst hu;refine⟨⟨⟨c3,?_,he⟩,hn,?_⟩,by dsimp only;omega⟩
 ·show _=_::Value.string (T n.data.toList)::_;rw[<-vg n];simp
 ·show AR e+(n.data.toList.length+1)<=_;rw[UH];dsimp only at hz⊢;omega
theorem Fv {w:World} {F:Nat->Prop} {s:Sl} {xs:List (Ac×Nat)} (h:SliceF Qt 9 w F s xs):gH false (rl false) 9 116 w F s (xs.map (·.1))/\(∀a,a∈xs.map (·.1)->C0 a)/\iP (xs.map (·.1))<=(xs.map fun x=>x.2).sum:=by
 refine⟨⟨HQ (·.1) h fun x cs _ hx=>hx.1,fun h=>(by cases h)⟩,fun a ha=>?_,?_⟩
 ·obtain⟨x,hx,rfl⟩:=fM.1 ha;obtain⟨cs,hc⟩:=zz h hx;exact hc.2.1
 ·rw[Dr];exact wc fun x hx=>by
   obtain⟨cs,hc⟩:=zz h hx;exact hc.2.2
theorem Jh (hB:IsBulk B):gf B enc Tryz.prog W base spare held 54 UG fun x=>x.2:=by
 have h:=gz (enc:=enc) (P:=Tryz.prog) (W:=W) (base:=base) (spare:=spare) (held:=held) (T:=13) hB Tryz.underlying54 (by kernel_rfl)
  (cG (s:=1) rfl (by kernel_rfl) (eP hB (ff Tryz.underlying3)) (cG (s:=1) rfl (by kernel_rfl) (ig hB Tryz.underlying9) (cG (s:=1) rfl (by kernel_rfl) (eP hB (ff Tryz.underlying3)) (cG (s:=1) rfl (by kernel_rfl) (eP hB (Fq Tryz.underlying4)) (cG (s:=6) rfl (by kernel_rfl) (zA hB)
  (cG (s:=1) rfl (by kernel_rfl) (fE (size:=9) (bytes:=104) hB Tryz.underlying23 (by kernel_rfl) (by kernel_rfl) (uv hB)) (cG (s:=1) rfl (by kernel_rfl) (fE (size:=1) (bytes:=16) hB Tryz.underlying52 (by kernel_rfl) (by kernel_rfl) (ig hB Tryz.underlying9)) (cG (s:=1) rfl (by kernel_rfl) (eP hB (ff Tryz.underlying3)) (qG rfl)))))))))
 refine h.map (fun x=>((⟨x.1,x.2.1.data.toList,x.2.2.1,x.2.2.2.1,x.2.2.2.2.1.1,x.2.2.2.2.2.1.map (·.1),x.2.2.2.2.2.2.1.map fun s=>s.data.toList,x.2.2.2.2.2.2.2.1⟩:Mv),(((x.2.2.2.2.2.1.map fun x=>x.2).sum+x.2.2.2.2.1.2)+((x.2.2.2.2.2.2.1.map fun s=>s.size+1).sum+(x.2.1.size+1))))) ?_;rintro⟨k,ev,wt,gd,⟨g,m⟩,ac,tg,a,u⟩ cs ⟨c1,r1,rfl,⟨rfl,i1⟩,c2,r2,rfl,⟨rfl,i2⟩,c3,r3,rfl,⟨rfl,i3⟩,c4,r4,rfl,h4,c5,r5,rfl,⟨he,hn,hz⟩,c6,r6,rfl,⟨ql,rfl,Ke,_⟩,c7,r7,rfl,⟨tsl,rfl,tS,_⟩,c8,r8,rfl,⟨rfl,i8⟩,hu⟩;have hu:r8=[]:=hu;have h4:c4=[.bool gd]:=h4;subst hu h4;obtain⟨a1,a2,a3⟩:=Fv Ke;have ajb:SliceF jJ 1 W (fun _=>True) tsl (tg.map fun s=>s.data.toList):=HQ (fun s=>s.data.toList) tS fun x cs _ hx=>by
  obtain⟨rfl,_⟩:=hx;show _=[Value.string (T x.data.toList)]
  rw[<-vg x]
 refine⟨⟨⟨c5,ql,tsl,?_,he,a1,⟨ajb,fun h=>(by cases h)⟩⟩,⟨hn,a2,i3⟩,?_⟩,by dsimp only;omega⟩
 ·show _=_::Value.string (T ev.data.toList)::_;rw[<-vg ev];simp
 ·show(iP (ac.map (·.1))+AR g)+(Df (tg.map fun s=>s.data.toList)+(ev.data.toList.length+1))<=_;have e:Df (tg.map fun s=>s.data.toList)=(tg.map fun s=>s.size+1).sum:=by
   unfold Df;rw[fN];congr 1
  rw[e,UH];dsimp only at hz a3⊢;omega
theorem UI {w:World} {F:Nat->Prop} {s:Sl} {xs:List (Mv×Nat)} (h:SliceF UG 13 w F s xs):gH false (BG false) 13 54 w F s (xs.map (·.1))/\(∀a,a∈xs.map (·.1)->OU a)/\tc (xs.map (·.1))<=(xs.map fun x=>x.2).sum:=by
 refine⟨⟨HQ (·.1) h fun x cs _ hx=>hx.1,fun h=>(by cases h)⟩,fun a ha=>?_,?_⟩
 ·obtain⟨x,hx,rfl⟩:=fM.1 ha;obtain⟨cs,hc⟩:=zz h hx;exact hc.2.1
 ·rw[Ds];exact wc fun x hx=>by
   obtain⟨cs,hc⟩:=zz h hx;exact hc.2.2
theorem Ji (hB:IsBulk B):gf B enc Tryz.prog W base spare held 79 agt fun x=>x.2:=by
 have h:=gz (enc:=enc) (P:=Tryz.prog) (W:=W) (base:=base) (spare:=spare) (held:=held) (T:=3) hB Tryz.underlying79 (by kernel_rfl)
  (cG (s:=1) rfl (by kernel_rfl) (ig hB Tryz.underlying9) (cG (s:=1) rfl (by kernel_rfl) (eP hB (ff Tryz.underlying3)) (cG (s:=1) rfl (by kernel_rfl) (eP hB (ff Tryz.underlying3)) (qG rfl))))
 refine h.map (fun x=>((⟨x.1.data.toList,x.2.1,x.2.2.1⟩:Vr),x.1.size+1)) ?_;rintro⟨n,v,a,u⟩ cs ⟨c1,r1,rfl,⟨rfl,i1⟩,c2,r2,rfl,⟨rfl,i2⟩,c3,r3,rfl,⟨rfl,i3⟩,hu⟩;have hu:r3=[]:=hu;subst hu;refine⟨⟨?_,i2,?_⟩,by dsimp only;omega⟩
 ·show _=[Value.string (T n.data.toList),_,_]
  rw[<-vg n];rfl
 ·show n.data.toList.length+1<=_;rw[UH];exact aq _
theorem Jj (hB:IsBulk B):gf B enc Tryz.prog W base spare held 27 (kR pe (kR MG (kR MG (kR MG (kR (WM Qt 9 104) (kR (WM Qt 9 104) (kR (WM UG 13 168) (kR (WM (MJ enc W base spare held 27) 9 160) (kR pe MF)))))))))
  fun x=>(1+((x.2.1.size+1)+((x.2.2.1.size+1)+((x.2.2.2.1.size+1)+(((x.2.2.2.2.1.map fun x=>x.2).sum+1)+(((x.2.2.2.2.2.1.map fun x=>x.2).sum+1)+(((x.2.2.2.2.2.2.1.map fun x=>x.2).sum+1)+(((x.2.2.2.2.2.2.2.1.map B).sum+1)+(1+0)))))))))+1:=by
 have h:=gz (enc:=enc) (P:=Tryz.prog) (W:=W) (base:=base) (spare:=spare) (held:=held) (T:=9) hB Tryz.underlying27 (by kernel_rfl)
  (cG (s:=1) rfl (by kernel_rfl) (eP hB (ff Tryz.underlying3)) (cG (s:=1) rfl (by kernel_rfl) (ig hB Tryz.underlying9) (cG (s:=1) rfl (by kernel_rfl) (ig hB Tryz.underlying9) (cG (s:=1) rfl (by kernel_rfl) (ig hB Tryz.underlying9)
  (cG (s:=1) rfl (by kernel_rfl) (fE (size:=9) (bytes:=104) hB Tryz.underlying23 (by kernel_rfl) (by kernel_rfl) (uv hB)) (cG (s:=1) rfl (by kernel_rfl) (fE (size:=9) (bytes:=104) hB Tryz.underlying23 (by kernel_rfl) (by kernel_rfl) (uv hB))
  (cG (s:=1) rfl (by kernel_rfl) (fE (size:=13) (bytes:=168) hB Tryz.underlying24 (by kernel_rfl) (by kernel_rfl) (Jh hB)) (cG (s:=1) rfl (by kernel_rfl) (fE (size:=9) (bytes:=160) hB Tryz.underlying25 (by kernel_rfl) (by kernel_rfl) (Dv hB _)) (cG (s:=1) rfl (by kernel_rfl) (eP hB (ff Tryz.underlying3)) (qG rfl))))))))))
 exact h
theorem HS:∀{l:List Nd},(∀x,x∈l->vu x)->ma l
 | [],_=>by rw[ma];trivial
 | x::l,h=>by
  rw[ma];exact⟨h x (by simp),HS fun y hy=>h y (by simp[hy])⟩
theorem MM (hB:IsBulk B):∀(N:Nat) {x:DataW H} {cs:List Value} {F:Nat->Prop},B x<=N->MJ enc W base spare held 27 W F x cs->∃(e:Nd) (d:Nat),lQ false d W (fun _=>True) e cs/\vu e/\mY e<=B x
 | 0,x,cs,F,h,_=>by have:=hB.one x;omega
 | N+1,x,cs,F,h,⟨dJ,p,ht,hw⟩=>by
  obtain⟨⟨k,nm,ini,dft,en,lv,mv,xs,a,u⟩,hr,hm⟩:=Jj (enc:=enc) (W:=W) (base:=base) (spare:=spare) (held:=held) hB dJ cs (x,p) ht hw;obtain⟨c1,r1,rfl,⟨rfl,i1⟩,c2,r2,rfl,⟨rfl,i2⟩,c3,r3,rfl,⟨rfl,i3⟩,c4,r4,rfl,⟨rfl,i4⟩,c5,r5,rfl,⟨ens,rfl,ve,_⟩,c6,r6,rfl,⟨lvs,rfl,tN,_⟩,c7,r7,rfl,⟨mvs,rfl,lA,_⟩,c8,r8,rfl,⟨sl,rfl,qL,_⟩,c9,r9,rfl,⟨rfl,i9⟩,hu⟩:=hr;have hu:r9=[]:=hu;subst hu;dsimp only at hm qL ve tN lA;have JH:∀y,y∈xs->B y<=(xs.map B).sum:=fun y hy=>xR (List.mem_map_of_mem hy);obtain⟨l,l1,l2,l3⟩:=Fs (B:=B) (sz:=fun e:Nd×Nat=>mY e.1) (Q:=fun j e=>∃base cs,sl.a=some base/\cs.length=9/\aB W (base.add (j*9)) cs/\lQ false e.2 W (fun _=>True) e.1 cs/\vu e.1) xs 0 fun j y hj=>by
   rw[aJ];obtain⟨bs,ds,g1,g2,g3,g4,g5⟩:=qL.at_ j y hj;obtain⟨e,d,t1,t2,t3⟩:=MM hB N (x:=y) (by have:=JH y (aE hj);omega) g5;exact⟨(e,d),⟨bs,ds,g1,g3,g4,t1,t2⟩,t3⟩
  obtain⟨m,hmx⟩:=Fu (fun e:Nd×Nat=>e.2) l;obtain⟨a1,a2,a3⟩:=Fv ve;obtain⟨b1,b2,b3⟩:=Fv tN;obtain⟨d1,d2,d3⟩:=UI lA;refine⟨.mk ⟨k,nm.data.toList,ini.data.toList,dft.data.toList,en.map (·.1),lv.map (·.1),mv.map (·.1),a⟩ (l.map (·.1)),m+1,⟨ens,lvs,mvs,sl,?_,⟨a1,b1,d1⟩,?_,fun h=>(by cases h)⟩,?_,?_⟩
  ·show _=[_,Value.string (T nm.data.toList),Value.string (T ini.data.toList),Value.string (T dft.data.toList),_,_,_,_,_]
   rw[<-vg nm,<-vg ini,<-vg dft];rfl
  ·refine⟨by rw[Nd.kids,aQ,l1];exact qL.len,qL.cap,qL.nil0,qL.big,fun j e hj=>?_⟩;rw[Nd.kids,bD,cY]at hj;obtain⟨q,q1,rfl⟩:=hj;obtain⟨bs,ds,g1,g2,g3,g4,g5⟩:=l2 j q q1;rw[aJ]at g3;exact⟨bs,ds,g1,trivial,g2,g3,Ue (hmx q (aE q1)) g4⟩
  ·rw[vu];refine⟨⟨a2,b2,d2⟩,HS fun y hy=>?_⟩;obtain⟨q,q1,rfl⟩:=fM.1 hy;obtain⟨j,hj⟩:=eF q1;obtain⟨bs,ds,g1,g2,g3,g4,g5⟩:=l2 j q hj;exact g5
  ·rw[mY,Du,fN];unfold Fj;dsimp only;rw[UH,UH,UH];have e:(l.map (mY∘fun x=>x.1)).sum=(l.map fun e:Nd×Nat=>mY e.1).sum:=rfl;omega
def agu:Rp (Nd×Nat):=fun w F x cs=>∃d,lQ false d w F x.1 cs/\vu x.1/\mY x.1<=x.2
theorem Jk (hB:IsBulk B):gf B enc Tryz.prog W base spare held 27 agu fun x=>x.2:=fun dJ cs x h hw=>by
 obtain⟨e,d,h1,h2,h3⟩:=MM hB (B x.1) (x:=x.1) (F:=fun _=>True) (aq _) ⟨dJ,x.2,h,hw⟩;exact⟨(e,B x.1),⟨d,h1,h2,h3⟩,aq _⟩
def rChU:Rp (Ch×Nat):=fun w F x cs=>∃(D:Nat) (vs:Sl) (Bn:List Value),cs=vs.v::Bn/\ChR false D w F x.1 vs Bn/\Ea x.1/\oQ x.1.vars+mY x.1.root<=x.2
theorem opensB_ch (hB:IsBulk B):gf B enc Tryz.prog W base spare held 29 rChU fun x=>x.2:=by
 have h:=gz (enc:=enc) (P:=Tryz.prog) (W:=W) (base:=base) (spare:=spare) (held:=held) (T:=10) hB Tryz.underlying29 (by kernel_rfl)
  (cG (s:=1) rfl (by kernel_rfl) (fE (size:=3) (bytes:=32) hB Tryz.underlying22 (by kernel_rfl) (by kernel_rfl) (Ji hB)) (cG (s:=9) rfl (by kernel_rfl) (Jk hB) (qG rfl)))
 refine h.map (fun x=>((⟨x.1.map (·.1),x.2.1.1⟩:Ch),(x.1.map fun x=>x.2).sum+x.2.1.2)) ?_;rintro⟨vs,⟨nd,m⟩,u⟩ cs ⟨c1,r1,rfl,⟨vsl,rfl,wh,_⟩,c2,r2,rfl,⟨d,hnd,hn,hz⟩,hu⟩;have hu:r2=[]:=hu;subst hu;rw[aN];refine⟨⟨d,vsl,c2,rfl,⟨⟨HQ (·.1) wh fun x cs _ hx=>hx.1,fun h=>(by cases h)⟩,hnd⟩,⟨fun v hv=>?_,hn⟩,?_⟩,by dsimp only;omega⟩
 ·obtain⟨x,hx,rfl⟩:=fM.1 hv;obtain⟨cs,hc⟩:=zz wh hx;exact hc.2.1
 ·show oQ (vs.map (·.1))+mY nd<=_;rw[Dt];have:=wc (f:=fun v:Vr=>v.n.length+1) (l:=vs) fun x hx=>by
   obtain⟨cs,hc⟩:=zz wh hx;exact hc.2.2
  dsimp only at hz⊢;omega
end
end Go.Proofs.YtmhoiicofhlgbaaGreatDoor.Con
namespace Go.Proofs.YtmhoiicofhlgbaaGreatDoor.Con
open Go Go.RowKit Go.Kt Go.Kt.V Go.Proofs.YtmhoiicofhlgbaaGreatDoor.Vc
set_option linter.unusedSimpArgs false
set_option linter.unusedVariables false
set_option linter.unusedSectionVars false
set_option maxHeartbeats 800000
set_option maxRecDepth 100000
section
variable (xs:List eG)
mutual
def UJ:Nd->Prop
 | .mk b l=>0<=dM xs b.nm/\(b.ini=[]∨I6 xs (if dM xs b.ini>0 then dM xs b.ini else 0)=dM xs b.nm)/\(b.dft=[]∨0<dM xs b.dft)/\(∀m,m∈b.mv->∀t,t∈m.tg->1<=dM xs t)/\Su l
def Su:List Nd->Prop
 | []=>True
 | x::l=>UJ x/\Su l
end
end
theorem HT {xs:List eG} {x:Nd}:∀{l:List Nd},Su xs l->x∈l->UJ xs x
 | [],_,h=>by simp at h
 | y::l,h,hx=>by
  rw[Su]at h;rcases ak.1 hx with rfl | hx
  ·exact h.1
  ·exact HT h.2 hx
theorem zC:∀{p:List (List UInt8×Int)} {l:List (List UInt8)},uU l p=[]->(p.map fun x=>x.1).Nodup/\∀x,x∈p.map (fun x=>x.1)->x∉l
 | [],l,_=>⟨List.nodup_nil,fun x h=>by simp at h⟩
 | x::p,l,h=>by
  rw[uU]at h;obtain⟨h1,h2⟩:=bG.1 h;have h1:x.1∉l:=by simpa using qE.1 h1
  obtain⟨g1,g2⟩:=zC h2;rw[aI];refine⟨wq.2 ⟨fun hm=>g2 _ hm (by simp),g1⟩,fun y hy=>?_⟩;rcases ak.1 hy with rfl | hy
  ·exact h1
  ·exact fun hm=>g2 y hy (yR _ hm)
theorem zD:∀{l:List (List UInt8)} {i:Nat} {s:List UInt8},l.Nodup->l[i]? =some s->oP s l=i
 | [],i,s,_,h=>by simp at h
 | x::l,0,s,_,h=>by
  rw[bm,ai]at h;rw[oP,if_pos h.symm]
 | x::l,i+1,s,hn,h=>by
  rw[bQ]at h;have hn:=wq.1 hn;rw[oP,if_neg (fun e=>hn.1 (by rw[<-e];exact aE h)),zD hn.2 h]
theorem uX {xs:List eG} (hn:(xs.map fun x:eG=>x.nm).Nodup) {i:Nat} {x:eG} (h:xs[i]? =some x):dM xs x.nm=i:=by
 unfold dM;have:=zD hn (i:=i) (s:=x.nm) (by rw[bD,h];rfl);rw[this,if_pos (pK h)]
theorem HU {xs:List eG}:∀{r:List (List UInt8)} {l:List Int},P9 xs l r=true->∀t,t∈r->1<=dM xs t
 | [],_,_,t,h=>by simp at h
 | s::r,l,h,t,ht=>by
  rw[Dl]at h;by_cases h1:dM xs s<1
  ·rw[if_pos h1]at h;cases h
  ·rw[if_neg h1]at h;split at h
   ·cases h
   ·rcases ak.1 ht with rfl | ht
    ·omega
    ·exact HU h t ht
def yJ (xs L:List eG) (a:Nat):Prop:=∀(i:Nat) (x:eG),L[i]? =some x->xs[a+i]? =some x
theorem yJ.left {xs L M:List eG} {a:Nat} (h:yJ xs (L++M) a):yJ xs L a:=fun i x hi=>h i x (by rw[aR (pK hi)];exact hi)
theorem yJ.right {xs L M:List eG} {a:Nat} (h:yJ xs (L++M) a):yJ xs M (a+L.length):=fun i x hi=>by
 rw[cb];exact h _ x (by rw[bh (by omega),cT];exact hi)
theorem HV {xs:List eG} {s:List UInt8} {pa dp:Int}:∀{l:List Nd} {a:Nat},xB s l=true->yJ xs (pb a pa dp l) a->∃(i:Nat) (x:eG),xs[i]? =some x/\x.nm=s/\x.pa=pa/\a<=i
 | [],a,h,_=>by simp[xB]at h
 | .mk b ks::l,a,h,hs=>by
  rw[pb]at hs;have hl:=mB a pa dp (.mk b ks);by_cases e:b.nm=s
  ·refine⟨a,⟨b.k,b.nm,pa,dp,_⟩,hs.left 0 _ (by rw[zl];rfl),e,rfl,aq _⟩
  ·have h':xB s l=true:=by
    unfold xB at h⊢;rw[List.any_cons]at h;simpa[Nd.b,e]using h
   have hr:=hs.right;rw[hl]at hr;obtain⟨i,x,h1,h2,h3,h4⟩:=HV h' hr;exact⟨i,x,h1,h2,h3,by omega⟩
section
variable {xs:List eG} {vs:List (List UInt8)} (hnd:(xs.map fun x:eG=>x.nm).Nodup)
include hnd
mutual
theorem Sv:∀(x:Nd) (a d:Nat) (pa dp:Int),Eh xs vs a x=[]->jk d x=true->yJ xs (zl a pa dp x) a->UJ xs x
 | .mk b l,a,d,pa,dp,h,oB,hs=>by
  rw[Eh]at h;obtain⟨h1,h2⟩:=bG.1 h;obtain⟨h2,h3⟩:=bG.1 h2;obtain⟨h3,h4⟩:=bG.1 h3;rw[jk,ab,ab]at oB;obtain⟨⟨_,hb⟩,hko⟩:=oB;rw[zl]at hs;have h0:xs[a]? =some ⟨b.k,b.nm,pa,dp,_⟩:=hs 0 _ rfl;have hf:=uX hnd h0;dsimp only at hf;have zL:yJ xs (pb (a+1) a (dp+1) l) (a+1):=fun i x hi=>by rw[cb,iU 1 i];exact hs (i+1) x hi
  have Tp:(∀m,m∈b.mv->∀t,t∈m.tg->1<=dM xs t)/\Su xs l:=by
   refine⟨fun m hm t ht=>?_,MN l (a+1) (d+1) a (dp+1) h4 hko zL⟩;have Ir:=uL.1 h3 m hm;unfold Fc at Ir;obtain⟨_,Ir⟩:=bG.1 Ir;obtain⟨_,Ir⟩:=bG.1 Ir;obtain⟨_,Ir⟩:=bG.1 Ir;exact HU (qE.1 Ir) t ht
  rw[UJ];refine⟨by omega,?_,?_,Tp.1,Tp.2⟩
  ·unfold vw at h1;unfold rK at hb;by_cases hh:gW b.k=true
   ·rw[if_pos hh]at hb;simp only[ab]at hb;exact .inl (aj hb.2.2).1
   ·rw[if_neg hh]at h1;by_cases qM:b.k=2
    ·rw[if_pos qM]at h1;have:=qE.1 h1;simp only[ab]at this;exact .inl (aj this.1)
    ·rw[if_neg qM]at h1;by_cases oJ:0<Fe l
     ·rw[if_pos oJ]at h1;obtain⟨i,x,g1,g2,g3,g4⟩:=HV (qE.1 h1) zL;have hfi:=uX hnd g1;rw[g2]at hfi;right;rw[hfi,if_pos (by omega),pN g1,g3,hf]
     ·rw[if_neg oJ]at h1;exact .inl (aj (qE.1 (bG.1 h1).1))
  ·unfold vw at h1;unfold rK at hb;by_cases hh:gW b.k=true
   ·rw[if_pos hh]at h1;have:=qE.1 h1;rw[ab,C8]at this;obtain⟨_,i,j,e1,e2,e3,_⟩:=this;right;omega
   ·rw[if_neg hh]at hb;simp only[ab]at hb;exact .inl (aj hb.2.1.1.1.1).2
theorem MN:∀(l:List Nd) (a d:Nat) (pa dp:Int),li xs vs a l=[]->fW d l=true->yJ xs (pb a pa dp l) a->Su xs l
 | [],_,_,_,_,_,_,_=>by rw[Su];trivial
 | x::l,a,d,pa,dp,h,oB,hs=>by
  rw[li]at h;obtain⟨h1,h2⟩:=bG.1 h;rw[fW,ab]at oB;rw[pb]at hs;rw[Su];have hr:=hs.right;rw[mB]at hr;exact⟨Sv x a d pa dp h1 oB.1 hs.left,MN l (a+iB x) d pa dp h2 oB.2 hr⟩
end
end
theorem xS {c:Ch} (h:(jE c).1=0):(dF c).2=0/\rm c=[]:=by
 unfold jE at h;by_cases hp:(dF c).2≠0
 ·rw[if_pos hp]at h;exact absurd h hp
 ·rw[if_neg hp]at h;exact⟨gM.1 hp,C1 (C7 c) h⟩
theorem Jl {c:Ch} (h:(dF c).2=0):lR c=true:=by
 unfold dF at h;by_cases h1:lR c=true
 ·exact h1
 ·rw[if_neg h1]at h;exact absurd h (by decide)
theorem MO {c:Ch} (h:(jE c).1=0):UJ (ji c) c.root:=by
 obtain⟨h1,h2⟩:=xS h;have oB:=Jl h1;unfold lR at oB;simp only[ab]at oB;unfold rm at h2;obtain⟨g1,g2⟩:=bG.1 h2;obtain⟨g2,g3⟩:=bG.1 g2;have hnd:=(zC g1).1;have enm:(AX c.root).map (fun p=>p.1)=(ji c).map fun x:eG=>x.nm:=(L2 0 (-1) 0 c.root).symm;rw[enm]at hnd;exact Sv hnd c.root 0 0 (-1) 0 g3 oB.1.2 fun i x hi=>by rw[aJ];exact hi
section
variable {w w':World} {F G:Nat->Prop} {s:Sl} {xs:List eG}
theorem Qu {k0:Nat} (x:eG) (n:List UInt8) (hB:Blk w k0 9 [.string (T n)]):Calls Tryz.prog 112 #[.agg (UB x).toArray,.pointer (some ⟨k0,0,none⟩)] w fun e w'=>e=.returned (.bool (decide (x.nm=n)))/\Only [] w w':=by
 refine ret (aga x.k (T x.nm) x.pa x.dp x.en ⟨k0,0,none⟩ (fun v w'=>v=.bool (decide (x.nm=n))/\Only [] w w') w ?_);unfold Z7;intro k1 w0 hk wj hO;exact⟨_,(hO.blk hB (by simp)).cells 0 [_] fun j v hj=>(by rw[aJ];exact hj),by rw[jW],hO⟩
theorem Fw {n:List UInt8} {j:Nat} {x:eG} (hj:xs[j]? =some x) (h:∀y,y∈xs.take j->y.nm≠n) (e:x.nm=n):dM xs n=j:=by
 unfold dM;have hl:=pK hj;have:oP n (xs.map fun x:eG=>x.nm)=j:=by
  have e1:xs.map (fun x:eG=>x.nm)=(xs.take j).map (fun x:eG=>x.nm)++n::(xs.drop (j+1)).map fun x:eG=>x.nm:=by
   rw[<-e,<-aI,<-cq];congr 1;rw[<-(au.1 hj).2,List.getElem_cons_drop,dC]
  rw[e1,AZ]
  ·rw[aQ,ck];omega
  ·intro hm;obtain⟨y,hy,e'⟩:=fM.1 hm;exact h y hy e'
 rw[this,if_pos hl]
theorem A9 (h:SliceF zw 5 w F s xs) (n:List UInt8):Calls Tryz.prog 60 #[s.v,.string (T n)] w fun e w'=>e=.returned (.int .i64 (dM xs n))/\Only [] w w':=by
 refine ret (af9 s (T n) (fun v w'=>v=.int .i64 (dM xs n)/\Only [] w w') w ?_);unfold Z6;intro k0 w0 fQ eE cd wm;have hl:=h.len;have Kb:=h.cap;have BJ:=h.big;refine(agb s ⟨.func (.func 112) #[] #[.pointer (some ⟨k0,0,none⟩)],rfl⟩ (fun v w'=>v=.int .i64 (dM xs n)/\Only [] w0 w') w0 ?_).mono (by
  rintro _ w' ⟨v,rfl,rfl,hO⟩;exact⟨_,rfl,_,hO.blk wm (by simp),rfl,cd.cf hO⟩)
 unfold Z8;refine⟨fun kv i u=>∃j:Nat,i=(j:Int)/\kv+j=xs.length/\j<=xs.length/\(∀y,y∈xs.take j->y.nm≠n)/\Only [] w0 u,xs.length,⟨0,rfl,by omega,aF _,by simp,Only.refl _ _⟩,?_⟩;rintro kv _ u ⟨j,rfl,BN,hj,hh,hO⟩;refine⟨fun hc=>?_,fun hc=>?_⟩
 ·have hc:=aj hc;obtain⟨x,hx⟩:=pL (xs:=xs) (i:=j) (by omega);obtain⟨ad,a1,a2,_⟩:=ti (SliceF.only ic (by decide) h (cd.cf hO) (by simp)) hx;refine⟨ad,a1,_,_,_,_,_,a2,112,[],[.pointer (some ⟨k0,0,none⟩)],rfl,gr (by kernel_rfl),(Qu x n (hO.blk wm (by simp))).mono ?_⟩;rintro _ u1 ⟨rfl,bR⟩;refine⟨_,rfl,fun hb=>⟨?_,hO.cf bR⟩,fun hb=>⟨kv-1,by omega,j+1,by rw[gV (by omega) (by omega)];rfl,by omega,by omega,fun y hy=>?_,hO.cf bR⟩⟩
  ·rw[Fw hx hh (aj hb)]
  ·rw[aY,hx,bJ]at hy;rcases hy with hy | hy
   ·exact hh y hy
   ·simp only[Option.toList,ae]at hy;subst hy;exact ar hb
 ·have hc:=ar hc;rw[aO (by omega)]at hh;refine⟨?_,hO⟩;rcases mC xs n with⟨e,_⟩ | ⟨i,x,_,hx,e⟩
  ·rw[e]
  ·exact absurd e (hh x (aE hx))
theorem HW:∀(D:Nat) {w:World} {x:Nd} {cs:List Value},lQ false D w G x cs->SliceF zw 5 w F s xs->0<xs.length->xs.length<=64->UJ xs x->
  Calls Tryz.prog 25 #[s.v,.agg cs.toArray] w fun e w'=>e=.returned (.bool true)/\Only [] w w'
 | 0,_,_,_,h,_,_,_,_=>h.elim
 | D+1,w,.mk bb ks,cs,⟨en,lv,mv,kids,kK,⟨_,_,lA⟩,fQ⟩,hS,OB,ajc,hfd=>by
  have hk:=fQ.1;have lA:=lA.1;clear fQ;dsimp only[Nd.kids,Nd.b]at hk kK lA;subst kK;rw[UJ]at hfd;obtain⟨f1,f2,f3,f4,f5⟩:=hfd;have FV:=hk.len;have ac5:=hk.cap;have ac6:=hk.big;have Ka:=lA.len;have ac7:=lA.cap;have ac8:=lA.big;refine ret (af8 s bb.k (T bb.nm) (T bb.ini) (T bb.dft) en lv mv kids bb.a (fun v w'=>v=.bool true/\Only [] w w') w ?_);unfold Z5;intro k0 w0 fQ eE cd;have z0:=cd.size;have kS:∀{u:World},Only [] w u->SliceF zw 5 u F s xs:=fun hO=>SliceF.only ic (by decide) hS hO (by simp);have q0:∀u:List UInt8,((T u).toList==(ByteArray.mk #[]).toList)=decide (u=[]):=fun u=>jW u [];refine(A9 (kS cd) bb.nm).mono ?_;rintro _ w1 ⟨rfl,bR⟩;have z1:=bR.size;have o1:=cd.cf bR;refine⟨_,rfl,bR.same (by simp;omega),fun b u=>b=true/\Only [] w u/\w0.heap.size<=u.heap.size,?_,fun _=>⟨rfl,o1,z1⟩,fun hc=>?_⟩
  ·rintro _ w2 ⟨rfl,o2,z2⟩;refine⟨fun b u=>b=true/\Only [] w u/\w0.heap.size<=u.heap.size,?_,fun _=>⟨rfl,o2,z2⟩,fun hc=>?_⟩
   ·rintro _ w3 ⟨rfl,o3,z3⟩;refine⟨fun hc=>?_,fun _=>?_⟩
    ·rw[aK (by omega:¬dM xs bb.nm<0)]at hc;cases hc
    refine⟨fun kv i u=>∃j:Nat,i=(j:Int)/\kv+j=bb.mv.length/\j<=bb.mv.length/\Only [] w u/\w0.heap.size<=u.heap.size,bb.mv.length,⟨0,rfl,by omega,aF _,o3,z3⟩,?_⟩;rintro kv _ w4 ⟨j,rfl,BN,hj,o4,z4⟩;refine⟨fun hc=>?_,fun hc=>?_⟩
    ·have hc:=aj hc;have mF:j<bb.mv.length:=by omega
     obtain⟨m,hm⟩:∃m,bb.mv[j]? =some m:=⟨_,bn mF⟩
     have at_:∀{u:World},Only [] w u->∃ad tg,cD mv (j:Int) 13 ad/\aB u (ad.add 11) [tg.v]/\SliceF jJ 1 u G tg m.tg:=fun{u} hO=>by
      obtain⟨ad,m',ds,a1,a2,a3,a4,a5,a6⟩:=(SliceF.only (eU false) (by decide) lA hO (by simp)).get (aG j) (by omega);rw[az,hm,ai]at a2;subst a2;obtain⟨gc,ql,tg,rfl,Tl,Ke,tS⟩:=a6;obtain⟨gs,rfl⟩:=fV Tl;exact⟨ad,tg,a1,a5.eo 11 _ rfl,tS.1⟩
     refine⟨fun kv2 i u=>∃n:Nat,i=(n:Int)/\kv2+n=m.tg.length/\n<=m.tg.length/\Only [] w u/\w0.heap.size<=u.heap.size,m.tg.length,⟨0,rfl,by omega,aF _,o4,z4⟩,?_⟩;rintro kv2 _ w5 ⟨n,rfl,ao1,hn,o5,z5⟩;obtain⟨ad,tg,a1,a2,a3⟩:=at_ o5;have Ih:=a3.len;have ao2:=a3.cap;have ao3:=a3.big;refine⟨ad,a1,tg,a2,fun Eb=>?_,fun Eb=>?_⟩
     ·have Eb:=aj Eb;obtain⟨ad2,y,cs,g1,g2,g3,g4,g5,g6⟩:=a3.get (aG n) (by omega);rw[az]at g2;have g6:cs=[.string (T y)]:=g6;subst g6;have hy:=f4 m (aE hm) y (aE g2);refine⟨ad,a1,tg,a2,ad2,g1,_,g5,(A9 (kS o5) y).mono ?_⟩;rintro _ w6 ⟨rfl,dD⟩;have z6:=dD.size;exact⟨_,rfl,dD.same (by simp;omega),fun h=>absurd (aj h) (by omega),fun _=>⟨kv2-1,by omega,n+1,by rw[gV (by omega) (by omega)];rfl,by omega,by omega,o5.cf dD,by omega⟩⟩
     ·exact⟨kv-1,by omega,j+1,by rw[gV (by omega) (by omega)];rfl,by omega,by omega,o5,z5⟩
    ·refine⟨fun kv i u=>∃j:Nat,i=(j:Int)/\kv+j=ks.length/\j<=ks.length/\Only [] w u/\w0.heap.size<=u.heap.size,ks.length,⟨0,rfl,by omega,aF _,o4,z4⟩,?_⟩;rintro kv _ w7 ⟨j,rfl,BN,hj,o7,z7⟩;refine⟨fun hc=>?_,fun hc=>⟨rfl,o7⟩⟩;have hc:=aj hc;obtain⟨ad,y,ds,a1,a2,a3,a4,a5,a6⟩:=(SliceF.only (bI false D) (by decide) hk o7 (by simp)).get (aG j) (by omega);rw[az]at a2;have JI:=a6;obtain⟨D',rfl⟩:∃D',D=D'+1:=by
      cases D with
      | zero=>exact a6.elim
      | succ D'=>exact⟨D',rfl⟩
     obtain⟨uH,uI,pd,jj,rfl,_⟩:=JI;refine⟨ad,a1,_,_,_,_,uH,uI,pd,jj,_,a5,(HW (D'+1) a6 (kS o7) OB ajc (HT f5 (aE a2))).mono ?_⟩;rintro _ w8 ⟨rfl,fy⟩;have z8:=fy.size;exact⟨_,rfl,fy.same (by simp;omega),fun h=>absurd h (by decide),fun _=>⟨kv-1,by omega,j+1,by rw[gV (by omega) (by omega)];rfl,by omega,by omega,o7.cf fy,by omega⟩⟩
   ·have hd:bb.dft≠[]:=by rw[q0]at hc;exact ar hc
    have hd:=f3.resolve_left hd;refine(A9 (kS o2) bb.dft).mono ?_;rintro _ w9 ⟨rfl,fG⟩;have z9:=fG.size;exact⟨_,rfl,fG.same (by simp;omega),aZ hd,o2.cf fG,by omega⟩
  ·have hi:bb.ini≠[]:=by rw[q0]at hc;exact ar hc
   have hi:=f2.resolve_left hi;refine(A9 (kS o1) bb.ini).mono ?_;rintro _ cI ⟨rfl,dm⟩;have OP:=dm.size;have O0:=o1.cf dm;obtain⟨i,e,Jx⟩:∃i:Nat,(if dM xs bb.ini>0 then dM xs bb.ini else 0)=(i:Int)/\i<xs.length:=by
    rcases xP xs bb.ini with h | ⟨j,h,hj⟩
    ·exact⟨0,by rw[h];rfl,OB⟩
    ·rw[h];by_cases h0:(j:Int)>0
     ·exact⟨j,by rw[if_pos h0],hj⟩
     ·exact⟨0,by rw[if_neg h0];rfl,OB⟩
   rw[e]at hi;obtain⟨x,hx⟩:=pL Jx;obtain⟨ad,a1,_,a3,_⟩:=ti (kS O0) hx;rw[pN hx]at hi;exact⟨_,rfl,dm.same (by simp;omega),ad,by rw[e];exact a1,x.pa,a3,by rw[hi];simp,O0,by omega⟩
end
theorem lfinds_c {w:World} {x:Ch×Nat} {cs:List Value} (hx:rChU w (fun _=>True) x cs) (hb:x.2<=1048576) (hE:Er w) (hT:Tb w):Calls Tryz.prog 8 #[.agg cs.toArray] w fun e w'=>e=.returned (.bool true)/\Only [] w w':=by
 obtain⟨c,m⟩:=x;obtain⟨D,vs,cs,rfl,hC,hn,hs⟩:=hx;dsimp only at hC hn hs hb;have hC0:=hC;cases D with
 | zero=>exact hC.root.elim
 | succ D=>
 obtain⟨en,lv,mv,kids,rfl,_⟩:=hC0.root;refine ret (af7 vs c.root.b.k (T c.root.b.nm) (T c.root.b.ini) (T c.root.b.dft) en lv mv kids c.root.b.a (fun v w'=>v=.bool true/\Only [] w w') w ?_);unfold Z4;have keep:∀{w':World},Only [] w w'->ChR false (D+1) w' (fun _=>True) c vs (ly c.root.b.k c.root.b.nm c.root.b.ini c.root.b.dft en lv mv kids c.root.b.a):=fun hO=>⟨hC.vars.keep fb (by decide) fun k _ bp=>hO.block k bp (by simp),(bI false _).keep hC.root fun k _ bp=>hO.block k bp (by simp)⟩
 intro k0 w0 fQ eE cd;have z0:=cd.size;refine(xQ w0 (hE.only cd) (hT.only cd)).mono ?_;rintro _ w1 ⟨rfl,bR⟩;have z1:=bR.size;have o1:=cd.cf bR;refine⟨_,rfl,bR.same (by simp;omega),(pT (keep o1) hn (by omega) (hE.only o1) (hT.only o1)).mono ?_⟩;rintro _ w2 ⟨rfl,cO⟩;have z2:=cO.size;have o2:=o1.cf cO;refine⟨_,_,rfl,cO.same (by simp;omega),fun k1 w3 kJ jp cU=>?_⟩;have z3:=cU.size;have o3:=o2.cf cU;refine(Mp (keep o3) hn (by omega) (hE.only o3) (hT.only o3)).mono ?_;rintro _ w4 ⟨⟨s,rfl,h1,_⟩,cZ⟩;have z4:=cZ.size;have o4:=o3.cf cZ;refine⟨s,_,rfl,cZ.same (by simp;omega),fun _=>⟨rfl,o4⟩,fun hc=>?_⟩;have hl:(jE c).1=0:=by simpa using hc
 have hp:=(xS hl).1;refine⟨fun hc=>absurd hp (by simpa using hc),fun _=>?_⟩;have hnd:=ur hp;have dN:(ji c).length=iB c.root:=by unfold ji;rw[mB]
 have Q2:=AW c.root;refine(HW (D+1) (keep o4).root (h1 hp).sl (by omega) (by omega) (MO hl)).mono ?_;rintro _ w5 ⟨rfl,eC⟩;exact⟨_,rfl,eC.same (by simp;omega),rfl,o4.cf eC⟩
end Go.Proofs.YtmhoiicofhlgbaaGreatDoor.Con
