import Derived.Test.YtbkjcdocjfknfaaGreatDoorQt3
set_option linter.unusedSectionVars false
namespace Go.Kt.V
open Go renaming World->av,Value->aw
open Go Go.RowKit Go.Kt
set_option linter.unusedSimpArgs false
set_option linter.unusedVariables false
inductive Ann where
 | o
 | s (x y:Ann)
 | j (kp:List Nat) (ms:List MI) (x y:Ann)
 | l (jn:Bool) (kp:List Nat) (ms:List MI)
def Ann.x:Ann->Ann
 | .s x _=>x
 | _=>.o
def Ann.y:Ann->Ann
 | .s _ y=>y
 | _=>.o
def Ann.d:Nat->Ann->Ann
 | 0,x=>x
 | n+1,x=>.s .o (d n x)
def ep:Nat:=4000
def YV(k:Nat):List iQ->Prop->Prop
 | [],p=>p
 | b::r,p=>bif b.ok&&b.blk.isSome then(k≠b.blk.getD 0->YV k r p)else YV k r p
def E5:List iQ->Prop->Prop
 | [],p=>p
 | b::r,p=>bif b.ok&&b.blk.isSome then YV (b.blk.getD 0) r (E5 r p)else E5 r p
theorem E6{k}:∀{l:List iQ} {p:Prop},YV k l p->(∀i b,cJ l i=some b->b.ok=true->b.blk.isSome=true->k≠b.blk.getD 0)->p
 | [],_,h,_=>h
 | b::r,p,h,hb=>by
  unfold YV at h;cases hc:(b.ok&&b.blk.isSome)with
  | true=>
   rw[hc]at h;simp at hc;exact E6 (h (hb 0 b rfl hc.1 hc.2)) fun i c hi=>hb (i+1) c hi
  | false=>
   rw[hc]at h;exact E6 h fun i c hi=>hb (i+1) c hi
theorem AD:∀{l:List iQ} {p:Prop},E5 l p->(∀i j bi bj,cJ l i=some bi->cJ l j=some bj->bi.ok=true->bj.ok=true->bi.blk.isSome=true->bj.blk.isSome=true->i≠j->bi.blk.getD 0≠bj.blk.getD 0)->p
 | [],_,h,_=>h
 | b::r,p,h,hb=>by
  unfold E5 at h;have tl:∀{p:Prop},E5 r p->p:=fun h=>AD h fun i j bi bj h1 h2 h3 h4 h5 h6 h7=>hb (i+1) (j+1) bi bj h1 h2 h3 h4 h5 h6 (by omega);cases hc:(b.ok&&b.blk.isSome)with
  | true=>
   rw[hc]at h;simp at hc;exact tl (E6 h fun i c hi h1 h2=>hb 0 (i+1) b c rfl hi hc.1 h1 hc.2 h2 (by omega))
  | false=>
   rw[hc]at h;exact tl h
def Uq(P:Program)(ops:List Oper)(draw:Bool)(st:St)(K:St->Prop):Prop:=
 bif draw then
  bif Az P ops&&Region.lexB .any ops.toArray then Ug (E1 ops) st fun st=>uw P ops ep [] ops st fun st=>K {st with mv:=true}
  else bif mbN P ops 0 ops then dP {st with mv:=true} fun st=>E5 (bif Ul P ops 0 ops then st.bx else[]) (∃S,CN P ops true (Ul P ops 0 ops) S ops.length (Array.replicate ops.length false) st K)
  else CN P ops false false (fun _=>False) ops.length (Array.replicate ops.length false) {st with mv:=true} K
 else vI P ops ep ops st K
def QR(st:St)(K:St->Prop):Exit->Act->av->Prop:=fun e a w=>match e with
 | .normal=>∃β cn,K cn/\Ext st cn/\Rep β cn a w
 | _=>False
theorem Ext.mv s:Ext s {s with mv:=true}:=⟨rfl,aV _,fun _ _ _ h _=>h,fun i b h ho _=>⟨b,h,ho,rfl,rfl,rfl,fun _ h=>h⟩,K7,B0⟩
theorem Rep.drew{β}{s}{a}{w w'}(h:Rep β s a w)(hO:Only [] w w')(hh:w'.heap=w.heap):Rep β {s with mv:=true} a w':=
 ⟨h.fr,fun i b hb ho=>by
  obtain⟨k1,k2,k3⟩:=h.bx i b hb ho;exact⟨by unfold Blk at k1⊢;rw[hh];exact k1,k2,k3⟩,h.ne,h.only.cp hO,fun h=>by cases h⟩
section
variable {P:Program}
theorem GP(hm:P.follows .mixedOrders=true){id}{ops}{draw}{st}{K}{β}{a}{w}(h:Uq P ops.toList draw st K)(hR:Rep β st a w):
  (Code.region id ops draw).wp P (QR st K) a w:=by
 obtain⟨l⟩:=ops;rcases kK h with⟨hd,hx⟩ | ⟨hd,hx⟩<;>clear h<;>have h:=hx
 ·subst hd;have Tp:=hR.drew (Only.drewN w 1) rfl;have fin:∀{mb ms:Bool} {S:Nat->Prop} {s1:St},Ext st s1->Rep β s1 a w.drew->CN P l mb ms S l.length _ s1 K->(Code.region id l.toArray true).wp P (QR st K) a w:=fun e1 fJ h=>
   Cq _ hm (pW (fun c a w hp=>hp) h fJ fun β' cn a' w' k1 k2 k3=>⟨β',cn,k1,e1.trans k2,k3⟩)
  rcases kK h with⟨h0,h⟩ | ⟨_,h⟩
  ·simp at h0;obtain⟨s,h1,h2,h3,_⟩:=uz h hR;obtain⟨s2,k1,k2,k3,k4⟩:=oE h1;obtain⟨a',g1,g2⟩:=k4 trivial β a w h3;refine wp_region_quiet_lit hm h0.2 ?_;have:=EW (Q:=fun a'=>∀w',(∃n,w'=w.drewN n)->QR st K .normal a' w') (rest:=[]) g1 (wpQuiet_nil (by
    rintro w' ⟨n,rfl⟩;exact⟨β,_,k1,(h2.trans k2).trans (Ext.mv _),g2.drew (Only.drewN w n) rfl⟩))
   simp_all
  ·rcases kK h with⟨_,h⟩ | ⟨_,h⟩
   ·obtain⟨s1,h0,e1,fJ,_⟩:=dq h Tp;have XN:∀i j bi bj,cJ s1.bx i=some bi->cJ s1.bx j=some bj->bi.ok=true->bj.ok=true->bi.blk.isSome=true->bj.blk.isSome=true->i≠j->bi.blk.getD 0≠bj.blk.getD 0:=fun i j bi bj h1 h2 h3 h4 h5 h6 h7=>by
     obtain⟨k,hk⟩:=eO.1 h5;obtain⟨m,hm⟩:=eO.1 h6;have e1:=(fJ.bx i bi h1 h3).at_ k hk;have e2:=(fJ.bx j bj h2 h4).at_ m hm;rw[hk,hm,kq,kq];have:=fJ.ne i j bi bj h1 h2 h3 h4 h7;omega
    obtain⟨S,h1⟩:=AD h0 (by
     cases Ul P l 0 l with
     | true=>exact XN
     | false=>exact fun i j bi bj h1=>by cases i<;>cases h1)
    exact fin ((Ext.mv st).trans e1) fJ h1
   ·exact fin (Ext.mv st) Tp h
 ·subst hd;refine wp_region_lit (qG h hR fun β' cn a' w' k1 k2 k3=>⟨β',cn,k1,k2,k3⟩)
def Sp(P:Program)(ops:List Oper)(jn:Bool)(kp:List Nat)(mi:List MI)(st:St)(K:St->Prop):Prop:=
 bif Xy ops (jt P 0 ops)then dP st.uR fun st=>
  (bif mbN P ops 0 ops then E5 (bif Ul P ops 0 ops then st.bx else[]) (∃S,GM P ops jn kp mi true (Ul P ops 0 ops) S (jt P 0 ops) (LP ops (ly (jt P 0 ops)) ops.length (Array.replicate ops.length false)) (Qd (LP ops (ly (jt P 0 ops)) ops.length (Array.replicate ops.length false)).toList) st K)
  else GM P ops jn kp mi false false (fun _=>False) (jt P 0 ops) (LP ops (ly (jt P 0 ops)) ops.length (Array.replicate ops.length false)) (Qd (LP ops (ly (jt P 0 ops)) ops.length (Array.replicate ops.length false)).toList) st K)
 else False
theorem LR(hm:P.follows .mixedOrders=true){id}{ops}{jn}{kp}{mi}{st}{K}{β}{a}{w}(h:Sp P ops.toList jn kp mi st K)(hR:Rep β st a w):
  (Code.region id ops true).wp P (QR st K) a w:=by
 obtain⟨l⟩:=ops;obtain⟨hz,h⟩:=cX h;obtain⟨s1,h0,e1,fJ,Pm,_⟩:=dq h (hR.drew (Only.drewN w 1) rfl);have fin:∀{mb ms:Bool} {S:Nat->Prop} {uT:Array Bool} {gm:Nat},GM P l jn kp mi mb ms S _ uT gm s1 K->(Code.region id l.toArray true).wp P (QR st K) a w:=fun h=>
  Cq _ hm (LQ (fun c a w hp=>hp) hz h fJ Pm fun β' cn a' w' k1 k2 k3=>⟨β',cn,k1,((Ext.uR st).trans e1).trans k2,k3⟩)
 rcases kK h0 with⟨_,h⟩ | ⟨_,h⟩
 ·have XN:∀i j bi bj,cJ s1.bx i=some bi->cJ s1.bx j=some bj->bi.ok=true->bj.ok=true->bi.blk.isSome=true->bj.blk.isSome=true->i≠j->bi.blk.getD 0≠bj.blk.getD 0:=fun i j bi bj h1 h2 h3 h4 h5 h6 h7=>by
   obtain⟨k,hk⟩:=eO.1 h5;obtain⟨m,hm⟩:=eO.1 h6;have e1:=(fJ.bx i bi h1 h3).at_ k hk;have e2:=(fJ.bx j bj h2 h4).at_ m hm;rw[hk,hm,kq,kq];have:=fJ.ne i j bi bj h1 h2 h3 h4 h7;omega
  obtain⟨S,h1⟩:=AD h (by
   cases Ul P l 0 l with
   | true=>exact XN
   | false=>exact fun i j bi bj h1=>by cases i<;>cases h1)
  exact fin h1
 ·exact fin h
def V(P:Program):Code->Ann->St->(Exit->St->Prop)->Prop
 | .skip,_,st,K=>K .normal st
 | .label _,_,st,K=>K .normal st
 | .exit id,_,st,K=>K (.exit id) st
 | .ret,_,st,K=>K .ret st
 | .region _ ops draw,an,st,K=>(match an with
  | .l jn kp ms=>bif draw then Sp P ops.toList jn kp ms st (K .normal)else False
  | .j kp ms _ _=>dP st fun st=>∃J,CL _ J (fun vs w=>K .normal (j6 st kp ms vs w))/\Uq P ops.toList draw st fun s=>dP s fun s=>I6 st kp ms J s
  | _=>Uq P ops.toList draw st (K .normal))
 | .seq a b,an,st,K=>(match an with
  | .j kp ms x y=>dP st fun st=>∃J,CL _ J (fun vs w=>V P b y (j6 st kp ms vs w) K)/\V P a x st fun e s=>(match e with
   | .normal=>dP s fun s=>I6 st kp ms J s
   | e=>K e s)
  | an=>V P a an.x st fun e s=>(match e with
   | .normal=>V P b an.y s K
   | e=>K e s))
 | .cond c a b,an,st,K=>bU (st.ev c) fun t=>(match t with
  | .bl true=>V P a an.x st K
  | .bl false=>V P b an.y st K
  | .bt t=>((t=true->V P a an.x st K)/\(t=false->V P b an.y st K))
  | _=>False)
 | .block id c,an,st,K=>V P c an st fun e s=>(match e with
  | .exit Tg=>bif Nat.beq Tg id then K .normal s else K (.exit Tg) s
  | e=>K e s)
 | .loop c,an,st,K=>(match an with
  | .j kp ms x _=>dP st fun st=>(fun st=>∃(I:Nat->JT _) (n0:Nat),I6 st kp ms (I n0) st/\∀n,CL _ (I n) fun vs w=>V P c x (j6 st kp ms vs w) fun e s=>(match e with
   | .normal=>dP s fun s=>∃n',n'<n/\I6 st kp ms (I n') s
   | e=>K e s)) (st.esc (xf st ms))
  | _=>False)
 | _,_,_,_=>False
def QK(st:St)(K:Exit->St->Prop):Exit->Act->av->Prop:=fun e a w=>match e with
 | .normal=>∃β cn,K .normal cn/\Ext st cn/\Rep β cn a w
 | .exit id=>∃β cn,K (.exit id) cn/\Ext st cn/\Rep β cn a w
 | .ret=>∃β cn,K .ret cn/\Ext st cn/\Rep β cn a w
 | _=>False
theorem qK{st IE}{K}(hx:Ext st IE):∀e a w,QK IE K e a w->QK st K e a w:=fun e a w h=>by
 cases e<;>first | exact h | (obtain⟨β,cn,h1,h2,h3⟩:=h;exact⟨β,cn,h1,hx.trans h2,h3⟩)
theorem vJ(hm:P.follows .mixedOrders=true):∀c {an:Ann} {st:St} {K:Exit->St->Prop} {β:Nat->Nat} {a:Act} {w:av},V P c an st K->Rep β st a w->c.wp P (QK st K) a w
 | .skip,_,st,K,β,a,w,h,hR=>wp_skip ⟨β,st,h,Ext.refl _,hR⟩
 | .label _,_,st,K,β,a,w,h,hR=>wp_label ⟨β,st,h,Ext.refl _,hR⟩
 | .exit _,_,st,K,β,a,w,h,hR=>wp_exit ⟨β,st,h,Ext.refl _,hR⟩
 | .ret,_,st,K,β,a,w,h,hR=>wp_ret ⟨β,st,h,Ext.refl _,hR⟩
 | .region id ops draw,an,st,K,β,a,w,h,hR=>by
  unfold V at h;split at h
  ·cases draw with
   | false=>exact h.elim
   | true=>
    refine wp_mono (LR hm h hR) fun e a' w' hq=>?_;cases e<;>first | exact hq.elim | exact hq
  ·obtain⟨s1,⟨J,hJ,h⟩,e1,fJ,_⟩:=dq h hR;refine wp_mono (GP hm h fJ) fun e a' w' hq=>?_;cases e<;>try exact hq.elim
   obtain⟨β',s2,h2,e2,Tn⟩:=hq;obtain⟨s3,h3,e3,VN,Ru,_⟩:=dq h2 Tn;obtain⟨vs,k1,k2⟩:=pV h3 VN Ru (.inl (e2.trans e3)) hJ;exact⟨_,_,k1,e1.trans Ext.NM,k2⟩
  ·refine wp_mono (GP hm h hR) fun e a' w' hq=>?_;cases e<;>first | exact hq.elim | exact hq
 | .seq x y,an,st,K,β,a,w,h,hR=>by
  unfold V at h;split at h
  ·obtain⟨s1,⟨J,hJ,h⟩,e1,fJ,_⟩:=dq h hR;refine wp_seq (wp_mono (vJ hm x h fJ) fun e a' w' hq=>?_);cases e with
   | normal=>
    obtain⟨β',s2,h2,e2,Tn⟩:=hq;obtain⟨s3,h3,e3,VN,Ru,_⟩:=dq h2 Tn;obtain⟨vs,k1,k2⟩:=pV h3 VN Ru (.inl (e2.trans e3)) hJ;exact wp_mono (vJ hm y k1 k2) (qK (e1.trans Ext.NM))
   | exit _=>exact qK e1 _ _ _ hq
   | ret=>exact qK e1 _ _ _ hq
   | _=>exact hq.elim
  ·refine wp_seq (wp_mono (vJ hm x h hR) fun e a' w' hq=>?_);cases e with
   | normal=>
    obtain⟨β',s,h1,h2,h3⟩:=hq;exact wp_mono (vJ hm y h1 h3) (qK h2)
   | _=>exact hq
 | .cond c x y,an,st,K,β,a,w,h,hR=>by
  obtain⟨t,ht,h⟩:=ba h;have ev:=hR.ev ht;split at h
  ·exact wp_cond_true ev (vJ hm x h hR)
  ·exact wp_cond_false ev (vJ hm y h hR)
  ·exact wp_cond_split ev (fun e=>vJ hm x (h.1 e) hR) (fun e=>vJ hm y (h.2 e) hR)
  ·exact h.elim
 | .block id c,an,st,K,β,a,w,h,hR=>by
  refine wp_block (wp_mono (vJ hm c h hR) fun e a' w' hq=>?_);cases e with
  | exit Tg=>
   obtain⟨β',s,h1,h2,h3⟩:=hq;rcases kK h1 with⟨e,h5⟩ | ⟨e,h5⟩
   ·have:=bR e;subst this;exact IV ⟨β',s,h5,h2,h3⟩
   ·have gL:¬Tg=id:=fun h=>by rw[h]at e;simp at e
    exact EK (by simpa using gL) ⟨β',s,h5,h2,h3⟩
  | normal=>exact hq
  | ret=>exact hq
  | _=>exact hq.elim
 | .loop c,an,st,K,β,a,w,h,hR=>by
  unfold V at h;split at h
  ·rename_i kp ms x _;obtain⟨s0,hh,e0,hR0,Tr,_⟩:=dq h hR;have e1:=e0.trans (Ext.esc s0 (xf s0 ms));have fJ:=hR0.esc (xf s0 ms);have Pm:(s0.esc (xf s0 ms)).mv=false:=Tr;generalize s0.esc (xf s0 ms)=s1 at*
   obtain⟨I,n0,h0,h⟩:=hh;refine wp_loop_ghost (fun n a' w'=>∀K,CL _ (I n) K->∃vs,K vs w'/\Rep _ (j6 s1 kp ms vs w') a' w') n0 (fun K hK=>pV h0 fJ Pm (.inl (Ext.refl _)) hK) fun n a' w' hI=>?_;obtain⟨vs,k1,k2⟩:=hI _ (h n);refine wp_mono (vJ hm c k1 k2) fun e a2 w2 hq=>?_;cases e with
   | normal=>
    obtain⟨β2,s2,h2,e2,Tn⟩:=hq;obtain⟨s3,⟨n',hn,h3⟩,e3,VN,Ru,_⟩:=dq h2 Tn;exact⟨n',hn,fun K hK=>pV h3 VN Ru (.inr ⟨vs,w',e2.trans e3⟩) hK⟩
   | exit _=>exact qK (e1.trans Ext.NM) _ _ _ hq
   | ret=>exact qK (e1.trans Ext.NM) _ _ _ hq
   | _=>exact hq.elim
  ·exact h.elim
 | .rangeFunc _ _ _ _,_,_,_,_,_,_,h,_=>by unfold V at h;exact h.elim
 | .scope _,_,_,_,_,_,_,h,_=>by unfold V at h;exact h.elim
 | .goto _,_,_,_,_,_,_,h,_=>by unfold V at h;exact h.elim
 | .refuse _,_,_,_,_,_,_,h,_=>by unfold V at h;exact h.elim
def E7(P:Program)(st:St):List ResultVar->Option (List SV)
 | []=>some []
 | .tmp t::r=>(match st.get t,E7 P st r with
  | some v,some l=>some (v::l)
  | _,_=>none)
 | .cell p t::r=>(match st.get p,P.underlying t,E7 P st r with
  | some (.box i o),some d,some l=>(match cJ st.bx i with
   | some b=>bif b.ok&&sz P t ((b.cells.drop o).take (rO P t)).length&&(jY d||Nat.beq ((b.cells.drop o).take (rO P t)).length 1)then some (IZ (jY d) ((b.cells.drop o).take (rO P t))::l)else none
   | none=>none)
  | _,_,_=>none)
def Ur(P:Program)(rs:List ResultVar)(R:aw->av->Prop)(st:St):Prop:=bU (E7 P st rs) fun vs=>dP (st.esc vs) fun st=>bif fL (CG st.bx) vs then R (val (En st.bx) (xd vs)) st.w0 else False
theorem AE{β}{st}{a}{w}(hR:Rep β st a w):∀{rs:List ResultVar} {vs:List SV},E7 P st rs=some vs->y0 P a w rs (cm β vs)
 | [],vs,h=>by simp[E7]at h;subst h;trivial
 | .tmp t::r,vs,h=>by
  simp[E7]at h;split at h
  ·rename_i v l h1 h2;simp at h;subst h;exact⟨hR.get h1,AE hR h2⟩
  ·cases h
 | .cell p t::r,vs,h=>by
  simp only[E7]at h;split at h
  ·rename_i i o d l h1 h2 h3;split at h
   ·rename_i b hb;obtain⟨h4,rfl⟩:=Al h;simp only[aR,cD]at h4;obtain⟨⟨ul,hsz⟩,jS⟩:=h4;refine⟨⟨_,hR.get h1,?_⟩,AE hR h3⟩;generalize hl:(b.cells.drop o).take _=q at*
    have hC:Cells w _ (cm β q):=((hR.bx i b hb ul).blk).BE o _ (by
     rw[<-hl];simp only[cm,lg,ov];rw[cO,nl];simp only[cy,bC];omega)
    have pv:=jc (P:=P) h2 w;cases hd:jY d with
    | true=>
     rw[hd]at pv;have e:=mF hd β q;rw[hd]at e;rw[e];exact Ah pv (mT hsz w) (eu β q) hC
    | false=>
     rw[hd]at pv jS;obtain⟨s,rfl⟩:=wO (jS.resolve_left (by simp));exact yH pv (Cells.one hC)
   ·cases h
  ·cases h
def Qe:Nat->List SV->List (Nat×Nat×SV)
 | _,[]=>[]
 | i,s::r=>(i,0,s)::Qe (i+1) r
theorem AF β:∀i l,cv β (Qe i l)=Aj i (cm β l)
 | _,[]=>rfl
 | i,s::r=>by
  have:=AF β (i+1) r;simp[cv]at this;simp[Qe,cv,cm,Aj,this]
def st0(fn:Func)(args:List SV)(w:av):St:={n:=fn.ntmps,fr:=Qe 0 args,bx:=[],w0:=w,mv:=false,dt:=[],ct:=1,df:=[]}
def jh(P:Program)(f:FuncId)(args:Array aw)(w:av)(Q:aw->av->Prop):Prop:=CallsD P f args .returning w fun e u w'=>u=.returning/\∃v,e=.returned v/\Q v w'
def E8(P:Program)(R:aw->av->Prop):List (Nat×List aw×List aw)->av->Prop
 | [],w=>R (.tuple #[]) w
 | d::ds,w=>bif Ll P d.1 then jh P d.1 (d.2.1++d.2.2).toArray w fun _ w'=>E8 P R ds w' else False
def aem:List ResultVar->Bool
 | []=>true
 | _=>false
def Qf(P:Program)(rs:List ResultVar)(R:aw->av->Prop)(st:St):Prop:=match st.df with
 | []=>Ur P rs R st
 | _::_=>bif aem rs then dP st fun st=>E8 P R st.df st.w0 else False
def Qg(P:Program)(rs:List ResultVar)(R:aw->av->Prop)(st:St):Prop:=match st.df with
 | []=>Ur P rs R st
 | _::_=>False
def Vfn(P:Program)(f:FuncId)(an:Ann)(args:List SV)(R:aw->av->Prop)(w:av):Prop:=bU (P.funcs[f]?) fun fn=>bU fn.body fun c=>
 bif Nat.ble args.length fn.ntmps then V P c an (st0 fn args w) fun e st=>(match e with
  | .normal=>Qf P fn.results.toList R st
  | .ret=>Qf P fn.results.toList R st
  | _=>False)else False
def Vfd(P:Program)(f:FuncId)(an:Ann)(args:List SV)(R:aw->av->Prop)(w:av):Prop:=bU (P.funcs[f]?) fun fn=>bU fn.body fun c=>
 bif Nat.ble args.length fn.ntmps then V P c an (st0 fn args w) fun e st=>(match e with
  | .normal=>Qg P fn.results.toList R st
  | .ret=>Qg P fn.results.toList R st
  | _=>False)else False
theorem GQ{β}{st}{a}{w}{fn}{R}(h:Ur P fn.results.toList R st)(hR:Rep β st a w):∃v,(results fn a.tmps).run P w=.ok v w/\R v w:=by
 obtain⟨vs,hv,h⟩:=ba h;obtain⟨s1,h1,e1,fJ,hm,_⟩:=dq h (hR.esc vs);obtain⟨hc,h1⟩:=cX h1;have ho:=AE hR hv;rw[fJ.aaf (tf hc),<-fJ.still hm]at h1;refine⟨_,?_,h1⟩;have hrs:fn.results=fn.results.toList.toArray:=rfl
 match vs,ho,hc with
 | [s],ho,hc=>exact TY hrs ho
 | [],ho,hc=>
  have e:val β (xd [])=.tuple (cm β []).toArray:=rfl;exact EL hrs rfl ho
 | s::t::r,ho,hc=>
  have e:val β (xd (s::t::r))=.tuple (cm β (s::t::r)).toArray:=by
   show Value.tuple (nt β _).toArray=_;rw[oB]
  rw[e];exact EL hrs (rfl) ho
theorem LS args {n} (hk:args.length<=n):(⟨args.toArray++Array.replicate (n-args.toArray.size) undef,[]⟩)=fr n (fun _=>undef) (Aj 0 args):=by
 congr 1;apply Kk.1;rw[Array.toList_append,Array.toList_replicate,mC];apply jz;intro i;by_cases hi:i<n
 ·rw[fV,kw _ _ _ _ _ hi,bJ,ze]
  grind
 ·rw[dC (by simp;omega),dC (by rw[lw];omega)]
theorem zi{fn}{tmps}{R}(hr:fn.results.toList=[]):∀{l:List _} {w:av},E8 P R l w->Leaves P fn tmps (fun e w'=>∃v,e=.returned v/\R v w') (R8 l) .returning w
 | [],w,h=>by
  have hrs:fn.results=([]).toArray:=by rw[<-hr]
  exact⟨_,EL (a:=⟨tmps,[]⟩) (rs:=[]) (vs:=[]) hrs rfl trivial,_,rfl,h⟩
 | d::ds,w,h=>by
  obtain⟨h0,h⟩:=cX h;refine leaves_cons (fun h=>by cases h) (f:=d.1) (args:=(d.2.1++d.2.2).toArray) ?_ (h.mono ?_)
  ·have:=gN h0 (d.2.1++d.2.2).toArray w;rw[<-List.append_toArray]at this⊢;exact this
  ·rintro e u w' ⟨rfl,v,rfl,h⟩;exact zi hr h
theorem CW{β}{st}{a}{w}{fn}{R}(h:Qf P fn.results.toList R st)(hR:Rep β st a w):Leaves P fn a.tmps (fun e w'=>∃v,e=.returned v/\R v w') a.defers .returning w:=by
 rw[hR.ok.df];unfold Qf at h;split at h
 ·rename_i hd;rw[hd];obtain⟨v,k1,k2⟩:=GQ h hR;exact⟨v,k1,v,rfl,k2⟩
 ·obtain⟨h0,h⟩:=cX h;obtain⟨s1,h1,e1,fJ,hm,_⟩:=dq h hR;have hr:fn.results.toList=[]:=by
   cases hc:fn.results.toList with
   | nil=>rfl
   | cons _ _=>rw[hc]at h0;cases h0
  have hdf:s1.df=st.df:=by
   obtain⟨l,hl⟩:=e1.df;have h5:=bO List.length (fJ.ok.df.symm.trans hR.ok.df);rw[R8,R8,bC,bC,hl,aO]at h5
   grind
  rw[<-fJ.still hm]at h1;rw[<-hdf];exact zi hr h1
theorem YW(hm:P.follows .mixedOrders=true){f}{an}{args}{R}{w}(h:Vfn P f an args R w):Calls P f (cm β0 args).toArray w fun e w'=>∃v,e=.returned v/\R v w':=by
 obtain⟨fn,hf,h⟩:=ba h;obtain⟨c,hb,h⟩:=ba h;obtain⟨hn,h⟩:=cX h;have hR:Rep β0 (st0 fn args w) (fr fn.ntmps _ (Aj 0 _)) w:=
  ⟨⟨fun _=>undef,by rw[<-AF];rfl⟩,fun i b hb=>(by cases hb),fun i j bi bj hb=>(by cases hb),Only.refl _ _,fun _=>rfl⟩
 refine calls_of_wp_defers hf hb ?_;rw[LS _ (by rw[eu];exact ci hn)];refine wp_mono (vJ hm c h hR) fun e a' w' hq=>?_;cases e with
 | normal=>
  obtain⟨β',s,h1,h2,h3⟩:=hq;exact CW h1 h3
 | ret=>
  obtain⟨β',s,h1,h2,h3⟩:=hq;exact CW h1 h3
 | exit _=>
  obtain⟨β',s,h1,_⟩:=hq;exact h1.elim
 | _=>exact hq.elim
theorem YX(hm:P.follows .mixedOrders=true){f}{an}{args}{R}{w}(h:Vfd P f an args R w):jh P f (cm β0 args).toArray w R:=by
 obtain⟨fn,hf,h⟩:=ba h;obtain⟨c,hb,h⟩:=ba h;obtain⟨hn,h⟩:=cX h;have hR:Rep β0 (st0 fn args w) (fr fn.ntmps _ (Aj 0 _)) w:=
  ⟨⟨fun _=>undef,by rw[<-AF];rfl⟩,fun i b hb=>(by cases hb),fun i j bi bj hb=>(by cases hb),Only.refl _ _,fun _=>rfl⟩
 refine(callsD_of_wp (R:=fun e w'=>∃v,e=.returned v/\R v w') hf hb ?_).mono (fun e u w' h=>h);rw[LS _ (by rw[eu];exact ci hn)];refine wp_mono (vJ hm c h hR) fun e a' w' hq=>?_;have fin:∀{β':Nat->Nat} {s:St},Qg P fn.results.toList R s->Rep β' s a' w'->_/\a'.defers=[]:=fun{β' s} h hR=>by
  unfold Qg at h;split at h
  ·rename_i hd;exact⟨GQ h hR,by rw[hR.ok.df,hd];rfl⟩
  ·exact h.elim
 cases e with
 | normal=>
  obtain⟨β',s,h1,h2,h3⟩:=hq;obtain⟨⟨v,k1,k2⟩,k3⟩:=fin h1 h3;exact EM k1 k3 k2
 | ret=>
  obtain⟨β',s,h1,h2,h3⟩:=hq;obtain⟨⟨v,k1,k2⟩,k3⟩:=fin h1 h3;exact PR k1 k3 k2
 | exit _=>
  obtain⟨β',s,h1,_⟩:=hq;exact h1.elim
 | _=>exact hq.elim
theorem YY{f}{an}{args}{R}{w}{vs}{vc}(hm:P.follows .mixedOrders=true)(hv:vs=(cm β0 args).toArray)(he:vc=Vfn P f an args R w)(h:vc):Calls P f vs w fun e w'=>∃v,e=.returned v/\R v w':=by
 subst he hv;exact YW hm h
theorem YZ{f}{an}{args}{R}{w}{vs}{vc}(hm:P.follows .mixedOrders=true)(hv:vs=(cm β0 args).toArray)(he:vc=Vfd P f an args R w)(h:vc):jh P f vs w R:=by
 subst he hv;exact YX hm h
end
end Go.Kt.V
namespace Go.Proofs.YtbkjcdocjfknfaaGreatDoor.Vc
open Go.Value renaming int->O,string->ab,pointer->ae,agg->ah,tuple->ai,bool->aj
open Go.IntKind renaming i64->U,wrap->ar
open Go.Ending renaming returned->ak
open _root_.ByteArray renaming mk->ao
open _root_.Go.Proofs.Tryz renaming prog->aq
open Go.Instr renaming buildSlice->au
open Go renaming World->av,Value->aw,Calls->az
open Go.Kt renaming Only->ay,SliceF->aA,Cells->aB,OnlyP->aD,Blk->aF
open Go Go.RowKit Go.Kt Go.Kt.V
set_option linter.unusedVariables false
abbrev cM(c:Bool)(x y:Prop):Prop:=(c=true->x)/\(c=false->y)
abbrev cB(f:FuncId)(a:Array aw)(w:av)(K:Bool->av->Prop):Prop:=az aq f a w fun e w'=>∃x,e=ak (aj x)/\K x w'
abbrev rr(s:List Nat)(f:FuncId)(a:Array aw)(w:av)(K:Bool->av->Prop):Prop:=az aq f a w fun e w'=>∃x,e=ak (aj x)/\bS s w w'/\K x w'
abbrev cI(f:FuncId)(a:Array aw)(w:av)(K:Int->av->Prop):Prop:=az aq f a w fun e w'=>∃x,e=ak (O U x)/\K x w'
abbrev qL(s:List Nat)(f:FuncId)(a:Array aw)(w:av)(K:Int->av->Prop):Prop:=az aq f a w fun e w'=>∃x,e=ak (O U x)/\bS s w w'/\K x w'
abbrev cS(f:FuncId)(a:Array aw)(w:av)(K:aK->av->Prop):Prop:=az aq f a w fun e w'=>∃x,e=ak (ab x)/\K x w'
abbrev pz(s:List Nat)(f:FuncId)(a:Array aw)(w:av)(K:aK->av->Prop):Prop:=az aq f a w fun e w'=>∃x,e=ak (ab x)/\bS s w w'/\K x w'
abbrev cL(f:FuncId)(a:Array aw)(w:av)(K:Sl->av->Prop):Prop:=az aq f a w fun e w'=>∃x,e=ak (x.v)/\K x w'
abbrev Qh(s:List Nat)(f:FuncId)(a:Array aw)(w:av)(K:Sl->av->Prop):Prop:=az aq f a w fun e w'=>∃x,e=ak (x.v)/\bS s w w'/\K x w'
abbrev cU(f:FuncId)(a:Array aw)(w:av)(K:av->Prop):Prop:=az aq f a w fun e w'=>e=ak (ai #[])/\K w'
abbrev fC(s:List Nat)(f:FuncId)(a:Array aw)(w:av)(K:av->Prop):Prop:=az aq f a w fun e w'=>e=ak (ai #[])/\bS s w w'/\K w'
abbrev eG(x:Sem aw)(w:av)(K:Sl->av->Prop):Prop:=∃l w',x.run aq w=.ok (Sl.v l) w'/\K l w'
abbrev nx(k:Nat)(K:aJ):Prop:=∃n,n<k/\K n
abbrev nw(w:av)(K:Nat->av->Prop):Prop:=∀k w',w.heap.size<=k->k<w'.heap.size->ay [] w w'->K k w'
abbrev lp0(w:av)(B:(Nat->av->Prop)->Nat->av->Prop):Prop:=∃J k,J k w/\∀k w,J k w->B J k w
abbrev ru{α:Type}(x:α)(w:av)(B:(Nat->α->av->Prop)->Nat->α->av->Prop):Prop:=∃J k,J k x w/\∀k x w,J k x w->B J k x w
abbrev Sq{α β:Type}(x:α)(y:β)(w:av)(B:(Nat->α->β->av->Prop)->Nat->α->β->av->Prop):Prop:=∃J k,J k x y w/\∀k x y w,J k x y w->B J k x y w
abbrev GR(X:av->Prop)(Y:(av->Prop)->Prop):Prop:=∃J,(∀w,J w->X w)/\Y J
abbrev qM{α:Type}(X:α->av->Prop)(Y:(α->av->Prop)->Prop):Prop:=∃J,(∀x w,J x w->X x w)/\Y J
abbrev jn2{α β:Type}(X:α->β->av->Prop)(Y:(α->β->av->Prop)->Prop):Prop:=∃J,(∀x y w,J x y w->X x y w)/\Y J
abbrev jn3{α β γ:Type}(X:α->β->γ->av->Prop)(Y:(α->β->γ->av->Prop)->Prop):Prop:=∃J,(∀x y z w,J x y z w->X x y z w)/\Y J
abbrev xCB(w:av)(p:Addr)(K:Bool->Prop):Prop:=∃x0,aB w p [aj x0]/\K x0
abbrev ju(w:av)(p:Addr)(K:Int->Prop):Prop:=∃x0,aB w p [O U x0]/\K x0
abbrev I9(w:av)(p:Addr)(K:Int->Int->Int->aK->Int->Sl->Int->Prop):Prop:=∃x0 x1 x2 x3 x4 x5 x6,aB w p [O U x0,O U x1,O U x2,ab x3,O U x4,x5.v,O U x6]/\K x0 x1 x2 x3 x4 x5 x6
abbrev nG(w:av)(p:Addr)(K:Int->Int->aK->Int->Sl->Int->Prop):Prop:=∃x0 x1 x2 x3 x4 x5,aB w p [O U x0,O U x1,ab x2,O U x3,x4.v,O U x5]/\K x0 x1 x2 x3 x4 x5
abbrev LU(w:av)(p:Addr)(K:Int->aK->Int->Int->Prop):Prop:=∃x0 x1 x2 x3,aB w p [O U x0,ab x1,O U x2,O U x3]/\K x0 x1 x2 x3
abbrev jy(w:av)(p:Addr)(K:Sl->Prop):Prop:=∃x0,aB w p [x0.v]/\K x0
abbrev Xz(w:av)(p:Addr)(K:Option Nat->Prop):Prop:=∃x0,aB w p [.map x0]/\K x0
abbrev XA(w:av)(p:Addr)(K:Option Addr->Prop):Prop:=∃x0,aB w p [ae x0]/\K x0
abbrev Qi(w:av)(p:Addr)(K:aK->Prop):Prop:=∃x0,aB w p [ab x0]/\K x0
abbrev Us(w:av)(b n:Nat)(K:Bool->Bool->Bool->Bool->Prop):Prop:=∃x0 x1 x2 x3,aF w b n [aj x0,aj x1,aj x2,aj x3]/\K x0 x1 x2 x3
abbrev xKI(w:av)(b n:Nat)(K:Int->Prop):Prop:=∃x0,aF w b n [O U x0]/\K x0
abbrev CX(w:av)(b n:Nat)(K:Int->aK->aK->aK->Sl->Sl->Sl->Sl->Int->Prop):Prop:=∃x0 x1 x2 x3 x4 x5 x6 x7 x8,aF w b n [O U x0,ab x1,ab x2,ab x3,x4.v,x5.v,x6.v,x7.v,O U x8]/\K x0 x1 x2 x3 x4 x5 x6 x7 x8
abbrev xKL(w:av)(b n:Nat)(K:Sl->Prop):Prop:=∃x0,aF w b n [x0.v]/\K x0
abbrev fN(w:av)(b n:Nat)(K:Sl->Int->Int->Int->Int->Int->Int->Int->Int->Prop):Prop:=∃x0 x1 x2 x3 x4 x5 x6 x7 x8,aF w b n [x0.v,O U x1,O U x2,O U x3,O U x4,O U x5,O U x6,O U x7,O U x8]/\K x0 x1 x2 x3 x4 x5 x6 x7 x8
abbrev CY(w:av)(b n:Nat)(K:Sl->Int->Int->Int->Int->Sl->Prop):Prop:=∃x0 x1 x2 x3 x4 x5,aF w b n [x0.v,O U x1,O U x2,O U x3,O U x4,x5.v]/\K x0 x1 x2 x3 x4 x5
abbrev lA(w:av)(b n:Nat)(K:Sl->Int->aK->aK->aK->Sl->Sl->Sl->Sl->Int->Prop):Prop:=∃x0 x1 x2 x3 x4 x5 x6 x7 x8 x9,aF w b n [x0.v,O U x1,ab x2,ab x3,ab x4,x5.v,x6.v,x7.v,x8.v,O U x9]/\K x0 x1 x2 x3 x4 x5 x6 x7 x8 x9
abbrev Ut(w:av)(b n:Nat)(K:Sl->Sl->Sl->Sl->Prop):Prop:=∃x0 x1 x2 x3,aF w b n [x0.v,x1.v,x2.v,x3.v]/\K x0 x1 x2 x3
abbrev CZ(w:av)(b n:Nat)(K:Sl->Sl->Sl->Sl->Sl->Sl->Sl->Sl->Sl->Prop):Prop:=∃x0 x1 x2 x3 x4 x5 x6 x7 x8,aF w b n [x0.v,x1.v,x2.v,x3.v,x4.v,x5.v,x6.v,x7.v,x8.v]/\K x0 x1 x2 x3 x4 x5 x6 x7 x8
abbrev AG(w:av)(b n:Nat)(K:Option Nat->Sl->Option Nat->Int->Int->Prop):Prop:=∃x0 x1 x2 x3 x4,aF w b n [.map x0,x1.v,.map x2,O U x3,O U x4]/\K x0 x1 x2 x3 x4
abbrev xKQ(w:av)(b n:Nat)(K:Option Addr->Prop):Prop:=∃x0,aF w b n [ae x0]/\K x0
abbrev j9(w:av)(b n:Nat)(K:Option Addr->Sl->Bool->Int->Prop):Prop:=∃x0 x1 x2 x3,aF w b n [ae x0,x1.v,aj x2,O U x3]/\K x0 x1 x2 x3
abbrev GS(w:av)(b n:Nat)(K:Option Addr->Sl->Sl->Prop):Prop:=∃x0 x1 x2,aF w b n [ae x0,x1.v,x2.v]/\K x0 x1 x2
abbrev xKS(w:av)(b n:Nat)(K:aK->Prop):Prop:=∃x0,aF w b n [ab x0]/\K x0
abbrev Uu(w:av)(b n:Nat)(K:aK->Int->Prop):Prop:=∃x0 x1,aF w b n [ab x0,O U x1]/\K x0 x1
abbrev xo(w:av)(b n:Nat)(K:aK->Int->Sl->Sl->Prop):Prop:=∃x0 x1 x2 x3,aF w b n [ab x0,O U x1,x2.v,x3.v]/\K x0 x1 x2 x3
abbrev O3(s:Sl)(i:Int)(w:av)(K:Int->Prop):Prop:=∃p,dy s i 1 p/\∃x0,aB w p [O U x0]/\K x0
abbrev kO(s:Sl)(i:Int)(w:av)(K:Int->Int->aK->Int->Sl->Int->Prop):Prop:=∃p,dy s i 6 p/\∃x0 x1 x2 x3 x4 x5,aB w p [O U x0,O U x1,ab x2,O U x3,x4.v,O U x5]/\K x0 x1 x2 x3 x4 x5
abbrev je(s:Sl)(i:Int)(w:av)(K:Int->aK->Int->Bool->Int->Int->aK->Int->Sl->Int->Sl->Sl->Int->Prop):Prop:=∃p,dy s i 13 p/\∃x0 x1 x2 x3 x4 x5 x6 x7 x8 x9 x10 x11 x12,aB w p [O U x0,ab x1,O U x2,aj x3,O U x4,O U x5,ab x6,O U x7,x8.v,O U x9,x10.v,x11.v,O U x12]/\K x0 x1 x2 x3 x4 x5 x6 x7 x8 x9 x10 x11 x12
abbrev LV(s:Sl)(i:Int)(w:av)(K:Int->aK->Int->Int->Prop):Prop:=∃p,dy s i 4 p/\∃x0 x1 x2 x3,aB w p [O U x0,ab x1,O U x2,O U x3]/\K x0 x1 x2 x3
abbrev GU(s:Sl)(i:Int)(w:av)(K:Int->aK->Int->Int->Int->Prop):Prop:=∃p,dy s i 5 p/\∃x0 x1 x2 x3 x4,aB w p [O U x0,ab x1,O U x2,O U x3,O U x4]/\K x0 x1 x2 x3 x4
abbrev vg(s:Sl)(i:Int)(w:av)(K:Int->aK->Int->Int->aK->Int->Sl->Int->Int->Prop):Prop:=∃p,dy s i 9 p/\∃x0 x1 x2 x3 x4 x5 x6 x7 x8,aB w p [O U x0,ab x1,O U x2,O U x3,ab x4,O U x5,x6.v,O U x7,O U x8]/\K x0 x1 x2 x3 x4 x5 x6 x7 x8
abbrev gA(s:Sl)(i:Int)(w:av)(K:Int->aK->aK->aK->Sl->Sl->Sl->Sl->Int->Prop):Prop:=∃p,dy s i 9 p/\∃x0 x1 x2 x3 x4 x5 x6 x7 x8,aB w p [O U x0,ab x1,ab x2,ab x3,x4.v,x5.v,x6.v,x7.v,O U x8]/\K x0 x1 x2 x3 x4 x5 x6 x7 x8
abbrev xYL(s:Sl)(i:Int)(w:av)(K:Sl->Prop):Prop:=∃p,dy s i 1 p/\∃x0,aB w p [x0.v]/\K x0
abbrev Ks(s:Sl)(i:Int)(w:av)(K:aK->Prop):Prop:=∃p,dy s i 1 p/\∃x0,aB w p [ab x0]/\K x0
abbrev LW(s:Sl)(i:Int)(w:av)(K:aK->Int->Int->Prop):Prop:=∃p,dy s i 3 p/\∃x0 x1 x2,aB w p [ab x0,O U x1,O U x2]/\K x0 x1 x2
end Go.Proofs.YtbkjcdocjfknfaaGreatDoor.Vc
