import Derived.Test.YtbkjcdocjfknfaaGreatDoorQp3
set_option linter.unusedSectionVars false
namespace Go.Kt.V
open Go renaming World->ay,Value->az
open Go Go.RowKit Go.Kt
set_option linter.unusedSimpArgs false
set_option linter.unusedVariables false
inductive Ann where
 | o
 | s (x y:Ann)
 | j (kp:List Nat) (ms:List MI) (x y:Ann)
 | l (jn:Bool) (kp:List Nat) (ms:List MI)
def Ann.x:Ann->Ann
 | .s x _=>x
 | _=>.o
def Ann.y:Ann->Ann
 | .s _ y=>y
 | _=>.o
def Ann.d:Nat->Ann->Ann
 | 0,x=>x
 | n+1,x=>.s .o (d n x)
def fl:Nat:=4000
def neP(k:Nat):List jN->Prop->Prop
 | [],p=>p
 | b::r,p=>bif b.ok&&b.blk.isSome then(k≠b.blk.getD 0->neP k r p)else neP k r p
def HL:List jN->Prop->Prop
 | [],p=>p
 | b::r,p=>bif b.ok&&b.blk.isSome then neP (b.blk.getD 0) r (HL r p)else HL r p
theorem HM{k}:∀{l:List jN} {p:Prop},neP k l p->(∀i b,cV l i=some b->b.ok=true->b.blk.isSome=true->k≠b.blk.getD 0)->p
 | [],_,h,_=>h
 | b::r,p,h,hb=>by
  unfold neP at h;cases hc:(b.ok&&b.blk.isSome)with
  | true=>
   rw[hc]at h;simp at hc;exact HM (h (hb 0 b rfl hc.1 hc.2)) fun i c hi=>hb (i+1) c hi
  | false=>
   rw[hc]at h;exact HM h fun i c hi=>hb (i+1) c hi
theorem C2:∀{l:List jN} {p:Prop},HL l p->(∀i j bi bj,cV l i=some bi->cV l j=some bj->bi.ok=true->bj.ok=true->bi.blk.isSome=true->bj.blk.isSome=true->i≠j->bi.blk.getD 0≠bj.blk.getD 0)->p
 | [],_,h,_=>h
 | b::r,p,h,hb=>by
  unfold HL at h;have tl:∀{p:Prop},HL r p->p:=fun h=>C2 h fun i j bi bj h1 h2 h3 h4 h5 h6 h7=>hb (i+1) (j+1) bi bj h1 h2 h3 h4 h5 h6 (by omega);cases hc:(b.ok&&b.blk.isSome)with
  | true=>
   rw[hc]at h;simp at hc;exact tl (HM h fun i c hi h1 h2=>hb 0 (i+1) b c rfl hi hc.1 h1 hc.2 h2 (by omega))
  | false=>
   rw[hc]at h;exact tl h
def XM(P:Program)(ops:List Oper)(draw:Bool)(st:St)(K:St->Prop):Prop:=
 bif draw then
  bif CZ P ops&&Region.lexB .any ops.toArray then XC (HH ops) st fun st=>vR P ops fl [] ops st fun st=>K {st with mv:=true}
  else bif mbN P ops 0 ops then eN {st with mv:=true} fun st=>HL (bif XH P ops 0 ops then st.bx else[]) (∃S,Fb P ops true (XH P ops 0 ops) S ops.length (Array.replicate ops.length false) st K)
  else Fb P ops false false (fun _=>False) ops.length (Array.replicate ops.length false) {st with mv:=true} K
 else xE P ops fl ops st K
def QR(st:St)(K:St->Prop):Exit->Act->ay->Prop:=fun e a w=>match e with
 | .normal=>∃β cH,K cH/\Ext st cH/\Rep β cH a w
 | _=>False
theorem Ext.mv s:Ext s {s with mv:=true}:=⟨rfl,aY _,fun _ _ _ h _=>h,fun i b h ho _=>⟨b,h,ho,rfl,rfl,rfl,fun _ h=>h⟩,Og,Et⟩
theorem Rep.drew{β}{s}{a}{w w'}(h:Rep β s a w)(hO:Only [] w w')(hh:w'.heap=w.heap):Rep β {s with mv:=true} a w':=
 ⟨h.fr,fun i b hb ho=>by
  obtain⟨k1,k2,k3⟩:=h.bx i b hb ho;exact⟨by unfold Blk at k1⊢;rw[hh];exact k1,k2,k3⟩,h.ne,h.only.cz hO,fun h=>by cases h⟩
section
variable {P:Program}
theorem Jz(hm:P.follows .mixedOrders=true){id}{ops}{draw}{st}{K}{β}{a}{w}(h:XM P ops.toList draw st K)(hR:Rep β st a w):
  (Code.region id ops draw).wp P (QR st K) a w:=by
 obtain⟨l⟩:=ops;rcases mh h with⟨hd,hx⟩ | ⟨hd,hx⟩<;>clear h<;>have h:=hx
 ·subst hd;have WE:=hR.drew (Only.drewN w 1) rfl;have fin:∀{mb ms:Bool} {S:Nat->Prop} {s1:St},Ext st s1->Rep β s1 a w.drew->Fb P l mb ms S l.length _ s1 K->(Code.region id l.toArray true).wp P (QR st K) a w:=fun e1 gY h=>
   ER _ hm (rK (fun c a w hp=>hp) h gY fun β' cH a' w' k1 k2 k3=>⟨β',cH,k1,e1.trans k2,k3⟩)
  rcases mh h with⟨h0,h⟩ | ⟨_,h⟩
  ·simp at h0;obtain⟨s,h1,h2,h3,_⟩:=vV h hR;obtain⟨s2,k1,k2,k3,k4⟩:=qz h1;obtain⟨a',g1,g2⟩:=k4 trivial β a w h3;refine wp_region_quiet_lit hm h0.2 ?_;have:=HD (Q:=fun a'=>∀w',(∃n,w'=w.drewN n)->QR st K .normal a' w') (rest:=[]) g1 (wpQuiet_nil (by
    rintro w' ⟨n,rfl⟩;exact⟨β,_,k1,(h2.trans k2).trans (Ext.mv _),g2.drew (Only.drewN w n) rfl⟩))
   simp_all
  ·rcases mh h with⟨_,h⟩ | ⟨_,h⟩
   ·obtain⟨s1,h0,e1,gY,_⟩:=dR h WE;have SA:∀i j bi bj,cV s1.bx i=some bi->cV s1.bx j=some bj->bi.ok=true->bj.ok=true->bi.blk.isSome=true->bj.blk.isSome=true->i≠j->bi.blk.getD 0≠bj.blk.getD 0:=fun i j bi bj h1 h2 h3 h4 h5 h6 h7=>by
     obtain⟨k,hk⟩:=dQ.1 h5;obtain⟨m,hm⟩:=dQ.1 h6;have e1:=(gY.bx i bi h1 h3).at_ k hk;have e2:=(gY.bx j bj h2 h4).at_ m hm;rw[hk,hm,jJ,jJ];have:=gY.ne i j bi bj h1 h2 h3 h4 h7;omega
    obtain⟨S,h1⟩:=C2 h0 (by
     cases XH P l 0 l with
     | true=>exact SA
     | false=>exact fun i j bi bj h1=>by cases i<;>cases h1)
    exact fin ((Ext.mv st).trans e1) gY h1
   ·exact fin (Ext.mv st) WE h
 ·subst hd;refine wp_region_lit (sM h hR fun β' cH a' w' k1 k2 k3=>⟨β',cH,k1,k2,k3⟩)
def VJ(P:Program)(ops:List Oper)(jn:Bool)(kp:List Nat)(mi:List MI)(st:St)(K:St->Prop):Prop:=
 bif zOk ops (ky P 0 ops)then eN st.wD fun st=>
  (bif mbN P ops 0 ops then HL (bif XH P ops 0 ops then st.bx else[]) (∃S,Jx P ops jn kp mi true (XH P ops 0 ops) S (ky P 0 ops) (OX ops (nf (ky P 0 ops)) ops.length (Array.replicate ops.length false)) (Tp (OX ops (nf (ky P 0 ops)) ops.length (Array.replicate ops.length false)).toList) st K)
  else Jx P ops jn kp mi false false (fun _=>False) (ky P 0 ops) (OX ops (nf (ky P 0 ops)) ops.length (Array.replicate ops.length false)) (Tp (OX ops (nf (ky P 0 ops)) ops.length (Array.replicate ops.length false)).toList) st K)
 else False
theorem OZ(hm:P.follows .mixedOrders=true){id}{ops}{jn}{kp}{mi}{st}{K}{β}{a}{w}(h:VJ P ops.toList jn kp mi st K)(hR:Rep β st a w):
  (Code.region id ops true).wp P (QR st K) a w:=by
 obtain⟨l⟩:=ops;obtain⟨hz,h⟩:=dw h;obtain⟨s1,h0,e1,gY,NL,_⟩:=dR h (hR.drew (Only.drewN w 1) rfl);have fin:∀{mb ms:Bool} {S:Nat->Prop} {wI:Array Bool} {gm:Nat},Jx P l jn kp mi mb ms S _ wI gm s1 K->(Code.region id l.toArray true).wp P (QR st K) a w:=fun h=>
  ER _ hm (OY (fun c a w hp=>hp) hz h gY NL fun β' cH a' w' k1 k2 k3=>⟨β',cH,k1,((Ext.wD st).trans e1).trans k2,k3⟩)
 rcases mh h0 with⟨_,h⟩ | ⟨_,h⟩
 ·have SA:∀i j bi bj,cV s1.bx i=some bi->cV s1.bx j=some bj->bi.ok=true->bj.ok=true->bi.blk.isSome=true->bj.blk.isSome=true->i≠j->bi.blk.getD 0≠bj.blk.getD 0:=fun i j bi bj h1 h2 h3 h4 h5 h6 h7=>by
   obtain⟨k,hk⟩:=dQ.1 h5;obtain⟨m,hm⟩:=dQ.1 h6;have e1:=(gY.bx i bi h1 h3).at_ k hk;have e2:=(gY.bx j bj h2 h4).at_ m hm;rw[hk,hm,jJ,jJ];have:=gY.ne i j bi bj h1 h2 h3 h4 h7;omega
  obtain⟨S,h1⟩:=C2 h (by
   cases XH P l 0 l with
   | true=>exact SA
   | false=>exact fun i j bi bj h1=>by cases i<;>cases h1)
  exact fin h1
 ·exact fin h
def V(P:Program):Code->Ann->St->(Exit->St->Prop)->Prop
 | .skip,_,st,K=>K .normal st
 | .label _,_,st,K=>K .normal st
 | .exit id,_,st,K=>K (.exit id) st
 | .ret,_,st,K=>K .ret st
 | .region _ ops draw,an,st,K=>(match an with
  | .l jn kp ms=>bif draw then VJ P ops.toList jn kp ms st (K .normal)else False
  | .j kp ms _ _=>eN st fun st=>∃J,E9 _ J (fun vs w=>K .normal (lw st kp ms vs w))/\XM P ops.toList draw st fun s=>eN s fun s=>Mb st kp ms J s
  | _=>XM P ops.toList draw st (K .normal))
 | .seq a b,an,st,K=>(match an with
  | .j kp ms x y=>eN st fun st=>∃J,E9 _ J (fun vs w=>V P b y (lw st kp ms vs w) K)/\V P a x st fun e s=>(match e with
   | .normal=>eN s fun s=>Mb st kp ms J s
   | e=>K e s)
  | an=>V P a an.x st fun e s=>(match e with
   | .normal=>V P b an.y s K
   | e=>K e s))
 | .cond c a b,an,st,K=>cj (st.ev c) fun t=>(match t with
  | .bl true=>V P a an.x st K
  | .bl false=>V P b an.y st K
  | .bt t=>((t=true->V P a an.x st K)/\(t=false->V P b an.y st K))
  | _=>False)
 | .block id c,an,st,K=>V P c an st fun e s=>(match e with
  | .exit Wy=>bif Nat.beq Wy id then K .normal s else K (.exit Wy) s
  | e=>K e s)
 | .loop c,an,st,K=>(match an with
  | .j kp ms x _=>eN st fun st=>(fun st=>∃(I:Nat->JT _) (n0:Nat),Mb st kp ms (I n0) st/\∀n,E9 _ (I n) fun vs w=>V P c x (lw st kp ms vs w) fun e s=>(match e with
   | .normal=>eN s fun s=>∃n',n'<n/\Mb st kp ms (I n') s
   | e=>K e s)) (st.esc (y0 st ms))
  | _=>False)
 | _,_,_,_=>False
def QK(st:St)(K:Exit->St->Prop):Exit->Act->ay->Prop:=fun e a w=>match e with
 | .normal=>∃β cH,K .normal cH/\Ext st cH/\Rep β cH a w
 | .exit id=>∃β cH,K (.exit id) cH/\Ext st cH/\Rep β cH a w
 | .ret=>∃β cH,K .ret cH/\Ext st cH/\Rep β cH a w
 | _=>False
theorem sR{st Ey}{K}(hx:Ext st Ey):∀e a w,QK Ey K e a w->QK st K e a w:=fun e a w h=>by
 cases e<;>first | exact h | (obtain⟨β,cH,h1,h2,h3⟩:=h;exact⟨β,cH,h1,hx.trans h2,h3⟩)
theorem xF(hm:P.follows .mixedOrders=true):∀c {an:Ann} {st:St} {K:Exit->St->Prop} {β:Nat->Nat} {a:Act} {w:ay},V P c an st K->Rep β st a w->c.wp P (QK st K) a w
 | .skip,_,st,K,β,a,w,h,hR=>wp_skip ⟨β,st,h,Ext.refl _,hR⟩
 | .label _,_,st,K,β,a,w,h,hR=>wp_label ⟨β,st,h,Ext.refl _,hR⟩
 | .exit _,_,st,K,β,a,w,h,hR=>wp_exit ⟨β,st,h,Ext.refl _,hR⟩
 | .ret,_,st,K,β,a,w,h,hR=>wp_ret ⟨β,st,h,Ext.refl _,hR⟩
 | .region id ops draw,an,st,K,β,a,w,h,hR=>by
  unfold V at h;split at h
  ·cases draw with
   | false=>exact h.elim
   | true=>
    refine wp_mono (OZ hm h hR) fun e a' w' hq=>?_;cases e<;>first | exact hq.elim | exact hq
  ·obtain⟨s1,⟨J,hJ,h⟩,e1,gY,_⟩:=dR h hR;refine wp_mono (Jz hm h gY) fun e a' w' hq=>?_;cases e<;>try exact hq.elim
   obtain⟨β',s2,h2,e2,WD⟩:=hq;obtain⟨s3,h3,e3,Zv,UR,_⟩:=dR h2 WD;obtain⟨vs,k1,k2⟩:=rJ h3 Zv UR (.inl (e2.trans e3)) hJ;exact⟨_,_,k1,e1.trans Ext.Q1,k2⟩
  ·refine wp_mono (Jz hm h hR) fun e a' w' hq=>?_;cases e<;>first | exact hq.elim | exact hq
 | .seq x y,an,st,K,β,a,w,h,hR=>by
  unfold V at h;split at h
  ·obtain⟨s1,⟨J,hJ,h⟩,e1,gY,_⟩:=dR h hR;refine wp_seq (wp_mono (xF hm x h gY) fun e a' w' hq=>?_);cases e with
   | normal=>
    obtain⟨β',s2,h2,e2,WD⟩:=hq;obtain⟨s3,h3,e3,Zv,UR,_⟩:=dR h2 WD;obtain⟨vs,k1,k2⟩:=rJ h3 Zv UR (.inl (e2.trans e3)) hJ;exact wp_mono (xF hm y k1 k2) (sR (e1.trans Ext.Q1))
   | exit _=>exact sR e1 _ _ _ hq
   | ret=>exact sR e1 _ _ _ hq
   | _=>exact hq.elim
  ·refine wp_seq (wp_mono (xF hm x h hR) fun e a' w' hq=>?_);cases e with
   | normal=>
    obtain⟨β',s,h1,h2,h3⟩:=hq;exact wp_mono (xF hm y h1 h3) (sR h2)
   | _=>exact hq
 | .cond c x y,an,st,K,β,a,w,h,hR=>by
  obtain⟨t,ht,h⟩:=bB h;have ev:=hR.ev ht;split at h
  ·exact wp_cond_true ev (xF hm x h hR)
  ·exact wp_cond_false ev (xF hm y h hR)
  ·exact wp_cond_split ev (fun e=>xF hm x (h.1 e) hR) (fun e=>xF hm y (h.2 e) hR)
  ·exact h.elim
 | .block id c,an,st,K,β,a,w,h,hR=>by
  refine wp_block (wp_mono (xF hm c h hR) fun e a' w' hq=>?_);cases e with
  | exit Wy=>
   obtain⟨β',s,h1,h2,h3⟩:=hq;rcases mh h1 with⟨e,h5⟩ | ⟨e,h5⟩
   ·have:=bW e;subst this;exact LX ⟨β',s,h5,h2,h3⟩
   ·have gz:¬Wy=id:=fun h=>by rw[h]at e;simp at e
    exact Ht (by simpa using gz) ⟨β',s,h5,h2,h3⟩
  | normal=>exact hq
  | ret=>exact hq
  | _=>exact hq.elim
 | .loop c,an,st,K,β,a,w,h,hR=>by
  unfold V at h;split at h
  ·rename_i kp ms x _;obtain⟨s0,hh,e0,hR0,LF,_⟩:=dR h hR;have e1:=e0.trans (Ext.esc s0 (y0 s0 ms));have gY:=hR0.esc (y0 s0 ms);have NL:(s0.esc (y0 s0 ms)).mv=false:=LF;generalize s0.esc (y0 s0 ms)=s1 at*
   obtain⟨I,n0,h0,h⟩:=hh;refine wp_loop_ghost (fun n a' w'=>∀K,E9 _ (I n) K->∃vs,K vs w'/\Rep _ (lw s1 kp ms vs w') a' w') n0 (fun K hK=>rJ h0 gY NL (.inl (Ext.refl _)) hK) fun n a' w' hI=>?_;obtain⟨vs,k1,k2⟩:=hI _ (h n);refine wp_mono (xF hm c k1 k2) fun e a2 w2 hq=>?_;cases e with
   | normal=>
    obtain⟨β2,s2,h2,e2,WD⟩:=hq;obtain⟨s3,⟨n',hn,h3⟩,e3,Zv,UR,_⟩:=dR h2 WD;exact⟨n',hn,fun K hK=>rJ h3 Zv UR (.inr ⟨vs,w',e2.trans e3⟩) hK⟩
   | exit _=>exact sR (e1.trans Ext.Q1) _ _ _ hq
   | ret=>exact sR (e1.trans Ext.Q1) _ _ _ hq
   | _=>exact hq.elim
  ·exact h.elim
 | .rangeFunc _ _ _ _,_,_,_,_,_,_,h,_=>by unfold V at h;exact h.elim
 | .scope _,_,_,_,_,_,_,h,_=>by unfold V at h;exact h.elim
 | .goto _,_,_,_,_,_,_,h,_=>by unfold V at h;exact h.elim
 | .refuse _,_,_,_,_,_,_,h,_=>by unfold V at h;exact h.elim
def HN(P:Program)(st:St):List ResultVar->Option (List SV)
 | []=>some []
 | .tmp t::r=>(match st.get t,HN P st r with
  | some v,some l=>some (v::l)
  | _,_=>none)
 | .cell p t::r=>(match st.get p,P.underlying t,HN P st r with
  | some (.box i o),some d,some l=>(match cV st.bx i with
   | some b=>bif b.ok&&sz P t ((b.cells.drop o).take (mQ P t)).length&&(lq d||Nat.beq ((b.cells.drop o).take (mQ P t)).length 1)then some (L3 (lq d) ((b.cells.drop o).take (mQ P t))::l)else none
   | none=>none)
  | _,_,_=>none)
def XN(P:Program)(rs:List ResultVar)(R:az->ay->Prop)(st:St):Prop:=cj (HN P st rs) fun vs=>eN (st.esc vs) fun st=>bif gZ (E4 st.bx) vs then R (val (G8 st.bx) (yZ vs)) st.w0 else False
theorem C3{β}{st}{a}{w}(hR:Rep β st a w):∀{rs:List ResultVar} {vs:List SV},HN P st rs=some vs->Bi P a w rs (cu β vs)
 | [],vs,h=>by simp[HN]at h;subst h;trivial
 | .tmp t::r,vs,h=>by
  simp[HN]at h;split at h
  ·rename_i v l h1 h2;simp at h;subst h;exact⟨hR.get h1,C3 hR h2⟩
  ·cases h
 | .cell p t::r,vs,h=>by
  simp only[HN]at h;split at h
  ·rename_i i o d l h1 h2 h3;split at h
   ·rename_i b hb;obtain⟨h4,rfl⟩:=CL h;simp only[aQ,cp]at h4;obtain⟨⟨nE,hsz⟩,kr⟩:=h4;refine⟨⟨_,hR.get h1,?_⟩,C3 hR h3⟩;generalize hl:(b.cells.drop o).take _=q at*
    have hC:Cells w _ (cu β q):=((hR.bx i b hb nE).blk).DY o _ (by
     rw[<-hl];simp only[cu,mP,qt];rw[dd,pv];simp only[cG,bq];omega)
    have ra:=j9 (P:=P) h2 w;cases hd:lq d with
    | true=>
     rw[hd]at ra;have e:=oH hd β q;rw[hd]at e;rw[e];exact CG ra (oT hsz w) (fk β q) hC
    | false=>
     rw[hd]at ra kr;obtain⟨s,rfl⟩:=yM (kr.resolve_left (by simp));exact AO ra (Cells.one hC)
   ·cases h
  ·cases h
def Tr:Nat->List SV->List (Nat×Nat×SV)
 | _,[]=>[]
 | i,s::r=>(i,0,s)::Tr (i+1) r
theorem C4 β:∀i l,cv β (Tr i l)=CJ i (cu β l)
 | _,[]=>rfl
 | i,s::r=>by
  have:=C4 β (i+1) r;simp[cv]at this;simp[Tr,cv,cu,CJ,this]
def st0(fn:Func)(args:List SV)(w:ay):St:={n:=fn.ntmps,fr:=Tr 0 args,bx:=[],w0:=w,mv:=false,dt:=[],ct:=1,df:=[]}
def kg(P:Program)(f:FuncId)(args:Array az)(w:ay)(Q:az->ay->Prop):Prop:=CallsD P f args .returning w fun e u w'=>u=.returning/\∃v,e=.returned v/\Q v w'
def HO(P:Program)(R:az->ay->Prop):List (Nat×List az×List az)->ay->Prop
 | [],w=>R (.tuple #[]) w
 | d::ds,w=>bif Ov P d.1 then kg P d.1 (d.2.1++d.2.2).toArray w fun _ w'=>HO P R ds w' else False
def aiJ:List ResultVar->Bool
 | []=>true
 | _=>false
def Ts(P:Program)(rs:List ResultVar)(R:az->ay->Prop)(st:St):Prop:=match st.df with
 | []=>XN P rs R st
 | _::_=>bif aiJ rs then eN st fun st=>HO P R st.df st.w0 else False
def Tt(P:Program)(rs:List ResultVar)(R:az->ay->Prop)(st:St):Prop:=match st.df with
 | []=>XN P rs R st
 | _::_=>False
def Vfn(P:Program)(f:FuncId)(an:Ann)(args:List SV)(R:az->ay->Prop)(w:ay):Prop:=cj (P.funcs[f]?) fun fn=>cj fn.body fun c=>
 bif Nat.ble args.length fn.ntmps then V P c an (st0 fn args w) fun e st=>(match e with
  | .normal=>Ts P fn.results.toList R st
  | .ret=>Ts P fn.results.toList R st
  | _=>False)else False
def Vfd(P:Program)(f:FuncId)(an:Ann)(args:List SV)(R:az->ay->Prop)(w:ay):Prop:=cj (P.funcs[f]?) fun fn=>cj fn.body fun c=>
 bif Nat.ble args.length fn.ntmps then V P c an (st0 fn args w) fun e st=>(match e with
  | .normal=>Tt P fn.results.toList R st
  | .ret=>Tt P fn.results.toList R st
  | _=>False)else False
theorem JA{β}{st}{a}{w}{fn}{R}(h:XN P fn.results.toList R st)(hR:Rep β st a w):∃v,(results fn a.tmps).run P w=.ok v w/\R v w:=by
 obtain⟨vs,hv,h⟩:=bB h;obtain⟨s1,h1,e1,gY,hm,_⟩:=dR h (hR.esc vs);obtain⟨hc,h1⟩:=dw h1;have ho:=C3 hR hv;rw[gY.aei (uO hc),<-gY.still hm]at h1;refine⟨_,?_,h1⟩;have Rn:fn.results=fn.results.toList.toArray:=rfl
 match vs,ho,hc with
 | [s],ho,hc=>exact Xi Rn ho
 | [],ho,hc=>
  have e:val β (yZ [])=.tuple (cu β []).toArray:=rfl;exact Hu Rn rfl ho
 | s::t::r,ho,hc=>
  have e:val β (yZ (s::t::r))=.tuple (cu β (s::t::r)).toArray:=by
   show Value.tuple (pB β _).toArray=_;rw[qx]
  rw[e];exact Hu Rn (rfl) ho
theorem O0 args {n} (hk:args.length<=n):(⟨args.toArray++Array.replicate (n-args.toArray.size) undef,[]⟩)=fr n (fun _=>undef) (CJ 0 args):=by
 congr 1;apply Nl.1;rw[Array.toList_append,Array.toList_replicate,eh];apply jh;intro i;by_cases hi:i<n
 ·rw[im,lU _ _ _ _ _ hi,bM,Bl]
  grind
 ·rw[du (by simp;omega),du (by rw[nc];omega)]
theorem Bp{fn}{tmps}{R}(hr:fn.results.toList=[]):∀{l:List _} {w:ay},HO P R l w->Leaves P fn tmps (fun e w'=>∃v,e=.returned v/\R v w') (Vx l) .returning w
 | [],w,h=>by
  have Rn:fn.results=([]).toArray:=by rw[<-hr]
  exact⟨_,Hu (a:=⟨tmps,[]⟩) (rs:=[]) (vs:=[]) Rn rfl trivial,_,rfl,h⟩
 | d::ds,w,h=>by
  obtain⟨h0,h⟩:=dw h;refine leaves_cons (fun h=>by cases h) (f:=d.1) (args:=(d.2.1++d.2.2).toArray) ?_ (h.mono ?_)
  ·have:=fF h0 (d.2.1++d.2.2).toArray w;rw[<-List.append_toArray]at this⊢;exact this
  ·rintro e u w' ⟨rfl,v,rfl,h⟩;exact Bp hr h
theorem Fl{β}{st}{a}{w}{fn}{R}(h:Ts P fn.results.toList R st)(hR:Rep β st a w):Leaves P fn a.tmps (fun e w'=>∃v,e=.returned v/\R v w') a.defers .returning w:=by
 rw[hR.ok.df];unfold Ts at h;split at h
 ·rename_i hd;rw[hd];obtain⟨v,k1,k2⟩:=JA h hR;exact⟨v,k1,v,rfl,k2⟩
 ·obtain⟨h0,h⟩:=dw h;obtain⟨s1,h1,e1,gY,hm,_⟩:=dR h hR;have hr:fn.results.toList=[]:=by
   cases hc:fn.results.toList with
   | nil=>rfl
   | cons _ _=>rw[hc]at h0;cases h0
  have hdf:s1.df=st.df:=by
   obtain⟨l,hl⟩:=e1.df;have h5:=bm List.length (gY.ok.df.symm.trans hR.ok.df);rw[Vx,Vx,bq,bq,hl,aU]at h5
   grind
  rw[<-gY.still hm]at h1;rw[<-hdf];exact Bp hr h1
theorem acn(hm:P.follows .mixedOrders=true){f}{an}{args}{R}{w}(h:Vfn P f an args R w):Calls P f (cu β0 args).toArray w fun e w'=>∃v,e=.returned v/\R v w':=by
 obtain⟨fn,hf,h⟩:=bB h;obtain⟨c,hb,h⟩:=bB h;obtain⟨hn,h⟩:=dw h;have hR:Rep β0 (st0 fn args w) (fr fn.ntmps _ (CJ 0 _)) w:=
  ⟨⟨fun _=>undef,by rw[<-C4];rfl⟩,fun i b hb=>(by cases hb),fun i j bi bj hb=>(by cases hb),Only.refl _ _,fun _=>rfl⟩
 refine calls_of_wp_defers hf hb ?_;rw[O0 _ (by rw[fk];exact cP hn)];refine wp_mono (xF hm c h hR) fun e a' w' hq=>?_;cases e with
 | normal=>
  obtain⟨β',s,h1,h2,h3⟩:=hq;exact Fl h1 h3
 | ret=>
  obtain⟨β',s,h1,h2,h3⟩:=hq;exact Fl h1 h3
 | exit _=>
  obtain⟨β',s,h1,_⟩:=hq;exact h1.elim
 | _=>exact hq.elim
theorem aco(hm:P.follows .mixedOrders=true){f}{an}{args}{R}{w}(h:Vfd P f an args R w):kg P f (cu β0 args).toArray w R:=by
 obtain⟨fn,hf,h⟩:=bB h;obtain⟨c,hb,h⟩:=bB h;obtain⟨hn,h⟩:=dw h;have hR:Rep β0 (st0 fn args w) (fr fn.ntmps _ (CJ 0 _)) w:=
  ⟨⟨fun _=>undef,by rw[<-C4];rfl⟩,fun i b hb=>(by cases hb),fun i j bi bj hb=>(by cases hb),Only.refl _ _,fun _=>rfl⟩
 refine(callsD_of_wp (R:=fun e w'=>∃v,e=.returned v/\R v w') hf hb ?_).mono (fun e u w' h=>h);rw[O0 _ (by rw[fk];exact cP hn)];refine wp_mono (xF hm c h hR) fun e a' w' hq=>?_;have fin:∀{β':Nat->Nat} {s:St},Tt P fn.results.toList R s->Rep β' s a' w'->_/\a'.defers=[]:=fun{β' s} h hR=>by
  unfold Tt at h;split at h
  ·rename_i hd;exact⟨JA h hR,by rw[hR.ok.df,hd];rfl⟩
  ·exact h.elim
 cases e with
 | normal=>
  obtain⟨β',s,h1,h2,h3⟩:=hq;obtain⟨⟨v,k1,k2⟩,k3⟩:=fin h1 h3;exact Hv k1 k3 k2
 | ret=>
  obtain⟨β',s,h1,h2,h3⟩:=hq;obtain⟨⟨v,k1,k2⟩,k3⟩:=fin h1 h3;exact SX k1 k3 k2
 | exit _=>
  obtain⟨β',s,h1,_⟩:=hq;exact h1.elim
 | _=>exact hq.elim
theorem acp{f}{an}{args}{R}{w}{vs}{vc}(hm:P.follows .mixedOrders=true)(hv:vs=(cu β0 args).toArray)(he:vc=Vfn P f an args R w)(h:vc):Calls P f vs w fun e w'=>∃v,e=.returned v/\R v w':=by
 subst he hv;exact acn hm h
theorem acq{f}{an}{args}{R}{w}{vs}{vc}(hm:P.follows .mixedOrders=true)(hv:vs=(cu β0 args).toArray)(he:vc=Vfd P f an args R w)(h:vc):kg P f vs w R:=by
 subst he hv;exact aco hm h
end
end Go.Kt.V
namespace Go.Proofs.YtbkjcdocjfknfaaGreatDoor.Vc
open Go.Value renaming int->O,string->ah,pointer->ai,agg->aj,tuple->ak,bool->ao
open Go.IntKind renaming i64->ae,wrap->av
open Go.Ending renaming returned->aq
open _root_.ByteArray renaming mk->ar
open _root_.Go.Proofs.Tryz renaming prog->au
open Go.Instr renaming buildSlice->aw
open Go renaming World->ay,Value->az,Calls->aB
open Go.Kt renaming Only->aA,SliceF->aD,Cells->aE,OnlyP->aF,Blk->aH
open Go Go.RowKit Go.Kt Go.Kt.V
set_option linter.unusedVariables false
abbrev cR(c:Bool)(x y:Prop):Prop:=(c=true->x)/\(c=false->y)
abbrev cB(f:FuncId)(a:Array az)(w:ay)(K:Bool->ay->Prop):Prop:=aB au f a w fun e w'=>∃x,e=aq (ao x)/\K x w'
abbrev rz(s:List Nat)(f:FuncId)(a:Array az)(w:ay)(K:Bool->ay->Prop):Prop:=aB au f a w fun e w'=>∃x,e=aq (ao x)/\ci s w w'/\K x w'
abbrev cI(f:FuncId)(a:Array az)(w:ay)(K:Int->ay->Prop):Prop:=aB au f a w fun e w'=>∃x,e=aq (O ae x)/\K x w'
abbrev rL(s:List Nat)(f:FuncId)(a:Array az)(w:ay)(K:Int->ay->Prop):Prop:=aB au f a w fun e w'=>∃x,e=aq (O ae x)/\ci s w w'/\K x w'
abbrev cS(f:FuncId)(a:Array az)(w:ay)(K:aM->ay->Prop):Prop:=aB au f a w fun e w'=>∃x,e=aq (ah x)/\K x w'
abbrev rh(s:List Nat)(f:FuncId)(a:Array az)(w:ay)(K:aM->ay->Prop):Prop:=aB au f a w fun e w'=>∃x,e=aq (ah x)/\ci s w w'/\K x w'
abbrev cL(f:FuncId)(a:Array az)(w:ay)(K:Sl->ay->Prop):Prop:=aB au f a w fun e w'=>∃x,e=aq (x.v)/\K x w'
abbrev yg(s:List Nat)(f:FuncId)(a:Array az)(w:ay)(K:Sl->ay->Prop):Prop:=aB au f a w fun e w'=>∃x,e=aq (x.v)/\ci s w w'/\K x w'
abbrev cU(f:FuncId)(a:Array az)(w:ay)(K:ay->Prop):Prop:=aB au f a w fun e w'=>e=aq (ak #[])/\K w'
abbrev gF(s:List Nat)(f:FuncId)(a:Array az)(w:ay)(K:ay->Prop):Prop:=aB au f a w fun e w'=>e=aq (ak #[])/\ci s w w'/\K w'
abbrev gf(x:Sem az)(w:ay)(K:Sl->ay->Prop):Prop:=∃l w',x.run au w=.ok (Sl.v l) w'/\K l w'
abbrev nx(k:Nat)(K:aL):Prop:=∃n,n<k/\K n
abbrev nw(w:ay)(K:Nat->ay->Prop):Prop:=∀k w',w.heap.size<=k->k<w'.heap.size->aA [] w w'->K k w'
abbrev lp0(w:ay)(B:(Nat->ay->Prop)->Nat->ay->Prop):Prop:=∃J k,J k w/\∀k w,J k w->B J k w
abbrev ub{α:Type}(x:α)(w:ay)(B:(Nat->α->ay->Prop)->Nat->α->ay->Prop):Prop:=∃J k,J k x w/\∀k x w,J k x w->B J k x w
abbrev Tu{α β:Type}(x:α)(y:β)(w:ay)(B:(Nat->α->β->ay->Prop)->Nat->α->β->ay->Prop):Prop:=∃J k,J k x y w/\∀k x y w,J k x y w->B J k x y w
abbrev G9(X:ay->Prop)(Y:(ay->Prop)->Prop):Prop:=∃J,(∀w,J w->X w)/\Y J
abbrev tJ{α:Type}(X:α->ay->Prop)(Y:(α->ay->Prop)->Prop):Prop:=∃J,(∀x w,J x w->X x w)/\Y J
abbrev jn2{α β:Type}(X:α->β->ay->Prop)(Y:(α->β->ay->Prop)->Prop):Prop:=∃J,(∀x y w,J x y w->X x y w)/\Y J
abbrev jn3{α β γ:Type}(X:α->β->γ->ay->Prop)(Y:(α->β->γ->ay->Prop)->Prop):Prop:=∃J,(∀x y z w,J x y z w->X x y z w)/\Y J
abbrev xCB(w:ay)(p:Addr)(K:Bool->Prop):Prop:=∃x0,aE w p [ao x0]/\K x0
abbrev jz(w:ay)(p:Addr)(K:Int->Prop):Prop:=∃x0,aE w p [O ae x0]/\K x0
abbrev pJ(w:ay)(p:Addr)(K:Int->Int->aM->Int->Sl->Int->Prop):Prop:=∃x0 x1 x2 x3 x4 x5,aE w p [O ae x0,O ae x1,ah x2,O ae x3,x4.v,O ae x5]/\K x0 x1 x2 x3 x4 x5
abbrev O1(w:ay)(p:Addr)(K:Int->aM->Int->Int->Prop):Prop:=∃x0 x1 x2 x3,aE w p [O ae x0,ah x1,O ae x2,O ae x3]/\K x0 x1 x2 x3
abbrev jr(w:ay)(p:Addr)(K:Sl->Prop):Prop:=∃x0,aE w p [x0.v]/\K x0
abbrev Ha(w:ay)(p:Addr)(K:Option Nat->Prop):Prop:=∃x0,aE w p [.map x0]/\K x0
abbrev VK(w:ay)(p:Addr)(K:Option Addr->Prop):Prop:=∃x0,aE w p [ai x0]/\K x0
abbrev Tv(w:ay)(p:Addr)(K:aM->Prop):Prop:=∃x0,aE w p [ah x0]/\K x0
abbrev xKB(w:ay)(b n:Nat)(K:Bool->Prop):Prop:=∃x0,aH w b n [ao x0]/\K x0
abbrev XO(w:ay)(b n:Nat)(K:Bool->Bool->Bool->Bool->Prop):Prop:=∃x0 x1 x2 x3,aH w b n [ao x0,ao x1,ao x2,ao x3]/\K x0 x1 x2 x3
abbrev xKI(w:ay)(b n:Nat)(K:Int->Prop):Prop:=∃x0,aH w b n [O ae x0]/\K x0
abbrev Me(w:ay)(b n:Nat)(K:Int->Int->Int->aM->Int->Sl->Int->Prop):Prop:=∃x0 x1 x2 x3 x4 x5 x6,aH w b n [O ae x0,O ae x1,O ae x2,ah x3,O ae x4,x5.v,O ae x6]/\K x0 x1 x2 x3 x4 x5 x6
abbrev Tw(w:ay)(b n:Nat)(K:Int->aM->Int->Int->Int->Prop):Prop:=∃x0 x1 x2 x3 x4,aH w b n [O ae x0,ah x1,O ae x2,O ae x3,O ae x4]/\K x0 x1 x2 x3 x4
abbrev Fm(w:ay)(b n:Nat)(K:Int->aM->aM->aM->Sl->Sl->Sl->Sl->Int->Prop):Prop:=∃x0 x1 x2 x3 x4 x5 x6 x7 x8,aH w b n [O ae x0,ah x1,ah x2,ah x3,x4.v,x5.v,x6.v,x7.v,O ae x8]/\K x0 x1 x2 x3 x4 x5 x6 x7 x8
abbrev HP(w:ay)(b n:Nat)(K:Sl->Prop):Prop:=∃x0,aH w b n [x0.v]/\K x0
abbrev ia(w:ay)(b n:Nat)(K:Sl->Int->Int->Int->Int->Int->Int->Int->Int->Prop):Prop:=∃x0 x1 x2 x3 x4 x5 x6 x7 x8,aH w b n [x0.v,O ae x1,O ae x2,O ae x3,O ae x4,O ae x5,O ae x6,O ae x7,O ae x8]/\K x0 x1 x2 x3 x4 x5 x6 x7 x8
abbrev Fp(w:ay)(b n:Nat)(K:Sl->Int->Int->Int->Int->Sl->Prop):Prop:=∃x0 x1 x2 x3 x4 x5,aH w b n [x0.v,O ae x1,O ae x2,O ae x3,O ae x4,x5.v]/\K x0 x1 x2 x3 x4 x5
abbrev nj(w:ay)(b n:Nat)(K:Sl->Int->aM->aM->aM->Sl->Sl->Sl->Sl->Int->Prop):Prop:=∃x0 x1 x2 x3 x4 x5 x6 x7 x8 x9,aH w b n [x0.v,O ae x1,ah x2,ah x3,ah x4,x5.v,x6.v,x7.v,x8.v,O ae x9]/\K x0 x1 x2 x3 x4 x5 x6 x7 x8 x9
abbrev aiL(w:ay)(b n:Nat)(K:Sl->Sl->Prop):Prop:=∃x0 x1,aH w b n [x0.v,x1.v]/\K x0 x1
abbrev HQ(w:ay)(b n:Nat)(K:Sl->Sl->Sl->Sl->Prop):Prop:=∃x0 x1 x2 x3,aH w b n [x0.v,x1.v,x2.v,x3.v]/\K x0 x1 x2 x3
abbrev C5(w:ay)(b n:Nat)(K:Option Nat->Sl->Option Nat->Int->Int->Prop):Prop:=∃x0 x1 x2 x3 x4,aH w b n [.map x0,x1.v,.map x2,O ae x3,O ae x4]/\K x0 x1 x2 x3 x4
abbrev VL(w:ay)(b n:Nat)(K:Option Addr->Prop):Prop:=∃x0,aH w b n [ai x0]/\K x0
abbrev lA(w:ay)(b n:Nat)(K:Option Addr->Sl->Bool->Int->Prop):Prop:=∃x0 x1 x2 x3,aH w b n [ai x0,x1.v,ao x2,O ae x3]/\K x0 x1 x2 x3
abbrev JB(w:ay)(b n:Nat)(K:Option Addr->Sl->Sl->Prop):Prop:=∃x0 x1 x2,aH w b n [ai x0,x1.v,x2.v]/\K x0 x1 x2
abbrev xKS(w:ay)(b n:Nat)(K:aM->Prop):Prop:=∃x0,aH w b n [ah x0]/\K x0
abbrev XP(w:ay)(b n:Nat)(K:aM->Int->Prop):Prop:=∃x0 x1,aH w b n [ah x0,O ae x1]/\K x0 x1
abbrev zg(w:ay)(b n:Nat)(K:aM->Int->Sl->Sl->Prop):Prop:=∃x0 x1 x2 x3,aH w b n [ah x0,O ae x1,x2.v,x3.v]/\K x0 x1 x2 x3
abbrev xG(s:Sl)(i:Int)(w:ay)(K:Int->Prop):Prop:=∃p,dL s i 1 p/\∃x0,aE w p [O ae x0]/\K x0
abbrev Bq(s:Sl)(i:Int)(w:ay)(K:Int->Int->Int->aM->Int->Sl->Int->Prop):Prop:=∃p,dL s i 7 p/\∃x0 x1 x2 x3 x4 x5 x6,aE w p [O ae x0,O ae x1,O ae x2,ah x3,O ae x4,x5.v,O ae x6]/\K x0 x1 x2 x3 x4 x5 x6
abbrev ml(s:Sl)(i:Int)(w:ay)(K:Int->Int->aM->Int->Sl->Int->Prop):Prop:=∃p,dL s i 6 p/\∃x0 x1 x2 x3 x4 x5,aE w p [O ae x0,O ae x1,ah x2,O ae x3,x4.v,O ae x5]/\K x0 x1 x2 x3 x4 x5
abbrev aiM(s:Sl)(i:Int)(w:ay)(K:Int->Sl->Prop):Prop:=∃p,dL s i 2 p/\∃x0 x1,aE w p [O ae x0,x1.v]/\K x0 x1
abbrev mC(s:Sl)(i:Int)(w:ay)(K:Int->aM->Int->Bool->Int->Int->aM->Int->Sl->Int->Sl->Sl->Int->Prop):Prop:=∃p,dL s i 13 p/\∃x0 x1 x2 x3 x4 x5 x6 x7 x8 x9 x10 x11 x12,aE w p [O ae x0,ah x1,O ae x2,ao x3,O ae x4,O ae x5,ah x6,O ae x7,x8.v,O ae x9,x10.v,x11.v,O ae x12]/\K x0 x1 x2 x3 x4 x5 x6 x7 x8 x9 x10 x11 x12
abbrev O2(s:Sl)(i:Int)(w:ay)(K:Int->aM->Int->Int->Prop):Prop:=∃p,dL s i 4 p/\∃x0 x1 x2 x3,aE w p [O ae x0,ah x1,O ae x2,O ae x3]/\K x0 x1 x2 x3
abbrev C6(s:Sl)(i:Int)(w:ay)(K:Int->aM->Int->Int->Int->Prop):Prop:=∃p,dL s i 5 p/\∃x0 x1 x2 x3 x4,aE w p [O ae x0,ah x1,O ae x2,O ae x3,O ae x4]/\K x0 x1 x2 x3 x4
abbrev wY(s:Sl)(i:Int)(w:ay)(K:Int->aM->Int->Int->aM->Int->Sl->Int->Int->Prop):Prop:=∃p,dL s i 9 p/\∃x0 x1 x2 x3 x4 x5 x6 x7 x8,aE w p [O ae x0,ah x1,O ae x2,O ae x3,ah x4,O ae x5,x6.v,O ae x7,O ae x8]/\K x0 x1 x2 x3 x4 x5 x6 x7 x8
abbrev jt(s:Sl)(i:Int)(w:ay)(K:Int->aM->aM->aM->Sl->Sl->Sl->Sl->Int->Prop):Prop:=∃p,dL s i 9 p/\∃x0 x1 x2 x3 x4 x5 x6 x7 x8,aE w p [O ae x0,ah x1,ah x2,ah x3,x4.v,x5.v,x6.v,x7.v,O ae x8]/\K x0 x1 x2 x3 x4 x5 x6 x7 x8
abbrev xYL(s:Sl)(i:Int)(w:ay)(K:Sl->Prop):Prop:=∃p,dL s i 1 p/\∃x0,aE w p [x0.v]/\K x0
abbrev Nt(s:Sl)(i:Int)(w:ay)(K:aM->Prop):Prop:=∃p,dL s i 1 p/\∃x0,aE w p [ah x0]/\K x0
abbrev VM(s:Sl)(i:Int)(w:ay)(K:aM->Int->Int->Prop):Prop:=∃p,dL s i 3 p/\∃x0 x1 x2,aE w p [ah x0,O ae x1,O ae x2]/\K x0 x1 x2
end Go.Proofs.YtbkjcdocjfknfaaGreatDoor.Vc
