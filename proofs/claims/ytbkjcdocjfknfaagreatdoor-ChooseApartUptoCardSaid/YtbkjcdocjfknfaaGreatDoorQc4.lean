import Derived.Test.YtbkjcdocjfknfaaGreatDoorQc3
set_option linter.unusedSectionVars false
namespace Go.Kt.V
open Go renaming World->av,Value->aw
open Go Go.RowKit Go.Kt
set_option linter.unusedSimpArgs false
set_option linter.unusedVariables false
inductive Ann where
 | o
 | s (x y:Ann)
 | j (kp:List Nat) (ms:List MI) (x y:Ann)
 | l (jn:Bool) (kp:List Nat) (ms:List MI)
def Ann.x:Ann->Ann
 | .s x _=>x
 | _=>.o
def Ann.y:Ann->Ann
 | .s _ y=>y
 | _=>.o
def Ann.d:Nat->Ann->Ann
 | 0,x=>x
 | n+1,x=>.s .o (d n x)
def eY:Nat:=4000
def neP(k:Nat):List jY->Prop->Prop
 | [],p=>p
 | b::r,p=>bif b.ok&&b.blk.isSome then(k≠b.blk.getD 0->neP k r p)else neP k r p
def I4:List jY->Prop->Prop
 | [],p=>p
 | b::r,p=>bif b.ok&&b.blk.isSome then neP (b.blk.getD 0) r (I4 r p)else I4 r p
theorem I5{k}:∀{l:List jY} {p:Prop},neP k l p->(∀i b,cV l i=some b->b.ok=true->b.blk.isSome=true->k≠b.blk.getD 0)->p
 | [],_,h,_=>h
 | b::r,p,h,hb=>by
  unfold neP at h;cases hc:(b.ok&&b.blk.isSome)with
  | true=>
   rw[hc]at h;simp at hc;exact I5 (h (hb 0 b rfl hc.1 hc.2)) fun i c hi=>hb (i+1) c hi
  | false=>
   rw[hc]at h;exact I5 h fun i c hi=>hb (i+1) c hi
theorem DI:∀{l:List jY} {p:Prop},I4 l p->(∀i j bi bj,cV l i=some bi->cV l j=some bj->bi.ok=true->bj.ok=true->bi.blk.isSome=true->bj.blk.isSome=true->i≠j->bi.blk.getD 0≠bj.blk.getD 0)->p
 | [],_,h,_=>h
 | b::r,p,h,hb=>by
  unfold I4 at h;have tl:∀{p:Prop},I4 r p->p:=fun h=>DI h fun i j bi bj h1 h2 h3 h4 h5 h6 h7=>hb (i+1) (j+1) bi bj h1 h2 h3 h4 h5 h6 (by omega);cases hc:(b.ok&&b.blk.isSome)with
  | true=>
   rw[hc]at h;simp at hc;exact tl (I5 h fun i c hi h1 h2=>hb 0 (i+1) b c rfl hi hc.1 h1 hc.2 h2 (by omega))
  | false=>
   rw[hc]at h;exact tl h
def ZV(P:Program)(ops:List Oper)(draw:Bool)(st:St)(K:St->Prop):Prop:=
 bif draw then
  bif DF P ops&&Region.lexB .any ops.toArray then ZM (I0 ops) st fun st=>wT P ops eY [] ops st fun st=>K {st with mv:=true}
  else bif mbN P ops 0 ops then eN {st with mv:=true} fun st=>I4 (bif ZR P ops 0 ops then st.bx else[]) (∃S,F9 P ops true (ZR P ops 0 ops) S ops.length (Array.replicate ops.length false) st K)
  else F9 P ops false false (fun _=>False) ops.length (Array.replicate ops.length false) {st with mv:=true} K
 else yx P ops eY ops st K
def QR(st:St)(K:St->Prop):Exit->Act->av->Prop:=fun e a w=>match e with
 | .normal=>∃β cE,K cE/\Ext st cE/\Rep β cE a w
 | _=>False
theorem Ext.mv s:Ext s {s with mv:=true}:=⟨rfl,aX _,fun _ _ _ h _=>h,fun i b h ho _=>⟨b,h,ho,rfl,rfl,rfl,fun _ h=>h⟩,P2,Fs⟩
theorem Rep.drew{β}{s}{a}{w w'}(h:Rep β s a w)(hO:Only [] w w')(hh:w'.heap=w.heap):Rep β {s with mv:=true} a w':=
 ⟨h.fr,fun i b hb ho=>by
  obtain⟨k1,k2,k3⟩:=h.bx i b hb ho;exact⟨by unfold Blk at k1⊢;rw[hh];exact k1,k2,k3⟩,h.ne,h.only.cf hO,fun h=>by cases h⟩
section
variable {P:Program}
theorem K7(hm:P.follows .mixedOrders=true){id}{ops}{draw}{st}{K}{β}{a}{w}(h:ZV P ops.toList draw st K)(hR:Rep β st a w):
  (Code.region id ops draw).wp P (QR st K) a w:=by
 obtain⟨l⟩:=ops;rcases mC h with⟨hd,hx⟩ | ⟨hd,hx⟩<;>clear h<;>have h:=hx
 ·subst hd;have YK:=hR.drew (Only.drewN w 1) rfl;have fin:∀{mb ms:Bool} {S:Nat->Prop} {s1:St},Ext st s1->Rep β s1 a w.drew->F9 P l mb ms S l.length _ s1 K->(Code.region id l.toArray true).wp P (QR st K) a w:=fun e1 gX h=>
   FN _ hm (rZ (fun c a w hp=>hp) h gX fun β' cE a' w' k1 k2 k3=>⟨β',cE,k1,e1.trans k2,k3⟩)
  rcases mC h with⟨h0,h⟩ | ⟨_,h⟩
  ·simp at h0;obtain⟨s,h1,h2,h3,_⟩:=wW h hR;obtain⟨s2,k1,k2,k3,k4⟩:=qH h1;obtain⟨a',g1,g2⟩:=k4 trivial β a w h3;refine wp_region_quiet_lit hm h0.2 ?_;have:=IW (Q:=fun a'=>∀w',(∃n,w'=w.drewN n)->QR st K .normal a' w') (rest:=[]) g1 (wpQuiet_nil (by
    rintro w' ⟨n,rfl⟩;exact⟨β,_,k1,(h2.trans k2).trans (Ext.mv _),g2.drew (Only.drewN w n) rfl⟩))
   simp_all
  ·rcases mC h with⟨_,h⟩ | ⟨_,h⟩
   ·obtain⟨s1,h0,e1,gX,_⟩:=dP h YK;have Ii:∀i j bi bj,cV s1.bx i=some bi->cV s1.bx j=some bj->bi.ok=true->bj.ok=true->bi.blk.isSome=true->bj.blk.isSome=true->i≠j->bi.blk.getD 0≠bj.blk.getD 0:=fun i j bi bj h1 h2 h3 h4 h5 h6 h7=>by
     obtain⟨k,hk⟩:=fH.1 h5;obtain⟨m,hm⟩:=fH.1 h6;have e1:=(gX.bx i bi h1 h3).at_ k hk;have e2:=(gX.bx j bj h2 h4).at_ m hm;rw[hk,hm,me,me];have:=gX.ne i j bi bj h1 h2 h3 h4 h7;omega
    obtain⟨S,h1⟩:=DI h0 (by
     cases ZR P l 0 l with
     | true=>exact Ii
     | false=>exact fun i j bi bj h1=>by cases i<;>cases h1)
    exact fin ((Ext.mv st).trans e1) gX h1
   ·exact fin (Ext.mv st) YK h
 ·subst hd;refine wp_region_lit (tC h hR fun β' cE a' w' k1 k2 k3=>⟨β',cE,k1,k2,k3⟩)
def XK(P:Program)(ops:List Oper)(jn:Bool)(kp:List Nat)(mi:List MI)(st:St)(K:St->Prop):Prop:=
 bif zOk ops (kG P 0 ops)then eN st.xA fun st=>
  (bif mbN P ops 0 ops then I4 (bif ZR P ops 0 ops then st.bx else[]) (∃S,K5 P ops jn kp mi true (ZR P ops 0 ops) S (kG P 0 ops) (QB ops (nA (kG P 0 ops)) ops.length (Array.replicate ops.length false)) (Vt (QB ops (nA (kG P 0 ops)) ops.length (Array.replicate ops.length false)).toList) st K)
  else K5 P ops jn kp mi false false (fun _=>False) (kG P 0 ops) (QB ops (nA (kG P 0 ops)) ops.length (Array.replicate ops.length false)) (Vt (QB ops (nA (kG P 0 ops)) ops.length (Array.replicate ops.length false)).toList) st K)
 else False
theorem QD(hm:P.follows .mixedOrders=true){id}{ops}{jn}{kp}{mi}{st}{K}{β}{a}{w}(h:XK P ops.toList jn kp mi st K)(hR:Rep β st a w):
  (Code.region id ops true).wp P (QR st K) a w:=by
 obtain⟨l⟩:=ops;obtain⟨hz,h⟩:=dw h;obtain⟨s1,h0,e1,gX,Ih,_⟩:=dP h (hR.drew (Only.drewN w 1) rfl);have fin:∀{mb ms:Bool} {S:Nat->Prop} {xC:Array Bool} {gm:Nat},K5 P l jn kp mi mb ms S _ xC gm s1 K->(Code.region id l.toArray true).wp P (QR st K) a w:=fun h=>
  FN _ hm (QC (fun c a w hp=>hp) hz h gX Ih fun β' cE a' w' k1 k2 k3=>⟨β',cE,k1,((Ext.xA st).trans e1).trans k2,k3⟩)
 rcases mC h0 with⟨_,h⟩ | ⟨_,h⟩
 ·have Ii:∀i j bi bj,cV s1.bx i=some bi->cV s1.bx j=some bj->bi.ok=true->bj.ok=true->bi.blk.isSome=true->bj.blk.isSome=true->i≠j->bi.blk.getD 0≠bj.blk.getD 0:=fun i j bi bj h1 h2 h3 h4 h5 h6 h7=>by
   obtain⟨k,hk⟩:=fH.1 h5;obtain⟨m,hm⟩:=fH.1 h6;have e1:=(gX.bx i bi h1 h3).at_ k hk;have e2:=(gX.bx j bj h2 h4).at_ m hm;rw[hk,hm,me,me];have:=gX.ne i j bi bj h1 h2 h3 h4 h7;omega
  obtain⟨S,h1⟩:=DI h (by
   cases ZR P l 0 l with
   | true=>exact Ii
   | false=>exact fun i j bi bj h1=>by cases i<;>cases h1)
  exact fin h1
 ·exact fin h
def V(P:Program):Code->Ann->St->(Exit->St->Prop)->Prop
 | .skip,_,st,K=>K .normal st
 | .label _,_,st,K=>K .normal st
 | .exit id,_,st,K=>K (.exit id) st
 | .ret,_,st,K=>K .ret st
 | .region _ ops draw,an,st,K=>(match an with
  | .l jn kp ms=>bif draw then XK P ops.toList jn kp ms st (K .normal)else False
  | .j kp ms _ _=>eN st fun st=>∃J,F7 _ J (fun vs w=>K .normal (lP st kp ms vs w))/\ZV P ops.toList draw st fun s=>eN s fun s=>NJ st kp ms J s
  | _=>ZV P ops.toList draw st (K .normal))
 | .seq a b,an,st,K=>(match an with
  | .j kp ms x y=>eN st fun st=>∃J,F7 _ J (fun vs w=>V P b y (lP st kp ms vs w) K)/\V P a x st fun e s=>(match e with
   | .normal=>eN s fun s=>NJ st kp ms J s
   | e=>K e s)
  | an=>V P a an.x st fun e s=>(match e with
   | .normal=>V P b an.y s K
   | e=>K e s))
 | .cond c a b,an,st,K=>cd (st.ev c) fun t=>(match t with
  | .bl true=>V P a an.x st K
  | .bl false=>V P b an.y st K
  | .bt t=>((t=true->V P a an.x st K)/\(t=false->V P b an.y st K))
  | _=>False)
 | .block id c,an,st,K=>V P c an st fun e s=>(match e with
  | .exit YC=>bif Nat.beq YC id then K .normal s else K (.exit YC) s
  | e=>K e s)
 | .loop c,an,st,K=>(match an with
  | .j kp ms x _=>eN st fun st=>(fun st=>∃(I:Nat->JT _) (n0:Nat),NJ st kp ms (I n0) st/\∀n,F7 _ (I n) fun vs w=>V P c x (lP st kp ms vs w) fun e s=>(match e with
   | .normal=>eN s fun s=>∃n',n'<n/\NJ st kp ms (I n') s
   | e=>K e s)) (st.esc (zT st ms))
  | _=>False)
 | _,_,_,_=>False
def QK(st:St)(K:Exit->St->Prop):Exit->Act->av->Prop:=fun e a w=>match e with
 | .normal=>∃β cE,K .normal cE/\Ext st cE/\Rep β cE a w
 | .exit id=>∃β cE,K (.exit id) cE/\Ext st cE/\Rep β cE a w
 | .ret=>∃β cE,K .ret cE/\Ext st cE/\Rep β cE a w
 | _=>False
theorem tG{st wN}{K}(hx:Ext st wN):∀e a w,QK wN K e a w->QK st K e a w:=fun e a w h=>by
 cases e<;>first | exact h | (obtain⟨β,cE,h1,h2,h3⟩:=h;exact⟨β,cE,h1,hx.trans h2,h3⟩)
theorem yy(hm:P.follows .mixedOrders=true):∀c {an:Ann} {st:St} {K:Exit->St->Prop} {β:Nat->Nat} {a:Act} {w:av},V P c an st K->Rep β st a w->c.wp P (QK st K) a w
 | .skip,_,st,K,β,a,w,h,hR=>wp_skip ⟨β,st,h,Ext.refl _,hR⟩
 | .label _,_,st,K,β,a,w,h,hR=>wp_label ⟨β,st,h,Ext.refl _,hR⟩
 | .exit _,_,st,K,β,a,w,h,hR=>wp_exit ⟨β,st,h,Ext.refl _,hR⟩
 | .ret,_,st,K,β,a,w,h,hR=>wp_ret ⟨β,st,h,Ext.refl _,hR⟩
 | .region id ops draw,an,st,K,β,a,w,h,hR=>by
  unfold V at h;split at h
  ·cases draw with
   | false=>exact h.elim
   | true=>
    refine wp_mono (QD hm h hR) fun e a' w' hq=>?_;cases e<;>first | exact hq.elim | exact hq
  ·obtain⟨s1,⟨J,hJ,h⟩,e1,gX,_⟩:=dP h hR;refine wp_mono (K7 hm h gX) fun e a' w' hq=>?_;cases e<;>try exact hq.elim
   obtain⟨β',s2,h2,e2,YJ⟩:=hq;obtain⟨s3,h3,e3,hR3,WQ,_⟩:=dP h2 YJ;obtain⟨vs,k1,k2⟩:=rY h3 hR3 WQ (.inl (e2.trans e3)) hJ;exact⟨_,_,k1,e1.trans Ext.S0,k2⟩
  ·refine wp_mono (K7 hm h hR) fun e a' w' hq=>?_;cases e<;>first | exact hq.elim | exact hq
 | .seq x y,an,st,K,β,a,w,h,hR=>by
  unfold V at h;split at h
  ·obtain⟨s1,⟨J,hJ,h⟩,e1,gX,_⟩:=dP h hR;refine wp_seq (wp_mono (yy hm x h gX) fun e a' w' hq=>?_);cases e with
   | normal=>
    obtain⟨β',s2,h2,e2,YJ⟩:=hq;obtain⟨s3,h3,e3,hR3,WQ,_⟩:=dP h2 YJ;obtain⟨vs,k1,k2⟩:=rY h3 hR3 WQ (.inl (e2.trans e3)) hJ;exact wp_mono (yy hm y k1 k2) (tG (e1.trans Ext.S0))
   | exit _=>exact tG e1 _ _ _ hq
   | ret=>exact tG e1 _ _ _ hq
   | _=>exact hq.elim
  ·refine wp_seq (wp_mono (yy hm x h hR) fun e a' w' hq=>?_);cases e with
   | normal=>
    obtain⟨β',s,h1,h2,h3⟩:=hq;exact wp_mono (yy hm y h1 h3) (tG h2)
   | _=>exact hq
 | .cond c x y,an,st,K,β,a,w,h,hR=>by
  obtain⟨t,ht,h⟩:=bB h;have ev:=hR.ev ht;split at h
  ·exact wp_cond_true ev (yy hm x h hR)
  ·exact wp_cond_false ev (yy hm y h hR)
  ·exact wp_cond_split ev (fun e=>yy hm x (h.1 e) hR) (fun e=>yy hm y (h.2 e) hR)
  ·exact h.elim
 | .block id c,an,st,K,β,a,w,h,hR=>by
  refine wp_block (wp_mono (yy hm c h hR) fun e a' w' hq=>?_);cases e with
  | exit YC=>
   obtain⟨β',s,h1,h2,h3⟩:=hq;rcases mC h1 with⟨e,h5⟩ | ⟨e,h5⟩
   ·have:=ca e;subst this;exact Ny ⟨β',s,h5,h2,h3⟩
   ·have ik:¬YC=id:=fun h=>by rw[h]at e;simp at e
    exact IH (by simpa using ik) ⟨β',s,h5,h2,h3⟩
  | normal=>exact hq
  | ret=>exact hq
  | _=>exact hq.elim
 | .loop c,an,st,K,β,a,w,h,hR=>by
  unfold V at h;split at h
  ·rename_i kp ms x _;obtain⟨s0,hh,e0,hR0,Fy,_⟩:=dP h hR;have e1:=e0.trans (Ext.esc s0 (zT s0 ms));have gX:=hR0.esc (zT s0 ms);have Ih:(s0.esc (zT s0 ms)).mv=false:=Fy;generalize s0.esc (zT s0 ms)=s1 at*
   obtain⟨I,n0,h0,h⟩:=hh;refine wp_loop_ghost (fun n a' w'=>∀K,F7 _ (I n) K->∃vs,K vs w'/\Rep _ (lP s1 kp ms vs w') a' w') n0 (fun K hK=>rY h0 gX Ih (.inl (Ext.refl _)) hK) fun n a' w' hI=>?_;obtain⟨vs,k1,k2⟩:=hI _ (h n);refine wp_mono (yy hm c k1 k2) fun e a2 w2 hq=>?_;cases e with
   | normal=>
    obtain⟨β2,s2,h2,e2,YJ⟩:=hq;obtain⟨s3,⟨n',hn,h3⟩,e3,hR3,WQ,_⟩:=dP h2 YJ;exact⟨n',hn,fun K hK=>rY h3 hR3 WQ (.inr ⟨vs,w',e2.trans e3⟩) hK⟩
   | exit _=>exact tG (e1.trans Ext.S0) _ _ _ hq
   | ret=>exact tG (e1.trans Ext.S0) _ _ _ hq
   | _=>exact hq.elim
  ·exact h.elim
 | .rangeFunc _ _ _ _,_,_,_,_,_,_,h,_=>by unfold V at h;exact h.elim
 | .scope _,_,_,_,_,_,_,h,_=>by unfold V at h;exact h.elim
 | .goto _,_,_,_,_,_,_,h,_=>by unfold V at h;exact h.elim
 | .refuse _,_,_,_,_,_,_,h,_=>by unfold V at h;exact h.elim
def I6(P:Program)(st:St):List ResultVar->Option (List SV)
 | []=>some []
 | .tmp t::r=>(match st.get t,I6 P st r with
  | some v,some l=>some (v::l)
  | _,_=>none)
 | .cell p t::r=>(match st.get p,P.underlying t,I6 P st r with
  | some (.box i o),some d,some l=>(match cV st.bx i with
   | some b=>bif b.ok&&sz P t ((b.cells.drop o).take (mZ P t)).length&&(lM d||Nat.beq ((b.cells.drop o).take (mZ P t)).length 1)then some (NC (lM d) ((b.cells.drop o).take (mZ P t))::l)else none
   | none=>none)
  | _,_,_=>none)
def ZW(P:Program)(rs:List ResultVar)(R:aw->av->Prop)(st:St):Prop:=cd (I6 P st rs) fun vs=>eN (st.esc vs) fun st=>bif ia (F2 st.bx) vs then R (val (H9 st.bx) (zR vs)) st.w0 else False
theorem DJ{β}{st}{a}{w}(hR:Rep β st a w):∀{rs:List ResultVar} {vs:List SV},I6 P st rs=some vs->B3 P a w rs (cw β vs)
 | [],vs,h=>by simp[I6]at h;subst h;trivial
 | .tmp t::r,vs,h=>by
  simp[I6]at h;split at h
  ·rename_i v l h1 h2;simp at h;subst h;exact⟨hR.get h1,DJ hR h2⟩
  ·cases h
 | .cell p t::r,vs,h=>by
  simp only[I6]at h;split at h
  ·rename_i i o d l h1 h2 h3;split at h
   ·rename_i b hb;obtain⟨h4,rfl⟩:=Dt h;simp only[aQ,cn]at h4;obtain⟨⟨oe,hsz⟩,jZ⟩:=h4;refine⟨⟨_,hR.get h1,?_⟩,DJ hR h3⟩;generalize hl:(b.cells.drop o).take _=q at*
    have hC:Cells w _ (cw β q):=((hR.bx i b hb oe).blk).EP o _ (by
     rw[<-hl];simp only[cw,mY,qA];rw[cT,pz];simp only[cH,bm];omega)
    have rC:=kl (P:=P) h2 w;cases hd:lM d with
    | true=>
     rw[hd]at rC;have e:=oH hd β q;rw[hd]at e;rw[e];exact Dp rC (oV hsz w) (fh β q) hC
    | false=>
     rw[hd]at rC jZ;obtain⟨s,rfl⟩:=zD (jZ.resolve_left (by simp));exact BB rC (Cells.one hC)
   ·cases h
  ·cases h
def Vu:Nat->List SV->List (Nat×Nat×SV)
 | _,[]=>[]
 | i,s::r=>(i,0,s)::Vu (i+1) r
theorem DK β:∀i l,cv β (Vu i l)=Dr i (cw β l)
 | _,[]=>rfl
 | i,s::r=>by
  have:=DK β (i+1) r;simp[cv]at this;simp[Vu,cv,cw,Dr,this]
def st0(fn:Func)(args:List SV)(w:av):St:={n:=fn.ntmps,fr:=Vu 0 args,bx:=[],w0:=w,mv:=false,dt:=[],ct:=1,df:=[]}
def kx(P:Program)(f:FuncId)(args:Array aw)(w:av)(Q:aw->av->Prop):Prop:=CallsD P f args .returning w fun e u w'=>u=.returning/\∃v,e=.returned v/\Q v w'
def I7(P:Program)(R:aw->av->Prop):List (Nat×List aw×List aw)->av->Prop
 | [],w=>R (.tuple #[]) w
 | d::ds,w=>bif Qc P d.1 then kx P d.1 (d.2.1++d.2.2).toArray w fun _ w'=>I7 P R ds w' else False
def akT:List ResultVar->Bool
 | []=>true
 | _=>false
def Vv(P:Program)(rs:List ResultVar)(R:aw->av->Prop)(st:St):Prop:=match st.df with
 | []=>ZW P rs R st
 | _::_=>bif akT rs then eN st fun st=>I7 P R st.df st.w0 else False
def Vw(P:Program)(rs:List ResultVar)(R:aw->av->Prop)(st:St):Prop:=match st.df with
 | []=>ZW P rs R st
 | _::_=>False
def Vfn(P:Program)(f:FuncId)(an:Ann)(args:List SV)(R:aw->av->Prop)(w:av):Prop:=cd (P.funcs[f]?) fun fn=>cd fn.body fun c=>
 bif Nat.ble args.length fn.ntmps then V P c an (st0 fn args w) fun e st=>(match e with
  | .normal=>Vv P fn.results.toList R st
  | .ret=>Vv P fn.results.toList R st
  | _=>False)else False
def Vfd(P:Program)(f:FuncId)(an:Ann)(args:List SV)(R:aw->av->Prop)(w:av):Prop:=cd (P.funcs[f]?) fun fn=>cd fn.body fun c=>
 bif Nat.ble args.length fn.ntmps then V P c an (st0 fn args w) fun e st=>(match e with
  | .normal=>Vw P fn.results.toList R st
  | .ret=>Vw P fn.results.toList R st
  | _=>False)else False
theorem K8{β}{st}{a}{w}{fn}{R}(h:ZW P fn.results.toList R st)(hR:Rep β st a w):∃v,(results fn a.tmps).run P w=.ok v w/\R v w:=by
 obtain⟨vs,hv,h⟩:=bB h;obtain⟨s1,h1,e1,gX,hm,_⟩:=dP h (hR.esc vs);obtain⟨hc,h1⟩:=dw h1;have ho:=DJ hR hv;rw[gX.agz (vO hc),<-gX.still hm]at h1;refine⟨_,?_,h1⟩;have hrs:fn.results=fn.results.toList.toArray:=rfl
 match vs,ho,hc with
 | [s],ho,hc=>exact Zs hrs ho
 | [],ho,hc=>
  have e:val β (zR [])=.tuple (cw β []).toArray:=rfl;exact II hrs rfl ho
 | s::t::r,ho,hc=>
  have e:val β (zR (s::t::r))=.tuple (cw β (s::t::r)).toArray:=by
   show Value.tuple (pC β _).toArray=_;rw[qF]
  rw[e];exact II hrs (rfl) ho
theorem QE args {n} (hk:args.length<=n):(⟨args.toArray++Array.replicate (n-args.toArray.size) undef,[]⟩)=fr n (fun _=>undef) (Dr 0 args):=by
 congr 1;apply O3.1;rw[Array.toList_append,Array.toList_replicate,kQ];apply jp;intro i;by_cases hi:i<n
 ·rw[iq,mg _ _ _ _ _ hi,bO,B6]
  grind
 ·rw[dH (by simp;omega),dH (by rw[ny];omega)]
theorem Ca{fn}{tmps}{R}(hr:fn.results.toList=[]):∀{l:List _} {w:av},I7 P R l w->Leaves P fn tmps (fun e w'=>∃v,e=.returned v/\R v w') (Xw l) .returning w
 | [],w,h=>by
  have hrs:fn.results=([]).toArray:=by rw[<-hr]
  exact⟨_,II (a:=⟨tmps,[]⟩) (rs:=[]) (vs:=[]) hrs rfl trivial,_,rfl,h⟩
 | d::ds,w,h=>by
  obtain⟨h0,h⟩:=dw h;refine leaves_cons (fun h=>by cases h) (f:=d.1) (args:=(d.2.1++d.2.2).toArray) ?_ (h.mono ?_)
  ·have:=fu h0 (d.2.1++d.2.2).toArray w;rw[<-List.append_toArray]at this⊢;exact this
  ·rintro e u w' ⟨rfl,v,rfl,h⟩;exact Ca hr h
theorem Gk{β}{st}{a}{w}{fn}{R}(h:Vv P fn.results.toList R st)(hR:Rep β st a w):Leaves P fn a.tmps (fun e w'=>∃v,e=.returned v/\R v w') a.defers .returning w:=by
 rw[hR.ok.df];unfold Vv at h;split at h
 ·rename_i hd;rw[hd];obtain⟨v,k1,k2⟩:=K8 h hR;exact⟨v,k1,v,rfl,k2⟩
 ·obtain⟨h0,h⟩:=dw h;obtain⟨s1,h1,e1,gX,hm,_⟩:=dP h hR;have hr:fn.results.toList=[]:=by
   cases hc:fn.results.toList with
   | nil=>rfl
   | cons _ _=>rw[hc]at h0;cases h0
  have hdf:s1.df=st.df:=by
   obtain⟨l,hl⟩:=e1.df;have h5:=bI List.length (gX.ok.df.symm.trans hR.ok.df);rw[Xw,Xw,bm,bm,hl,aP]at h5
   grind
  rw[<-gX.still hm]at h1;rw[<-hdf];exact Ca hr h1
theorem aeM(hm:P.follows .mixedOrders=true){f}{an}{args}{R}{w}(h:Vfn P f an args R w):Calls P f (cw β0 args).toArray w fun e w'=>∃v,e=.returned v/\R v w':=by
 obtain⟨fn,hf,h⟩:=bB h;obtain⟨c,hb,h⟩:=bB h;obtain⟨hn,h⟩:=dw h;have hR:Rep β0 (st0 fn args w) (fr fn.ntmps _ (Dr 0 _)) w:=
  ⟨⟨fun _=>undef,by rw[<-DK];rfl⟩,fun i b hb=>(by cases hb),fun i j bi bj hb=>(by cases hb),Only.refl _ _,fun _=>rfl⟩
 refine calls_of_wp_defers hf hb ?_;rw[QE _ (by rw[fh];exact cy hn)];refine wp_mono (yy hm c h hR) fun e a' w' hq=>?_;cases e with
 | normal=>
  obtain⟨β',s,h1,h2,h3⟩:=hq;exact Gk h1 h3
 | ret=>
  obtain⟨β',s,h1,h2,h3⟩:=hq;exact Gk h1 h3
 | exit _=>
  obtain⟨β',s,h1,_⟩:=hq;exact h1.elim
 | _=>exact hq.elim
theorem aeN(hm:P.follows .mixedOrders=true){f}{an}{args}{R}{w}(h:Vfd P f an args R w):kx P f (cw β0 args).toArray w R:=by
 obtain⟨fn,hf,h⟩:=bB h;obtain⟨c,hb,h⟩:=bB h;obtain⟨hn,h⟩:=dw h;have hR:Rep β0 (st0 fn args w) (fr fn.ntmps _ (Dr 0 _)) w:=
  ⟨⟨fun _=>undef,by rw[<-DK];rfl⟩,fun i b hb=>(by cases hb),fun i j bi bj hb=>(by cases hb),Only.refl _ _,fun _=>rfl⟩
 refine(callsD_of_wp (R:=fun e w'=>∃v,e=.returned v/\R v w') hf hb ?_).mono (fun e u w' h=>h);rw[QE _ (by rw[fh];exact cy hn)];refine wp_mono (yy hm c h hR) fun e a' w' hq=>?_;have fin:∀{β':Nat->Nat} {s:St},Vw P fn.results.toList R s->Rep β' s a' w'->_/\a'.defers=[]:=fun{β' s} h hR=>by
  unfold Vw at h;split at h
  ·rename_i hd;exact⟨K8 h hR,by rw[hR.ok.df,hd];rfl⟩
  ·exact h.elim
 cases e with
 | normal=>
  obtain⟨β',s,h1,h2,h3⟩:=hq;obtain⟨⟨v,k1,k2⟩,k3⟩:=fin h1 h3;exact IJ k1 k3 k2
 | ret=>
  obtain⟨β',s,h1,h2,h3⟩:=hq;obtain⟨⟨v,k1,k2⟩,k3⟩:=fin h1 h3;exact U4 k1 k3 k2
 | exit _=>
  obtain⟨β',s,h1,_⟩:=hq;exact h1.elim
 | _=>exact hq.elim
theorem aeO{f}{an}{args}{R}{w}{vs}{vc}(hm:P.follows .mixedOrders=true)(hv:vs=(cw β0 args).toArray)(he:vc=Vfn P f an args R w)(h:vc):Calls P f vs w fun e w'=>∃v,e=.returned v/\R v w':=by
 subst he hv;exact aeM hm h
theorem aeP{f}{an}{args}{R}{w}{vs}{vc}(hm:P.follows .mixedOrders=true)(hv:vs=(cw β0 args).toArray)(he:vc=Vfd P f an args R w)(h:vc):kx P f vs w R:=by
 subst he hv;exact aeN hm h
end
end Go.Kt.V
namespace Go.Proofs.YtbkjcdocjfknfaaGreatDoor.Vc
open Go.Value renaming int->O,string->ab,pointer->ae,agg->ah,tuple->ai,bool->aj
open Go.IntKind renaming i64->U,wrap->ar
open Go.Ending renaming returned->ak
open _root_.ByteArray renaming mk->ao
open _root_.Go.Proofs.Tryz renaming prog->aq
open Go.Instr renaming buildSlice->au
open Go renaming World->av,Value->aw,Calls->az
open Go.Kt renaming Only->ay,SliceF->aA,Cells->aB,OnlyP->aD,Blk->aF
open Go Go.RowKit Go.Kt Go.Kt.V
set_option linter.unusedVariables false
abbrev cK(c:Bool)(x y:Prop):Prop:=(c=true->x)/\(c=false->y)
abbrev cB(f:FuncId)(a:Array aw)(w:av)(K:Bool->av->Prop):Prop:=az aq f a w fun e w'=>∃x,e=ak (aj x)/\K x w'
abbrev pu(s:List Nat)(f:FuncId)(a:Array aw)(w:av)(K:Bool->av->Prop):Prop:=az aq f a w fun e w'=>∃x,e=ak (aj x)/\bU s w w'/\K x w'
abbrev cI(f:FuncId)(a:Array aw)(w:av)(K:Int->av->Prop):Prop:=az aq f a w fun e w'=>∃x,e=ak (O U x)/\K x w'
abbrev pK(s:List Nat)(f:FuncId)(a:Array aw)(w:av)(K:Int->av->Prop):Prop:=az aq f a w fun e w'=>∃x,e=ak (O U x)/\bU s w w'/\K x w'
abbrev cS(f:FuncId)(a:Array aw)(w:av)(K:aK->av->Prop):Prop:=az aq f a w fun e w'=>∃x,e=ak (ab x)/\K x w'
abbrev rF(s:List Nat)(f:FuncId)(a:Array aw)(w:av)(K:aK->av->Prop):Prop:=az aq f a w fun e w'=>∃x,e=ak (ab x)/\bU s w w'/\K x w'
abbrev cL(f:FuncId)(a:Array aw)(w:av)(K:Sl->av->Prop):Prop:=az aq f a w fun e w'=>∃x,e=ak (x.v)/\K x w'
abbrev BJ(s:List Nat)(f:FuncId)(a:Array aw)(w:av)(K:Sl->av->Prop):Prop:=az aq f a w fun e w'=>∃x,e=ak (x.v)/\bU s w w'/\K x w'
abbrev cU(f:FuncId)(a:Array aw)(w:av)(K:av->Prop):Prop:=az aq f a w fun e w'=>e=ak (ai #[])/\K w'
abbrev gJ(s:List Nat)(f:FuncId)(a:Array aw)(w:av)(K:av->Prop):Prop:=az aq f a w fun e w'=>e=ak (ai #[])/\bU s w w'/\K w'
abbrev fg(x:Sem aw)(w:av)(K:Sl->av->Prop):Prop:=∃l w',x.run aq w=.ok (Sl.v l) w'/\K l w'
abbrev nx(k:Nat)(K:aJ):Prop:=∃n,n<k/\K n
abbrev nw(w:av)(K:Nat->av->Prop):Prop:=∀k w',w.heap.size<=k->k<w'.heap.size->ay [] w w'->K k w'
abbrev lp0(w:av)(B:(Nat->av->Prop)->Nat->av->Prop):Prop:=∃J k,J k w/\∀k w,J k w->B J k w
abbrev sf{α:Type}(x:α)(w:av)(B:(Nat->α->av->Prop)->Nat->α->av->Prop):Prop:=∃J k,J k x w/\∀k x w,J k x w->B J k x w
abbrev QF{α β:Type}(x:α)(y:β)(w:av)(B:(Nat->α->β->av->Prop)->Nat->α->β->av->Prop):Prop:=∃J k,J k x y w/\∀k x y w,J k x y w->B J k x y w
abbrev K9(X:av->Prop)(Y:(av->Prop)->Prop):Prop:=∃J,(∀w,J w->X w)/\Y J
abbrev rG{α:Type}(X:α->av->Prop)(Y:(α->av->Prop)->Prop):Prop:=∃J,(∀x w,J x w->X x w)/\Y J
abbrev jn2{α β:Type}(X:α->β->av->Prop)(Y:(α->β->av->Prop)->Prop):Prop:=∃J,(∀x y w,J x y w->X x y w)/\Y J
abbrev jn3{α β γ:Type}(X:α->β->γ->av->Prop)(Y:(α->β->γ->av->Prop)->Prop):Prop:=∃J,(∀x y z w,J x y z w->X x y z w)/\Y J
abbrev xCB(w:av)(p:Addr)(K:Bool->Prop):Prop:=∃x0,aB w p [aj x0]/\K x0
abbrev iT(w:av)(p:Addr)(K:Int->Prop):Prop:=∃x0,aB w p [O U x0]/\K x0
abbrev NM(w:av)(p:Addr)(K:Int->Int->Int->aK->Int->Sl->Int->Prop):Prop:=∃x0 x1 x2 x3 x4 x5 x6,aB w p [O U x0,O U x1,O U x2,ab x3,O U x4,x5.v,O U x6]/\K x0 x1 x2 x3 x4 x5 x6
abbrev pL(w:av)(p:Addr)(K:Int->Int->aK->Int->Sl->Int->Prop):Prop:=∃x0 x1 x2 x3 x4 x5,aB w p [O U x0,O U x1,ab x2,O U x3,x4.v,O U x5]/\K x0 x1 x2 x3 x4 x5
abbrev QG(w:av)(p:Addr)(K:Int->aK->Int->Int->Prop):Prop:=∃x0 x1 x2 x3,aB w p [O U x0,ab x1,O U x2,O U x3]/\K x0 x1 x2 x3
abbrev iz(w:av)(p:Addr)(K:Sl->Prop):Prop:=∃x0,aB w p [x0.v]/\K x0
abbrev ZX(w:av)(p:Addr)(K:Sl->Sl->Sl->Sl->Prop):Prop:=∃x0 x1 x2 x3,aB w p [x0.v,x1.v,x2.v,x3.v]/\K x0 x1 x2 x3
abbrev xCM(w:av)(p:Addr)(K:Option Nat->Prop):Prop:=∃x0,aB w p [.map x0]/\K x0
abbrev ZY(w:av)(p:Addr)(K:Option Addr->Prop):Prop:=∃x0,aB w p [ae x0]/\K x0
abbrev Vx(w:av)(p:Addr)(K:aK->Prop):Prop:=∃x0,aB w p [ab x0]/\K x0
abbrev xCV(w:av)(p:Addr)(K:OV->Prop):Prop:=∃x0,aB w p [x0.v]/\K x0
abbrev xKB(w:av)(b n:Nat)(K:Bool->Prop):Prop:=∃x0,aF w b n [aj x0]/\K x0
abbrev ZZ(w:av)(b n:Nat)(K:Bool->Bool->Bool->Bool->Prop):Prop:=∃x0 x1 x2 x3,aF w b n [aj x0,aj x1,aj x2,aj x3]/\K x0 x1 x2 x3
abbrev xKI(w:av)(b n:Nat)(K:Int->Prop):Prop:=∃x0,aF w b n [O U x0]/\K x0
abbrev NN(w:av)(b n:Nat)(K:Int->Int->Int->aK->Int->Sl->Int->Prop):Prop:=∃x0 x1 x2 x3 x4 x5 x6,aF w b n [O U x0,O U x1,O U x2,ab x3,O U x4,x5.v,O U x6]/\K x0 x1 x2 x3 x4 x5 x6
abbrev Gl(w:av)(b n:Nat)(K:Int->aK->aK->aK->Sl->Sl->Sl->Sl->Int->Prop):Prop:=∃x0 x1 x2 x3 x4 x5 x6 x7 x8,aF w b n [O U x0,ab x1,ab x2,ab x3,x4.v,x5.v,x6.v,x7.v,O U x8]/\K x0 x1 x2 x3 x4 x5 x6 x7 x8
abbrev Ue(w:av)(b n:Nat)(K:Sl->Prop):Prop:=∃x0,aF w b n [x0.v]/\K x0
abbrev ig(w:av)(b n:Nat)(K:Sl->Int->Int->Int->Int->Int->Int->Int->Int->Prop):Prop:=∃x0 x1 x2 x3 x4 x5 x6 x7 x8,aF w b n [x0.v,O U x1,O U x2,O U x3,O U x4,O U x5,O U x6,O U x7,O U x8]/\K x0 x1 x2 x3 x4 x5 x6 x7 x8
abbrev Gm(w:av)(b n:Nat)(K:Sl->Int->Int->Int->Int->Sl->Prop):Prop:=∃x0 x1 x2 x3 x4 x5,aF w b n [x0.v,O U x1,O U x2,O U x3,O U x4,x5.v]/\K x0 x1 x2 x3 x4 x5
abbrev nC(w:av)(b n:Nat)(K:Sl->Int->aK->aK->aK->Sl->Sl->Sl->Sl->Int->Prop):Prop:=∃x0 x1 x2 x3 x4 x5 x6 x7 x8 x9,aF w b n [x0.v,O U x1,ab x2,ab x3,ab x4,x5.v,x6.v,x7.v,x8.v,O U x9]/\K x0 x1 x2 x3 x4 x5 x6 x7 x8 x9
abbrev akU(w:av)(b n:Nat)(K:Sl->Sl->Prop):Prop:=∃x0 x1,aF w b n [x0.v,x1.v]/\K x0 x1
abbrev zY(w:av)(b n:Nat)(K:Sl->Sl->Sl->Sl->Prop):Prop:=∃x0 x1 x2 x3,aF w b n [x0.v,x1.v,x2.v,x3.v]/\K x0 x1 x2 x3
abbrev sA(w:av)(b n:Nat)(K:Sl->Sl->Sl->Sl->Sl->Sl->Prop):Prop:=∃x0 x1 x2 x3 x4 x5,aF w b n [x0.v,x1.v,x2.v,x3.v,x4.v,x5.v]/\K x0 x1 x2 x3 x4 x5
abbrev Gn(w:av)(b n:Nat)(K:Sl->Sl->Sl->Sl->Sl->Sl->Sl->Sl->Sl->Prop):Prop:=∃x0 x1 x2 x3 x4 x5 x6 x7 x8,aF w b n [x0.v,x1.v,x2.v,x3.v,x4.v,x5.v,x6.v,x7.v,x8.v]/\K x0 x1 x2 x3 x4 x5 x6 x7 x8
abbrev DL(w:av)(b n:Nat)(K:Option Nat->Sl->Option Nat->Int->Int->Prop):Prop:=∃x0 x1 x2 x3 x4,aF w b n [.map x0,x1.v,.map x2,O U x3,O U x4]/\K x0 x1 x2 x3 x4
abbrev xKQ(w:av)(b n:Nat)(K:Option Addr->Prop):Prop:=∃x0,aF w b n [ae x0]/\K x0
abbrev lR(w:av)(b n:Nat)(K:Option Addr->Sl->Bool->Int->Prop):Prop:=∃x0 x1 x2 x3,aF w b n [ae x0,x1.v,aj x2,O U x3]/\K x0 x1 x2 x3
abbrev Lb(w:av)(b n:Nat)(K:Option Addr->Sl->Sl->Prop):Prop:=∃x0 x1 x2,aF w b n [ae x0,x1.v,x2.v]/\K x0 x1 x2
abbrev xKS(w:av)(b n:Nat)(K:aK->Prop):Prop:=∃x0,aF w b n [ab x0]/\K x0
abbrev Z0(w:av)(b n:Nat)(K:aK->Int->Prop):Prop:=∃x0 x1,aF w b n [ab x0,O U x1]/\K x0 x1
abbrev zZ(w:av)(b n:Nat)(K:aK->Int->Sl->Sl->Prop):Prop:=∃x0 x1 x2 x3,aF w b n [ab x0,O U x1,x2.v,x3.v]/\K x0 x1 x2 x3
abbrev xKV(w:av)(b n:Nat)(K:OV->Prop):Prop:=∃x0,aF w b n [x0.v]/\K x0
abbrev xYB(s:Sl)(i:Int)(w:av)(K:Bool->Prop):Prop:=∃p,cW s i 1 p/\∃x0,aB w p [aj x0]/\K x0
abbrev yz(s:Sl)(i:Int)(w:av)(K:Int->Prop):Prop:=∃p,cW s i 1 p/\∃x0,aB w p [O U x0]/\K x0
abbrev Cf(s:Sl)(i:Int)(w:av)(K:Int->Int->Int->aK->Int->Sl->Int->Prop):Prop:=∃p,cW s i 7 p/\∃x0 x1 x2 x3 x4 x5 x6,aB w p [O U x0,O U x1,O U x2,ab x3,O U x4,x5.v,O U x6]/\K x0 x1 x2 x3 x4 x5 x6
abbrev mE(s:Sl)(i:Int)(w:av)(K:Int->Int->aK->Int->Sl->Int->Prop):Prop:=∃p,cW s i 6 p/\∃x0 x1 x2 x3 x4 x5,aB w p [O U x0,O U x1,ab x2,O U x3,x4.v,O U x5]/\K x0 x1 x2 x3 x4 x5
abbrev akW(s:Sl)(i:Int)(w:av)(K:Int->Sl->Prop):Prop:=∃p,cW s i 2 p/\∃x0 x1,aB w p [O U x0,x1.v]/\K x0 x1
abbrev kr(s:Sl)(i:Int)(w:av)(K:Int->aK->Int->Bool->Int->Int->aK->Int->Sl->Int->Sl->Sl->Int->Prop):Prop:=∃p,cW s i 13 p/\∃x0 x1 x2 x3 x4 x5 x6 x7 x8 x9 x10 x11 x12,aB w p [O U x0,ab x1,O U x2,aj x3,O U x4,O U x5,ab x6,O U x7,x8.v,O U x9,x10.v,x11.v,O U x12]/\K x0 x1 x2 x3 x4 x5 x6 x7 x8 x9 x10 x11 x12
abbrev QH(s:Sl)(i:Int)(w:av)(K:Int->aK->Int->Int->Prop):Prop:=∃p,cW s i 4 p/\∃x0 x1 x2 x3,aB w p [O U x0,ab x1,O U x2,O U x3]/\K x0 x1 x2 x3
abbrev Lc(s:Sl)(i:Int)(w:av)(K:Int->aK->Int->Int->Int->Prop):Prop:=∃p,cW s i 5 p/\∃x0 x1 x2 x3 x4,aB w p [O U x0,ab x1,O U x2,O U x3,O U x4]/\K x0 x1 x2 x3 x4
abbrev xR(s:Sl)(i:Int)(w:av)(K:Int->aK->Int->Int->aK->Int->Sl->Int->Int->Prop):Prop:=∃p,cW s i 9 p/\∃x0 x1 x2 x3 x4 x5 x6 x7 x8,aB w p [O U x0,ab x1,O U x2,O U x3,ab x4,O U x5,x6.v,O U x7,O U x8]/\K x0 x1 x2 x3 x4 x5 x6 x7 x8
abbrev iU(s:Sl)(i:Int)(w:av)(K:Int->aK->aK->aK->Sl->Sl->Sl->Sl->Int->Prop):Prop:=∃p,cW s i 9 p/\∃x0 x1 x2 x3 x4 x5 x6 x7 x8,aB w p [O U x0,ab x1,ab x2,ab x3,x4.v,x5.v,x6.v,x7.v,O U x8]/\K x0 x1 x2 x3 x4 x5 x6 x7 x8
abbrev xYL(s:Sl)(i:Int)(w:av)(K:Sl->Prop):Prop:=∃p,cW s i 1 p/\∃x0,aB w p [x0.v]/\K x0
abbrev Pa(s:Sl)(i:Int)(w:av)(K:aK->Prop):Prop:=∃p,cW s i 1 p/\∃x0,aB w p [ab x0]/\K x0
abbrev QI(s:Sl)(i:Int)(w:av)(K:aK->Int->Int->Prop):Prop:=∃p,cW s i 3 p/\∃x0 x1 x2,aB w p [ab x0,O U x1,O U x2]/\K x0 x1 x2
end Go.Proofs.YtbkjcdocjfknfaaGreatDoor.Vc
