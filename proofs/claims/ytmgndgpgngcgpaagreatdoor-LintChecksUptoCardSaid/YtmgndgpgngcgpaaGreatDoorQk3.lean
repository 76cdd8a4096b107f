import Derived.Test.YtmgndgpgngcgpaaGreatDoorQk2
set_option linter.unusedSectionVars false
set_option linter.unusedSimpArgs false
set_option linter.unusedVariables false
namespace Go.Kt.V
open Go renaming World->av,Value->aw
open Go Go.RowKit Go.Kt
inductive Ann where
 | o
 | s (x y:Ann)
 | j (kp:List Nat) (ms:List MI) (x y:Ann)
 | l (jn:Bool) (kp:List Nat) (ms:List MI)
def Ann.x:Ann->Ann
 | .s x _=>x
 | _=>.o
def Ann.y:Ann->Ann
 | .s _ y=>y
 | _=>.o
def Ann.d:Nat->Ann->Ann
 | 0,x=>x
 | n+1,x=>.s .o (d n x)
def fh:Nat:=4000
def neP(k:Nat):List li->Prop->Prop
 | [],p=>p
 | b::r,p=>bif b.ok&&b.blk.isSome then(k≠b.blk.getD 0->neP k r p)else neP k r p
def Jd:List li->Prop->Prop
 | [],p=>p
 | b::r,p=>bif b.ok&&b.blk.isSome then neP (b.blk.getD 0) r (Jd r p)else Jd r p
theorem Je{k}:∀{l:List li} {p:Prop},neP k l p->(∀i b,cZ l i=some b->b.ok=true->b.blk.isSome=true->k≠b.blk.getD 0)->p
 | [],_,h,_=>h
 | b::r,p,h,hb=>by
  unfold neP at h;cases hc:(b.ok&&b.blk.isSome)with
  | true=>
   rw[hc]at h;simp at hc;exact Je (h (hb 0 b rfl hc.1 hc.2)) λi c hi=>hb (i+1) c hi
  | false=>
   rw[hc]at h;exact Je h λi c hi=>hb (i+1) c hi
theorem Eu:∀{l:List li} {p:Prop},Jd l p->(∀i j bi bj,cZ l i=some bi->cZ l j=some bj->bi.ok=true->bj.ok=true->bi.blk.isSome=true->bj.blk.isSome=true->i≠j->bi.blk.getD 0≠bj.blk.getD 0)->p
 | [],_,h,_=>h
 | b::r,p,h,hb=>by
  unfold Jd at h;have tl:∀{p:Prop},Jd r p->p:=λh=>Eu h λi j bi bj h1 h2 h3 h4 h5 h6 h7=>hb (i+1) (j+1) bi bj h1 h2 h3 h4 h5 h6 aE;cases hc:(b.ok&&b.blk.isSome)with
  | true=>
   rw[hc]at h;simp at hc;exact tl (Je h λi c hi h1 h2=>hb 0 (i+1) b c rfl hi hc.1 h1 hc.2 h2 aE)
  | false=>
   rw[hc]at h;exact tl h
def ZI(P:Program)(ops:List Oper)(draw:Bool)(st:St)(K:St->Prop):Prop:=
 bif draw then
  bif Ep P ops&&Region.lexB .any ops.toArray then Zz (I9 ops) st λst=>yd P ops fh [] ops st λst=>K {st with mv:=true}
  else bif mbN P ops 0 ops then fe {st with mv:=true} λst=>Jd (bif ZE P ops 0 ops then st.bx else[]) (∃S,GJ P ops true (ZE P ops 0 ops) S ops.length (Array.replicate ops.length false) st K)
  else GJ P ops false false (λ_=>False) ops.length (Array.replicate ops.length false) {st with mv:=true} K
 else zD P ops fh ops st K
def QR(st:St)(K:St->Prop):Exit->Act->av->Prop:=λe a w=>match e with
 | .normal=>∃β cO,K cO/\Ext st cO/\Rep β cO a w
 | _=>False
theorem Ext.mv s:Ext s {s with mv:=true}:=⟨rfl,aY _,λ_ _ _ h _=>h,λi b h ho _=>⟨b,h,ho,rfl,rfl,rfl,λ_ h=>h⟩,PV,FX⟩
theorem Rep.drew{β}{s}{a}{w w'}(h:Rep β s a w)(hO:Only [] w w')(hh:w'.heap=w.heap):Rep β {s with mv:=true} a w':=
 ⟨h.fr,λi b hb ho=>by
  obtain⟨k1,k2,k3⟩:=h.bx i b hb ho;exact⟨by unfold Blk at k1⊢;rw[hh];exact k1,k2,k3⟩,h.ne,h.only.ca hO,λh=>aaQ⟩
section
variable {P:Program}
theorem Lh(hm:P.follows .mixedOrders=true){id}{ops}{draw}{st}{K}{β}{a}{w}(h:ZI P ops.toList draw st K)(hR:Rep β st a w):
  (Code.region id ops draw).wp P (QR st K) a w:=by
 obtain⟨l⟩:=ops;rcases nU h with⟨hd,hx⟩ | ⟨hd,hx⟩<;>clear h<;>have h:=hx
 ·subst hd;have Yw:=hR.drew (Only.drewN w 1) rfl;have fin:∀{mb ms:Bool} {S:Nat->Prop} {s1:St},Ext st s1->Rep β s1 a w.drew->GJ P l mb ms S l.length _ s1 K->(Code.region id l.toArray true).wp P (QR st K) a w:=λe1 iK h=>
   Gl _ hm (tJ (λc a w hp=>hp) h iK λβ' cO a' w' k1 k2 k3=>⟨β',cO,k1,e1.trans k2,k3⟩)
  rcases nU h with⟨h0,h⟩ | ⟨_,h⟩
  ·simp at h0;obtain⟨s,h1,h2,h3,_⟩:=yh h hR;obtain⟨s2,k1,k2,k3,k4⟩:=rM h1;obtain⟨a',g1,g2⟩:=k4 trivial β a w h3;refine wp_region_quiet_lit hm h0.2 ?_;have:=I5 (Q:=λa'=>∀w',(∃n,w'=w.drewN n)->QR st K .normal a' w') (rest:=[]) g1 (wpQuiet_nil (by
    rintro w' ⟨n,rfl⟩;exact⟨β,_,k1,(h2.trans k2).trans (Ext.mv _),g2.drew (Only.drewN w n) rfl⟩))
   simp_all
  rcases nU h with⟨_,h⟩ | ⟨_,h⟩
  ·obtain⟨s1,h0,e1,iK,_⟩:=dW h Yw;have hap:∀i j bi bj,cZ s1.bx i=some bi->cZ s1.bx j=some bj->bi.ok=true->bj.ok=true->bi.blk.isSome=true->bj.blk.isSome=true->i≠j->bi.blk.getD 0≠bj.blk.getD 0:=λi j bi bj h1 h2 h3 h4 h5 h6 h7=>by
    obtain⟨k,hk⟩:=fY.1 h5;obtain⟨m,hm⟩:=fY.1 h6;have e1:=(iK.bx i bi h1 h3).at_ k hk;have e2:=(iK.bx j bj h2 h4).at_ m hm;rw[hk,hm,iw,iw];have:=iK.ne i j bi bj h1 h2 h3 h4 h7;omega
   obtain⟨S,h1⟩:=Eu h0 (by
    cases ZE P l 0 l with
    | true=>exact hap
    | false=>exact λi j bi bj h1=>by cases i<;>cases h1)
   exact fin ((Ext.mv st).trans e1) iK h1
  exact fin (Ext.mv st) Yw h
 subst hd;refine wp_region_lit (uL h hR λβ' cO a' w' k1 k2 k3=>⟨β',cO,k1,k2,k3⟩)
def Xv(P:Program)(ops:List Oper)(jn:Bool)(kp:List Nat)(mi:List MI)(st:St)(K:St->Prop):Prop:=
 bif zOk ops (lO P 0 ops)then fe st.yM λst=>
  (bif mbN P ops 0 ops then Jd (bif ZE P ops 0 ops then st.bx else[]) (∃S,Ld P ops jn kp mi true (ZE P ops 0 ops) S (lO P 0 ops) (Qs ops (oI (lO P 0 ops)) ops.length (Array.replicate ops.length false)) (Vg (Qs ops (oI (lO P 0 ops)) ops.length (Array.replicate ops.length false)).toList) st K)
  else Ld P ops jn kp mi false false (λ_=>False) (lO P 0 ops) (Qs ops (oI (lO P 0 ops)) ops.length (Array.replicate ops.length false)) (Vg (Qs ops (oI (lO P 0 ops)) ops.length (Array.replicate ops.length false)).toList) st K)
 else False
theorem Qu(hm:P.follows .mixedOrders=true){id}{ops}{jn}{kp}{mi}{st}{K}{β}{a}{w}(h:Xv P ops.toList jn kp mi st K)(hR:Rep β st a w):
  (Code.region id ops true).wp P (QR st K) a w:=by
 obtain⟨l⟩:=ops;obtain⟨hz,h⟩:=dB h;obtain⟨s1,h0,e1,iK,zM,_⟩:=dW h (hR.drew (Only.drewN w 1) rfl);have fin:∀{mb ms:Bool} {S:Nat->Prop} {yO:Array Bool} {gm:Nat},Ld P l jn kp mi mb ms S _ yO gm s1 K->(Code.region id l.toArray true).wp P (QR st K) a w:=λh=>
  Gl _ hm (Qt (λc a w hp=>hp) hz h iK zM λβ' cO a' w' k1 k2 k3=>⟨β',cO,k1,((Ext.yM st).trans e1).trans k2,k3⟩)
 rcases nU h0 with⟨_,h⟩ | ⟨_,h⟩
 ·have hap:∀i j bi bj,cZ s1.bx i=some bi->cZ s1.bx j=some bj->bi.ok=true->bj.ok=true->bi.blk.isSome=true->bj.blk.isSome=true->i≠j->bi.blk.getD 0≠bj.blk.getD 0:=λi j bi bj h1 h2 h3 h4 h5 h6 h7=>by
   obtain⟨k,hk⟩:=fY.1 h5;obtain⟨m,hm⟩:=fY.1 h6;have e1:=(iK.bx i bi h1 h3).at_ k hk;have e2:=(iK.bx j bj h2 h4).at_ m hm;rw[hk,hm,iw,iw];have:=iK.ne i j bi bj h1 h2 h3 h4 h7;omega
  obtain⟨S,h1⟩:=Eu h (by
   cases ZE P l 0 l with
   | true=>exact hap
   | false=>exact λi j bi bj h1=>by cases i<;>cases h1)
  exact fin h1
 exact fin h
def V(P:Program):Code->Ann->St->(Exit->St->Prop)->Prop
 | .skip,_,st,K=>K .normal st
 | .label _,_,st,K=>K .normal st
 | .exit id,_,st,K=>K (.exit id) st
 | .ret,_,st,K=>K .ret st
 | .region _ ops draw,an,st,K=>(match an with
  | .l jn kp ms=>bif draw then Xv P ops.toList jn kp ms st (K .normal)else False
  | .j kp ms _ _=>fe st λst=>∃J,GH _ J (λvs w=>K .normal (mS st kp ms vs w))/\ZI P ops.toList draw st λs=>fe s λs=>NK st kp ms J s
  | _=>ZI P ops.toList draw st (K .normal))
 | .seq a b,an,st,K=>(match an with
  | .j kp ms x y=>fe st λst=>∃J,GH _ J (λvs w=>V P b y (mS st kp ms vs w) K)/\V P a x st λe s=>(match e with
   | .normal=>fe s λs=>NK st kp ms J s
   | e=>K e s)
  | an=>V P a an.x st λe s=>(match e with
   | .normal=>V P b an.y s K
   | e=>K e s))
 | .cond c a b,an,st,K=>ch (st.ev c) λt=>(match t with
  | .bl true=>V P a an.x st K
  | .bl false=>V P b an.y st K
  | .bt t=>((t=true->V P a an.x st K)/\(t=false->V P b an.y st K))
  | _=>False)
 | .block id c,an,st,K=>V P c an st λe s=>(match e with
  | .exit Yr=>bif Nat.beq Yr id then K .normal s else K (.exit Yr) s
  | e=>K e s)
 | .loop c,an,st,K=>(match an with
  | .j kp ms x _=>fe st λst=>(λst=>∃(I:Nat->JT _) (n0:Nat),NK st kp ms (I n0) st/\∀n,GH _ (I n) λvs w=>V P c x (mS st kp ms vs w) λe s=>(match e with
   | .normal=>fe s λs=>∃n',n'<n/\NK st kp ms (I n') s
   | e=>K e s)) (st.esc (A6 st ms))
  | _=>False)
 | _,_,_,_=>False
def QK(st:St)(K:Exit->St->Prop):Exit->Act->av->Prop:=λe a w=>match e with
 | .normal=>∃β cO,K .normal cO/\Ext st cO/\Rep β cO a w
 | .exit id=>∃β cO,K (.exit id) cO/\Ext st cO/\Rep β cO a w
 | .ret=>∃β cO,K .ret cO/\Ext st cO/\Rep β cO a w
 | _=>False
theorem uQ{st F3}{K}(hx:Ext st F3):∀e a w,QK F3 K e a w->QK st K e a w:=λe a w h=>by
 cases e<;>first | exact h | (obtain⟨β,cO,h1,h2,h3⟩:=h;exact⟨β,cO,h1,hx.trans h2,h3⟩)
theorem zE(hm:P.follows .mixedOrders=true):∀c {an:Ann} {st:St} {K:Exit->St->Prop} {β:Nat->Nat} {a:Act} {w:av},V P c an st K->Rep β st a w->c.wp P (QK st K) a w
 | .skip,_,st,K,β,a,w,h,hR=>wp_skip ⟨β,st,h,Ext.refl _,hR⟩
 | .label _,_,st,K,β,a,w,h,hR=>wp_label ⟨β,st,h,Ext.refl _,hR⟩
 | .exit _,_,st,K,β,a,w,h,hR=>wp_exit ⟨β,st,h,Ext.refl _,hR⟩
 | .ret,_,st,K,β,a,w,h,hR=>wp_ret ⟨β,st,h,Ext.refl _,hR⟩
 | .region id ops draw,an,st,K,β,a,w,h,hR=>by
  unfold V at h;split at h
  ·cases draw with
   | false=>exact h.elim
   | true=>
    refine wp_mono (Qu hm h hR) λe a' w' hq=>?_;cases e<;>first | exact hq.elim | exact hq
  ·obtain⟨s1,⟨J,hJ,h⟩,e1,iK,_⟩:=dW h hR;refine wp_mono (Lh hm h iK) λe a' w' hq=>?_;cases e<;>try exact hq.elim
   obtain⟨β',s2,h2,e2,Yv⟩:=hq;obtain⟨s3,h3,e3,DQ,OJ,_⟩:=dW h2 Yv;obtain⟨vs,k1,k2⟩:=tH h3 DQ OJ (.inl (e2.trans e3)) hJ;exact⟨_,_,k1,e1.trans Ext.SQ,k2⟩
  refine wp_mono (Lh hm h hR) λe a' w' hq=>?_;cases e<;>first | exact hq.elim | exact hq
 | .seq x y,an,st,K,β,a,w,h,hR=>by
  unfold V at h;split at h
  ·obtain⟨s1,⟨J,hJ,h⟩,e1,iK,_⟩:=dW h hR;refine wp_seq (wp_mono (zE hm x h iK) λe a' w' hq=>?_);cases e with
   | normal=>
    obtain⟨β',s2,h2,e2,Yv⟩:=hq;obtain⟨s3,h3,e3,DQ,OJ,_⟩:=dW h2 Yv;obtain⟨vs,k1,k2⟩:=tH h3 DQ OJ (.inl (e2.trans e3)) hJ;exact wp_mono (zE hm y k1 k2) (uQ (e1.trans Ext.SQ))
   | exit _=>exact uQ e1 _ _ _ hq
   | ret=>exact uQ e1 _ _ _ hq
   | _=>exact hq.elim
  refine wp_seq (wp_mono (zE hm x h hR) λe a' w' hq=>?_);cases e with
  | normal=>
   obtain⟨β',s,h1,h2,h3⟩:=hq;exact wp_mono (zE hm y h1 h3) (uQ h2)
  | _=>exact hq
 | .cond c x y,an,st,K,β,a,w,h,hR=>by
  obtain⟨t,ht,h⟩:=bC h;have ev:=hR.ev ht;split at h
  ·exact wp_cond_true ev (zE hm x h hR)
  ·exact wp_cond_false ev (zE hm y h hR)
  ·exact wp_cond_split ev (λe=>zE hm x (h.1 e) hR) (λe=>zE hm y (h.2 e) hR)
  exact h.elim
 | .block id c,an,st,K,β,a,w,h,hR=>by
  refine wp_block (wp_mono (zE hm c h hR) λe a' w' hq=>?_);cases e with
  | exit Yr=>
   obtain⟨β',s,h1,h2,h3⟩:=hq;rcases nU h1 with⟨e,h5⟩ | ⟨e,h5⟩
   ·have:=cd e;subst this;exact Nx ⟨β',s,h5,h2,h3⟩
   have ii:¬Yr=id:=λh=>by rw[h]at e;simp at e
   exact IV (by simpa using ii) ⟨β',s,h5,h2,h3⟩
  | normal=>exact hq
  | ret=>exact hq
  | _=>exact hq.elim
 | .loop c,an,st,K,β,a,w,h,hR=>by
  unfold V at h;split at h
  ·rename_i kp ms x _;obtain⟨s0,hh,e0,hR0,Ww,_⟩:=dW h hR;have e1:=e0.trans (Ext.esc s0 (A6 s0 ms));have iK:=hR0.esc (A6 s0 ms);have zM:(s0.esc (A6 s0 ms)).mv=false:=Ww;generalize s0.esc (A6 s0 ms)=s1 at*
   obtain⟨I,n0,h0,h⟩:=hh;refine wp_loop_ghost (λn a' w'=>∀K,GH _ (I n) K->∃vs,K vs w'/\Rep _ (mS s1 kp ms vs w') a' w') n0 (λK hK=>tH h0 iK zM (.inl (Ext.refl _)) hK) λn a' w' hI=>?_;obtain⟨vs,k1,k2⟩:=hI _ (h n);refine wp_mono (zE hm c k1 k2) λe a2 w2 hq=>?_;cases e with
   | normal=>
    obtain⟨β2,s2,h2,e2,Yv⟩:=hq;obtain⟨s3,⟨n',hn,h3⟩,e3,DQ,OJ,_⟩:=dW h2 Yv;exact⟨n',hn,λK hK=>tH h3 DQ OJ (.inr ⟨vs,w',e2.trans e3⟩) hK⟩
   | exit _=>exact uQ (e1.trans Ext.SQ) _ _ _ hq
   | ret=>exact uQ (e1.trans Ext.SQ) _ _ _ hq
   | _=>exact hq.elim
  exact h.elim
 | .rangeFunc _ _ _ _,_,_,_,_,_,_,h,_=>acC
 | .scope _,_,_,_,_,_,_,h,_=>acC
 | .goto _,_,_,_,_,_,_,h,_=>acC
 | .refuse _,_,_,_,_,_,_,h,_=>acC
def Jf(P:Program)(st:St):List ResultVar->Option (List SV)
 | []=>some []
 | .tmp t::r=>(match st.get t,Jf P st r with
  | some v,some l=>some (v::l)
  | _,_=>none)
 | .cell p t::r=>(match st.get p,P.underlying t,Jf P st r with
  | some (.box i o),some d,some l=>(match cZ st.bx i with
   | some b=>bif b.ok&&sz P t ((b.cells.drop o).take (wc P t)).length&&(mP d||Nat.beq ((b.cells.drop o).take (wc P t)).length 1)then some (ND (mP d) ((b.cells.drop o).take (wc P t))::l)else none
   | none=>none)
  | _,_,_=>none)
def ZJ(P:Program)(rs:List ResultVar)(R:aw->av->Prop)(st:St):Prop:=ch (Jf P st rs) λvs=>fe (st.esc vs) λst=>bif iM (GA st.bx) vs then R (val (Iw st.bx) (A4 vs)) st.w0 else False
theorem Ev{β}{st}{a}{w}(hR:Rep β st a w):∀{rs:List ResultVar} {vs:List SV},Jf P st rs=some vs->C1 P a w rs (cK β vs)
 | [],vs,h=>by simp[Jf]at h;subst h;trivial
 | .tmp t::r,vs,h=>by
  simp[Jf]at h;split at h
  ·rename_i v l h1 h2;simp at h;subst h;exact⟨hR.get h1,Ev hR h2⟩
  cases h
 | .cell p t::r,vs,h=>by
  simp only[Jf]at h;split at h
  ·rename_i i o d l h1 h2 h3;split at h
   ·rename_i b hb;obtain⟨h4,rfl⟩:=Ea h;simp only[aP,cx]at h4;obtain⟨⟨oh,hsz⟩,mC⟩:=h4;refine⟨⟨_,hR.get h1,?_⟩,Ev hR h3⟩;generalize hl:(b.cells.drop o).take _=q at*
    have hC:Cells w _ (cK β q):=((hR.bx i b hb oh).blk).FB o _ (by
     rw[<-hl];simp only[cK,js,rG];rw[cF,qI];simp only[cr,bN];omega)
    have sK:=lA (P:=P) h2 w;cases hd:mP d with
    | true=>
     rw[hd]at sK;have e:=pV hd β q;rw[hd]at e;rw[e];exact D7 sK (ql hsz w) (fF β q) hC
    | false=>
     rw[hd]at sK mC;obtain⟨s,rfl⟩:=AP (mC.resolve_left aM);exact Cy sK (Cells.one hC)
   cases h
  cases h
def Vh:Nat->List SV->List (Nat×Nat×SV)
 | _,[]=>[]
 | i,s::r=>(i,0,s)::Vh (i+1) r
theorem Ew β:∀i l,cv β (Vh i l)=D8 i (cK β l)
 | _,[]=>rfl
 | i,s::r=>by
  have:=Ew β (i+1) r;simp[cv]at this;simp[Vh,cv,cK,D8,this]
def Vi(fn:Func)(args:List SV)(w:av):St:={n:=fn.ntmps,fr:=Vh 0 args,bx:=[],w0:=w,mv:=false,dt:=[],ct:=1,df:=[]}
def lH(P:Program)(f:FuncId)(args:Array aw)(w:av)(Q:aw->av->Prop):Prop:=CallsD P f args .returning w λe u w'=>u=.returning/\∃v,e=.returned v/\Q v w'
def Jg(P:Program)(R:aw->av->Prop):List (Nat×List aw×List aw)->av->Prop
 | [],w=>R (.tuple #[]) w
 | d::ds,w=>bif P5 P d.1 then lH P d.1 (d.2.1++d.2.2).toArray w λ_ w'=>Jg P R ds w' else False
def akz:List ResultVar->Bool
 | []=>true
 | _=>false
def Vj(P:Program)(rs:List ResultVar)(R:aw->av->Prop)(st:St):Prop:=match st.df with
 | []=>ZJ P rs R st
 | _::_=>bif akz rs then fe st λst=>Jg P R st.df st.w0 else False
def Vk(P:Program)(rs:List ResultVar)(R:aw->av->Prop)(st:St):Prop:=match st.df with
 | []=>ZJ P rs R st
 | _::_=>False
def Vfn(P:Program)(f:FuncId)(an:Ann)(args:List SV)(R:aw->av->Prop)(w:av):Prop:=ch (P.funcs[f]?) λfn=>ch fn.body λc=>
 bif Nat.ble args.length fn.ntmps then V P c an (Vi fn args w) λe st=>(match e with
  | .normal=>Vj P fn.results.toList R st
  | .ret=>Vj P fn.results.toList R st
  | _=>False)else False
def Vfd(P:Program)(f:FuncId)(an:Ann)(args:List SV)(R:aw->av->Prop)(w:av):Prop:=ch (P.funcs[f]?) λfn=>ch fn.body λc=>
 bif Nat.ble args.length fn.ntmps then V P c an (Vi fn args w) λe st=>(match e with
  | .normal=>Vk P fn.results.toList R st
  | .ret=>Vk P fn.results.toList R st
  | _=>False)else False
theorem Li{β}{st}{a}{w}{fn}{R}(h:ZJ P fn.results.toList R st)(hR:Rep β st a w):∃v,(results fn a.tmps).run P w=.ok v w/\R v w:=by
 obtain⟨vs,hv,h⟩:=bC h;obtain⟨s1,h1,e1,iK,hm,_⟩:=dW h (hR.esc vs);obtain⟨hc,h1⟩:=dB h1;have ho:=Ev hR hv;rw[iK.ag7 (wU hc),<-iK.still hm]at h1;refine⟨_,?_,h1⟩;have hrs:fn.results=fn.results.toList.toArray:=rfl
 match vs,ho,hc with
 | [s],ho,hc=>exact Zd hrs ho
 | [],ho,hc=>
  have e:val β (A4 [])=.tuple (cK β []).toArray:=rfl;exact IW hrs rfl ho
 | s::t::r,ho,hc=>
  have e:val β (A4 (s::t::r))=.tuple (cK β (s::t::r)).toArray:=by
   show Value.tuple (qK β _).toArray=_;rw[rK]
  rw[e];exact IW hrs (rfl) ho
theorem Qv args {n} (hk:args.length<=n):(⟨args.toArray++Array.replicate (n-args.toArray.size) undef,[]⟩)=fr n (λ_=>undef) (D8 0 args):=by
 congr 1;apply O3.1;rw[Array.toList_append,Array.toList_replicate,pR];apply lU;intro i;by_cases hi:i<n
 ·rw[jg,nJ _ _ _ _ _ hi,bM,C4]
  grind
 rw[di aaf,di (by rw[oH];omega)]
theorem C8{fn}{tmps}{R}(hr:fn.results.toList=[]):∀{l:List _} {w:av},Jg P R l w->Leaves P fn tmps (λe w'=>∃v,e=.returned v/\R v w') (Xj l) .returning w
 | [],w,h=>by
  have hrs:fn.results=([]).toArray:=by rw[<-hr]
  exact⟨_,IW (a:=⟨tmps,[]⟩) (rs:=[]) (vs:=[]) hrs rfl trivial,_,rfl,h⟩
 | d::ds,w,h=>by
  obtain⟨h0,h⟩:=dB h;refine leaves_cons (λh=>aaQ) (f:=d.1) (args:=(d.2.1++d.2.2).toArray) ?_ (h.mono ?_)
  ·have:=kn h0 (d.2.1++d.2.2).toArray w;rw[<-List.append_toArray]at this⊢;exact this
  rintro e u w' ⟨rfl,v,rfl,h⟩;exact C8 hr h
theorem GU{β}{st}{a}{w}{fn}{R}(h:Vj P fn.results.toList R st)(hR:Rep β st a w):Leaves P fn a.tmps (λe w'=>∃v,e=.returned v/\R v w') a.defers .returning w:=by
 rw[hR.ok.df];unfold Vj at h;split at h
 ·rename_i hd;rw[hd];obtain⟨v,k1,k2⟩:=Li h hR;exact⟨v,k1,v,rfl,k2⟩
 obtain⟨h0,h⟩:=dB h;obtain⟨s1,h1,e1,iK,hm,_⟩:=dW h hR;have hr:fn.results.toList=[]:=by
  cases hc:fn.results.toList with
  | nil=>rfl
  | cons _ _=>rw[hc]at h0;cases h0
 have S1:s1.df=st.df:=by
  obtain⟨l,hl⟩:=e1.df;have h5:=bO List.length (iK.ok.df.symm.trans hR.ok.df);rw[Xj,Xj,bN,bN,hl,aN]at h5
  grind
 rw[<-iK.still hm]at h1;rw[<-S1];exact C8 hr h1
theorem aew(hm:P.follows .mixedOrders=true){f}{an}{args}{R}{w}(h:Vfn P f an args R w):Calls P f (cK β0 args).toArray w λe w'=>∃v,e=.returned v/\R v w':=by
 obtain⟨fn,hf,h⟩:=bC h;obtain⟨c,hb,h⟩:=bC h;obtain⟨hn,h⟩:=dB h;have hR:Rep β0 (Vi fn args w) (fr fn.ntmps _ (D8 0 _)) w:=
  ⟨⟨λ_=>undef,by rw[<-Ew];rfl⟩,λi b hb=>adM,λi j bi bj hb=>adM,Only.refl _ _,λ_=>rfl⟩
 refine calls_of_wp_defers hf hb ?_;rw[Qv _ (by rw[fF];exact dA hn)];refine wp_mono (zE hm c h hR) λe a' w' hq=>?_;cases e with
 | normal=>
  obtain⟨β',s,h1,h2,h3⟩:=hq;exact GU h1 h3
 | ret=>
  obtain⟨β',s,h1,h2,h3⟩:=hq;exact GU h1 h3
 | exit _=>
  obtain⟨β',s,h1,_⟩:=hq;exact h1.elim
 | _=>exact hq.elim
theorem aex(hm:P.follows .mixedOrders=true){f}{an}{args}{R}{w}(h:Vfd P f an args R w):lH P f (cK β0 args).toArray w R:=by
 obtain⟨fn,hf,h⟩:=bC h;obtain⟨c,hb,h⟩:=bC h;obtain⟨hn,h⟩:=dB h;have hR:Rep β0 (Vi fn args w) (fr fn.ntmps _ (D8 0 _)) w:=
  ⟨⟨λ_=>undef,by rw[<-Ew];rfl⟩,λi b hb=>adM,λi j bi bj hb=>adM,Only.refl _ _,λ_=>rfl⟩
 refine(callsD_of_wp (R:=λe w'=>∃v,e=.returned v/\R v w') hf hb ?_).mono (λe u w' h=>h);rw[Qv _ (by rw[fF];exact dA hn)];refine wp_mono (zE hm c h hR) λe a' w' hq=>?_;have fin:∀{β':Nat->Nat} {s:St},Vk P fn.results.toList R s->Rep β' s a' w'->_/\a'.defers=[]:=fun{β' s} h hR=>by
  unfold Vk at h;split at h
  ·rename_i hd;exact⟨Li h hR,by rw[hR.ok.df,hd];rfl⟩
  exact h.elim
 cases e with
 | normal=>
  obtain⟨β',s,h1,h2,h3⟩:=hq;obtain⟨⟨v,k1,k2⟩,k3⟩:=fin h1 h3;exact IX k1 k3 k2
 | ret=>
  obtain⟨β',s,h1,h2,h3⟩:=hq;obtain⟨⟨v,k1,k2⟩,k3⟩:=fin h1 h3;exact UQ k1 k3 k2
 | exit _=>
  obtain⟨β',s,h1,_⟩:=hq;exact h1.elim
 | _=>exact hq.elim
theorem aey{f}{an}{args}{R}{w}{vs}{vc}(hm:P.follows .mixedOrders=true)(hv:vs=(cK β0 args).toArray)(he:vc=Vfn P f an args R w)(h:vc):Calls P f vs w λe w'=>∃v,e=.returned v/\R v w':=by
 subst he hv;exact aew hm h
theorem aez{f}{an}{args}{R}{w}{vs}{vc}(hm:P.follows .mixedOrders=true)(hv:vs=(cK β0 args).toArray)(he:vc=Vfd P f an args R w)(h:vc):lH P f vs w R:=by
 subst he hv;exact aex hm h
end
end Go.Kt.V
namespace Go.Proofs.YtmgndgpgngcgpaaGreatDoor.Vc
open Go.Value renaming int->O,string->ab,pointer->ae,agg->ah,tuple->ai,bool->aj
open Go.IntKind renaming i64->U,wrap->ar
open Go.Ending renaming returned->ak
open _root_.ByteArray renaming mk->ao
open _root_.Go.Proofs.Tryz renaming prog->aq
open Go.Instr renaming buildSlice->au
open Go renaming World->av,Value->aw,Calls->az
open Go.Kt renaming Only->ay,SliceF->aA,Cells->aB,OnlyP->aD,Blk->aF
open Go Go.RowKit Go.Kt Go.Kt.V
abbrev cp(c:Bool)(x y:Prop):Prop:=(c=true->x)/\(c=false->y)
abbrev cB(f:FuncId)(a:Array aw)(w:av)(K:Bool->av->Prop):Prop:=az aq f a w λe w'=>∃x,e=ak (aj x)/\K x w'
abbrev j9(s:List Nat)(f:FuncId)(a:Array aw)(w:av)(K:Bool->av->Prop):Prop:=az aq f a w λe w'=>∃x,e=ak (aj x)/\bS s w w'/\K x w'
abbrev cI(f:FuncId)(a:Array aw)(w:av)(K:Int->av->Prop):Prop:=az aq f a w λe w'=>∃x,e=ak (O U x)/\K x w'
abbrev pJ(s:List Nat)(f:FuncId)(a:Array aw)(w:av)(K:Int->av->Prop):Prop:=az aq f a w λe w'=>∃x,e=ak (O U x)/\bS s w w'/\K x w'
abbrev cS(f:FuncId)(a:Array aw)(w:av)(K:aK->av->Prop):Prop:=az aq f a w λe w'=>∃x,e=ak (ab x)/\K x w'
abbrev pf(s:List Nat)(f:FuncId)(a:Array aw)(w:av)(K:aK->av->Prop):Prop:=az aq f a w λe w'=>∃x,e=ak (ab x)/\bS s w w'/\K x w'
abbrev cL(f:FuncId)(a:Array aw)(w:av)(K:Sl->av->Prop):Prop:=az aq f a w λe w'=>∃x,e=ak (x.v)/\K x w'
abbrev Bc(s:List Nat)(f:FuncId)(a:Array aw)(w:av)(K:Sl->av->Prop):Prop:=az aq f a w λe w'=>∃x,e=ak (x.v)/\bS s w w'/\K x w'
abbrev cU(f:FuncId)(a:Array aw)(w:av)(K:av->Prop):Prop:=az aq f a w λe w'=>e=ak (ai #[])/\K w'
abbrev fz(s:List Nat)(f:FuncId)(a:Array aw)(w:av)(K:av->Prop):Prop:=az aq f a w λe w'=>e=ak (ai #[])/\bS s w w'/\K w'
abbrev fL(x:Sem aw)(w:av)(K:Sl->av->Prop):Prop:=∃l w',x.run aq w=.ok (Sl.v l) w'/\K l w'
abbrev nx(k:Nat)(K:aJ):Prop:=∃n,n<k/\K n
abbrev nw(w:av)(K:Nat->av->Prop):Prop:=∀k w',w.heap.size<=k->k<w'.heap.size->ay [] w w'->K k w'
abbrev lp0(w:av)(B:(Nat->av->Prop)->Nat->av->Prop):Prop:=∃J k,J k w/\∀k w,J k w->B J k w
abbrev oB{α:Type}(x:α)(w:av)(B:(Nat->α->av->Prop)->Nat->α->av->Prop):Prop:=∃J k,J k x w/\∀k x w,J k x w->B J k x w
abbrev Jh{α β:Type}(x:α)(y:β)(w:av)(B:(Nat->α->β->av->Prop)->Nat->α->β->av->Prop):Prop:=∃J k,J k x y w/\∀k x y w,J k x y w->B J k x y w
abbrev zF(X:av->Prop)(Y:(av->Prop)->Prop):Prop:=∃J,(∀w,J w->X w)/\Y J
abbrev nW{α:Type}(X:α->av->Prop)(Y:(α->av->Prop)->Prop):Prop:=∃J,(∀x w,J x w->X x w)/\Y J
abbrev jn2{α β:Type}(X:α->β->av->Prop)(Y:(α->β->av->Prop)->Prop):Prop:=∃J,(∀x y w,J x y w->X x y w)/\Y J
abbrev jn3{α β γ:Type}(X:α->β->γ->av->Prop)(Y:(α->β->γ->av->Prop)->Prop):Prop:=∃J,(∀x y z w,J x y z w->X x y z w)/\Y J
abbrev xCB(w:av)(p:Addr)(K:Bool->Prop):Prop:=∃x0,aB w p [aj x0]/\K x0
abbrev gX(w:av)(p:Addr)(K:Int->Prop):Prop:=∃x0,aB w p [O U x0]/\K x0
abbrev iA(w:av)(p:Addr)(K:Int->Int->aK->Int->Sl->Int->Prop):Prop:=∃x0 x1 x2 x3 x4 x5,aB w p [O U x0,O U x1,ab x2,O U x3,x4.v,O U x5]/\K x0 x1 x2 x3 x4 x5
abbrev zG(w:av)(p:Addr)(K:Int->aK->Int->Bool->Int->Int->aK->Int->Sl->Int->Sl->Sl->Int->Prop):Prop:=∃x0 x1 x2 x3 x4 x5 x6 x7 x8 x9 Yx Yy Yz,aB w p [O U x0,ab x1,O U x2,aj x3,O U x4,O U x5,ab x6,O U x7,x8.v,O U x9,Yx.v,Yy.v,O U Yz]/\K x0 x1 x2 x3 x4 x5 x6 x7 x8 x9 Yx Yy Yz
abbrev Ey(w:av)(p:Addr)(K:Int->aK->Int->Int->Prop):Prop:=∃x0 x1 x2 x3,aB w p [O U x0,ab x1,O U x2,O U x3]/\K x0 x1 x2 x3
abbrev GV(w:av)(p:Addr)(K:Int->aK->aK->aK->Sl->Sl->Sl->Sl->Int->Prop):Prop:=∃x0 x1 x2 x3 x4 x5 x6 x7 x8,aB w p [O U x0,ab x1,ab x2,ab x3,x4.v,x5.v,x6.v,x7.v,O U x8]/\K x0 x1 x2 x3 x4 x5 x6 x7 x8
abbrev lD(w:av)(p:Addr)(K:Sl->Prop):Prop:=∃x0,aB w p [x0.v]/\K x0
abbrev xCM(w:av)(p:Addr)(K:Option Nat->Prop):Prop:=∃x0,aB w p [.map x0]/\K x0
abbrev xCQ(w:av)(p:Addr)(K:Option Addr->Prop):Prop:=∃x0,aB w p [ae x0]/\K x0
abbrev C9(w:av)(p:Addr)(K:aK->Prop):Prop:=∃x0,aB w p [ab x0]/\K x0
abbrev ZK(w:av)(b n:Nat)(K:Bool->Bool->Bool->Bool->Prop):Prop:=∃x0 x1 x2 x3,aF w b n [aj x0,aj x1,aj x2,aj x3]/\K x0 x1 x2 x3
abbrev xKI(w:av)(b n:Nat)(K:Int->Prop):Prop:=∃x0,aF w b n [O U x0]/\K x0
abbrev aeA(w:av)(b n:Nat)(K:Int->Int->Int->Prop):Prop:=∃x0 x1 x2,aF w b n [O U x0,O U x1,O U x2]/\K x0 x1 x2
abbrev GW(w:av)(b n:Nat)(K:Int->aK->aK->aK->Sl->Sl->Sl->Sl->Int->Prop):Prop:=∃x0 x1 x2 x3 x4 x5 x6 x7 x8,aF w b n [O U x0,ab x1,ab x2,ab x3,x4.v,x5.v,x6.v,x7.v,O U x8]/\K x0 x1 x2 x3 x4 x5 x6 x7 x8
abbrev Qw(w:av)(b n:Nat)(K:Sl->Prop):Prop:=∃x0,aF w b n [x0.v]/\K x0
abbrev Vl(w:av)(b n:Nat)(K:Sl->Int->Int->Int->Int->Prop):Prop:=∃x0 x1 x2 x3 x4,aF w b n [x0.v,O U x1,O U x2,O U x3,O U x4]/\K x0 x1 x2 x3 x4
abbrev iP(w:av)(b n:Nat)(K:Sl->Int->Int->Int->Int->Int->Int->Int->Int->Prop):Prop:=∃x0 x1 x2 x3 x4 x5 x6 x7 x8,aF w b n [x0.v,O U x1,O U x2,O U x3,O U x4,O U x5,O U x6,O U x7,O U x8]/\K x0 x1 x2 x3 x4 x5 x6 x7 x8
abbrev GX(w:av)(b n:Nat)(K:Sl->Int->Int->Int->Int->Sl->Prop):Prop:=∃x0 x1 x2 x3 x4 x5,aF w b n [x0.v,O U x1,O U x2,O U x3,O U x4,x5.v]/\K x0 x1 x2 x3 x4 x5
abbrev oK(w:av)(b n:Nat)(K:Sl->Int->aK->aK->aK->Sl->Sl->Sl->Sl->Int->Prop):Prop:=∃x0 x1 x2 x3 x4 x5 x6 x7 x8 x9,aF w b n [x0.v,O U x1,ab x2,ab x3,ab x4,x5.v,x6.v,x7.v,x8.v,O U x9]/\K x0 x1 x2 x3 x4 x5 x6 x7 x8 x9
abbrev oq(w:av)(b n:Nat)(K:Sl->Int->aK->aK->aK->Sl->Sl->Sl->Sl->Int->Sl->Int->Int->Prop):Prop:=∃x0 x1 x2 x3 x4 x5 x6 x7 x8 x9 Yx Yy Yz,aF w b n [x0.v,O U x1,ab x2,ab x3,ab x4,x5.v,x6.v,x7.v,x8.v,O U x9,Yx.v,O U Yy,O U Yz]/\K x0 x1 x2 x3 x4 x5 x6 x7 x8 x9 Yx Yy Yz
abbrev Ez(w:av)(b n:Nat)(K:Option Nat->Sl->Option Nat->Int->Int->Prop):Prop:=∃x0 x1 x2 x3 x4,aF w b n [.map x0,x1.v,.map x2,O U x3,O U x4]/\K x0 x1 x2 x3 x4
abbrev xKQ(w:av)(b n:Nat)(K:Option Addr->Prop):Prop:=∃x0,aF w b n [ae x0]/\K x0
abbrev mU(w:av)(b n:Nat)(K:Option Addr->Sl->Bool->Int->Prop):Prop:=∃x0 x1 x2 x3,aF w b n [ae x0,x1.v,aj x2,O U x3]/\K x0 x1 x2 x3
abbrev Lj(w:av)(b n:Nat)(K:Option Addr->Sl->Sl->Prop):Prop:=∃x0 x1 x2,aF w b n [ae x0,x1.v,x2.v]/\K x0 x1 x2
abbrev ZL(w:av)(b n:Nat)(K:aK->Int->Prop):Prop:=∃x0 x1,aF w b n [ab x0,O U x1]/\K x0 x1
abbrev Bd(w:av)(b n:Nat)(K:aK->Int->Sl->Sl->Prop):Prop:=∃x0 x1 x2 x3,aF w b n [ab x0,O U x1,x2.v,x3.v]/\K x0 x1 x2 x3
abbrev Vm(s:Sl)(i:Int)(w:av)(K:Int->Prop):Prop:=∃p,cR s i 1 p/\∃x0,aB w p [O U x0]/\K x0
abbrev iQ(s:Sl)(i:Int)(w:av)(K:Int->Int->aK->Int->Sl->Int->Prop):Prop:=∃p,cR s i 6 p/\∃x0 x1 x2 x3 x4 x5,aB w p [O U x0,O U x1,ab x2,O U x3,x4.v,O U x5]/\K x0 x1 x2 x3 x4 x5
abbrev gV(s:Sl)(i:Int)(w:av)(K:Int->aK->Int->Bool->Int->Int->aK->Int->Sl->Int->Sl->Sl->Int->Prop):Prop:=∃p,cR s i 13 p/\∃x0 x1 x2 x3 x4 x5 x6 x7 x8 x9 Yx Yy Yz,aB w p [O U x0,ab x1,O U x2,aj x3,O U x4,O U x5,ab x6,O U x7,x8.v,O U x9,Yx.v,Yy.v,O U Yz]/\K x0 x1 x2 x3 x4 x5 x6 x7 x8 x9 Yx Yy Yz
abbrev Qx(s:Sl)(i:Int)(w:av)(K:Int->aK->Int->Int->Prop):Prop:=∃p,cR s i 4 p/\∃x0 x1 x2 x3,aB w p [O U x0,ab x1,O U x2,O U x3]/\K x0 x1 x2 x3
abbrev pW(s:Sl)(i:Int)(w:av)(K:Int->aK->Int->Int->aK->Int->Sl->Int->Int->Prop):Prop:=∃p,cR s i 9 p/\∃x0 x1 x2 x3 x4 x5 x6 x7 x8,aB w p [O U x0,ab x1,O U x2,O U x3,ab x4,O U x5,x6.v,O U x7,O U x8]/\K x0 x1 x2 x3 x4 x5 x6 x7 x8
abbrev eW(s:Sl)(i:Int)(w:av)(K:Int->aK->aK->aK->Sl->Sl->Sl->Sl->Int->Prop):Prop:=∃p,cR s i 9 p/\∃x0 x1 x2 x3 x4 x5 x6 x7 x8,aB w p [O U x0,ab x1,ab x2,ab x3,x4.v,x5.v,x6.v,x7.v,O U x8]/\K x0 x1 x2 x3 x4 x5 x6 x7 x8
abbrev Xw(s:Sl)(i:Int)(w:av)(K:Sl->Prop):Prop:=∃p,cR s i 1 p/\∃x0,aB w p [x0.v]/\K x0
abbrev EA(s:Sl)(i:Int)(w:av)(K:aK->Prop):Prop:=∃p,cR s i 1 p/\∃x0,aB w p [ab x0]/\K x0
abbrev Xx(s:Sl)(i:Int)(w:av)(K:aK->Int->Int->Prop):Prop:=∃p,cR s i 3 p/\∃x0 x1 x2,aB w p [ab x0,O U x1,O U x2]/\K x0 x1 x2
end Go.Proofs.YtmgndgpgngcgpaaGreatDoor.Vc
