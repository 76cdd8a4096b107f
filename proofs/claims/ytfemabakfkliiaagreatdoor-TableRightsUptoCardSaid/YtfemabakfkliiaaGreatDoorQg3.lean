import Derived.Test.YtfemabakfkliiaaGreatDoorQg2
set_option linter.constructorNameAsVariable false
set_option linter.defProp false
set_option linter.unusedSectionVars false
set_option linter.unusedSimpArgs false
set_option linter.unusedVariables false
open Bool renaming true->L,false->aL
open Option renaming some->aM,none->aaf
open List renaming length->I
namespace Go.Kt.V
open Go renaming World->M,Value->aw
open Go Go.RowKit Go.Kt
inductive Ann where
 | o
 | s (x y:Ann)
 | j (kp:List Nat) (ms:List MI) (x y:Ann)
 | l (jn:Bool) (kp:List Nat) (ms:List MI)
def Ann.x:Ann->Ann
 | .s x _=>x
 | _=>.o
def Ann.y:Ann->Ann
 | .s _ y=>y
 | _=>.o
def Ann.d:Nat->Ann->Ann
 | 0,x=>x
 | n+1,x=>.s .o (d n x)
def fG:Nat:=4000
def neP(k:Nat):List mw->Prop->Prop
 | [],p=>p
 | b::r,p=>bif b.ok&&b.blk.isSome then(k≠b.blk.getD 0->neP k r p)else neP k r p
def MO:List mw->Prop->Prop
 | [],p=>p
 | b::r,p=>bif b.ok&&b.blk.isSome then neP (b.blk.getD 0) r (MO r p)else MO r p
def MP{k}:∀{l:List mw} {p:Prop},neP k l p->(∀i b,dw l i=aM b->b.ok=L->b.blk.isSome=L->k≠b.blk.getD 0)->p
 | [],_,h,_=>h
 | b::r,p,h,d=>by
  unfold neP at h;cases a:(b.ok&&b.blk.isSome)with
  | true=>
   rw[a]at h;simp at a;exact MP (h (d 0 b rfl a.1 a.2)) λi c e=>d (i+1) c e
  | false=>
   rw[a]at h;exact MP h λi c b=>d (i+1) c b
def GQ:∀{l:List mw} {p:Prop},MO l p->(∀i a bi j,dw l i=aM bi->dw l a=aM j->bi.ok=L->j.ok=L->bi.blk.isSome=L->j.blk.isSome=L->i≠a->bi.blk.getD 0≠j.blk.getD 0)->p
 | [],_,h,_=>h
 | b::r,p,h,g=>by
  unfold MO at h;have t:∀{p:Prop},MO r p->p:=λh=>GQ h λi a bi j e f k m n o q=>g (i+1) (a+1) bi j e f k m n o J;cases d:(b.ok&&b.blk.isSome)with
  | true=>
   rw[d]at h;simp at d;exact t (MP h λi c p e f=>g 0 (i+1) b c rfl p d.1 e d.2 f J)
  | false=>
   rw[d]at h;exact t h
def afg(P:Program)(o:List Oper)(draw:Bool)(st:St)(a:St->Prop):Prop:=
 bif draw then
  bif GM P o&&Region.lexB .any o.toArray then exI (MJ o) st λst=>Aa P o fG [] o st λst=>a {st with mv:=L}
  else bif mbN P o 0 o then fz {st with mv:=L} λst=>MO (bif msN P o 0 o then st.bx else[]) (∃S,Jq P o L (msN P o 0 o) S (I o) (Array.replicate (I o) aL) st a)
  else Jq P o aL aL (λ_=>False) (I o) (Array.replicate (I o) aL) {st with mv:=L} a
 else Bq P o fG o st a
def QR(st:St)(b:St->Prop):Exit->Act->M->Prop:=λe a w=>match e with
 | .normal=>∃c d,b d/\Ext st d/\Rep c d a w
 | _=>False
def Ext.mv s:Ext s {s with mv:=L}:=⟨rfl,aX _,λ_ _ _ h _=>h,λi b h o _=>⟨b,h,o,rfl,rfl,rfl,λ_ h=>h⟩,T8,Iw⟩
def Rep.drew{β}{s}{a}{w w'}(h:Rep β s a w)(c:Only [] w w')(e:w'.heap=w.heap):Rep β {s with mv:=L} a w':=
 ⟨h.fr,λi b d o=>by
  obtain⟨k,a,k3⟩:=h.bx i b d o;exact⟨by unfold Blk at k⊢;rw[e];exact k,a,k3⟩,h.ne,h.only.cn c,λh=>abG⟩
section
variable {P:Program}
def OY(m:P.follows .mixedOrders=L){id}{ops}{draw}{st}{K}{β}{a}{w}(h:afg P ops.toList draw st K)(R:Rep β st a w):
  (Code.region id ops draw).wp P (QR st K) a w:=by
 obtain⟨l⟩:=ops;rcases qH h with⟨hd,x⟩ | ⟨hd,x⟩<;>clear h<;>have h:=x
 ·subst hd;have d:=R.drew (Only.drewN w 1) rfl;have fin:∀{u v:Bool} {S:Nat->Prop} {b:St},Ext st b->Rep β b a w.drew->Jq P l u v S (I l) _ b K->(Code.region id l.toArray L).wp P (QR st K) a w:=λe j h=>
   I5 _ m (vE (λc a w t=>t) h j λq r i g o p k3=>⟨q,r,o,e.trans p,k3⟩)
  rcases qH h with⟨f,h⟩ | ⟨_,h⟩
  ·simp at f;obtain⟨s,y,z,A,_⟩:=Ae h R;obtain⟨C,o,p,k3,B⟩:=ue y;obtain⟨i,c,k⟩:=B trivial β a w A;refine wp_region_quiet_lit m f.2 ?_;have:=ME (Q:=λi=>∀g,(∃n,g=w.drewN n)->QR st K .normal i g) (rest:=[]) c (wpQuiet_nil (by
    rintro g ⟨n,rfl⟩;exact⟨β,_,o,(z.trans p).trans (Ext.mv _),k.drew (Only.drewN w n) rfl⟩))
   simp_all
  rcases qH h with⟨_,h⟩ | ⟨_,h⟩
  ·obtain⟨b,f,e,j,_⟩:=eU h d;have y:∀c s bi a,dw b.bx c=aM bi->dw b.bx s=aM a->bi.ok=L->a.ok=L->bi.blk.isSome=L->a.blk.isSome=L->c≠s->bi.blk.getD 0≠a.blk.getD 0:=λc s bi a n z A B C D E=>by
    obtain⟨k,hk⟩:=gN.1 C;obtain⟨F,m⟩:=gN.1 D;have e:=(j.bx c bi n A).at_ k hk;have G:=(j.bx s a z B).at_ F m;rw[hk,m,jc,jc];have:=j.ne c s bi a n z A B E;omega
   obtain⟨S,n⟩:=GQ f (by
    cases msN P l 0 l with
    | true=>exact y
    | false=>exact λc s bi a n=>by cases c<;>cases n)
   exact fin ((Ext.mv st).trans e) j n
  exact fin (Ext.mv st) d h
 subst hd;refine wp_region_lit (wG h R λa d c e k b k3=>⟨a,d,k,b,k3⟩)
def ac2(P:Program)(o:List Oper)(j:Bool)(kp:List Nat)(m:List MI)(st:St)(a:St->Prop):Prop:=
 bif zOk o (mZ P 0 o)then fz st.AG λst=>
  (bif mbN P o 0 o then MO (bif msN P o 0 o then st.bx else[]) (∃S,OW P o j kp m L (msN P o 0 o) S (mZ P 0 o) (UG o (qo (mZ P 0 o)) (I o) (Array.replicate (I o) aL)) (Z7 (UG o (qo (mZ P 0 o)) (I o) (Array.replicate (I o) aL)).toList) st a)
  else OW P o j kp m aL aL (λ_=>False) (mZ P 0 o) (UG o (qo (mZ P 0 o)) (I o) (Array.replicate (I o) aL)) (Z7 (UG o (qo (mZ P 0 o)) (I o) (Array.replicate (I o) aL)).toList) st a)
 else False
def UI(m:P.follows .mixedOrders=L){id}{ops}{jn}{kp}{mi}{st}{K}{β}{a}{w}(h:ac2 P ops.toList jn kp mi st K)(R:Rep β st a w):
  (Code.region id ops L).wp P (QR st K) a w:=by
 obtain⟨l⟩:=ops;obtain⟨z,h⟩:=dU h;obtain⟨s,d,e,j,b,_⟩:=eU h (R.drew (Only.drewN w 1) rfl);have fin:∀{f i:Bool} {S:Nat->Prop} {A:Array Bool} {g:Nat},OW P l jn kp mi f i S _ A g s K->(Code.region id l.toArray L).wp P (QR st K) a w:=λh=>
  I5 _ m (UH (λc a w p=>p) z h j b λk n r t o q k3=>⟨k,n,o,((Ext.AG st).trans e).trans q,k3⟩)
 rcases qH d with⟨_,h⟩ | ⟨_,h⟩
 ·have p:∀c o bi a,dw s.bx c=aM bi->dw s.bx o=aM a->bi.ok=L->a.ok=L->bi.blk.isSome=L->a.blk.isSome=L->c≠o->bi.blk.getD 0≠a.blk.getD 0:=λc o bi a n q r t u v x=>by
   obtain⟨k,hk⟩:=gN.1 u;obtain⟨y,m⟩:=gN.1 v;have e:=(j.bx c bi n r).at_ k hk;have B:=(j.bx o a q t).at_ y m;rw[hk,m,jc,jc];have:=j.ne c o bi a n q r t x;omega
  obtain⟨S,n⟩:=GQ h (by
   cases msN P l 0 l with
   | true=>exact p
   | false=>exact λc o bi a n=>by cases c<;>cases n)
  exact fin n
 exact fin h
def V(P:Program):Code->Ann->St->(Exit->St->Prop)->Prop
 | .skip,_,st,a=>a .normal st
 | .label _,_,st,a=>a .normal st
 | .exit i,_,st,a=>a (.exit i) st
 | .ret,_,st,a=>a .ret st
 | .region _ o d,n,st,a=>(match n with
  | .l j kp m=>bif d then ac2 P o.toList j kp m st (a .normal)else False
  | .j kp m _ _=>fz st λst=>∃J,Jo _ J (λv w=>a .normal (oA st kp m v w))/\afg P o.toList d st λs=>fz s λs=>RH st kp m J s
  | _=>afg P o.toList d st (a .normal))
 | .seq a b,n,st,c=>(match n with
  | .j kp m x y=>fz st λst=>∃J,Jo _ J (λv w=>V P b y (oA st kp m v w) c)/\V P a x st λe s=>(match e with
   | .normal=>fz s λs=>RH st kp m J s
   | e=>c e s)
  | n=>V P a n.x st λe s=>(match e with
   | .normal=>V P b n.y s c
   | e=>c e s))
 | .cond c a b,n,st,d=>cF (st.ev c) λt=>(match t with
  | .bl L=>V P a n.x st d
  | .bl aL=>V P b n.y st d
  | .bt t=>((t=L->V P a n.x st d)/\(t=aL->V P b n.y st d))
  | _=>False)
 | .block i c,n,st,a=>V P c n st λe s=>(match e with
  | .exit d=>bif Nat.beq d i then a .normal s else a (.exit d) s
  | e=>a e s)
 | .loop c,b,st,a=>(match b with
  | .j kp m x _=>fz st λst=>(λst=>∃(d:Nat->JT _) (f:Nat),RH st kp m (d f) st/\∀n,Jo _ (d n) λv w=>V P c x (oA st kp m v w) λe s=>(match e with
   | .normal=>fz s λs=>∃c,c<n/\RH st kp m (d c) s
   | e=>a e s)) (st.esc (CU st m))
  | _=>False)
 | _,_,_,_=>False
def QK(st:St)(b:Exit->St->Prop):Exit->Act->M->Prop:=λe a w=>match e with
 | .normal=>∃c d,b .normal d/\Ext st d/\Rep c d a w
 | .exit i=>∃c d,b (.exit i) d/\Ext st d/\Rep c d a w
 | .ret=>∃c d,b .ret d/\Ext st d/\Rep c d a w
 | _=>False
def wL{st xC}{K}(x:Ext st xC):∀e a w,QK xC K e a w->QK st K e a w:=λe a w h=>by
 cases e<;>first | exact h | (obtain⟨g,d,b,c,f⟩:=h;exact⟨g,d,b,x.trans c,f⟩)
def Bs(m:P.follows .mixedOrders=L):∀c {f:Ann} {st:St} {b:Exit->St->Prop} {d:Nat->Nat} {a:Act} {w:M},V P c f st b->Rep d st a w->c.wp P (QK st b) a w
 | .skip,_,st,b,d,a,w,h,R=>wp_skip ⟨d,st,h,Ext.refl _,R⟩
 | .label _,_,st,b,d,a,w,h,R=>wp_label ⟨d,st,h,Ext.refl _,R⟩
 | .exit _,_,st,b,d,a,w,h,R=>wp_exit ⟨d,st,h,Ext.refl _,R⟩
 | .ret,_,st,b,d,a,w,h,R=>wp_ret ⟨d,st,h,Ext.refl _,R⟩
 | .region i o r,f,st,b,d,a,w,h,R=>by
  unfold V at h;split at h
  ·cases r
   ·exact h.elim
   refine wp_mono (UI m h R) λe a c q=>?_;cases e<;>first | exact q.elim | exact q
  ·obtain⟨x,⟨u,J,h⟩,c,n,_⟩:=eU h R;refine wp_mono (OY m h n) λe v B q=>?_;cases e<;>try exact q.elim
   obtain⟨t,y,k,g,a⟩:=q;obtain⟨z,l,j,F,S,_⟩:=eU k a;obtain⟨A,p,s⟩:=vD l F S (.inl (g.trans j)) J;exact⟨_,_,p,c.trans Ext.Xn,s⟩
  refine wp_mono (OY m h R) λe a c q=>?_;cases e<;>first | exact q.elim | exact q
 | .seq x y,f,st,b,d,a,w,h,R=>by
  unfold V at h;split at h
  ·obtain⟨s,⟨c,J,h⟩,a,j,_⟩:=eU h R;refine wp_seq (wp_mono (Bs m x h j) λe g i q=>?_);cases e with
   | normal=>
    obtain⟨r,t,l,e,h⟩:=q;obtain⟨u,n,k,F,S,_⟩:=eU l h;obtain⟨v,o,p⟩:=vD n F S (.inl (e.trans k)) J;exact wp_mono (Bs m y o p) (wL (a.trans Ext.Xn))
   | exit _=>exact wL a _ _ _ q
   | ret=>exact wL a _ _ _ q
   | _=>exact q.elim
  refine wp_seq (wp_mono (Bs m x h R) λe a c q=>?_);cases e with
  | normal=>
   obtain⟨i,s,h,e,g⟩:=q;exact wp_mono (Bs m y h g) (wL e)
  | _=>exact q
 | .cond c x y,f,st,b,d,a,w,h,R=>by
  obtain⟨t,g,h⟩:=bL h;have ev:=R.ev g;split at h
  ·exact wp_cond_true ev (Bs m x h R)
  ·exact wp_cond_false ev (Bs m y h R)
  ·exact wp_cond_split ev (λe=>Bs m x (h.1 e) R) (λe=>Bs m y (h.2 e) R)
  exact h.elim
 | .block i c,f,st,b,d,a,w,h,R=>by
  refine wp_block (wp_mono (Bs m c h R) λe g j q=>?_);cases e with
  | exit k=>
   obtain⟨a,s,o,l,n⟩:=q;rcases qH o with⟨e,c⟩ | ⟨e,c⟩
   ·have:=dh e;subst this;exact Rv ⟨a,s,c,l,n⟩
   have p:¬k=i:=λh=>by rw[h]at e;simp at e
   exact Mp (by simpa using p) ⟨a,s,c,l,n⟩
  | normal=>exact q
  | ret=>exact q
  | _=>exact q.elim
 | .loop c,f,st,b,d,a,w,h,R=>by
  unfold V at h;split at h
  ·rename_i kp a x _;obtain⟨s,z,t,j,k,_⟩:=eU h R;have o:=t.trans (Ext.esc s (CU s a));have A:=j.esc (CU s a);have r:(s.esc (CU s a)).mv=aL:=k;generalize s.esc (CU s a)=E at*
   obtain⟨p,D,u,h⟩:=z;refine wp_loop_ghost (λn l g=>∀b,Jo _ (p n) b->∃v,b v g/\Rep _ (oA E kp a v g) l g) D (λb i=>vD u A r (.inl (Ext.refl _)) i) λn l g y=>?_;obtain⟨v,B,C⟩:=y _ (h n);refine wp_mono (Bs m c B C) λe F G q=>?_;cases e with
   | normal=>
    obtain⟨P,T,x,e,h⟩:=q;obtain⟨V,⟨N,J,H⟩,n,c,S,_⟩:=eU x h;exact⟨N,J,λb i=>vD H c S (.inr ⟨v,g,e.trans n⟩) i⟩
   | exit _=>exact wL (o.trans Ext.Xn) _ _ _ q
   | ret=>exact wL (o.trans Ext.Xn) _ _ _ q
   | _=>exact q.elim
  exact h.elim
 | .rangeFunc _ _ _ _,_,_,_,_,_,_,h,_=>adv
 | .scope _,_,_,_,_,_,_,h,_=>adv
 | .goto _,_,_,_,_,_,_,h,_=>adv
 | .refuse _,_,_,_,_,_,_,h,_=>adv
def MQ(P:Program)(st:St):List ResultVar->Option (List SV)
 | []=>aM []
 | .tmp t::r=>(match st.get t,MQ P st r with
  | some v,aM l=>aM (v::l)
  | _,_=>aaf)
 | .cell p t::r=>(match st.get p,P.underlying t,MQ P st r with
  | some (.box i o),aM d,aM l=>(match dw st.bx i with
   | some b=>bif b.ok&&sz P t (I ((b.cells.drop o).take (xJ P t)))&&(ow d||Nat.beq (I ((b.cells.drop o).take (xJ P t))) 1)then aM (RA (ow d) ((b.cells.drop o).take (xJ P t))::l)else aaf
   | none=>aaf)
  | _,_,_=>aaf)
def afh(P:Program)(r:List ResultVar)(R:aw->M->Prop)(st:St):Prop:=cF (MQ P st r) λv=>fz (st.esc v) λst=>bif jv (Jj st.bx) v then R (val (LP st.bx) (CS v)) st.w0 else False
def GR{β}{st}{a}{w}(h:Rep β st a w):∀{r:List ResultVar} {c:List SV},MQ P st r=aM c->E5 P a w r (cW β c)
 | [],c,a=>by simp[MQ]at a;subst a;trivial
 | .tmp t::b,c,a=>by
  simp[MQ]at a;split at a
  ·rename_i v l d e;simp at a;subst a;exact⟨h.get d,GR h e⟩
  cases a
 | .cell p t::f,c,a=>by
  simp only[MQ]at a;split at a
  ·rename_i k o d l g i j;split at a
   ·rename_i b p;obtain⟨m,rfl⟩:=Gw a;simp only[aU,cu]at m;obtain⟨⟨H,z⟩,n⟩:=m;refine⟨⟨_,h.get g,?_⟩,GR h j⟩;generalize t:(b.cells.drop o).take _=q at*
    have C:Cells w _ (cW β q):=((h.bx k b p H).blk).H9 o _ (by
     rw[<-t];simp only[cW,lC,zQ];rw[ch,sF];simp only[cG,bJ];omega)
    have u:=mL (P:=P) i w;cases hd:ow d
    ·rw[hd]at u n;obtain⟨s,rfl⟩:=CF (n.resolve_left aaV);exact Ev u (Cells.one C)
    rw[hd]at u;have e:=ry hd β q;rw[hd]at e;rw[e];exact Gq u (rN z w) (gv β q) C
   cases a
  cases a
def Z8:Nat->List SV->List (Nat×Nat×SV)
 | _,[]=>[]
 | i,s::r=>(i,0,s)::Z8 (i+1) r
def GS β:∀i l,cv β (Z8 i l)=Gs i (cW β l)
 | _,[]=>rfl
 | i,s::r=>by
  have:=GS β (i+1) r;simp[cv]at this;simp[Z8,cv,cW,Gs,this]
def Z9(f:Func)(args:List SV)(w:M):St:={n:=f.ntmps,fr:=Z8 0 args,bx:=[],w0:=w,mv:=aL,dt:=[],ct:=1,df:=[]}
def mQ(P:Program)(f:FuncId)(args:Array aw)(w:M)(a:aw->M->Prop):Prop:=CallsD P f args .returning w λe u b=>u=.returning/\∃v,e=.returned v/\a v b
def MR(P:Program)(R:aw->M->Prop):List (Nat×List aw×List aw)->M->Prop
 | [],w=>R (.tuple #[]) w
 | d::s,w=>bif Ui P d.1 then mQ P d.1 (d.2.1++d.2.2).toArray w λ_ a=>MR P R s a else False
def aqC:List ResultVar->Bool
 | []=>L
 | _=>aL
def aaa(P:Program)(r:List ResultVar)(R:aw->M->Prop)(st:St):Prop:=match st.df with
 | []=>afh P r R st
 | _::_=>bif aqC r then fz st λst=>MR P R st.df st.w0 else False
def aab(P:Program)(r:List ResultVar)(R:aw->M->Prop)(st:St):Prop:=match st.df with
 | []=>afh P r R st
 | _::_=>False
def Vfn(P:Program)(f:FuncId)(a:Ann)(args:List SV)(R:aw->M->Prop)(w:M):Prop:=cF (P.funcs[f]?) λn=>cF n.body λc=>
 bif Nat.ble (I args) n.ntmps then V P c a (Z9 n args w) λe st=>(match e with
  | .normal=>aaa P n.results.toList R st
  | .ret=>aaa P n.results.toList R st
  | _=>False)else False
def Vfd(P:Program)(f:FuncId)(a:Ann)(args:List SV)(R:aw->M->Prop)(w:M):Prop:=cF (P.funcs[f]?) λn=>cF n.body λc=>
 bif Nat.ble (I args) n.ntmps then V P c a (Z9 n args w) λe st=>(match e with
  | .normal=>aab P n.results.toList R st
  | .ret=>aab P n.results.toList R st
  | _=>False)else False
def OZ{β}{st}{a}{w}{fn}{R}(d:afh P fn.results.toList R st)(f:Rep β st a w):∃v,(results fn a.tmps).run P w=.ok v w/\R v w:=by
 obtain⟨g,i,d⟩:=bL d;obtain⟨l,b,k,j,m,_⟩:=eU d (f.esc g);obtain⟨c,b⟩:=dU b;have h:=GR f i;rw[j.amH (yI c),<-j.still m]at b;refine⟨_,?_,b⟩;have r:fn.results=fn.results.toList.toArray:=rfl
 match g,h,c with
 | [s],h,c=>exact aeN r h
 | [],h,c=>
  have e:val β (CS [])=.tuple (cW β []).toArray:=rfl;exact Mq r rfl h
 | s::t::a,h,c=>
  have e:val β (CS (s::t::a))=.tuple (cW β (s::t::a)).toArray:=by
   show Value.tuple (sI β _).toArray=_;rw[uc]
  rw[e];exact Mq r (rfl) h
def UJ args {n} (hk:I args<=n):(⟨args.toArray++Array.replicate (n-args.toArray.size) undef,[]⟩)=fr n (λ_=>undef) (Gs 0 args):=by
 congr 1;apply Tc.1;rw[Array.toList_append,Array.toList_replicate,yv];apply nE;intro i;by_cases h:i<n
 ·rw[lR,pb _ _ _ _ _ h,bS,E7]
  grind
 rw[eG aba,eG (by rw[qm];omega)]
def Fb{fn}{tmps}{R}(r:fn.results.toList=[]):∀{l:List _} {w:M},MR P R l w->Leaves P fn tmps (λe b=>∃v,e=.returned v/\R v b) (dfs l) .returning w
 | [],w,h=>by
  have s:fn.results=([]).toArray:=by rw[<-r]
  exact⟨_,Mq (a:=⟨tmps,[]⟩) (rs:=[]) (vs:=[]) s rfl trivial,_,rfl,h⟩
 | d::s,w,h=>by
  obtain⟨a,h⟩:=dU h;refine leaves_cons (λh=>abG) (f:=d.1) (args:=(d.2.1++d.2.2).toArray) ?_ (h.mono ?_)
  ·have:=kO a (d.2.1++d.2.2).toArray w;rw[<-List.append_toArray]at this⊢;exact this
  rintro e u b ⟨rfl,v,rfl,h⟩;exact Fb r h
def Jz{β}{st}{a}{w}{fn}{R}(h:aaa P fn.results.toList R st)(b:Rep β st a w):Leaves P fn a.tmps (λe c=>∃v,e=.returned v/\R v c) a.defers .returning w:=by
 rw[b.ok.df];unfold aaa at h;split at h
 ·rename_i hd;rw[hd];obtain⟨v,k,a⟩:=OZ h b;exact⟨v,k,v,rfl,a⟩
 obtain⟨a,h⟩:=dU h;obtain⟨s,e,f,j,m,_⟩:=eU h b;have r:fn.results.toList=[]:=by
  cases g:fn.results.toList with
  | nil=>rfl
  | cons _ _=>rw[g]at a;cases a
 have d:s.df=st.df:=by
  obtain⟨i,l⟩:=f.df;have g:=bZ List.length (j.ok.df.symm.trans b.ok.df);rw[dfs,dfs,bJ,bJ,l,aO]at g
  grind
 rw[<-j.still m]at e;rw[<-d];exact Fb r e
def ajW(m:P.follows .mixedOrders=L){f}{an}{args}{R}{w}(h:Vfn P f an args R w):Calls P f (cW β0 args).toArray w λe a=>∃v,e=.returned v/\R v a:=by
 obtain⟨n,g,h⟩:=bL h;obtain⟨c,hb,h⟩:=bL h;obtain⟨i,h⟩:=dU h;have d:Rep β0 (Z9 n args w) (fr n.ntmps _ (Gs 0 _)) w:=
  ⟨⟨λ_=>undef,by rw[<-GS];rfl⟩,λc b hb=>agU,λc f bi e hb=>agU,Only.refl _ _,λ_=>rfl⟩
 refine calls_of_wp_defers g hb ?_;rw[UJ _ (by rw[gv];exact cZ i)];refine wp_mono (Bs m c h d) λe j a q=>?_;cases e with
 | normal=>
  obtain⟨e,s,b,f,c⟩:=q;exact Jz b c
 | ret=>
  obtain⟨e,s,b,f,c⟩:=q;exact Jz b c
 | exit _=>
  obtain⟨c,s,b,_⟩:=q;exact b.elim
 | _=>exact q.elim
def ajX(m:P.follows .mixedOrders=L){f}{an}{args}{R}{w}(h:Vfd P f an args R w):mQ P f (cW β0 args).toArray w R:=by
 obtain⟨n,j,h⟩:=bL h;obtain⟨c,hb,h⟩:=bL h;obtain⟨k,h⟩:=dU h;have d:Rep β0 (Z9 n args w) (fr n.ntmps _ (Gs 0 _)) w:=
  ⟨⟨λ_=>undef,by rw[<-GS];rfl⟩,λc b hb=>agU,λc f bi e hb=>agU,Only.refl _ _,λ_=>rfl⟩
 refine(callsD_of_wp (R:=λe g=>∃v,e=.returned v/\R v g) j hb ?_).mono (λe u g h=>h);rw[UJ _ (by rw[gv];exact cZ k)];refine wp_mono (Bs m c h d) λe i g q=>?_;have fin:∀{a:Nat->Nat} {s:St},aab P n.results.toList R s->Rep a s i g->_/\i.defers=[]:=fun{a s} h d=>by
  unfold aab at h;split at h
  ·rename_i hd;exact⟨OZ h d,by rw[d.ok.df,hd];rfl⟩
  exact h.elim
 cases e with
 | normal=>
  obtain⟨a,s,b,l,c⟩:=q;obtain⟨⟨v,e,f⟩,k3⟩:=fin b c;exact Mr e k3 f
 | ret=>
  obtain⟨a,s,b,l,c⟩:=q;obtain⟨⟨v,e,f⟩,k3⟩:=fin b c;exact ZJ e k3 f
 | exit _=>
  obtain⟨a,s,b,_⟩:=q;exact b.elim
 | _=>exact q.elim
def ajY{f}{an}{args}{R}{w}{vs}{vc}(m:P.follows .mixedOrders=L)(b:vs=(cW β0 args).toArray)(a:vc=Vfn P f an args R w)(h:vc):Calls P f vs w λe c=>∃v,e=.returned v/\R v c:=by
 subst a b;exact ajW m h
def ajZ{f}{an}{args}{R}{w}{vs}{vc}(m:P.follows .mixedOrders=L)(v:vs=(cW β0 args).toArray)(e:vc=Vfd P f an args R w)(h:vc):mQ P f vs w R:=by
 subst e v;exact ajX m h
end
end Go.Kt.V
namespace Go.Proofs.YtfemabakfkliiaaGreatDoor.Vc
open Go.Value renaming int->O,string->K,pointer->ae,agg->ah,tuple->ai,bool->aj
open Go.IntKind renaming i64->U,wrap->ar
open Go.Ending renaming returned->ak
open _root_.ByteArray renaming mk->ao
open _root_.Go.Proofs.Tryz renaming prog->Q
open Go.Instr renaming buildSlice->au
open Go renaming World->M,Value->aw,Calls->az
open Go.Kt renaming Only->Z,SliceF->aA,Cells->aB,OnlyP->aD,Blk->aF
open Go Go.RowKit Go.Kt Go.Kt.V
abbrev N(c:Bool)(x y:Prop):Prop:=(c=L->x)/\(c=aL->y)
abbrev cB(f:FuncId)(a:Array aw)(w:M)(b:Bool->M->Prop):Prop:=az Q f a w λe c=>∃x,e=ak (aj x)/\b x c
abbrev lQ(s:List Nat)(f:FuncId)(a:Array aw)(w:M)(c:Bool->M->Prop):Prop:=az Q f a w λe b=>∃x,e=ak (aj x)/\cr s w b/\c x b
abbrev cI(f:FuncId)(a:Array aw)(w:M)(b:Int->M->Prop):Prop:=az Q f a w λe c=>∃x,e=ak (O U x)/\b x c
abbrev ol(s:List Nat)(f:FuncId)(a:Array aw)(w:M)(c:Int->M->Prop):Prop:=az Q f a w λe b=>∃x,e=ak (O U x)/\cr s w b/\c x b
abbrev cS(f:FuncId)(a:Array aw)(w:M)(b:aK->M->Prop):Prop:=az Q f a w λe c=>∃x,e=ak (K x)/\b x c
abbrev qL(s:List Nat)(f:FuncId)(a:Array aw)(w:M)(c:aK->M->Prop):Prop:=az Q f a w λe b=>∃x,e=ak (K x)/\cr s w b/\c x b
abbrev cL(f:FuncId)(a:Array aw)(w:M)(b:Sl->M->Prop):Prop:=az Q f a w λe c=>∃x,e=ak (x.v)/\b x c
abbrev Ei(s:List Nat)(f:FuncId)(a:Array aw)(w:M)(c:Sl->M->Prop):Prop:=az Q f a w λe b=>∃x,e=ak (x.v)/\cr s w b/\c x b
abbrev cU(f:FuncId)(a:Array aw)(w:M)(b:M->Prop):Prop:=az Q f a w λe c=>e=ak (ai #[])/\b c
abbrev fO(s:List Nat)(f:FuncId)(a:Array aw)(w:M)(c:M->Prop):Prop:=az Q f a w λe b=>e=ak (ai #[])/\cr s w b/\c b
abbrev Tj(x:Sem aw)(b:M)(a:Sl->M->Prop):Prop:=∃l w,x.run Q b=.ok (Sl.v l) w/\a l w
abbrev nx(k:Nat)(a:aJ):Prop:=∃n,n<k/\a n
abbrev nw(a:M)(b:Nat->M->Prop):Prop:=∀k w,a.heap.size<=k->k<w.heap.size->Z [] a w->b k w
abbrev lp0(w:M)(B:(Nat->M->Prop)->Nat->M->Prop):Prop:=∃J k,J k w/\∀k w,J k w->B J k w
abbrev oc{a:Type}(x:a)(w:M)(B:(Nat->a->M->Prop)->Nat->a->M->Prop):Prop:=∃J k,J k x w/\∀k x w,J k x w->B J k x w
abbrev GU{a b:Type}(x:a)(y:b)(w:M)(B:(Nat->a->b->M->Prop)->Nat->a->b->M->Prop):Prop:=∃J k,J k x y w/\∀k x y w,J k x y w->B J k x y w
abbrev A3(X:M->Prop)(Y:(M->Prop)->Prop):Prop:=∃J,(∀w,J w->X w)/\Y J
abbrev mN{a:Type}(X:a->M->Prop)(Y:(a->M->Prop)->Prop):Prop:=∃J,(∀x w,J x w->X x w)/\Y J
abbrev jn2{a b:Type}(X:a->b->M->Prop)(Y:(a->b->M->Prop)->Prop):Prop:=∃J,(∀x y w,J x y w->X x y w)/\Y J
abbrev jn3{a b c:Type}(X:a->b->c->M->Prop)(Y:(a->b->c->M->Prop)->Prop):Prop:=∃J,(∀x y z w,J x y z w->X x y z w)/\Y J
abbrev xCB(w:M)(p:Addr)(a:Bool->Prop):Prop:=∃x,aB w p [aj x]/\a x
abbrev gU(w:M)(p:Addr)(a:Int->Prop):Prop:=∃x,aB w p [O U x]/\a x
abbrev RL(w:M)(p:Addr)(g:Int->Int->Int->aK->Int->Sl->Int->Prop):Prop:=∃x a b c d e f,aB w p [O U x,O U a,O U b,K c,O U d,e.v,O U f]/\g x a b c d e f
abbrev jZ(w:M)(p:Addr)(f:Int->Int->aK->Int->Sl->Int->Prop):Prop:=∃x a b c d e,aB w p [O U x,O U a,K b,O U c,d.v,O U e]/\f x a b c d e
abbrev GV(w:M)(p:Addr)(d:Int->aK->Int->Int->Prop):Prop:=∃x a b c,aB w p [O U x,K a,O U b,O U c]/\d x a b c
abbrev jy(w:M)(p:Addr)(a:Sl->Prop):Prop:=∃x,aB w p [x.v]/\a x
abbrev xCM(w:M)(p:Addr)(a:Option Nat->Prop):Prop:=∃x,aB w p [.map x]/\a x
abbrev xCQ(w:M)(p:Addr)(a:Option Addr->Prop):Prop:=∃x,aB w p [ae x]/\a x
abbrev CZ(w:M)(p:Addr)(a:aK->Prop):Prop:=∃x,aB w p [K x]/\a x
abbrev afi(w:M)(b n:Nat)(e:Bool->Bool->Bool->Bool->Prop):Prop:=∃x a c d,aF w b n [aj x,aj a,aj c,aj d]/\e x a c d
abbrev xKI(w:M)(b n:Nat)(a:Int->Prop):Prop:=∃x,aF w b n [O U x]/\a x
abbrev aj0(w:M)(b n:Nat)(d:Int->Int->Int->Prop):Prop:=∃x a c,aF w b n [O U x,O U a,O U c]/\d x a c
abbrev JA(w:M)(b n:Nat)(j:Int->aK->aK->aK->Sl->Sl->Sl->Sl->Int->Prop):Prop:=∃x a c d e f g h i,aF w b n [O U x,K a,K c,K d,e.v,f.v,g.v,h.v,O U i]/\j x a c d e f g h i
abbrev UK(w:M)(b n:Nat)(a:Sl->Prop):Prop:=∃x,aF w b n [x.v]/\a x
abbrev aac(w:M)(b n:Nat)(f:Sl->Int->Int->Int->Int->Prop):Prop:=∃x a c d e,aF w b n [x.v,O U a,O U c,O U d,O U e]/\f x a c d e
abbrev jz(w:M)(b n:Nat)(j:Sl->Int->Int->Int->Int->Int->Int->Int->Int->Prop):Prop:=∃x a c d e f g h i,aF w b n [x.v,O U a,O U c,O U d,O U e,O U f,O U g,O U h,O U i]/\j x a c d e f g h i
abbrev JB(w:M)(b n:Nat)(g:Sl->Int->Int->Int->Int->Sl->Prop):Prop:=∃x a c d e f,aF w b n [x.v,O U a,O U c,O U d,O U e,f.v]/\g x a c d e f
abbrev qs(w:M)(b n:Nat)(k:Sl->Int->aK->aK->aK->Sl->Sl->Sl->Sl->Int->Prop):Prop:=∃x a c d e f g h i j,aF w b n [x.v,O U a,K c,K d,K e,f.v,g.v,h.v,i.v,O U j]/\k x a c d e f g h i j
abbrev pR(w:M)(b n:Nat)(m:Sl->Int->aK->aK->aK->Sl->Sl->Sl->Sl->Int->Sl->Int->Int->Prop):Prop:=∃x d e f g h i j k l a c Y,aF w b n [x.v,O U d,K e,K f,K g,h.v,i.v,j.v,k.v,O U l,a.v,O U c,O U Y]/\m x d e f g h i j k l a c Y
abbrev afj(w:M)(b n:Nat)(e:Sl->Sl->Sl->Sl->Prop):Prop:=∃x a c d,aF w b n [x.v,a.v,c.v,d.v]/\e x a c d
abbrev JC(w:M)(b n:Nat)(j:Sl->Sl->Sl->Sl->Sl->Sl->Sl->Sl->Sl->Prop):Prop:=∃x a c d e f g h i,aF w b n [x.v,a.v,c.v,d.v,e.v,f.v,g.v,h.v,i.v]/\j x a c d e f g h i
abbrev GW(w:M)(b n:Nat)(f:Option Nat->Sl->Option Nat->Int->Int->Prop):Prop:=∃x a c d e,aF w b n [.map x,a.v,.map c,O U d,O U e]/\f x a c d e
abbrev xKQ(w:M)(b n:Nat)(a:Option Addr->Prop):Prop:=∃x,aF w b n [ae x]/\a x
abbrev oC(w:M)(b n:Nat)(e:Option Addr->Sl->Bool->Int->Prop):Prop:=∃x a c d,aF w b n [ae x,a.v,aj c,O U d]/\e x a c d
abbrev O0(w:M)(b n:Nat)(d:Option Addr->Sl->Sl->Prop):Prop:=∃x a c,aF w b n [ae x,a.v,c.v]/\d x a c
abbrev xKS(w:M)(b n:Nat)(a:aK->Prop):Prop:=∃x,aF w b n [K x]/\a x
abbrev afk(w:M)(b n:Nat)(c:aK->Int->Prop):Prop:=∃x a,aF w b n [K x,O U a]/\c x a
abbrev C0(w:M)(b n:Nat)(e:aK->Int->Sl->Sl->Prop):Prop:=∃x a c d,aF w b n [K x,O U a,c.v,d.v]/\e x a c d
abbrev Ix(s:Sl)(i:Int)(w:M)(a:Int->Prop):Prop:=∃p,cT s i 1 p/\∃x,aB w p [O U x]/\a x
abbrev j5(s:Sl)(i:Int)(w:M)(f:Int->Int->aK->Int->Sl->Int->Prop):Prop:=∃p,cT s i 6 p/\∃x a b c d e,aB w p [O U x,O U a,K b,O U c,d.v,O U e]/\f x a b c d e
abbrev gR(s:Sl)(m:Int)(w:M)(l:Int->aK->Int->Bool->Int->Int->aK->Int->Sl->Int->Sl->Sl->Int->Prop):Prop:=∃p,cT s m 13 p/\∃x c d e f g h i j k a b Y,aB w p [O U x,K c,O U d,aj e,O U f,O U g,K h,O U i,j.v,O U k,a.v,b.v,O U Y]/\l x c d e f g h i j k a b Y
abbrev UL(s:Sl)(i:Int)(w:M)(d:Int->aK->Int->Int->Prop):Prop:=∃p,cT s i 4 p/\∃x a b c,aB w p [O U x,K a,O U b,O U c]/\d x a b c
abbrev O1(s:Sl)(i:Int)(w:M)(e:Int->aK->Int->Int->Int->Prop):Prop:=∃p,cT s i 5 p/\∃x a b c d,aB w p [O U x,K a,O U b,O U c,O U d]/\e x a b c d
abbrev vF(s:Sl)(j:Int)(w:M)(i:Int->aK->Int->Int->aK->Int->Sl->Int->Int->Prop):Prop:=∃p,cT s j 9 p/\∃x a b c d e f g h,aB w p [O U x,K a,O U b,O U c,K d,O U e,f.v,O U g,O U h]/\i x a b c d e f g h
abbrev fY(s:Sl)(j:Int)(w:M)(i:Int->aK->aK->aK->Sl->Sl->Sl->Sl->Int->Prop):Prop:=∃p,cT s j 9 p/\∃x a b c d e f g h,aB w p [O U x,K a,K b,K c,d.v,e.v,f.v,g.v,O U h]/\i x a b c d e f g h
abbrev xYL(s:Sl)(i:Int)(w:M)(a:Sl->Prop):Prop:=∃p,cT s i 1 p/\∃x,aB w p [x.v]/\a x
abbrev GX(s:Sl)(i:Int)(w:M)(a:aK->Prop):Prop:=∃p,cT s i 1 p/\∃x,aB w p [K x]/\a x
abbrev UM(s:Sl)(i:Int)(w:M)(c:aK->Int->Int->Prop):Prop:=∃p,cT s i 3 p/\∃x a b,aB w p [K x,O U a,O U b]/\c x a b
abbrev E(a:Addr):aw:=ae (aM a)
abbrev pB(k:Nat):aw:=ae (aM ⟨k,0,aaf⟩)
abbrev yp(a:M)(b:Nat->Nat->M->Prop):Prop:=∀k l w,a.heap.size<=k->k<w.heap.size->a.heap.size<=l->l<w.heap.size->Z [] a w->b k l w
abbrev nw3(a:M)(b:Nat->Nat->Nat->M->Prop):Prop:=∀k l m w,a.heap.size<=k->k<w.heap.size->a.heap.size<=l->l<w.heap.size->a.heap.size<=m->m<w.heap.size->Z [] a w->b k l m w
abbrev o0(b:M)(a:M->Prop):Prop:=∀w,Z [] b w->a w
abbrev Ag(f:FuncId)(a:Array aw)(w:M)(o:Int->aK->Int->Bool->Int->Int->aK->Int->Sl->Int->Sl->Sl->Int->M->Prop):Prop:=az Q f a w λe p=>∃(x:Int) (d:aK) (g:Int) (h:Bool) (i:Int) (j:Int) (k:aK) (l:Int) (m:Sl) (n:Int) (b:Sl) (c:Sl) (Y:Int),e=ak (ah #[O U x,K d,O U g,aj h,O U i,O U j,K k,O U l,m.v,O U n,b.v,c.v,O U Y])/\o x d g h i j k l m n b c Y p
abbrev GY(f:FuncId)(a:Array aw)(w:M)(l:Int->aK->Int->Int->aK->Int->Sl->Int->Int->M->Prop):Prop:=az Q f a w λe m=>∃(x:Int) (b:aK) (c:Int) (d:Int) (g:aK) (h:Int) (i:Sl) (j:Int) (k:Int),e=ak (ah #[O U x,K b,O U c,O U d,K g,O U h,i.v,O U j,O U k])/\l x b c d g h i j k m
abbrev yN(f:FuncId)(a:Array aw)(w:M)(g:Int->aK->Int->Int->M->Prop):Prop:=az Q f a w λe h=>∃(x:Int) (b:aK) (c:Int) (d:Int),e=ak (ah #[O U x,K b,O U c,O U d])/\g x b c d h
abbrev afl(f:FuncId)(a:Array aw)(w:M)(b:Int->M->Prop):Prop:=az Q f a w λe c=>∃(x:Int),e=ak (.int .u64 x)/\b x c
abbrev xi(f:FuncId)(a:Array aw)(w:M)(o:Sl->Int->aK->aK->aK->Sl->Sl->Sl->Sl->Int->Int->Int->M->Prop):Prop:=az Q f a w λe p=>∃(x:Sl) (d:Int) (g:aK) (h:aK) (i:aK) (j:Sl) (k:Sl) (l:Sl) (m:Sl) (n:Int) (b:Int) (c:Int),e=ak (ai #[ah #[x.v,O U d,K g,K h,K i,j.v,k.v,l.v,m.v,O U n],ah #[O U b,O U c]])/\o x d g h i j k l m n b c p
abbrev ac4(f:FuncId)(a:Array aw)(w:M)(c:Int->OV->M->Prop):Prop:=az Q f a w λe d=>∃(x:Int) (b:OV),e=ak (ai #[O U x,b.v])/\c x b d
abbrev afm(f:FuncId)(a:Array aw)(w:M)(d:Int->Int->Int->M->Prop):Prop:=az Q f a w λe g=>∃(x:Int) (b:Int) (c:Int),e=ak (ai #[O U x,O U b,O U c])/\d x b c g
abbrev UN(f:FuncId)(a:Array aw)(w:M)(d:aK->aK->Bool->M->Prop):Prop:=az Q f a w λe g=>∃(x:aK) (b:aK) (c:Bool),e=ak (ai #[K x,K b,aj c])/\d x b c g
abbrev rVs(s:List Nat)(f:FuncId)(a:Array aw)(w:M)(c:OV->M->Prop):Prop:=az Q f a w λe b=>∃(x:OV),e=ak (x.v)/\cr s w b/\c x b
abbrev fK(s:List Nat)(f:FuncId)(a:Array aw)(w:M)(j:Int->Int->aK->Int->Sl->Int->M->Prop):Prop:=az Q f a w λe b=>∃(x:Int) (c:Int) (d:aK) (g:Int) (h:Sl) (i:Int),e=ak (ah #[O U x,O U c,K d,O U g,h.v,O U i])/\cr s w b/\j x c d g h i b
abbrev MS(s:List Nat)(f:FuncId)(a:Array aw)(w:M)(d:Int->Int->M->Prop):Prop:=az Q f a w λe b=>∃(x:Int) (c:Int),e=ak (ah #[O U x,O U c])/\cr s w b/\d x c b
abbrev vG(s:List Nat)(f:FuncId)(a:Array aw)(w:M)(h:Int->aK->Int->Int->M->Prop):Prop:=az Q f a w λe b=>∃(x:Int) (c:aK) (d:Int) (g:Int),e=ak (ah #[O U x,K c,O U d,O U g])/\cr s w b/\h x c d g b
abbrev pe(s:List Nat)(f:FuncId)(a:Array aw)(w:M)(m:Int->aK->aK->aK->Sl->Sl->Sl->Sl->Int->M->Prop):Prop:=az Q f a w λe b=>∃(x:Int) (c:aK) (d:aK) (g:aK) (h:Sl) (i:Sl) (j:Sl) (k:Sl) (l:Int),e=ak (ah #[O U x,K c,K d,K g,h.v,i.v,j.v,k.v,O U l])/\cr s w b/\m x c d g h i j k l b
abbrev aad(s:List Nat)(f:FuncId)(a:Array aw)(w:M)(g:aK->Int->Int->M->Prop):Prop:=az Q f a w λe b=>∃(x:aK) (c:Int) (d:Int),e=ak (ah #[K x,O U c,O U d])/\cr s w b/\g x c d b
abbrev O2(s:List Nat)(f:FuncId)(a:Array aw)(w:M)(c:Int->M->Prop):Prop:=az Q f a w λe b=>∃(x:Int),e=ak (.int .u64 x)/\cr s w b/\c x b
abbrev Ah(s:List Nat)(f:FuncId)(a:Array aw)(w:M)(g:Sl->Int->Int->M->Prop):Prop:=az Q f a w λe b=>∃(x:Sl) (c:Int) (d:Int),e=ak (ai #[x.v,ah #[O U c,O U d]])/\cr s w b/\g x c d b
abbrev MT(s:List Nat)(f:FuncId)(a:Array aw)(w:M)(d:Sl->Int->M->Prop):Prop:=az Q f a w λe b=>∃(x:Sl) (c:Int),e=ak (ai #[x.v,O U c])/\cr s w b/\d x c b
abbrev uK(s:List Nat)(f:FuncId)(a:Array aw)(w:M)(k:Sl->Sl->Sl->Sl->Sl->Int->Int->M->Prop):Prop:=az Q f a w λe b=>∃(x:Sl) (c:Sl) (d:Sl) (g:Sl) (h:Sl) (i:Int) (j:Int),e=ak (ai #[ah #[x.v,c.v,d.v,g.v,h.v],ah #[O U i,O U j]])/\cr s w b/\k x c d g h i j b
abbrev vH(s:List Nat)(f:FuncId)(a:Array aw)(w:M)(j:Sl->Sl->Sl->Sl->Int->Int->M->Prop):Prop:=az Q f a w λe b=>∃(x:Sl) (c:Sl) (d:Sl) (g:Sl) (h:Int) (i:Int),e=ak (ai #[ah #[x.v,c.v,d.v,g.v],ah #[O U h,O U i]])/\cr s w b/\j x c d g h i b
abbrev pv(s:List Nat)(f:FuncId)(a:Array aw)(w:M)(p:Sl->Int->aK->aK->aK->Sl->Sl->Sl->Sl->Int->Int->Int->M->Prop):Prop:=az Q f a w λe d=>∃(x:Sl) (g:Int) (h:aK) (i:aK) (j:aK) (k:Sl) (l:Sl) (m:Sl) (n:Sl) (o:Int) (b:Int) (c:Int),e=ak (ai #[ah #[x.v,O U g,K h,K i,K j,k.v,l.v,m.v,n.v,O U o],ah #[O U b,O U c]])/\cr s w d/\p x g h i j k l m n o b c d
abbrev sR(s:List Nat)(f:FuncId)(a:Array aw)(w:M)(l:Int->Int->aK->Int->Sl->Int->Int->Int->M->Prop):Prop:=az Q f a w λe b=>∃(x:Int) (c:Int) (d:aK) (g:Int) (h:Sl) (i:Int) (j:Int) (k:Int),e=ak (ai #[ah #[O U x,O U c,K d,O U g,h.v,O U i],ah #[O U j,O U k]])/\cr s w b/\l x c d g h i j k b
abbrev nL(s:List Nat)(f:FuncId)(a:Array aw)(w:M)(m:Int->Int->aK->Int->Sl->Int->Int->Int->Int->M->Prop):Prop:=az Q f a w λe b=>∃(x:Int) (c:Int) (d:aK) (g:Int) (h:Sl) (i:Int) (j:Int) (k:Int) (l:Int),e=ak (ai #[ah #[O U x,O U c,K d,O U g,h.v,O U i],O U j,ah #[O U k,O U l]])/\cr s w b/\m x c d g h i j k l b
abbrev GZ(s:List Nat)(f:FuncId)(a:Array aw)(w:M)(j:Int->aK->Int->Int->Int->Int->M->Prop):Prop:=az Q f a w λe b=>∃(x:Int) (c:aK) (d:Int) (g:Int) (h:Int) (i:Int),e=ak (ai #[ah #[O U x,K c,O U d,O U g],O U h,O U i])/\cr s w b/\j x c d g h i b
abbrev rP(s:List Nat)(f:FuncId)(a:Array aw)(w:M)(d:Int->OV->M->Prop):Prop:=az Q f a w λe b=>∃(x:Int) (c:OV),e=ak (ai #[O U x,c.v])/\cr s w b/\d x c b
abbrev aae(s:List Nat)(f:FuncId)(a:Array aw)(w:M)(g:Int->Int->Int->M->Prop):Prop:=az Q f a w λe b=>∃(x:Int) (c:Int) (d:Int),e=ak (ai #[O U x,O U c,O U d])/\cr s w b/\g x c d b
abbrev UO(s:List Nat)(f:FuncId)(a:Array aw)(w:M)(d:Int->Int->M->Prop):Prop:=az Q f a w λe b=>∃(x:Int) (c:Int),e=ak (ai #[O U x,O U c])/\cr s w b/\d x c b
abbrev UQ(s:List Nat)(f:FuncId)(a:Array aw)(w:M)(d:aK->Bool->M->Prop):Prop:=az Q f a w λe b=>∃(x:aK) (c:Bool),e=ak (ai #[K x,aj c])/\cr s w b/\d x c b
abbrev UR(s:List Nat)(f:FuncId)(a:Array aw)(w:M)(d:aK->Int->M->Prop):Prop:=az Q f a w λe b=>∃(x:aK) (c:Int),e=ak (ai #[K x,O U c])/\cr s w b/\d x c b
abbrev vI(x:Int)(a:Int):aw:=ah #[O U x,O U a]
abbrev JD(x:Int)(a:Int)(b:Int)(c:aK)(d:Int)(e:Sl)(f:Int):aw:=ah #[O U x,O U a,O U b,K c,O U d,e.v,O U f]
abbrev bU(x:Int)(a:Int)(b:aK)(c:Int)(d:Sl)(e:Int):aw:=ah #[O U x,O U a,K b,O U c,d.v,O U e]
abbrev gD(x:Int)(c:aK)(d:Int)(e:Bool)(f:Int)(g:Int)(h:aK)(i:Int)(j:Sl)(k:Int)(a:Sl)(b:Sl)(Y:Int):aw:=ah #[O U x,K c,O U d,aj e,O U f,O U g,K h,O U i,j.v,O U k,a.v,b.v,O U Y]
abbrev nf(x:Int)(a:aK)(b:Int)(c:Int):aw:=ah #[O U x,K a,O U b,O U c]
abbrev C1(x:Int)(a:aK)(b:Int)(c:Int)(d:Int):aw:=ah #[O U x,K a,O U b,O U c,O U d]
abbrev lF(x:Int)(a:aK)(b:Int)(c:Int)(d:aK)(e:Int)(f:Sl)(g:Int)(h:Int):aw:=ah #[O U x,K a,O U b,O U c,K d,O U e,f.v,O U g,O U h]
abbrev cy(x:Int)(a:aK)(b:aK)(c:aK)(d:Sl)(e:Sl)(f:Sl)(g:Sl)(h:Int):aw:=ah #[O U x,K a,K b,K c,d.v,e.v,f.v,g.v,O U h]
abbrev cX(x:Sl)(a:Int)(b:aK)(c:aK)(d:aK)(e:Sl)(f:Sl)(g:Sl)(h:Sl)(i:Int):aw:=ah #[x.v,O U a,K b,K c,K d,e.v,f.v,g.v,h.v,O U i]
abbrev O3(x:Sl)(a:Sl)(b:Sl)(c:Sl):aw:=ah #[x.v,a.v,b.v,c.v]
abbrev G0(x:Sl)(a:Sl)(b:Sl)(c:Sl)(d:Sl):aw:=ah #[x.v,a.v,b.v,c.v,d.v]
abbrev aj2(x:aK)(a:Int)(b:Int):aw:=ah #[K x,O U a,O U b]
abbrev sT(a:Addr)(w:M)(n:Nat)(c:Nat->Nat->aI->Nat->Prop):Prop:=∃b i z t,a=⟨b,i,aaf⟩/\aF w b t z/\i+n<=I z/\c b i z t
abbrev sS(c:M)(b i:Nat)(z:aI)(t:Nat)(v:aI)(a:M->Prop):Prop:=∀w,Z [b] c w->aF w b t (fQ z i v)->a w
abbrev li(t:TypeId)(v:aw)(w:M)(a:Sl->M->Prop):Prop:=Tj (au t 1 #[.mk 0 v]) w a
abbrev MU(t:TypeId)(v b:aw)(w:M)(a:Sl->M->Prop):Prop:=Tj (au t 2 #[.mk 0 v,.mk 1 b]) w a
abbrev rb3(t:TypeId)(v b c:aw)(w:M)(a:Sl->M->Prop):Prop:=Tj (au t 3 #[.mk 0 v,.mk 1 b,.mk 2 c]) w a
abbrev rb4(t:TypeId)(v b c d:aw)(w:M)(a:Sl->M->Prop):Prop:=Tj (au t 4 #[.mk 0 v,.mk 1 b,.mk 2 c,.mk 3 d]) w a
abbrev qg(t:TypeId)(l m:Sl)(w:M)(a:Sl->M->Prop):Prop:=Tj (Builtin.append_ #[t,t] t #[l.v,m.v]) w a
end Go.Proofs.YtfemabakfkliiaaGreatDoor.Vc
