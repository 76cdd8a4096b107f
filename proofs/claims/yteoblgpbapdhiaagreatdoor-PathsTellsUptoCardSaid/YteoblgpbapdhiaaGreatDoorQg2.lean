import Derived.Test.YteoblgpbapdhiaaGreatDoorQg1
import Derived.Shelf.Strings.OnBuilder
import Derived.Shelf.Strconv.Itoa3
import Derived.Shelf.Strconv.ErrVarParseInt
import Derived.Shelf.Strings.Shaped
import Derived.Shelf.Sort.Plain
import Derived.Shelf.Strings.Repeat
import Derived.Shelf.Slices.Clone
import Derived.Shelf.Slices.SearchI
import Derived.Shelf.Slices.Cells
import Derived.Shelf.Slices.In.SortNone
import Derived.Shelf.SlicesG.Cmp
import Derived.Shelf.SlIterI.Nil
import Derived.Shelf.SortM.Plain
import Derived.Shelf.SortM.SortNone
import Derived.Shelf.SlSortCmp.NoneTotal
set_option maxRecDepth 100000
set_option maxHeartbeats 40000000
set_option linter.all false
open Go.Proofs Go.Proofs.Tryz
open Bool renaming true->aE,false->aL
open Option renaming some->aM,none->VM
open List renaming length->WS
open Decidable renaming decide->JW
namespace Go.Kt.V
open Go renaming World->av,Value->aw
open Go Go.RowKit Go.Kt
inductive Ann where
 |o
 |s (x y:Ann)
 |j (kp:List Nat) (ms:List MI) (x y:Ann)
 |l (jn:Bool) (kp:List Nat) (ms:List MI)
def Ann.x:Ann->Ann
 |.s x _=>x
 |_=>.o
def Ann.y:Ann->Ann
 |.s _ y=>y
 |_=>.o
def Ann.d:Nat->Ann->Ann
 |0,x=>x
 |n+1,x=>.s .o<|d n x
def Ann.e(x:Ann):Ann:=.s .o x
def Ann.f(x:Ann):Ann:=.s x .o
def Ann.q(kp:J Nat)(m:J MI):Ann:=.j kp m .o .o
def Ann.r(kp:J Nat)(m:J MI)(x:Ann):Ann:=.j kp m x .o
def fT:Nat:=4000
def Um(k:Nat):J nu->Prop->Prop
 |[],p=>p
 |b::r,p=>bif b.ok&&b.blk.isSome then(k≠b.blk.getD 0->Um k r p)else Um k r p
def Qo:J nu->Prop->Prop
 |[],p=>p
 |b::r,p=>bif b.ok&&b.blk.isSome then Um (b.blk.getD 0) r (Qo r p)else Qo r p
def Qp{k}:∀{l:J nu} {p:Prop},Um k l p->(∀i b,dq l i=aM b->b.ok=aE->b.blk.isSome=aE->k≠b.blk.getD 0)->p
 |[],_,h,_=>h
 |b::r,p,h,d=>by
  unfold Um at h;cases a:(b.ok&&b.blk.isSome)with
  |true=>
   rw[a]at h;simp at a;exact Qp (h<|d 0 b I a.1 a.2) λi c e=>d (i+1) c e
  |false=>
   rw[a]at h;exact Qp h λi c b=>d (i+1) c b
def JP:∀{l:J nu} {p:Prop},Qo l p->(∀i a bi j,dq l i=aM bi->dq l a=aM j->bi.ok=aE->j.ok=aE->bi.blk.isSome=aE->j.blk.isSome=aE->i≠a->bi.blk.getD 0≠j.blk.getD 0)->p
 |[],_,h,_=>h
 |b::r,p,h,g=>by
  unfold Qo at h;let t:∀{p:Prop},Qo r p->p:=λh=>JP h λi a bi j e f k m n o q=>g (i+1) (a+1) bi j e f k m n o X;cases d:(b.ok&&b.blk.isSome)with
  |true=>
   rw[d]at h;simp at d;exact t<|Qp h λi c p e f=>g 0 (i+1) b c I p d.1 e d.2 f X
  |false=>
   grind
def Ur(P:Program)(o:J Oper)(draw:C)(st:St)(K:St->Prop):Prop:=
 bif draw then
  bif JM P o&&Region.lexB .any o.toArray then WM (Qk o) st λst=>Cm P o fT [] o st λst=>K {st with mv:=aE}
  else bif H9 P o 0 o then fY {st with mv:=aE} λst=>Qo (bif V5 P o 0 o then st.bx else[]) (∃S,MJ P o aE (V5 P o 0 o) S (WS o) (Array.replicate (WS o) aL) st K)
  else MJ P o aL aL (λ_=>False) (WS o) (Array.replicate (WS o) aL) {st with mv:=aE} K
 else DU P o fT o st K
def QR(st:St)(K:St->Prop):Exit->Act->av->Prop:=λe a w=>match e with
 |.normal=>∃b d,K d/\Ext st d/\Rep b d a w
 |_=>False
def Ext.mv s:Ext s {s with mv:=aE}:=⟨I,bc _,R,A,YR,LQ⟩
def Rep.drew{β}{s}{a}{w w'}(h:Rep β s a w)(O:Only [] w w')(d:w'.heap=w.heap):Rep β {s with mv:=aE} a w':=
 ⟨h.fr,λi b c o=>by
  let⟨k,a,k3⟩:=h.bx i b c o;exact⟨by unfold Blk at k⊢;rw[d];exact k,a,k3⟩,h.ne,h.only.bG O,R⟩
section
variable{P:Program}
def D6(m:P.follows .mixedOrders=aE){id}{ops}{draw}{st}{K}{β}{a}{w}(h:Ur P ops.toList draw st K)(R:Rep β st a w):
  (Code.region id ops draw).wp P (QR st K) a w:=by
 let⟨l⟩:=ops;rcases rW h with⟨hd,x⟩|⟨hd,x⟩<;>clear h<;>have h:=x
 .subst hd;let d:=R.drew (Us w 1) I;let f:∀{v y:C} {S:Nat->Prop} {b:St},Ext st b->Rep β b a w.drew->MJ P l v y S (WS l) _ b K->(Code.region id l.toArray aE).wp P (QR st K) a w:=λe j h=>
   PR _ m (Aa (λc a w u=>u) h j λr t o i p q k3=>⟨r,t,p,e.trans q,k3⟩)
  rcases rW h with⟨g,h⟩|⟨_,h⟩
  .simp at g;let⟨s,z,A,B,_⟩:=Cs h R;let⟨E,p,q,k3,D⟩:=vQ z;let⟨o,c,k⟩:=D trivial β a w B;refine wp_region_quiet_lit m g.2 ?_;have:=Qg (Q:=λo=>∀i,(∃n,i=w.drewN n)->QR st K .normal o i) (rest:=[]) c (wpQuiet_nil (by
    rintro i ⟨n,rfl⟩;exact⟨β,_,p,(A.trans q).trans<|Ext.mv _,k.drew (Us w n) I⟩))
   simp_all
  rcases rW h with⟨_,h⟩|⟨_,h⟩
  .obtain⟨b,g,e,j,_⟩:=fp h d;let V:∀c s bi a,dq b.bx c=aM bi->dq b.bx s=aM a->bi.ok=aE->a.ok=aE->bi.blk.isSome=aE->a.blk.isSome=aE->c≠s->bi.blk.getD 0≠a.blk.getD 0:=λc s bi a n z A B D E F=>by
    let⟨k,hk⟩:=fl.1 D;let⟨G,m⟩:=fl.1 E;let e:=(j.bx c bi n A).at_ k hk;have:=(j.bx s a z B).at_ G m;rw[hk,m,jm,jm];have:=j.ne c s bi a n z A B F;omega
   let⟨S,n⟩:=JP g (by
    cases V5 P l 0 l with
    |true=>exact V
    |false=>exact λc s bi a n=>by cases c<;>cases n)
   exact f ((Ext.mv st).trans e) j n
  exact f (Ext.mv st) d h
 subst hd;refine wp_region_lit<|yC h R λa d c e k b k3=>⟨a,d,k,b,k3⟩
def PH(P:Program)(o:J Oper)(j:C)(kp:J Nat)(m:J MI)(st:St)(K:St->Prop):Prop:=
 bif Jo o (og P 0 o)then fY st.C7 λst=>
  (bif H9 P o 0 o then Qo (bif V5 P o 0 o then st.bx else[]) (∃S,SE P o j kp m aE (V5 P o 0 o) S (og P 0 o) (Zs o (rC<|og P 0 o) (WS o)<|Array.replicate (WS o) aL) (Ul (Zs o (rC<|og P 0 o) (WS o)<|Array.replicate (WS o) aL).toList) st K)
  else SE P o j kp m aL aL (λ_=>False) (og P 0 o) (Zs o (rC<|og P 0 o) (WS o)<|Array.replicate (WS o) aL) (Ul (Zs o (rC<|og P 0 o) (WS o)<|Array.replicate (WS o) aL).toList) st K)
 else False
def ajW(m:P.follows .mixedOrders=aE){id}{ops}{jn}{kp}{mi}{st}{K}{β}{a}{w}(h:PH P ops.toList jn kp mi st K)(R:Rep β st a w):
  (Code.region id ops aE).wp P (QR st K) a w:=by
 let⟨l⟩:=ops;let⟨z,h⟩:=eh h;let⟨s,b,e,j,r,_⟩:=fp h<|R.drew (Us w 1) I;let f:∀{d i:C} {S:Nat->Prop} {D:Array C} {g:Nat},SE P l jn kp mi d i S _ D g s K->(Code.region id l.toArray aE).wp P (QR st K) a w:=λh=>
  PR _ m (aer (λc a w p=>p) z h j r λk n t u o q k3=>⟨k,n,o,((WK st).trans e).trans q,k3⟩)
 rcases rW b with⟨_,h⟩|⟨_,h⟩
 .have V:∀c o bi a,dq s.bx c=aM bi->dq s.bx o=aM a->bi.ok=aE->a.ok=aE->bi.blk.isSome=aE->a.blk.isSome=aE->c≠o->bi.blk.getD 0≠a.blk.getD 0:=λc o bi a n p q t u v x=>by
   let⟨k,hk⟩:=fl.1 u;let⟨y,m⟩:=fl.1 v;have:=(j.bx c bi n q).at_ k hk;have:=(j.bx o a p t).at_ y m;rw[hk,m,jm,jm];have:=j.ne c o bi a n p q t x;omega
  let⟨S,n⟩:=JP h (by
   cases V5 P l 0 l with
   |true=>exact V
   |false=>exact λc o bi a n=>by cases c<;>cases n)
  exact f n
 exact f h
def V(P:Program):Code->Ann->St->(Exit->St->Prop)->Prop
 |.skip,_,st,K=>K .normal st
 |.label _,_,st,K=>K .normal st
 |.exit i,_,st,K=>K (.exit i) st
 |.ret,_,st,K=>K .ret st
 |.region _ o d,a,st,K=>(match a with
  |.l j kp m=>bif d then PH P o.toList j kp m st (K .normal)else False
  |.j kp m _ _=>fY st λst=>∃J,MG _ J (λv w=>K .normal<|pO st kp m v w)/\Ur P o.toList d st λs=>fY s λs=>VX st kp m J s
  |_=>Ur P o.toList d st<|K .normal)
 |.seq a b,n,st,K=>(match n with
  |.j kp m x y=>fY st λst=>∃J,MG _ J (λv w=>V P b y (pO st kp m v w) K)/\V P a x st λe s=>(match e with
   |.normal=>fY s λs=>VX st kp m J s
   |e=>K e s)
  |n=>V P a n.x st λe s=>(match e with
   |.normal=>V P b n.y s K
   |e=>K e s))
 |.cond c a b,n,st,K=>cn (st.ev c) λt=>(match t with
  |.bl aE=>V P a n.x st K
  |.bl aL=>V P b n.y st K
  |.bt t=>((t=aE->V P a n.x st K)/\(t=aL->V P b n.y st K))
  |_=>False)
 |.block i c,a,st,K=>V P c a st λe s=>(match e with
  |.exit d=>bif Nat.beq d i then K .normal s else K (.exit d) s
  |e=>K e s)
 |.loop c,a,st,K=>(match a with
  |.j kp m x _=>fY st λst=>(λst=>∃(I:Nat->JT _) (b:Nat),VX st kp m (I b) st/\∀n,MG _ (I n) λv w=>V P c x (pO st kp m v w) λe s=>(match e with
   |.normal=>fY s λs=>∃c<n,VX st kp m (I c) s
   |e=>K e s))<|st.esc<|Fx st m
  |_=>False)
 |_,_,_,_=>False
def QK(st:St)(K:Exit->St->Prop):Exit->Act->av->Prop:=λe a w=>match e with
 |.normal=>∃b d,K .normal d/\Ext st d/\Rep b d a w
 |.exit i=>∃b d,K (.exit i) d/\Ext st d/\Rep b d a w
 |.ret=>∃b d,K .ret d/\Ext st d/\Rep b d a w
 |_=>False
def yG{st IU}{K}(x:Ext st IU):∀e a w,QK IU K e a w->QK st K e a w:=λe a w h=>by
 cases e<;>first|exact h|(let⟨g,d,b,c,f⟩:=h;exact⟨g,d,b,x.trans c,f⟩)
def DV(m:P.follows .mixedOrders=aE):∀c {d:Ann} {st:St} {K:Exit->St->Prop} {b:Nat->Nat} {a:Act} {w:av},V P c d st K->Rep b st a w->c.wp P (QK st K) a w
 |.skip,_,st,K,b,a,w,h,R=>wp_skip ⟨b,st,h,Wp _,R⟩
 |.label _,_,st,K,b,a,w,h,R=>wp_label ⟨b,st,h,Wp _,R⟩
 |.exit _,_,st,K,b,a,w,h,R=>wp_exit ⟨b,st,h,Wp _,R⟩
 |.ret,_,st,K,b,a,w,h,R=>wp_ret ⟨b,st,h,Wp _,R⟩
 |.region i o r,d,st,K,b,a,w,h,R=>by
  unfold V at h;split at h
  .cases r
   .exact h.elim
   refine wp_mono (ajW m h R) λe a c q=>?_;cases e<;>first|exact q.elim|exact q
  .obtain⟨u,⟨s,J,h⟩,c,Q,_⟩:=fp h R;refine wp_mono (D6 m h Q) λe t z q=>?_;cases e<;>try exact q.elim
   let⟨p,v,j,f,a⟩:=q;let⟨x,k,g,I,X,_⟩:=fp j a;let⟨y,l,n⟩:=xz k I X (.inl<|f.trans g) J;exact⟨_,_,l,c.trans IT,n⟩
  refine wp_mono (D6 m h R) λe a c q=>?_;cases e<;>first|exact q.elim|exact q
 |.seq x y,d,st,K,b,a,w,h,R=>by
  unfold V at h;split at h
  .obtain⟨s,⟨c,J,h⟩,a,j,_⟩:=fp h R;refine wp_seq<|wp_mono (DV m x h j) λe f g q=>?_;cases e with
   |normal=>
    let⟨p,r,k,e,h⟩:=q;let⟨t,l,i,I,X,_⟩:=fp k h;let⟨v,n,o⟩:=xz l I X (.inl<|e.trans i) J;exact wp_mono (DV m y n o)<|yG<|a.trans IT
   |exit _=>exact yG a _ _ _ q
   |ret=>exact yG a _ _ _ q
   |_=>exact q.elim
  refine wp_seq<|wp_mono (DV m x h R) λe a c q=>?_;cases e with
  |normal=>
   let⟨g,s,h,e,f⟩:=q;exact wp_mono (DV m y h f)<|yG e
  |_=>exact q
 |.cond c x y,d,st,K,b,a,w,h,R=>by
  let⟨t,f,h⟩:=bD h;have ev:=R.ev f;split at h
  .exact wp_cond_true ev (DV m x h R)
  .exact wp_cond_false ev (DV m y h R)
  .exact wp_cond_split ev (λe=>DV m x (h.1 e) R) (λe=>DV m y (h.2 e) R)
  exact h.elim
 |.block i c,d,st,K,b,a,w,h,R=>by
  refine wp_block<|wp_mono (DV m c h R) λe f g q=>?_;cases e with
  |exit j=>
   let⟨a,s,n,k,l⟩:=q;rcases rW n with⟨e,c⟩|⟨e,c⟩
   .have:=db e;subst this;exact acW ⟨a,s,c,k,l⟩
   have o:¬j=i:=λh=>by rw[h]at e;simp at e
   exact vrT (by simpa using o) ⟨a,s,c,k,l⟩
  |normal=>exact q
  |ret=>exact q
  |_=>exact q.elim
 |.loop c,d,st,K,b,a,w,h,R=>by
  unfold V at h;split at h
  .rename_i kp a x _;let⟨s,r,l,i,Y,_⟩:=fp h R;have k:=l.trans<|Js s<|Fx s a;have Q:=i.esc<|Fx s a;have A:(s.esc<|Fx s a).mv=aL:=Y;generalize s.esc (Fx s a)=z at*
   let⟨I,y,o,h⟩:=r;refine wp_loop_ghost (λn j f=>∀K,MG _ (I n) K->∃v,K v f/\Rep _ (pO z kp a v f) j f) y (λK g=>xz o Q A (.inl<|Wp _) g) λn j f p=>let⟨v,t,u⟩:=p _<|h n;wp_mono (DV m c t u) λe B C q=>?_;cases e with
   |normal=>
    let⟨G,H,x,e,h⟩:=q;let⟨J,⟨F,E,D⟩,n,c,X,_⟩:=fp x h;exact⟨F,E,λK g=>xz D c X (.inr ⟨v,f,e.trans n⟩) g⟩
   |exit _=>exact yG (k.trans IT) _ _ _ q
   |ret=>exact yG (k.trans IT) _ _ _ q
   |_=>exact q.elim
  exact h.elim
 |.rangeFunc _ _ _ _,_,_,_,_,_,_,h,_=>NP
 |.scope _,_,_,_,_,_,_,h,_=>NP
 |.goto _,_,_,_,_,_,_,h,_=>NP
 |.refuse _,_,_,_,_,_,_,h,_=>NP
def Qq(P:Program)(st:St):J ResultVar->Option (J SV)
 |[]=>aM []
 |.tmp t::r=>(match st.get t,Qq P st r with
  |some v,aM l=>aM (v::l)
  |_,_=>VM)
 |.cell p t::r=>(match st.get p,P.underlying t,Qq P st r with
  |some (.box i o),aM d,aM l=>(match dq st.bx i with
   |some b=>bif b.ok&&sz P t (WS<|(b.cells.drop o).take<|rj P t)&&(pL d||Nat.beq (WS<|(b.cells.drop o).take<|rj P t) 1)then aM (VQ (pL d) ((b.cells.drop o).take<|rj P t)::l)else VM
   |none=>VM)
  |_,_,_=>VM)
def Z6(P:Program)(r:J ResultVar)(R:aw->av->Prop)(st:St):Prop:=cn (Qq P st r) λv=>fY (st.esc v) λst=>bif jT (MB st.bx) v then R (val (Pw st.bx)<|Fw v) st.w0 else False
def JQ{β}{st}{a}{w}(h:Rep β st a w):∀{f:J ResultVar} {c:J SV},Qq P st f=aM c->HZ P a w f (cO β c)
 |[],c,a=>by simp[Qq]at a;subst a;trivial
 |.tmp t::r,c,a=>by
  simp[Qq]at a;split at a
  .rename_i v l b d;simp at a;subst a;exact⟨h.get b,JQ h d⟩
  cases a
 |.cell p t::r,c,a=>by
  simp only[Qq]at a;split at a
  .rename_i k o d l g i j;split at a
   .rename_i b n;obtain⟨m,rfl⟩:=Jy a;simp only[aO,cj]at m;let⟨⟨t,z⟩,p⟩:=m;refine⟨⟨_,h.get g,?_⟩,JQ h j⟩;generalize r:(b.cells.drop o).take _=q at*
    have C:Cells w _ (cO β q):=((h.bx k b n t).blk).Lp o _ (by
     rw[<-r];simp only[cO,mg,B6];simp_all)
    have V:=nQ (P:=P) i w;cases hd:pL d
    .rw[hd]at V p;obtain⟨s,rfl⟩:=Ff<|p.resolve_left N;exact drv V<|H8 C
    rw[hd]at V;have e:=tK hd β q;rw[hd]at e;rw[e];exact bxi V (ue z w) (gP β q) C
   cases a
  cases a
def TN:Nat->J SV->J (Nat×Nat×SV)
 |_,[]=>[]
 |i,s::r=>(i,0,s)::TN (i+1) r
def JR β:∀i l,cv β (TN i l)=Jv i (cO β l)
 |_,[]=>rfl
 |i,s::r=>by
  have:=JR β (i+1) r;simp[cv]at this;simp[TN,cv,cO,Jv,this]
def VJ(f:Func)(args:J SV)(w:av):St:={n:=f.ntmps,fr:=TN 0 args,bx:=[],w0:=w,mv:=aL,dt:=[],ct:=1,df:=[]}
def nV(P:Program)(f:FuncId)(args:Array aw)(w:av)(Q:aw->av->Prop):Prop:=CallsD P f args .returning w λe u a=>u=.returning/\∃v,e=.returned v/\Q v a
def Qr(P:Program)(R:aw->av->Prop):J (Nat×J aw×J aw)->av->Prop
 |[],w=>R (.tuple #[]) w
 |d::s,w=>bif Y3 P d.1 then nV P d.1 (d.2.1++d.2.2).toArray w λ_ a=>Qr P R s a else False
def azS:J ResultVar->C
 |[]=>aE
 |_=>aL
def ZL(P:Program)(r:J ResultVar)(R:aw->av->Prop)(st:St):Prop:=match st.df with
 |[]=>Z6 P r R st
 |_::_=>bif azS r then fY st λst=>Qr P R st.df st.w0 else False
def M4(P:Program)(r:J ResultVar)(R:aw->av->Prop)(st:St):Prop:=match st.df with
 |[]=>Z6 P r R st
 |_::_=>False
def Hu(P:Program)(f:FuncId)(a:Ann)(args:J SV)(R:aw->av->Prop)(w:av):Prop:=cn (P.funcs[f]?) λn=>cn n.body λc=>
 bif Nat.ble (WS args) n.ntmps then V P c a (VJ n args w) λe st=>(match e with
  |.normal=>ZL P n.results.toList R st
  |.ret=>ZL P n.results.toList R st
  |_=>False)else False
def dd(P:Program)(f:FuncId)(a:Ann)(args:J SV)(R:aw->av->Prop)(w:av):Prop:=cn (P.funcs[f]?) λn=>cn n.body λc=>
 bif Nat.ble (WS args) n.ntmps then V P c a (VJ n args w) λe st=>(match e with
  |.normal=>M4 P n.results.toList R st
  |.ret=>M4 P n.results.toList R st
  |_=>False)else False
def SH{β}{st}{a}{w}{fn}{R}(f:Z6 P fn.results.toList R st)(g:Rep β st a w):∃v,(results fn a.tmps).run P w=.ok v w/\R v w:=by
 let⟨i,k,f⟩:=bD f;let⟨n,d,l,j,m,_⟩:=fp f<|g.esc i;let⟨c,d⟩:=eh d;let h:=JQ g k;rw[j.auo (AZ c),<-j.still m]at d;refine⟨_,?_,d⟩;let b:fn.results=fn.results.toList.toArray:=I
 match i,h,c with
 |[s],h,c=>exact akn b h
 |[],h,c=>
  let e:val β (Fw [])=.tuple (cO β []).toArray:=I;exact P6 b I h
 |s::t::r,h,c=>
  let e:val β (Fw (s::t::r))=.tuple (cO β (s::t::r)).toArray:=by
   show Value.tuple (uB β _).toArray=_;rw[vO]
  rw[e];exact P6 b (rfl) h
theorem bQ args {n} (hk:WS args<=n):(⟨args.toArray++Array.replicate (n-args.toArray.size) undef,[]⟩)=fr n (λ_=>undef) (Jv 0 args):=by
 congr 1;apply XM.1;rw[Array.toList_append,Array.toList_replicate,oE];apply jR;intro i;by_cases h:i<n
 .rw[mM,qs _ _ _ _ _ h,bS,H3]
  grind
 rw[cu o,cu ZW]
def zn{fn}{tmps}{R}(h:fn.results.toList=[]):∀{l:J _} {w:av},Qr P R l w->Leaves P fn tmps (λe b=>∃v,e=.returned v/\R v b) (WG l) .returning w
 |[],w,c=>by
  let r:fn.results=([]).toArray:=by rw[<-h]
  exact⟨_,P6 (a:=⟨tmps,[]⟩) (rs:=[]) (vs:=[]) r I trivial,_,I,c⟩
 |d::s,w,a=>by
  let⟨c,a⟩:=eh a;refine leaves_cons W5 (f:=d.1) (args:=(d.2.1++d.2.2).toArray) ?_<|a.mono ?_
  .have:=ia c (d.2.1++d.2.2).toArray w;rw[<-List.append_toArray]at this⊢;exact this
  rintro e u b ⟨rfl,v,rfl,a⟩;exact zn h a
def PO{β}{st}{a}{w}{fn}{R}(h:ZL P fn.results.toList R st)(b:Rep β st a w):Leaves P fn a.tmps (λe c=>∃v,e=.returned v/\R v c) a.defers .returning w:=by
 rw[b.ok.df];unfold ZL at h;split at h
 .rename_i hd;rw[hd];let⟨v,k,a⟩:=SH h b;exact⟨v,k,v,I,a⟩
 let⟨a,h⟩:=eh h;let⟨s,d,e,j,m,_⟩:=fp h b;let r:fn.results.toList=[]:=by
  cases f:fn.results.toList with
  |nil=>rfl
  |cons _ _=>rw[f]at a;cases a
 let V:s.df=st.df:=by
  let⟨g,l⟩:=e.df;have f:=bn List.length<|j.ok.df.symm.trans b.ok.df;rw[WG,WG,bP,bP,l,aU]at f
  grind
 rw[<-j.still m]at d;rw[<-V];exact zn r d
def aqq(m:P.follows .mixedOrders=aE){f}{an}{args}{R}{w}(h:Hu P f an args R w):Calls P f (cO β0 args).toArray w λe a=>∃v,e=.returned v/\R v a:=by
 let⟨n,g,h⟩:=bD h;let⟨c,hb,h⟩:=bD h;let⟨j,h⟩:=eh h;let d:Rep β0 (VJ n args w) (fr n.ntmps _<|Jv 0 _) w:=
  ⟨⟨λ_=>undef,by rw[<-JR];rfl⟩,λc b hb=>Ho,λc f bi e hb=>Ho,qE _ _,λ_=>I⟩
 refine calls_of_wp_defers g hb ?_;rw[bQ _ (by rw[gP];simp_all)];refine wp_mono (DV m c h d) λe i a q=>?_;cases e with
 |normal=>
  let⟨e,s,b,f,c⟩:=q;exact PO b c
 |ret=>
  let⟨e,s,b,f,c⟩:=q;exact PO b c
 |exit _=>
  let⟨c,s,b,_⟩:=q;exact b.elim
 |_=>exact q.elim
def aqr(m:P.follows .mixedOrders=aE){f}{an}{args}{R}{w}(h:dd P f an args R w):nV P f (cO β0 args).toArray w R:=by
 let⟨n,k,h⟩:=bD h;let⟨c,hb,h⟩:=bD h;let⟨l,h⟩:=eh h;let d:Rep β0 (VJ n args w) (fr n.ntmps _<|Jv 0 _) w:=
  ⟨⟨λ_=>undef,by rw[<-JR];rfl⟩,λc b hb=>Ho,λc f bi e hb=>Ho,qE _ _,λ_=>I⟩
 refine(callsD_of_wp (R:=λe g=>∃v,e=.returned v/\R v g) k hb ?_).mono W5;rw[bQ _ (by rw[gP];simp_all)];refine wp_mono (DV m c h d) λe j g q=>?_;let i:∀{a:Nat->Nat} {s:St},M4 P n.results.toList R s->Rep a s j g->_/\j.defers=[]:=fun{a s} h d=>by
  unfold M4 at h;split at h
  .rename_i hd;exact⟨SH h d,by rw[d.ok.df,hd];rfl⟩
  exact h.elim
 cases e with
 |normal=>
  let⟨a,s,b,o,c⟩:=q;let⟨⟨v,e,f⟩,k3⟩:=i b c;exact inc e k3 f
 |ret=>
  let⟨a,s,b,o,c⟩:=q;let⟨⟨v,e,f⟩,k3⟩:=i b c;exact ae8 e k3 f
 |exit _=>
  let⟨a,s,b,_⟩:=q;exact b.elim
 |_=>exact q.elim
def aqs{f}{an}{args}{R}{w}{vs}{vc}(m:P.follows .mixedOrders=aE)(b:vs=(cO β0 args).toArray)(a:vc=Hu P f an args R w)(h:vc):Calls P f vs w λe c=>∃v,e=.returned v/\R v c:=by
 subst a b;exact aqq m h
def aqt{f}{an}{args}{R}{w}{vs}{vc}(m:P.follows .mixedOrders=aE)(v:vs=(cO β0 args).toArray)(e:vc=dd P f an args R w)(h:vc):nV P f vs w R:=by
 subst e v;exact aqr m h
end
end Go.Kt.V
namespace Vc
open Go.Value renaming int->O,string->ab,pointer->ae,agg->ah,tuple->ai,bool->aj
open Go.IntKind renaming i64->U,wrap->ar
open Go.Ending renaming returned->ak
open _root_.ByteArray renaming mk->ao
open _root_.Go.Proofs.Tryz renaming prog->aq
open Go.Instr renaming buildSlice->au
open Go renaming World->av,Value->aw,Calls->az
open Go.Kt renaming Only->ay,SliceF->aA,Cells->aB,OnlyP->aD,Blk->aF
open Go Go.RowKit Go.Kt Go.Kt.V
abbrev K(c:C)(x y:Prop):Prop:=(c=aE->x)/\(c=aL->y)
abbrev cB(f:FuncId)(a:Array aw)(w:av)(K:C->av->Prop):Prop:=az aq f a w λe b=>∃x,e=ak (aj x)/\K x b
abbrev iV(s:J Nat)(f:FuncId)(a:Array aw)(w:av)(K:C->av->Prop):Prop:=az aq f a w λe b=>∃x,e=ak (aj x)/\bX s w b/\K x b
abbrev cI(f:FuncId)(a:Array aw)(w:av)(K:Int->av->Prop):Prop:=az aq f a w λe b=>∃x,e=ak (O U x)/\K x b
abbrev pR(s:J Nat)(f:FuncId)(a:Array aw)(w:av)(K:Int->av->Prop):Prop:=az aq f a w λe b=>∃x,e=ak (O U x)/\bX s w b/\K x b
abbrev cS(f:FuncId)(a:Array aw)(w:av)(K:M->av->Prop):Prop:=az aq f a w λe b=>∃x,e=ak (ab x)/\K x b
abbrev sC(s:J Nat)(f:FuncId)(a:Array aw)(w:av)(K:M->av->Prop):Prop:=az aq f a w λe b=>∃x,e=ak (ab x)/\bX s w b/\K x b
abbrev cL(f:FuncId)(a:Array aw)(w:av)(K:Sl->av->Prop):Prop:=az aq f a w λe b=>∃x,e=ak (x.v)/\K x b
abbrev qv(s:J Nat)(f:FuncId)(a:Array aw)(w:av)(K:Sl->av->Prop):Prop:=az aq f a w λe b=>∃x,e=ak (x.v)/\bX s w b/\K x b
abbrev cU(f:FuncId)(a:Array aw)(w:av)(K:av->Prop):Prop:=az aq f a w λe b=>e=ak (ai #[])/\K b
abbrev fW(s:J Nat)(f:FuncId)(a:Array aw)(w:av)(K:av->Prop):Prop:=az aq f a w λe b=>e=ak (ai #[])/\bX s w b/\K b
abbrev LR(x:Sem aw)(a:av)(K:Sl->av->Prop):=∃l w,x.run aq a=.ok (Sl.v l) w/\K l w
abbrev nx(k:Nat)(K:h):=∃n<k,K n
abbrev P(a:av)(K:Nat->av->Prop):=∀k w,a.heap.size<=k->k<w.heap.size->ay [] a w->K k w
abbrev Mm(w:av)(B:(Nat->av->Prop)->Nat->av->Prop):=∃J k,J k w/\∀k w,J k w->B J k w
abbrev mh{a:Type}(x:a)(w:av)(B:(Nat->a->av->Prop)->Nat->a->av->Prop):=∃J k,J k x w/\∀k x w,J k x w->B J k x w
abbrev Hv{a b:Type}(x:a)(y:b)(w:av)(B:(Nat->a->b->av->Prop)->Nat->a->b->av->Prop):=∃J k,J k x y w/\∀k x y w,J k x y w->B J k x y w
abbrev yH(X:av->Prop)(Y:(av->Prop)->Prop):=∃J,(∀w,J w->X w)/\Y J
abbrev lJ{a:Type}(X:a->av->Prop)(Y:(a->av->Prop)->Prop):=∃J,(∀x w,J x w->X x w)/\Y J
abbrev Mg{a b:Type}(X:a->b->av->Prop)(Y:(a->b->av->Prop)->Prop):=∃J,(∀x y w,J x y w->X x y w)/\Y J
abbrev jn3{a b c:Type}(X:a->b->c->av->Prop)(Y:(a->b->c->av->Prop)->Prop):=∃J,(∀x y z w,J x y z w->X x y z w)/\Y J
section
variable(w:av)(p:Addr)
abbrev Tt(K:C->Prop):=∃x,aB w p [aj x]/\K x
abbrev gF(K:Int->Prop):=∃x,aB w p [O U x]/\K x
abbrev sd1(K:Int->Int->Int->M->Int->Sl->Int->Prop):=∃x a b c d e f,aB w p [O U x,O U a,O U b,ab c,O U d,e.v,O U f]/\K x a b c d e f
abbrev kH(K:Int->Int->M->Int->Sl->Int->Prop):=∃x a b c d e,aB w p [O U x,O U a,ab b,O U c,d.v,O U e]/\K x a b c d e
abbrev JS(K:Int->M->Int->Int->Prop):=∃x a b c,aB w p [O U x,ab a,O U b,O U c]/\K x a b c
abbrev iZ(K:Sl->Prop):=∃x,aB w p [x.v]/\K x
abbrev Px(K:Option Nat->Prop):=∃x,aB w p [.map x]/\K x
abbrev MX(K:Option Addr->Prop):=∃x,aB w p [ae x]/\K x
abbrev FD(K:M->Prop):=∃x,aB w p [ab x]/\K x
end
section
variable(w:av)(b n:Nat)
abbrev xKB(K:C->Prop):=∃x,aF w b n [aj x]/\K x
abbrev akT(K:C->C->C->C->Prop):=∃x a c d,aF w b n [aj x,aj a,aj c,aj d]/\K x a c d
abbrev xKI(K:Int->Prop):=∃x,aF w b n [O U x]/\K x
abbrev aqv(K:Int->Int->Int->Prop):=∃x a c,aF w b n [O U x,O U a,O U c]/\K x a c
abbrev Aft(K:Int->Int->Int->M->Int->Sl->Int->Prop):=∃x a c d e f g,aF w b n [O U x,O U a,O U c,ab d,O U e,f.v,O U g]/\K x a c d e f g
abbrev afC(K:Int->M->Int->Int->Int->Prop):=∃x a c d e,aF w b n [O U x,ab a,O U c,O U d,O U e]/\K x a c d e
abbrev gdK(K:Int->M->M->M->Sl->Sl->Sl->Sl->Int->Prop):=∃x a c d e f g h i,aF w b n [O U x,ab a,ab c,ab d,e.v,f.v,g.v,h.v,O U i]/\K x a c d e f g h i
abbrev FE(K:Sl->Prop):=∃x,aF w b n [x.v]/\K x
abbrev afD(K:Sl->Int->Int->Int->Int->Prop):=∃x a c d e,aF w b n [x.v,O U a,O U c,O U d,O U e]/\K x a c d e
abbrev jV(K:Sl->Int->Int->Int->Int->Int->Int->Int->Int->Prop):=∃x a c d e f g h i,aF w b n [x.v,O U a,O U c,O U d,O U e,O U f,O U g,O U h,O U i]/\K x a c d e f g h i
abbrev E1(K:Sl->Int->Int->Int->Int->Sl->Prop):=∃x a c d e f,aF w b n [x.v,O U a,O U c,O U d,O U e,f.v]/\K x a c d e f
abbrev rF(K:Sl->Int->M->M->M->Sl->Sl->Sl->Sl->Int->Prop):=∃x a c d e f g h i j,aF w b n [x.v,O U a,ab c,ab d,ab e,f.v,g.v,h.v,i.v,O U j]/\K x a c d e f g h i j
abbrev qT(K:Sl->Int->M->M->M->Sl->Sl->Sl->Sl->Int->Sl->Int->Int->Prop):=∃a c d e f g h i j k P H x,aF w b n [a.v,O U c,ab d,ab e,ab f,g.v,h.v,i.v,j.v,O U k,P.v,O U H,O U x]/\K a c d e f g h i j k P H x
abbrev Qs(K:Sl->Sl->Sl->Sl->Prop):=∃x a c d,aF w b n [x.v,a.v,c.v,d.v]/\K x a c d
abbrev JU(K:Option Nat->Sl->Option Nat->Int->Int->Prop):=∃x a c d e,aF w b n [.map x,a.v,.map c,O U d,O U e]/\K x a c d e
abbrev Qx(K:Option Addr->Prop):=∃x,aF w b n [ae x]/\K x
abbrev pS(K:Option Addr->Sl->C->Int->Prop):=∃x a c d,aF w b n [ae x,a.v,aj c,O U d]/\K x a c d
abbrev SI(K:Option Addr->Sl->Sl->Prop):=∃x a c,aF w b n [ae x,a.v,c.v]/\K x a c
abbrev xKS(K:M->Prop):=∃x,aF w b n [ab x]/\K x
abbrev N7(K:M->Int->Prop):=∃x a,aF w b n [ab x,O U a]/\K x a
abbrev FF(K:M->Int->Sl->Sl->Prop):=∃x a c d,aF w b n [ab x,O U a,c.v,d.v]/\K x a c d
end
section
variable(s:Sl)(i:Int)(w:av)
abbrev xYB(K:C->Prop):=∃p,ci s i 1 p/\∃x,aB w p [aj x]/\K x
abbrev xj(K:Int->Prop):=∃p,ci s i 1 p/\∃x,aB w p [O U x]/\K x
abbrev Cu(K:Int->Int->Int->M->Int->Sl->Int->Prop):=∃p,ci s i 7 p/\∃x a b c d e f,aB w p [O U x,O U a,O U b,ab c,O U d,e.v,O U f]/\K x a b c d e f
abbrev kJ(K:Int->Int->M->Int->Sl->Int->Prop):=∃p,ci s i 6 p/\∃x a b c d e,aB w p [O U x,O U a,ab b,O U c,d.v,O U e]/\K x a b c d e
abbrev azU(K:Int->Sl->Prop):=∃p,ci s i 2 p/\∃x a,aB w p [O U x,a.v]/\K x a
end
abbrev iT(s:Sl)(k:Int)(w:av)(K:Int->M->Int->C->Int->Int->M->Int->Sl->Int->Sl->Sl->Int->Prop):=∃p,ci s k 13 p/\∃a b c d e f g h i j P H x,aB w p [O U a,ab b,O U c,aj d,O U e,O U f,ab g,O U h,i.v,O U j,P.v,H.v,O U x]/\K a b c d e f g h i j P H x
section
variable(s:Sl)(i:Int)(w:av)
abbrev Zx(K:Int->M->Int->Int->Prop):=∃p,ci s i 4 p/\∃x a b c,aB w p [O U x,ab a,O U b,O U c]/\K x a b c
abbrev A5(K:Int->M->Int->Int->Int->Prop):=∃p,ci s i 5 p/\∃x a b c d,aB w p [O U x,ab a,O U b,O U c,O U d]/\K x a b c d
abbrev xA(K:Int->M->Int->Int->M->Int->Sl->Int->Int->Prop):=∃p,ci s i 9 p/\∃x a b c d e f g h,aB w p [O U x,ab a,O U b,O U c,ab d,O U e,f.v,O U g,O U h]/\K x a b c d e f g h
abbrev gQ(K:Int->M->M->M->Sl->Sl->Sl->Sl->Int->Prop):=∃p,ci s i 9 p/\∃x a b c d e f g h,aB w p [O U x,ab a,ab b,ab c,d.v,e.v,f.v,g.v,O U h]/\K x a b c d e f g h
abbrev SJ(K:Sl->Prop):=∃p,ci s i 1 p/\∃x,aB w p [x.v]/\K x
abbrev JV(K:M->Prop):=∃p,ci s i 1 p/\∃x,aB w p [ab x]/\K x
abbrev PM(K:M->Int->Int->Prop):=∃p,ci s i 3 p/\∃x a b,aB w p [ab x,O U a,O U b]/\K x a b
end
abbrev G(a:Addr):aw:=ae<|aM a
abbrev pB(k:Nat):aw:=ae<|aM ⟨k,0,VM⟩
abbrev zf(a:av)(K:Nat->Nat->av->Prop):=∀k l w,a.heap.size<=k->k<w.heap.size->a.heap.size<=l->l<w.heap.size->ay [] a w->K k l w
abbrev TW(a:av)(K:Nat->Nat->Nat->av->Prop):=∀k l m w,a.heap.size<=k->k<w.heap.size->a.heap.size<=l->l<w.heap.size->a.heap.size<=m->m<w.heap.size->ay [] a w->K k l m w
abbrev o0(a:av)(K:av->Prop):=∀w,ay [] a w->K w
section
variable(s:List Nat)(f:FuncId)(a:Array aw)(w:av)
abbrev mtM(K:OV->av->Prop):Prop:=az aq f a w λe b=>∃x,e=ak (x.v)/\K x b
abbrev rb3(K:Int->M->Int->C->Int->Int->M->Int->Sl->Int->Sl->Sl->Int->av->Prop):Prop:=az aq f a w λe n=>∃b c d g h i j k l m P H x,e=ak (ah #[O U b,ab c,O U d,aj g,O U h,O U i,ab j,O U k,l.v,O U m,P.v,H.v,O U x])/\K b c d g h i j k l m P H x n
abbrev abZ(K:Int->M->Int->Int->M->Int->Sl->Int->Int->av->Prop):Prop:=az aq f a w λe l=>∃x b c d g h i j k,e=ak (ah #[O U x,ab b,O U c,O U d,ab g,O U h,i.v,O U j,O U k])/\K x b c d g h i j k l
abbrev A6(K:Int->M->Int->Int->av->Prop):Prop:=az aq f a w λe g=>∃x b c d,e=ak (ah #[O U x,ab b,O U c,O U d])/\K x b c d g
abbrev XI(K:Int->av->Prop):Prop:=az aq f a w λe b=>∃x,e=ak (.int .u64 x)/\K x b
abbrev adu(K:Sl->Int->M->M->M->Sl->Sl->Sl->Sl->Int->Int->Int->av->Prop):Prop:=az aq f a w λe m=>∃x b c d g h i j k l P H,e=ak (ai #[ah #[x.v,O U b,ab c,ab d,ab g,h.v,i.v,j.v,k.v,O U l],ah #[O U P,O U H]])/\K x b c d g h i j k l P H m
abbrev PN(K:Int->OV->av->Prop):Prop:=az aq f a w λe c=>∃x b,e=ak (ai #[O U x,b.v])/\K x b c
abbrev akV(K:Int->Int->Int->av->Prop):Prop:=az aq f a w λe d=>∃x b c,e=ak (ai #[O U x,O U b,O U c])/\K x b c d
abbrev Zy(K:M->M->C->av->Prop):Prop:=az aq f a w λe d=>∃x b c,e=ak (ai #[ab x,ab b,aj c])/\K x b c d
end
abbrev rVs(s:J Nat)(f:FuncId)(a:Array aw)(w:av)(K:OV->av->Prop):Prop:=az aq f a w λe b=>∃(x:OV),e=ak (x.v)/\bX s w b/\K x b
abbrev aiw(s:J Nat)(f:FuncId)(a:Array aw)(w:av)(K:Sl->Sl->Sl->Sl->av->Prop):Prop:=az aq f a w λe b=>∃(x:Sl) (c:Sl) (d:Sl) (g:Sl),e=ak (ah #[x.v,c.v,d.v,g.v])/\bX s w b/\K x c d g b
abbrev gq(s:J Nat)(f:FuncId)(a:Array aw)(w:av)(K:Int->Int->M->Int->Sl->Int->av->Prop):Prop:=az aq f a w λe b=>∃(x:Int) (c:Int) (d:M) (g:Int) (h:Sl) (i:Int),e=ak (ah #[O U x,O U c,ab d,O U g,h.v,O U i])/\bX s w b/\K x c d g h i b
abbrev Qt(s:J Nat)(f:FuncId)(a:Array aw)(w:av)(K:Int->Int->av->Prop):Prop:=az aq f a w λe b=>∃(x:Int) (c:Int),e=ak (ah #[O U x,O U c])/\bX s w b/\K x c b
abbrev xB(s:J Nat)(f:FuncId)(a:Array aw)(w:av)(K:Int->M->Int->Int->av->Prop):Prop:=az aq f a w λe b=>∃(x:Int) (c:M) (d:Int) (g:Int),e=ak (ah #[O U x,ab c,O U d,O U g])/\bX s w b/\K x c d g b
abbrev qw(s:J Nat)(f:FuncId)(a:Array aw)(w:av)(K:Int->M->M->M->Sl->Sl->Sl->Sl->Int->av->Prop):Prop:=az aq f a w λe b=>∃(x:Int) (c:M) (d:M) (g:M) (h:Sl) (i:Sl) (j:Sl) (k:Sl) (l:Int),e=ak (ah #[O U x,ab c,ab d,ab g,h.v,i.v,j.v,k.v,O U l])/\bX s w b/\K x c d g h i j k l b
abbrev afE(s:J Nat)(f:FuncId)(a:Array aw)(w:av)(K:M->Int->Int->av->Prop):Prop:=az aq f a w λe b=>∃(x:M) (c:Int) (d:Int),e=ak (ah #[ab x,O U c,O U d])/\bX s w b/\K x c d b
abbrev Uz(s:J Nat)(f:FuncId)(a:Array aw)(w:av)(K:Option Nat->av->Prop):Prop:=az aq f a w λe b=>∃(x:Option Nat),e=ak (.map x)/\bX s w b/\K x b
abbrev Om(s:J Nat)(f:FuncId)(a:Array aw)(w:av)(K:Option Addr->av->Prop):Prop:=az aq f a w λe b=>∃(x:Option Addr),e=ak (ae x)/\bX s w b/\K x b
abbrev Cw(s:J Nat)(f:FuncId)(a:Array aw)(w:av)(K:Sl->Int->Int->av->Prop):Prop:=az aq f a w λe b=>∃(x:Sl) (c:Int) (d:Int),e=ak (ai #[x.v,ah #[O U c,O U d]])/\bX s w b/\K x c d b
abbrev Qu(s:J Nat)(f:FuncId)(a:Array aw)(w:av)(K:Sl->C->av->Prop):Prop:=az aq f a w λe b=>∃(x:Sl) (c:C),e=ak (ai #[x.v,aj c])/\bX s w b/\K x c b
abbrev Qv(s:J Nat)(f:FuncId)(a:Array aw)(w:av)(K:Sl->Int->av->Prop):Prop:=az aq f a w λe b=>∃(x:Sl) (c:Int),e=ak (ai #[x.v,O U c])/\bX s w b/\K x c b
abbrev sD(s:J Nat)(f:FuncId)(a:Array aw)(w:av)(K:Sl->Sl->Sl->Sl->Int->Int->av->Prop):Prop:=az aq f a w λe b=>∃(x:Sl) (c:Sl) (d:Sl) (g:Sl) (h:Int) (i:Int),e=ak (ai #[ah #[x.v,c.v,d.v,g.v],ah #[O U h,O U i]])/\bX s w b/\K x c d g h i b
abbrev qD(s:J Nat)(f:FuncId)(a:Array aw)(w:av)(K:Sl->Int->M->M->M->Sl->Sl->Sl->Sl->Int->Int->Int->av->Prop):Prop:=az aq f a w λe b=>∃(x:Sl) (c:Int) (d:M) (g:M) (h:M) (i:Sl) (j:Sl) (k:Sl) (l:Sl) (m:Int) (P:Int) (H:Int),e=ak (ai #[ah #[x.v,O U c,ab d,ab g,ab h,i.v,j.v,k.v,l.v,O U m],ah #[O U P,O U H]])/\bX s w b/\K x c d g h i j k l m P H b
abbrev x6(s:J Nat)(f:FuncId)(a:Array aw)(w:av)(K:Int->Int->Int->M->Int->Sl->Int->C->av->Prop):Prop:=az aq f a w λe b=>∃(x:Int) (c:Int) (d:Int) (g:M) (h:Int) (i:Sl) (j:Int) (k:C),e=ak (ai #[ah #[O U x,O U c,O U d,ab g,O U h,i.v,O U j],aj k])/\bX s w b/\K x c d g h i j k b
abbrev uJ(s:J Nat)(f:FuncId)(a:Array aw)(w:av)(K:Int->Int->M->Int->Sl->Int->Int->Int->av->Prop):Prop:=az aq f a w λe b=>∃(x:Int) (c:Int) (d:M) (g:Int) (h:Sl) (i:Int) (j:Int) (k:Int),e=ak (ai #[ah #[O U x,O U c,ab d,O U g,h.v,O U i],ah #[O U j,O U k]])/\bX s w b/\K x c d g h i j k b
abbrev oJ(s:J Nat)(f:FuncId)(a:Array aw)(w:av)(K:Int->Int->M->Int->Sl->Int->Int->Int->Int->av->Prop):Prop:=az aq f a w λe b=>∃(x:Int) (c:Int) (d:M) (g:Int) (h:Sl) (i:Int) (j:Int) (k:Int) (l:Int),e=ak (ai #[ah #[O U x,O U c,ab d,O U g,h.v,O U i],O U j,ah #[O U k,O U l]])/\bX s w b/\K x c d g h i j k l b
abbrev aed(s:J Nat)(f:FuncId)(a:Array aw)(w:av)(K:Int->M->Int->Int->Int->Int->av->Prop):Prop:=az aq f a w λe b=>∃(x:Int) (c:M) (d:Int) (g:Int) (h:Int) (i:Int),e=ak (ai #[ah #[O U x,ab c,O U d,O U g],O U h,O U i])/\bX s w b/\K x c d g h i b
abbrev uf(s:J Nat)(f:FuncId)(a:Array aw)(w:av)(K:Int->OV->av->Prop):Prop:=az aq f a w λe b=>∃(x:Int) (c:OV),e=ak (ai #[O U x,c.v])/\bX s w b/\K x c b
abbrev afF(s:J Nat)(f:FuncId)(a:Array aw)(w:av)(K:Int->Int->Int->av->Prop):Prop:=az aq f a w λe b=>∃(x:Int) (c:Int) (d:Int),e=ak (ai #[O U x,O U c,O U d])/\bX s w b/\K x c d b
abbrev ZA(s:J Nat)(f:FuncId)(a:Array aw)(w:av)(K:Int->Int->av->Prop):Prop:=az aq f a w λe b=>∃(x:Int) (c:Int),e=ak (ai #[O U x,O U c])/\bX s w b/\K x c b
abbrev nDb(s:J Nat)(f:FuncId)(a:Array aw)(w:av)(K:M->C->av->Prop):Prop:=az aq f a w λe b=>∃(x:M) (c:C),e=ak (ai #[ab x,aj c])/\bX s w b/\K x c b
abbrev is1(s:J Nat)(f:FuncId)(a:Array aw)(w:av)(K:M->Int->av->Prop):Prop:=az aq f a w λe b=>∃(x:M) (c:Int),e=ak (ai #[ab x,O U c])/\bX s w b/\K x c b
abbrev zh(x a:Int):aw:=ah #[O U x,O U a]
abbrev xD(x a b:Int)(c:M)(d:Int)(e:Sl)(f:Int):aw:=ah #[O U x,O U a,O U b,ab c,O U d,e.v,O U f]
abbrev bL(x a:Int)(b:M)(c:Int)(d:Sl)(e:Int):aw:=ah #[O U x,O U a,ab b,O U c,d.v,O U e]
abbrev Oi(x:Int)(a:Sl):aw:=ah #[O U x,a.v]
abbrev ic(a:Int)(b:M)(c:Int)(d:C)(e f:Int)(g:M)(h:Int)(i:Sl)(j:Int)(P H:Sl)(x:Int):aw:=ah #[O U a,ab b,O U c,aj d,O U e,O U f,ab g,O U h,i.v,O U j,P.v,H.v,O U x]
abbrev oh(x:Int)(a:M)(b c:Int):aw:=ah #[O U x,ab a,O U b,O U c]
abbrev FG(x:Int)(a:M)(b c d:Int):aw:=ah #[O U x,ab a,O U b,O U c,O U d]
abbrev mq(x:Int)(a:M)(b c:Int)(d:M)(e:Int)(f:Sl)(g h:Int):aw:=ah #[O U x,ab a,O U b,O U c,ab d,O U e,f.v,O U g,O U h]
abbrev cp(x:Int)(a b c:M)(d e f g:Sl)(h:Int):aw:=ah #[O U x,ab a,ab b,ab c,d.v,e.v,f.v,g.v,O U h]
abbrev da(x:Sl)(a:Int)(b c d:M)(e f g h:Sl)(i:Int):aw:=ah #[x.v,O U a,ab b,ab c,ab d,e.v,f.v,g.v,h.v,O U i]
abbrev ft(x a b c:Sl):aw:=ah #[x.v,a.v,b.v,c.v]
abbrev XK(x:M)(a b:Int):aw:=ah #[ab x,O U a,O U b]
abbrev sT(a:Addr)(w:av)(n:Nat)(K:Nat->Nat->aI->Nat->Prop):=∃b i z t,a=⟨b,i,VM⟩/\aF w b t z/\i+n<=WS z/\K b i z t
abbrev sS(a:av)(b i:Nat)(z:aI)(t:Nat)(v:aI)(K:av->Prop):=∀w,ay [b] a w->aF w b t (fX z i v)->K w
abbrev lc(t:TypeId)(v:aw)(w:av)(K:Sl->av->Prop):Prop:=LR (au t 1 #[.mk 0 v]) w K
abbrev Qw(t:TypeId)(v a:aw)(w:av)(K:Sl->av->Prop):Prop:=LR (au t 2 #[.mk 0 v,.mk 1 a]) w K
abbrev Cv(t:TypeId)(v a b:aw)(w:av)(K:Sl->av->Prop):Prop:=LR (au t 3 #[.mk 0 v,.mk 1 a,.mk 2 b]) w K
abbrev Zl(t:TypeId)(v a b c:aw)(w:av)(K:Sl->av->Prop):Prop:=LR (au t 4 #[.mk 0 v,.mk 1 a,.mk 2 b,.mk 3 c]) w K
abbrev Ek(t:TypeId)(l m:Sl)(w:av)(K:Sl->av->Prop):Prop:=LR (Builtin.append_ #[t,t] t #[l.v,m.v]) w K
abbrev XL(t:TypeId)(w:av)(K:Sl->av->Prop):Prop:=LR (au t 0 #[]) w K
abbrev mO(s:J Nat)(t:TypeId)(l m:Sl)(w:av)(K:Sl->av->Prop):Prop:=Ek t l m w λx a=>bX s w a/\K x a
abbrev uK(t:TypeId)(l m:Sl)(w:av)(s:J Nat)(b:av)(c:h)(K:Sl->av->av->Prop):Prop:=o0 w λx=>Ek t l m x λq y=>bX s x y/\kl b x y/\bH c x y/\K q x y
abbrev Dv(t:TypeId)(w:av)(s:J Nat)(b:av)(c:h)(K:Sl->av->av->Prop):Prop:=o0 w λx=>XL t x λq y=>bX s x y/\kl b x y/\bH c x y/\K q x y
abbrev jD(x y:av):Nat×Nat:=(x.heap.size,y.heap.size)
abbrev B(f:FuncId)(a:Array aw)(w:av)(R:aG):Prop:=az aq f a w λe b=>∃v,e=ak v/\R v b
def sv1:aw->SV
 |.int k n=>SV.int k n
 |aj b=>SV.bt b
 |ab s=>SV.str s
 |ae (aM a)=>SV.ad a
 |.slice a n c=>SV.sl ⟨a,n,c⟩
 |.map m=>SV.map m
 |_=>SV.un
def Mq:aw->SV
 |ah c=>SV.agg<|Jx<|c.toList.map sv1
 |v=>sv1 v
section
variable{f:FuncId}{args:J SV}{R:aG}{w:av}{vs:Array aw}{vc:Prop}
def fB{an:Ann}(h:vc)(v:vs=(cO β0 args).toArray:=by kernel_rfl)(e:vc=Hu aq f an args R w:=by kernel_rfl):B f vs w R:=aqs checked.mixed v e h
def fC(a:Ann)(h:vc)(v:vs=(cO β0<|vs.toList.map Mq).toArray:=by kernel_rfl)(e:vc=Hu aq f a (vs.toList.map Mq) R w:=by kernel_rfl):B f vs w R:=fB h v e
def F:Lf:=Lf.int IntKind.i64
def ir(h:vc)(v:vs=(cO β0<|vs.toList.map Mq).toArray:=by kernel_rfl)(e:vc=Hu aq f .o (vs.toList.map Mq) R w:=by kernel_rfl):B f vs w R:=fB h v e
end
variable{R:aG}{w:av}
def azX{c:Sl}{c1:Int}{c2 c3 c4:M}{c5 c6 me nj:Sl}{c9:Int}{steps:Sl}{k xp:Int}{t E:Sl}(cC:P w λa w0=>iV [a] 4 #[] w0 λb0 w1=>sD [a] 5 #[da c c1 c2 c3 c4 c5 c6 me nj c9] w1 λl g i j i0 i1 w2=>zf w2 λb d w3=>sD [a,b,d] 6 #[da c c1 c2 c3 c4 c5 c6 me nj c9] w3 λm y A C i2 i3 w4=>zf w4 λk3 e w5=>K ((!b0)||(i2 !=0)) (R (aj<|b0&&((i0==i2)&&(i1==i3))) w5)<|Qu [a,b,d,k3,e] 7 #[ft l g i j,m.v,steps.v] w5 λD b1 w6=>K (!b1) (R (aj aL) w6) (aiw [a,b,d,k3,e] 8 #[ft l g i j] w6 λl9 q qh rn w7=>P w7 λf w8=>∃F:h,F k3/\pR [a,b,d,k3,e,f] 10 #[m.v] w8 λi4 w9=>bH F w8 w9/\i4≠0/\Qu [a,b,d,k3,e,f] 9 #[m.v,O U<|(bits .and U k 1048575).tmod i4] w9 λur b2 dh=>bH F w9 dh/\XL 31 dh λyi dE=>bX [a,b,d,k3,e,f] dh dE/\mO [a,b,d,k3,e,f] 31 yi ur dE λAG ey=>XL 31 ey λI7 ff=>bX [a,b,d,k3,e,f] ey ff/\mO [a,b,d,k3,e,f] 31 I7 t ff λO4 fS=>XL 31 fS λLF gz=>bX [a,b,d,k3,e,f] fS gz/\mO [a,b,d,k3,e,f] 31 LF E gz λEY iA=>Cv 49 AG.v O4.v EY.v iA λz fV=>bX [a,b,d,k3,e,f] iA fV/\qv [a,b,d,k3,e,f] 11 #[D.v] fV λZ iW=>∃p0,ci z 0 1 p0/\o0 iW λkf=>iZ kf p0 λPI=>qv [a,b,d,k3,e,f] 12 #[ft l g i j,PI.v,O U xp] kf λHH je=>∃p1,ci z 1 1 p1/\o0 je λky=>iZ ky p1 λVi=>qv [a,b,d,k3,e,f] 13 #[ft l g i j,Z.v,Vi.v] ky λPJ nK=>∃p2,ci z 2 1 p2/\o0 nK λnL=>iZ nL p2 λVj=>qv [a,b,d,k3,e,f] 14 #[ft l g i j,Z.v,Vj.v] nL λH pe=>qv [a,b,d,k3,e,f] 15 #[ft l g i j] pe λL1 lS=>lJ (λb3 qj=>lJ (λb4 vw=>lJ (λb5 xn=>lJ (λb6 B3=>lJ (λb7 L2=>R (aj b7) L2) λbJ=>K (((b3&&b4)&&b5)&&b6) (iV [a,b,d,k3,e,f] 16 #[ft l g i j,ft l9 q qh rn] B3 λb8 PK=>bJ b8 PK)<|bJ aL B3) λx=>SJ z 0 xn λVk=>iV [a,b,d,k3,e,f] 23 #[HH.v,Vk.v] xn λb9 V=>K b9 (SJ z 1 V λVm=>iV [a,b,d,k3,e,f] 23 #[PJ.v,Vm.v] V λG X=>K G (SJ z 2 X λVn=>iV [a,b,d,k3,e,f] 23 #[H.v,Vn.v] X λI r=>K I (iV [a,b,d,k3,e,f] 23 #[L1.v,H.v] r λL aT=>x L aT)<|x aL r)<|x aL X)<|x aL V) λJ3=>qv [a,b,d,k3,e,f] 21 #[ft m y A C,D.v,E.v] vw λVo bv=>iV [a,b,d,k3,e,f] 18 #[H.v,Vo.v] bv λN s=>K N (qv [a,b,d,k3,e,f] 22 #[ft m y A C] s λVp bV=>iV [a,b,d,k3,e,f] 18 #[L1.v,Vp.v] bV λQ bY=>J3 Q bY)<|J3 aL s) λJ2=>qv [a,b,d,k3,e,f] 19 #[ft m y A C,ur.v,O U xp] qj λRG cc=>iV [a,b,d,k3,e,f] 18 #[HH.v,RG.v] cc λS u=>K S (qv [a,b,d,k3,e,f] 20 #[ft m y A C,D.v,t.v] u λRH k8=>iV [a,b,d,k3,e,f] 18 #[PJ.v,RH.v] k8 λT ce=>J2 T ce)<|J2 aL u) λJ=>iV [a,b,d,k3,e,f] 16 #[ft l g i j,ft l9 q qh rn] lS λW v=>K W (iV [a,b,d,k3,e,f] 17 #[Z.v,D.v] v λY n=>K Y (SJ z 0 n λXj=>iV [a,b,d,k3,e,f] 18 #[Xj.v,ur.v] n λam o=>K am (SJ z 1 o λHh=>iV [a,b,d,k3,e,f] 18 #[Hh.v,t.v] o λaC p=>K aC (SJ z 2 p λPL=>iV [a,b,d,k3,e,f] 18 #[PL.v,E.v] p λaS co=>J aS co)<|J aL p)<|J aL o)<|J aL n)<|J aL v)):B 3 #[da c c1 c2 c3 c4 c5 c6 me nj c9,steps.v,O U k,O U xp,t.v,E.v] w R:=
 fC (.d 15<|.s (.q [3,4,5,6,14,15,16,17,18,20,21,23,25,26,27,28] [.s 29 .bool])<|.s (.q [5,6,14,15,16,17,18,20,23,25,26,27,28,29] [.s 30 .bool])<|.s (.q [6,14,15,16,17,20,23,25,26,27,28,29,30] [.s 31 .bool])<|.s (.q [6,14,15,16,17,20,29,30,31] [.s 32 .bool])<|.f<|.q [6,14,15,16,17,20] [.s 12 .bool]) cC
def azY{c:Sl}{e:Int}{f g i:M}{j l m n:Sl}{o:Int}(C:TW w λd k a F=>Qt [d,k,a] 25 #[da c e f g i j l m n o] F λs D y=>K (s !=0) (P y λk3 G=>d≠k->d≠a->d≠k3->k≠a->k≠k3->a≠k3->∃J:h,J k3/\vU J k/\vU J a/\∀z,ay [a,k] G z->R (ai #[ft Sl.nil Sl.nil Sl.nil Sl.nil,zh s D]) z) (zf y λp b H=>Qv [d,k,a,p,b] 26 #[da c e f g i j l m n o] H λE L I=>∀q,ay [b] I q->aF q b 65 [E.v,Sl.nil.v,Sl.nil.v,Sl.nil.v]->d≠b->k≠b->a≠b->p≠b->fW [d,k,a,p] 27 #[pB b,cp e f g i j l m n o] q λA=>Qs A b 65 λt u v x=>∀r,ay [a,k] A r->aF r b 65 [t.v,u.v,v.v,x.v]->R (ai #[ft t u v x,zh 0 0]) r)):B 5 #[da c e f g i j l m n o] w R:=
 ir C
def aqz{c:Sl}{u:Int}{v x y:M}{z A C D:Sl}{G:Int}(aS:TW w λb k a w0=>Qt [b,k,a] 28 #[da c u v x y z A C D G] w0 λi0 i1 w1=>K (i0 !=0) (P w1 λk3 w2=>b≠k->b≠a->b≠k3->k≠a->k≠k3->a≠k3->∃N:h,N k3/\vU N k/\vU N a/\∀w3,ay [a,k] w2 w3->R (ai #[ft Sl.nil Sl.nil Sl.nil Sl.nil,zh i0 i1]) w3) (P w1 λe w4=>qv [b,k,a,e] 29 #[da c u v x y z A C D G] w4 λt w5=>qv [b,k,a,e] 30 #[Sl.nil.v,cp u v x y z A C D G] w5 λn w6=>P w6 λd w7=>∃Q:Nat->Int->Sl->Sl->Sl->Sl->av->Prop,∃k6:Nat,Q k6 0 t Sl.nil Sl.nil Sl.nil w7/\∀k7 i,∀l2 l3 l4 l5:Sl,∀p,Q k7 i l2 l3 l4 l5 p->K (JW<|i<(n.n:Int)) (lJ (λi3 L=>lJ (λi4 dh=>lc 31 (O U i3) dh λl6 dE=>bX [b,k,a,e,d] dh dE/\mO [b,k,a,e,d] 31 l3 l6 dE λl7 ey=>∀X,ay [d] ey X->lc 31 (O U i4) X λl8 fS=>bX [b,k,a,e,d] X fS/\mO [b,k,a,e,d] 31 l4 l8 fS λl9 gz=>∀iA,ay [d] gz iA->∃T:Nat->Int->Sl->Sl->Sl->Sl->av->Prop,∃k8:Nat,T k8 0 l2 l7 l9 l5 iA/\∀k9 s,∀o qh rn ur:Sl,∀V,T k9 s o qh rn ur V->∃p0,ci n i 9 p0/\iZ V (p0.add 6) λyi=>K (JW<|s<(yi.n:Int)) (∃p1,ci n i 9 p1/\iZ V (p1.add 6) λAG=>iT AG s V λi6 s0 i7 b0 i8 i9 s1 aT I7 bv O4 LF bV=>zf V λS r iW=>∃W:Nat->Int->Int->Int->Int->M->Int->Sl->Int->av->Prop,∃LG:Nat,W LG 0 i s i6 s0 i7 Sl.nil 0 iW/\∀Ax f g j l s2 m,∀E:Sl,∀q kf,W Ax f g j l s2 m E q kf->K (JW<|f<(LF.n:Int)) (o0 kf λje=>∃J:h,J r/\JV LF f je λs3=>pR [b,k,a,e,d,S,r] 31 #[t.v,ab s3] je λY H=>bH J je H/\lc 31 (O U Y) H λzx I=>bX [b,k,a,e,d,S,r] H I/\bH J H I/\mO [b,k,a,e,d,S,r] 31 E zx I λEZ nL=>bH J I nL/\∀pe,ay [r] nL pe->nx Ax λff=>W ff (ar U<|f+1) g j l s2 m EZ q pe) (pR [b,k,a,e,d,S,r] 32 #[t.v,O U i,E.v] kf λZ lS=>∀qj,ay [r] lS qj->lc 34 (xD g j l s2 m E Z) qj λPI vw=>bX [b,k,a,e,d,S,r] qj vw/\mO [b,k,a,e,d,S,r] 34 ur PI vw λHH xn=>∀B3,ay [d] xn B3->nx k9 λVq=>T Vq (ar U<|s+1) o qh rn HH B3))<|nx k7 λL3=>Q L3 (ar U<|i+1) o qh rn ur V) λJ3=>∃p4,ci n i 9 p4/\FD L (p4.add 3) λs4=>K (!(s4.toList==((ao #[]).toList))) (∃p5,ci n i 9 p5/\FD L (p5.add 3) λs5=>pR [b,k,a,e,d] 31 #[t.v,ab s5] L λam L2=>J3 am L2)<|J3 (-1) L) λJ2=>∃p6,ci n i 9 p6/\FD p (p6.add 2) λs6=>K (!(s6.toList==((ao #[]).toList))) (∃p7,ci n i 9 p7/\FD p (p7.add 2) λs7=>pR [b,k,a,e,d] 31 #[t.v,ab s7] p λaC PK=>J2 aC PK)<|J2 (-1) p) (∀Vl,ay [a,k] p Vl->R (ai #[ft l2 l3 l4 l5,zh 0 0]) Vl))):B 6 #[da c u v x y z A C D G] w R:=
 fC (.d 6<|.f<|.e<|.r [1,2,3,4,5,6,7] [.s 8 F,.b 7 [.sl,.sl,.sl,.sl]] (.e<|.f<|.e<|.j [1,2,3,4,5,6,7,8] [.s 9 F] .o (.e<|.j [1,2,3,4,5,6,7,8,9] [.s 10 F] .o (.d 3<|.r [1,2,3,4,5,6,7,8] [.s 11 F,.b 7 [.sl,.sl,.sl,.sl]] (.e<|.f<|.d 2<|.f<|.e<|.q [1,2,3,4,5,6,7,8,11,12,13] [.s 14 F,.b 13 [F,F,F,.str,F,.sl,F]]))))) aS
def aqA{l:Sl}(h:cI 36 #[l.v,O U 0] w λi a=>R (O U i) a):B 10 #[l.v] w R:=
 ir h
def aqB{l:Sl}{k:Int}(h:cI 10 #[l.v] w λi a=>K ((JW<|k<0)||(JW<|k>=i)) (R (ai #[Sl.nil.v,aj aL]) a)<|cL 35 #[l.v,O U 0,O U k] a λb c=>R (ai #[b.v,aj aE]) c):B 9 #[l.v,O U k] w R:=
 ir h
def azZ{b c:Sl}(h:K ((b.n:Int) !=(c.n:Int)) (R (aj aL) w) (mh 0 w λJ k i a=>K (JW<|i<(b.n:Int)) (xj b i a λd=>xj c i a λe=>K (d !=e) (o0 a λg=>R (aj aL) g)<|o0 a λj=>nx k λf=>J f (ar U<|i+1) j)<|R (aj aE) a)):B 18 #[b.v,c.v] w R:=
 fC (.d 2<|.f<|.e<|.q [0,1] [.s 5 F]) h
def az0{a b:Sl}(m:∃k:Nat,((a.c:Int)=(k:Int)/\k<=a.c)/\mh 0 w λJ o i g=>K (JW<|i<((a.cut 0 k a.c 1).n:Int)) (∃p0,ci (a.cut 0 k a.c 1) i 1 p0/\sT p0 g 1 λk3 q z r=>sS g k3 q z r [O U (-7)] λv=>nx o λs=>J s (ar U<|i+1) v) (∃c:Nat,((b.c:Int)=(c:Int)/\c<=b.c)/\mh 0 g λj t e h=>K (JW<|e<((b.cut 0 c b.c 1).n:Int)) (∃p,ci (b.cut 0 c b.c 1) e 1 p/\sT p h 1 λS u y G=>sS h S u y G [O U 9] λx=>nx t λA=>j A (ar U<|e+1) x)<|mh 0 h λl V f d=>K (JW<|f<((a.cut 0 k a.c 1).n:Int)) (xj (a.cut 0 k a.c 1) f d λn=>K (n !=(-7)) (R (aj aL) d)<|nx V λL=>l L (ar U<|f+1) d)<|R (aj aE) d)):B 23 #[a.v,b.v] w R:=
 fC (.d 2<|.s (.e<|.q [1,5] [.s 6 F])<|.e<|.s (.e<|.q [5,7] [.s 8 F])<|.f<|.e<|.q [5] [.s 9 F]) m
def az1(s:adu 24 #[ab (ao #[99,104,97,114,116,32,99,32,123,32,105,110,105,116,105,97,108,32,97,59,32,115,116,97,116,101,32,97,32,123,32,111,110,32,120,32,45,62,32,100,59,32,111,110,32,121,32,45,62,32,104,59,32,125,32,112,97,114,97,108,108,101,108,32,112,32,123,32,115,116,97,116,101,32,113,32,123,32,105,110,105,116,105,97,108,32,98,59,32,115,116,97,116,101,32,98,32,123,32,125,32,115,116,97,116,101,32,100,32,123,32,125,32,125,32,115,116,97,116,101,32,114,32,123,32,125,32,104,105,115,116,111,114,121,32,104,32,45,62,32,113,59,32,125,32,125])] w λv t C D E x y z A u i J F=>zf F λk c G=>sD [k,c] 5 #[da v t C D E x y z A u] G λj m n l a K H=>zf H λd k3 I=>qv [k,c,d,k3] 15 #[ft j m n l] I λf o=>lc 31 (O U 0) o λe r=>bX [k,c,d,k3] o r/\qv [k,c,d,k3] 14 #[ft j m n l,Sl.nil.v,e.v] r λq g=>∃p0,((((i==0)&&(a==0))&&((l.n:Int)==2))=aE->ci l 0 7 p0)/\∃b,((((i==0)&&(a==0))&&((l.n:Int)==2))=aE->aB g (p0.add 6) [O U b])/\∃p,(((((((i==0)&&(a==0))&&((l.n:Int)==2))&&(b==0))&&((f.n:Int)==2))&&((q.n:Int)==4))=aE->ci q 2 1 p)/\∃h,(((((((i==0)&&(a==0))&&((l.n:Int)==2))&&(b==0))&&((f.n:Int)==2))&&((q.n:Int)==4))=aE->aB g p [O U h])/\R (aj<|((((((i==0)&&(a==0))&&((l.n:Int)==2))&&(b==0))&&((f.n:Int)==2))&&((q.n:Int)==4))&&(h==5)) g):B 4 #[] w R:=
 ir s
def az2(p m L n c s:Sl)(R:aG)(C:av)(W:P C λk w0=>pR [k] 10 #[c.v] w0 λq w1=>∃J:Nat->Sl->Int->av->Prop,∃Z:Nat,J Z Sl.nil 0 w1/\∀r,∀l:Sl,∀i w,J r l i w->K ((JW<|i<(s.n:Int))&&(JW<|i<8)) (∃p0,ci s i 2 p0/\gF w (p0.add 0) λX=>q≠0/\Qu [k] 9 #[c.v,O U<|(bits .and U X 1048575).tmod q] w λt b0 D=>XL 31 D λl2 j=>bX [k] D j/\∃x,ci s i 2 x/\iZ j (x.add 1) λl3=>mO [k] 31 l2 l3 j λu w5=>qv [k] 11 #[l.v] w5 λf w6=>qv [k] 33 #[ft p m L n,t.v,u.v,f.v] w6 λh w7=>∃y,ci s i 2 y/\o0 w7 λE=>iZ E (y.add 1) λl7=>qv [k] 34 #[ft p m L n,t.v,l7.v,l.v] E λv w9=>lJ (λH T=>mh 0 T λG k4 b d=>K (JW<|b<(h.n:Int)) (∃z,ci h b 2 z/\iZ d (z.add 1) λl9=>iV [k] 23 #[l9.v,Sl.nil.v] d λb2 V=>nx k4 λk5=>G k5 (ar U<|b+1) V)<|iV [k] 17 #[f.v,l.v] d λI o=>K ((!H)||(!I)) (R (ai #[Sl.nil.v,aj aL]) o)<|nx r λk6=>J k6 v (ar U<|i+1) o) λa=>iV [k] 17 #[h.v,v.v] w9 λM S=>K M (iV [k] 17 #[f.v,l.v] S λN g=>K N (∃A,ci s i 2 A/\iZ g (A.add 1) λe=>iV [k] 18 #[u.v,e.v] g λQ Y=>a Q Y)<|a aL g)<|a aL S) (R (ai #[l.v,aj aE]) w)):B 7 #[ft p m L n,c.v,s.v] C R:=
 fC (.d 3<|.f<|.e<|.r [1,2,3,9] [.s 8 .sl,.s 10 F] (.e<|.f<|.d 6<|.s (.q [1,2,3,8,9,10,15,16,17] [.s 18 .bool])<|.f<|.e<|.q [1,2,3,8,9,10,15,16,17,18] [.s 19 F])) W
def az3(p m L nM:Sl)(xaa:aG)(xab:av)(xac:zf xab λk a w=>∃b:h,∃c:J (Prod Nat Nat)->Sl->Sl->Sl->Sl->av->Prop,(∀z0:J (Prod Nat Nat),∀l0 l1 l2 l3:Sl,∀w1,c z0 l0 l1 l2 l3 w1->∀g,w.heap.size<=g->g<w1.heap.size->Dt z0 g->∀w2,ay [g] w1 w2->∃J2:Nat->Int->Sl->Sl->Sl->Sl->av->Prop,∃k3:Nat,J2 k3 0 l0 l1 l2 l3 w2/\∀k4 i0,∀l4 l5 l6 l7:Sl,∀w3,J2 k4 i0 l4 l5 l6 l7 w3->K (JW<|i0<(nM.n:Int)) (Cu nM i0 w3 λi1 i2 i3 s0 i4 l8 i5=>P w3 λk5 w4=>XL 31 w4 λl9 w5=>bX [k,a,g,k5] w4 w5/\mO [k,a,g,k5] 31 l9 l8 w5 λId w6=>∀w7,ay [k5] w6 w7->lc 34 (xD i1 i2 i3 s0 i4 Id i5) w7 λqh w8=>bX [k,a,g,k5] w7 w8/\mO [k,a,g,k5] 34 l7 qh w8 λrn w9=>∀dh,ay [g] w9 dh->nx k4 λk6=>J2 k6 (ar U<|i0+1) l4 l5 l6 rn dh) (∀dE,ay [a] w3 dE->xaa (ft l4 l5 l6 l7) dE))/\b k/\b k/\b k/\(Dv 33 w [k,a] w b λur q f=>(uK 33 ur p f [k,a] w b λyi fS gz=>(Dv 31 gz [k,a] w b λAG iA fV=>(uK 31 AG m fV [k,a] w b λI7 iW kf=>Dv 31 kf [k,a] w b λO4 je ky=>uK 31 O4 L ky [k,a] w b λLF nK nL=>o0 nL λpe=>c [jD nK nL,jD je ky,jD iW kf,jD iA fV,jD fS gz,jD q f] yi I7 LF Sl.nil pe)/\Dv 31 fV [k,a] w b λEY lS qj=>uK 31 AG m qj [k,a] w b λzx vw xn=>uK 31 EY L xn [k,a] w b λEZ B3 L2=>o0 L2 λPK=>c [jD B3 L2,jD vw xn,jD lS qj,jD iA fV,jD fS gz,jD q f] yi zx EZ Sl.nil PK)/\Dv 31 gz [k,a] w b λPI Vl Xh=>Dv 31 Xh [k,a] w b λHH w34 co=>uK 31 HH m co [k,a] w b λVi w36 cC=>uK 31 PI L cC [k,a] w b λPJ w38 dO=>o0 dO λw40=>c [jD w38 dO,jD w36 cC,jD w34 co,jD Vl Xh,jD fS gz,jD q f] yi Vi PJ Sl.nil w40)/\(Dv 31 f [k,a] w b λVj s X=>(uK 33 ur p X [k,a] w b λHI el i=>(uK 31 Vj m i [k,a] w b λL1 w45 eQ=>Dv 31 eQ [k,a] w b λVk w47 fd=>uK 31 Vk L fd [k,a] w b λVm w49 gE=>o0 gE λw51=>c [jD w49 gE,jD w47 fd,jD w45 eQ,jD el i,jD s X,jD q f] HI L1 Vm Sl.nil w51)/\Dv 31 i [k,a] w b λVn w52 gG=>uK 31 Vj m gG [k,a] w b λVo w54 gO=>uK 31 Vn L gO [k,a] w b λVp w56 gT=>o0 gT λw58=>c [jD w56 gT,jD w54 gO,jD w52 gG,jD el i,jD s X,jD q f] HI Vo Vp Sl.nil w58)/\Dv 31 X [k,a] w b λRG w59 g8=>uK 33 ur p g8 [k,a] w b λRH w61 g9=>uK 31 Vj m g9 [k,a] w b λXj w63 ip=>uK 31 RG L ip [k,a] w b λHh w65 iD=>o0 iD λw67=>c [jD w65 iD,jD w63 ip,jD w61 g9,jD w59 g8,jD s X,jD q f] RH Xj Hh Sl.nil w67)/\Dv 31 f [k,a] w b λPL iF j=>(uK 33 ur p j [k,a] w b λXk w70 iN=>Dv 31 iN [k,a] w b λXl w72 iS=>uK 31 Xl m iS [k,a] w b λXm w74 ld=>uK 31 PL L ld [k,a] w b λYh w76 lE=>o0 lE λw78=>c [jD w76 lE,jD w74 ld,jD w72 iS,jD w70 iN,jD iF j,jD q f] Xk Xm Yh Sl.nil w78)/\Dv 31 j [k,a] w b λIf w79 lT=>uK 33 ur p lT [k,a] w b λIs w81 mt=>uK 31 If m mt [k,a] w b λID w83 mK=>uK 31 PL L mK [k,a] w b λIF w85 nO=>o0 nO λw87=>c [jD w85 nO,jD w83 mK,jD w81 mt,jD w79 lT,jD iF j,jD q f] Is ID IF Sl.nil w87)/\(Dv 31 w [k,a] w b λl n d=>(Dv 33 d [k,a] w b λbY t e=>(uK 33 bY p e [k,a] w b λcc n8 o=>(uK 31 l m o [k,a] w b λIN w94 oF=>Dv 31 oF [k,a] w b λzqI w96 oN=>uK 31 zqI L oN [k,a] w b λIS w98 oR=>o0 oR λAT=>c [jD w98 oR,jD w96 oN,jD w94 oF,jD n8 o,jD t e,jD n d] cc IN IS Sl.nil AT)/\Dv 31 o [k,a] w b λLe Bv T=>uK 31 l m T [k,a] w b λLt By I=>uK 31 Le L I [k,a] w b λLE BV V=>o0 V λBY=>c [jD BV V,jD By I,jD Bv T,jD n8 o,jD t e,jD n d] cc Lt LE Sl.nil BY)/\Dv 31 e [k,a] w b λLT Cc W=>uK 33 bY p W [k,a] w b λMK CC M=>uK 31 l m M [k,a] w b λNm Do Y=>uK 31 LT L Y [k,a] w b λNo DO N=>o0 N λEQ=>c [jD DO N,jD Do Y,jD CC M,jD Cc W,jD t e,jD n d] MK Nm No Sl.nil EQ)/\Dv 31 d [k,a] w b λNO Fd u=>Dv 33 u [k,a] w b λOf Fn v=>uK 33 Of p v [k,a] w b λOF zqF x=>uK 31 l m x [k,a] w b λON Ge z=>uK 31 NO L z [k,a] w b λOR Gg A=>o0 A λGt=>c [jD Gg A,jD Ge z,jD zqF x,jD Fn v,jD Fd u,jD n d] OF ON OR Sl.nil Gt)/\Dv 31 w [k,a] w b λr Q Z=>(Dv 33 Z [k,a] w b λce C y=>(uK 33 ce p y [k,a] w b λPi GE D=>Dv 31 D [k,a] w b λPp GG E=>uK 31 Pp m E [k,a] w b λRK GO G=>uK 31 r L G [k,a] w b λSo GT H=>o0 H λH1=>c [jD GT H,jD GO G,jD GG E,jD GE D,jD C y,jD Q Z] Pi RK So Sl.nil H1)/\Dv 31 y [k,a] w b λST pi O=>uK 33 ce p O [k,a] w b λSW pm R=>uK 31 ST m R [k,a] w b λTo pP S=>uK 31 r L S [k,a] w b λTO rx am=>o0 am λtO=>c [jD rx am,jD pP S,jD pm R,jD pi O,jD C y,jD Q Z] SW To TO Sl.nil tO)/\Dv 31 Z [k,a] w b λUP ut aC=>Dv 33 aC [k,a] w b λUV uP aS=>uK 33 UV p aS [k,a] w b λWF wd aT=>uK 31 UP m aT [k,a] w b λWP As bv=>uK 31 r L bv [k,a] w b λl79 AC bV=>o0 bV λAS=>c [jD AC bV,jD As bv,jD wd aT,jD uP aS,jD ut aC,jD Q Z] WF WP l79 Sl.nil AS):B 8 #[ft p m L nM] xab xaa:=
 fC (.e<|.s (.l aE [1,2] [.a 18 [.sl,.sl,.sl,.sl]])<|.f<|.e<|.q [1,2,3] [.s 4 F,.b 3 [.sl,.sl,.sl,.sl]]) xac
def az4(l:Sl)(R:aG)(g:av)(m:∃a:Nat->Sl->Int->av->Prop,∃o:Nat,a o Sl.nil 0 g/\∀k,∀b:Sl,∀i c,a k b i c->K (JW<|i<(l.n:Int)) (o0 c λw=>∃J:h,∃p0,ci l i 2 p0/\J ((p0.add 0).block)/\gF w (p0.add 0) λn=>∃p,ci l i 2 p/\J ((p.add 1).block)/\iZ w (p.add 1) λr=>XL 31 w λs d=>bH J w d/\Ek 31 s r d λt e=>bH J d e/\lc 42 (Oi n t) e λu f=>bH J e f/\Ek 42 b u f λv j=>bH J f j/\nx k λq=>a q v (ar U<|i+1) j) (R b.v c)):B 11 #[l.v] g R:=
 fC (.d 2<|.f<|.e<|.q [0] [.s 3 .sl,.s 4 F]) m
def Xs(p m L n j:Sl)(F:Int)(R:aG)(t:av):Prop:=
 P t λk u=>Om [k] 37 #[ft p m L n,Sl.nil.v] u λr v=>x6 [k] 38 #[ae r,O U F] v λi e f s g l h d x=>zf x λa b y=>qv [k,a,b] 39 #[j.v] y λo w=>(aF w k 36 [p.v,m.v,L.v,n.v]->aF w a 62 [O U i,O U e,O U f,ab s,O U g,l.v,O U h]->aF w b 4 [aj d]->cL 40 #[o.v,.func (.func 41) #[] #[pB b,pB k,pB a]] w λq c=>Qs c k 36 λG H I J=>Aft c a 62 λA B C M D K E=>xKB c b 4 λz=>R q.v c)
def az5(a m L n j:Sl)(p:Int)(R:aG)(w:av)(h:Xs a m L n j p R w):B 12 #[ft a m L n,j.v,O U p] w R:=
 ir h
def az6{a m L n p t:Sl}(h:P w λk c=>Om [k] 37 #[ft a m L n,p.v] c λq d=>Uz [k] 43 #[ae q,t.v] d λb e=>qv [k] 44 #[.map b] e λl f=>R l.v f):B 13 #[ft a m L n,p.v,t.v] w R:=
 ir h
def az7{e m L n p r:Sl}(s:P w λk A=>Om [k] 37 #[ft e m L n,p.v] A λq C=>mh 0 C λl v i b=>K (JW<|i<(r.n:Int)) (yH (λD=>nx v λk3=>l k3 (ar U<|i+1) D) λd=>xj r i b λt=>x6 [k] 38 #[ae q,O U t] b λH I M S N x u o f=>K o (P f λa g=>∃J:h,J a/\Uz [k,a] 43 #[ae q,x.v] g λz c=>bH J g c/\fW [k,a] 45 #[ae q,.map z,O U u] c λj=>bH J c j/\d j)<|P f λQ E=>d E)<|qv [k] 46 #[ae q] b λy G=>R y.v G):B 14 #[ft e m L n,p.v,r.v] w R:=
 fC (.d 2<|.f<|.e<|.r [3,7,15,16] [.s 17 F] (.d 2<|.q [3,7,15,16,17] [])) s
def az8{p m L n:Sl}(h:P w λk e=>Om [k] 37 #[ft p m L n,Sl.nil.v] e λq a=>yH (λf=>qv [k] 46 #[ae q] f λl g=>R l.v g) λJ=>K (JW<|(p.n:Int)>0) (∃p0,q=(aM p0)/\Px a (p0.add 5) λd=>lc 31 (O U 0) a λc b=>bX [k] a b/\fW [k] 47 #[.map d,c.v] b λi=>J i)<|J a):B 15 #[ft p m L n] w R:=
 fC (.d 2<|.q [1,3] []) h
def aqD{g E X I h a c b:Sl}(s:zf w λk d T=>iV [k,d] 48 #[g.v,h.v] T λn V=>iV [k,d] 18 #[E.v,a.v] V λo W=>iV [k,d] 18 #[X.v,c.v] W λq j=>K ((((!n)||(!o))||(!q))||((I.n:Int) !=(b.n:Int))) (R (aj aL) j)<|mh 0 j λJ k3 i f=>K (JW<|i<(I.n:Int)) (Cu I i f λt u v Q x M y=>∃p,ci b i 7 p/\P f λG l=>sd1 l p λz A C S D N e=>P l λH Y=>iV [k,d,G,H] 18 #[M.v,N.v] Y λr m=>K (((((((!r)||(t !=z))||(u !=A))||(v !=C))||(!(Q.toList==S.toList)))||(x !=D))||(y !=e)) (R (aj aL) m)<|nx k3 λL=>J L (ar U<|i+1) m)<|R (aj aE) f):B 16 #[ft g E X I,ft h a c b] w R:=
 fC (.d 5<|.f<|.e<|.q [2,3] [.s 8 F]) s
def aqE{a c:Sl}(l:K ((a.n:Int) !=(c.n:Int)) (R (aj aL) w) (mh 0 w λJ m i k=>K (JW<|i<(a.n:Int)) (∃p0,ci a i 2 p0/\o0 k λe=>iZ e (p0.add 1) λo=>∃p,ci c i 2 p/\iZ e (p.add 1) λq=>cB 18 #[o.v,q.v] e λb d=>∃h,((!b)=aL->ci a i 2 h)/\∃f,((!b)=aL->aB d (h.add 0) [O U f])/\∃j,((!b)=aL->ci c i 2 j)/\∃g,((!b)=aL->aB d (j.add 0) [O U g])/\K ((!b)||(f !=g)) (o0 d λr=>R (aj aL) r) (o0 d λs=>nx m λn=>J n (ar U<|i+1) s))<|R (aj aE) k)):B 17 #[a.v,c.v] w R:=
 fC (.d 2<|.f<|.e<|.q [0,1] [.s 5 F]) l
def aqF{g z L n j:Sl}{p:Int}(q:P w λk h=>K ((JW<|p<0)||(JW<|p>=(n.n:Int))) (R Sl.nil.v h) (∃J:Nat->Sl->Int->av->Prop,∃u:Nat,J u Sl.nil 0 h/\∀e,∀l:Sl,∀i b,J e l i b->K (JW<|i<(j.n:Int)) (lJ (λv A=>nx e λk3=>J k3 v (ar U<|i+1) A) λd=>∃p0,ci j i 1 p0/\o0 b λc=>gF c p0 λr=>∃f,ci n p 7 f/\gF c (f.add 6) λs=>iV [k] 49 #[g.v,O U r,O U s] c λo a=>K o (xj j i a λt=>lc 31 (O U t) a λx m=>bX [k] a m/\mO [k] 31 l x m λy C=>d y C)<|d l a) (R l.v b))):B 19 #[ft g z L n,j.v,O U p] w R:=
 fC (.d 3<|.f<|.e<|.r [1,2,3] [.s 7 .sl,.s 8 F] (.e<|.q [1,2,3,8] [.s 7 .sl])) q
def aqG(a m L n p t:Sl)(R:aG)(w:av)(h:P w λk c=>qv [k] 51 #[ft a m L n,p.v,t.v] c λl d=>qv [k] 50 #[l.v] d λb e=>R b.v e):B 20 #[ft a m L n,p.v,t.v] w R:=
 ir h
def aqH(a m L n p r:Sl)(R:aG)(q:av)(x:P q λk s=>LR (Instr.makeSlice 105 (O U (a.n:Int))<|O U (a.n:Int)) s λl t=>bX [k] s t/\mh 0 t λv z c w=>K (JW<|c<(r.n:Int)) (yH (λE=>nx z λk3=>v k3 (ar U<|c+1) E) λf=>xj r c w λi=>∃j,(((JW<|i>=0)&&(JW<|i<(n.n:Int)))=aE->ci n i 7 j)/\∃g,(((JW<|i>=0)&&(JW<|i<(n.n:Int)))=aE->aB w (j.add 6) [O U g])/\K (((JW<|i>=0)&&(JW<|i<(n.n:Int)))&&(JW<|g>=0)) (o0 w λb=>∃J:h,J k/\∃o,ci n i 7 o/\iZ b (o.add 5) λA=>J k/\∃d,ci n i 7 d/\J ((d.add 6).block)/\gF b (d.add 6) λy=>qv [k] 20 #[ft a m L n,p.v,A.v] b λC e=>bH J b e/\fW [k] 52 #[ft a m L n,l.v,C.v,O U y] e λu=>bH J e u/\f u) (f w))<|fW [k] 53 #[ft a m L n,p.v,l.v] w λG=>qv [k] 50 #[l.v] G λD H=>R D.v H):B 21 #[ft a m L n,p.v,r.v] q R:=
 fC (.d 2<|.f<|.e<|.r [1,2,3,7] [.s 8 F] (.e<|.q [1,2,3,7,8] [])) x
def aqI(p m L n:Sl)(R:aG)(b:av)(h:P b λk c=>LR (Instr.makeSlice 105 (O U (p.n:Int))<|O U (p.n:Int)) c λl w=>bX [k] c w/\yH (λf=>fW [k] 53 #[ft p m L n,Sl.nil.v,l.v] f λg=>qv [k] 50 #[l.v] g λe i=>R e.v i) λJ=>K (JW<|(l.n:Int)>0) (∃p0,ci l 0 1 p0/\sT p0 w 1 λa d z k3=>k≠a/\sS w a d z k3 [aj aE] λj=>J j)<|J w):B 22 #[ft p m L n] b R:=
 fC (.d 2<|.q [1,3] []) h
def az9{s:M}(A:zf w λk a G=>qD [k,a] 54 #[ab s] G λl e q r t m n o p f g C H=>zf H λb k3 u=>Mg (λi j v=>K (i !=0) (o0 v λI=>k≠a->k≠b->k≠k3->a≠b->a≠k3->b≠k3->∃J:h,J k3/\vU J k/\vU J a/\∀x,ay [a,k] I x->R (ai #[da Sl.nil 0 (ao #[]) (ao #[]) (ao #[]) Sl.nil Sl.nil Sl.nil Sl.nil 0,zh i j]) x) (o0 v λL=>k≠a->k≠b->k≠k3->a≠b->a≠k3->b≠k3->∃c:h,c k3/\vU c k/\vU c a/\∀y,ay [a,k] L y->R (ai #[da l e q r t m n o p f,zh i j]) y)) λd=>K (g==0) (Qt [k,a,b,k3] 25 #[da l e q r t m n o p f] u λD E N=>∀z,ay [k3] N z->d D E z)<|d g C u):B 24 #[ab s] w R:=
 fC (.d 2<|.q [2,3,4,5] [.b 5 [F,F]]) A
def aAa{c:Sl}{f:Int}{g h j:M}{l m n o:Sl}{p:Int}(V:zf w λb a w0=>Qv [b,a] 26 #[da c f g h j l m n o p] w0 λl0 C z=>K (C !=0) (∀L,ay [a] z L->R (zh C (-1)) L) (∃H r,((Instr.makeMap 111 VM).run aq z)=(.ok (.map H) r)/\bX [b,a] z r/\∃I A,((Instr.makeMap 111 VM).run aq r)=(.ok (.map I) A)/\bX [b,a] r A/\P A λk N=>aF N k 113 [.map H,Sl.nil.v,.map I,O U 0,O U 0]->fW [b,a] 55 #[pB k,cp f g h j l m n o p] N λQ=>JU Q k 113 λm2 l1 m3 W Y=>∃J:Nat->Int->Option Nat->Sl->Option Nat->Int->Int->av->Prop,∃k3:Nat,J k3 0 m2 l1 m3 W Y Q/\∀D e x,∀G:Sl,∀q u v s,J D e x G q u v s->K (JW<|e<(c.n:Int)) (PM c e s λs0 i6 Z=>P s λk5 S=>aF S k 113 [.map x,G.v,.map q,O U u,O U v]->fW [b,a,k5] 56 #[pB k,.map q,ab s0,O U e,O U Z] S λT=>JU T k 113 λm6 l3 m7 i8 i9=>nx D λk6=>J k6 (ar U<|e+1) m6 l3 m7 i8 i9 T) (∀t,ay [k] s t->aF t k 113 [.map x,l0.v,.map q,O U u,O U v]->b≠k->a≠k->pR [b,a] 57 #[pB k,cp f g h j l m n o p,O U 0] t λX E=>JU E k 113 λm8 l4 m9 i d=>∀y,ay [a] E y->aF y k 113 [.map m8,l4.v,.map m9,O U i,O U d]->R (zh i d) y))):B 25 #[da c f g h j l m n o p] w R:=
 fC (.d 5<|.f<|.e<|.q [1,2,3,5,20,26,27] [.s 28 F,.b 20 [.map,.sl,.map,F,F]]) V
def aAb(c:Sl)(a:Int){b d e:M}(f g h i:Sl)(j:Int)(R:aG)(w:av)(q:P w λm s=>pR [m] 58 #[da c a b d e f g h i j] s λl n=>K (l !=0) (R (ai #[Sl.nil.v,O U l]) n)<|P n λk o=>aF o k 121 [Sl.nil.v]->fW [m] 59 #[pB k,cp a b d e f g h i j,O U (-1),O U 0] o λp=>FE p k 121 λr=>R (ai #[r.v,O U 0]) p):B 26 #[da c a b d e f g h i j] w R:=
 ir q
def aAc{l:Addr}{n_:Int}{y9 me za:M}{zy zA wx V:Sl}{nj:Int}(am:P w λk w0=>iZ w0 ((l.add 0).add 1) λl0=>o0 w0 λX=>∃J:h,J (((l.add 0).add 1).block)/\iZ X ((l.add 0).add 1) λl1=>pR [k] 60 #[G l,ab me] X λi0 t=>bH J X t/\lc 31 (O U i0) t λl2 u=>bX [k] t u/\bH J t u/\mO [k] 31 l1 l2 u λl3 Y=>bH J u Y/\sT ((l.add 0).add 1) Y 1 λk1 k2 z0 k3=>k≠k1/\sS Y k1 k2 z0 k3 [l3.v] λw5=>o0 w5 λZ=>∃n:h,n (((l.add 0).add 2).block)/\iZ Z ((l.add 0).add 2) λl4=>pR [k] 60 #[G l,ab za] Z λi1 v=>bH n Z v/\lc 31 (O U i1) v λl5 x=>bX [k] v x/\bH n v x/\mO [k] 31 l4 l5 x λl6 w9=>bH n x w9/\sT ((l.add 0).add 2) w9 1 λk4 k5 z1 k6=>k≠k4/\sS w9 k4 k5 z1 k6 [l6.v] λdh=>mh 0 dh λJ2 k8 s E=>K (JW<|s<(wx.n:Int)) (iT wx s E λi3 s0 i4 b0 i5 i6 s1 i7 l7 i8 l8 l9 i9=>zf E λg r ey=>∃J3:Nat->Int->Int->Int->Int->M->Int->Sl->Int->av->Prop,∃rq:Nat,J3 rq 0 (l0.n:Int) s i3 s0 i4 Sl.nil 0 ey/\∀LG i b c d W e,∀a:Sl,∀j q,J3 LG i b c d W e a j q->K (JW<|i<(l9.n:Int)) (JV l9 i q λs3=>o0 q λfS=>∃o:h,o r/\pR [k,g,r] 60 #[G l,ab s3] fS λD z=>bH o fS z/\lc 31 (O U D) z λqh A=>bX [k,g,r] z A/\bH o z A/\mO [k,g,r] 31 a qh A λrn fV=>bH o A fV/\∀iW,ay [r] fV iW->nx LG λAx=>J3 Ax (ar U<|i+1) b c d W e rn j iW) (pR [k,g,r] 61 #[G l,O U (l0.n:Int),a.v] q λH kf=>∀m,ay [r] kf m->∃C:h,C (((l.add 0).add 3).block)/\iZ m ((l.add 0).add 3) λur=>lc 34 (xD b c d W e a H) m λyi y=>bX [k,g,r] m y/\bH C m y/\mO [k,g,r] 34 ur yi y λAG S=>bH C y S/\sT ((l.add 0).add 3) S 1 λp Vq z2 L3=>k≠p/\g≠p/\r≠p/\sS S p Vq z2 L3 [AG.v] λnL=>nx k8 λN=>J2 N (ar U<|s+1) nL))<|mh 0 E λff gz f T=>K (JW<|f<(V.n:Int)) (gQ V f T λI s4 s5 s6 I7 O4 LF EY L=>P T λbJ lS=>fW [k,bJ] 27 #[G l,cp I s4 s5 s6 I7 O4 LF EY L] lS λqj=>nx gz λQ=>ff Q (ar U<|f+1) qj)<|R (ai #[]) T):B 27 #[G l,cp n_ y9 me za zy zA wx V nj] w R:=
 fC (.d 4<|.s (.e<|.r [0,3,4,49,50] [.s 51 F] (.d 2<|.f<|.d 2<|.f<|.e<|.q [0,3,4,6,7,49,50,51,66,67] [.s 68 F,.b 7 [F,F,F,.str,F,.sl,F]]))<|.e<|.q [0,3,6,7,101,102] [.s 103 F]) am
def aqJ{c:Sl}{q:Int}{r s t:M}{u v x y:Sl}{z:Int}(lE:zf w λh a w0=>Qv [h,a] 62 #[da c q r s t u v x y z] w0 λl0 i0 w1=>K (i0 !=0) (∀w2,ay [a] w1 w2->R (zh i0 (-1)) w2) (P w1 λk w3=>qv [h,a,k] 63 #[cp q r s t u v x y z,Sl.nil.v] w3 λl1 w4=>∃J0:Nat->Int->Sl->Int->M->M->M->Sl->Sl->Sl->Sl->Int->Sl->Int->Int->av->Prop,∃k3:Nat,J0 k3 0 c q r s t u v x y z l0 0 0 w4/\∀k4 p,∀l2:Sl,∀i2 s0 s1 s2,∀l3 l4 l5 l6:Sl,∀i3,∀l7:Sl,∀i4 i5 w5,J0 k4 p l2 i2 s0 s1 s2 l3 l4 l5 l6 i3 l7 i4 i5 w5->K (JW<|p<(l0.n:Int)) (∃J1:Sl->Int->M->M->M->Sl->Sl->Sl->Sl->Int->Sl->Int->Int->av->Prop,(∀l8:Sl,∀i6 s3 s4 s5,∀l9 I qh rn:Sl,∀i7,∀ur:Sl,∀i8 i9 w6,J1 l8 i6 s3 s4 s5 l9 I qh rn i7 ur i8 i9 w6->nx k4 λk5=>J0 k5 (ar U<|p+1) l8 i6 s3 s4 s5 l9 I qh rn i7 ur i8 i9 w6)/\∃p0,ci l0 p 5 p0/\FD w5 (p0.add 1) λs6=>pR [h,a,k] 31 #[l0.v,ab s6] w5 λam w7=>K (am !=p) (xj l1 p w7 λaC=>(aF w7 k 128 [l2.v,O U i2,ab s0,ab s1,ab s2,l3.v,l4.v,l5.v,l6.v,O U i3,l7.v,O U i4,O U i5]->h≠k->a≠k->fW [h,a] 64 #[pB k,O U 24,O U aC] w7 λw8=>qT w8 k 128 λyi aS s7 s8 s9 AG I7 O4 LF aT EY bv bV=>J1 yi aS s7 s8 s9 AG I7 O4 LF aT EY bv bV w8))<|J1 l2 i2 s0 s1 s2 l3 l4 l5 l6 i3 l7 i4 i5 w7) (∃J2:Nat->Int->Sl->Int->M->M->M->Sl->Sl->Sl->Sl->Int->Sl->Int->Int->av->Prop,∃k6:Nat,J2 k6 0 l2 i2 s0 s1 s2 l3 l4 l5 l6 i3 l7 i4 i5 w5/\∀k7 i,∀zx:Sl,∀j I8 I9 O5,∀EZ PI HH Vi:Sl,∀l,∀PJ:Sl,∀m n w9,J2 k7 i zx j I8 I9 O5 EZ PI HH Vi l PJ m n w9->K (JW<|i<(c.n:Int)) (∃J3:Nat->Int->Sl->Int->M->M->M->Sl->Sl->Sl->Sl->Int->Sl->Int->Int->av->Prop,∃k8:Nat,J3 k8 0 zx j I8 I9 O5 EZ PI HH Vi l PJ m n w9/\∀k9 b,∀X:Sl,∀d V W T,∀Q S Y Z:Sl,∀e,∀Vn:Sl,∀f g o,J3 k9 b X d V W T Q S Y Z e Vn f g o->K (JW<|b<i) (∃J4:Sl->Int->M->M->M->Sl->Sl->Sl->Sl->Int->Sl->Int->Int->av->Prop,(∀Vo:Sl,∀A J L N,∀Vp RG RH Xj:Sl,∀C,∀Hh:Sl,∀D E dE,J4 Vo A J L N Vp RG RH Xj C Hh D E dE->nx k9 λrS=>J3 rS (ar U<|b+1) Vo A J L N Vp RG RH Xj C Hh D E dE)/\∃p2,ci c b 3 p2/\FD o (p2.add 0) λg9=>∃p3,ci c i 3 p3/\FD o (p3.add 0) λYi=>K (g9.toList==Yi.toList) (∃p4,ci c i 3 p4/\o0 o λey=>gF ey (p4.add 2) λbY=>(aF ey k 128 [X.v,O U d,ab V,ab W,ab T,Q.v,S.v,Y.v,Z.v,O U e,Vn.v,O U f,O U g]->h≠k->a≠k->fW [h,a] 64 #[pB k,O U 24,O U bY] ey λff=>qT ff k 128 λPL cc ip iD iF Xk Xl Xm Yh ce eQ co cC=>J4 PL cc ip iD iF Xk Xl Xm Yh ce eQ co cC ff))<|o0 o λfS=>J4 X d V W T Q S Y Z e Vn f g fS) (nx k7 λrq=>J2 rq (ar U<|i+1) X d V W T Q S Y Z e Vn f g o)) (aF w9 k 128 [zx.v,O U j,ab I8,ab I9,ab O5,EZ.v,PI.v,HH.v,Vi.v,O U l,PJ.v,O U m,O U n]->h≠k->a≠k->pR [h,a] 65 #[pB k,cp q r s t u v x y z,O U 0] w9 λlT gz=>qT gz k 128 λfd dO iN iS ld gE gG gO gT el g8 G H=>∀iA,ay [a] gz iA->aF iA k 128 [fd.v,O U dO,ab iN,ab iS,ab ld,gE.v,gG.v,gO.v,gT.v,O U el,g8.v,O U G,O U H]->R (zh G H) iA)))):B 28 #[da c q r s t u v x y z] w R:=
 fC (.d 5<|.s (.e<|.r [1,2,3,5,6,22] [.s 7 F,.b 22 [.sl,F,.str,.str,.str,.sl,.sl,.sl,.sl,F,.sl,F,F]] (.e<|.q [1,2,3,5,6,7,22] [.b 22 [.sl,F,.str,.str,.str,.sl,.sl,.sl,.sl,F,.sl,F,F]]))<|.f<|.e<|.r [1,2,5,22] [.s 8 F,.b 22 [.sl,F,.str,.str,.str,.sl,.sl,.sl,.sl,F,.sl,F,F]] (.e<|.f<|.e<|.r [1,2,5,8,22] [.s 9 F,.b 22 [.sl,F,.str,.str,.str,.sl,.sl,.sl,.sl,F,.sl,F,F]] (.e<|.q [1,2,5,8,9,22] [.b 22 [.sl,F,.str,.str,.str,.sl,.sl,.sl,.sl,F,.sl,F,F]]))) lE
def aqK(c:Sl)(a:Int){b d e:M}(f g h i:Sl)(j:Int)(R:aG)(w:av)(k:P w λl n=>qv [l] 66 #[Sl.nil.v,cp a b d e f g h i j,O U (-1),O U 0] n λm o=>R m.v o):B 29 #[da c a b d e f g h i j] w R:=
 ir k
def aqL(l:Sl)(n:Int)(y v e:M)(f z x p:Sl)(I:Int)(R:aG)(b:av)(h:P b λk c=>lc 25 (cp n y v e f z x p I) c λo d=>bX [k] c d/\mO [k] 25 l o d λq G=>Hv q 0 G λJ m a i w=>K (JW<|i<(p.n:Int)) (gQ p i w λg C D E r s t u j=>qv [k] 30 #[a.v,cp g C D E r s t u j] w λA H=>nx m λk3=>J k3 A (ar U<|i+1) H)<|R a.v w):B 30 #[l.v,cp n y v e f z x p I] b R:=
 fC (.d 2<|.f<|.e<|.q [3] [.s 0 .sl,.s 5 F]) h
def aqM{l:Sl}{name:M}(h:mh 0 w λJ k i a=>K (JW<|i<(l.n:Int)) (∃p0,ci l i 5 p0/\FD a (p0.add 1) λs=>K (s.toList==name.toList) (R (O U i) a)<|nx k λb=>J b (ar U<|i+1) a)<|R (O U (-1)) a):B 31 #[l.v,ab name] w R:=
 fC (.e<|.f<|.e<|.q [0,1] [.s 5 F]) h
def aqN{l:Sl}{source:Int}{targets:Sl}(r:Hv (-1) 0 w λn v i a j=>K ((JW<|a<(l.n:Int))&&(JW<|(targets.n:Int)>0)) (lJ (λs z=>nx v λx=>n x s (ar U<|a+1) z) λe=>cB 49 #[l.v,O U source,O U a] j λo m=>∃p0,ci l a 5 p0/\gF m (p0.add 0) λt=>∃J:Nat->C->Int->av->Prop,∃k3:Nat,J k3 ((t==1)&&(o||(a==0))) 0 m/\∀k b d c,J k b d c->K (JW<|d<(targets.n:Int)) (xj targets d c λu=>cB 49 #[l.v,O U u,O U a] c λq A=>nx k λy=>J y (b&&q) (ar U<|d+1) A) (∃p,(b=aE->(JW<|i<0)=aL->ci l a 5 p)/\∃f,(b=aE->(JW<|i<0)=aL->aB c (p.add 3) [O U f])/\∃h,(b=aE->(JW<|i<0)=aL->ci l i 5 h)/\∃g,(b=aE->(JW<|i<0)=aL->aB c (h.add 3) [O U g])/\K (b&&((JW<|i<0)||(JW<|f>g))) (o0 c λD=>e a D) (o0 c λE=>e i E)))<|R (O U i) j):B 32 #[l.v,O U source,targets.v] w R:=
 fC (.d 2<|.f<|.e<|.r [0,1,2] [.s 7 F,.s 8 F] (.e<|.r [0,1,2,8] [.s 7 F] (.d 2<|.f<|.e<|.q [0,1,2,7,8] [.s 10 .bool,.s 11 F]))) r
def aqO{l:Sl}{n:Int}(h:cL 79 #[l.v,O U n] w λd f=>K ((d.n:Int)==0) (R (O U 1) f) (∃J:Nat->Int->Int->Int->av->Prop,∃m:Nat,J m 0 1 0 f/\∀k b c i a,J k b c i a->K (JW<|i<(d.n:Int)) (xj d i a λg=>cI 36 #[l.v,O U g] a λe q=>nx k λo=>J o (ar U<|b+e) (ar U<|c*e) (ar U<|i+1) q) (∃p,ci l n 5 p/\gF a (p.add 0) λj=>K (j==2) (R (O U c) a)<|R (O U b) a))):B 36 #[l.v,O U n] w R:=
 fC (.d 5<|.f<|.e<|.q [0,1,5] [.s 6 F,.s 7 F,.s 8 F]) h
def aqP(l:Sl)(n k:Int)(R:aG)(s:av)(y:∃d:Sl,∃t,((au 31 1 #[.mk 0 (O U n)]).run aq s)=(.ok d.v t)/\cL 79 #[l.v,O U n] t λa j=>∃p0,ci l n 5 p0/\gF j (p0.add 0) λz=>K (z==1) (Hv k 0 j λv G e b m=>K (JW<|b<(a.n:Int)) (xj a b m λA=>cI 36 #[l.v,O U A] m λp o=>K (JW<|e<p) (xj a b o λC=>cL 35 #[l.v,O U C,O U e] o λL S=>Ek 31 d L S λM T=>R M.v T)<|nx G λH=>v H (ar U<|e-p) (ar U<|b+1) o)<|R d.v m) (∃J:Nat->Int->Sl->Int->av->Prop,∃k3:Nat,J k3 k Sl.nil (ar U<|(a.n:Int)-1) j/\∀q g,∀h:Sl,∀i w,J q g h i w->K (JW<|i>=0) (xj a i w λD=>cI 36 #[l.v,O U D] w λc V=>∃r,ci a i 1 r/\o0 V λu=>gF u r λf=>c≠0/\cL 35 #[l.v,O U f,O U<|g.tmod c] u λN W=>Ek 31 N h W λP x=>c≠0/\nx q λI=>J I (ar U<|g.tdiv c) P (ar U<|i-1) x) (Ek 31 d h w λQ E=>R Q.v E))):B 35 #[l.v,O U n,O U k] s R:=
 fC (.d 3<|.s (.e<|.f<|.f<|.e<|.q [0,7,8] [.s 2 F,.s 9 F])<|.e<|.f<|.e<|.q [0,7,8] [.s 2 F,.s 11 .sl,.s 12 F]) y
def aAd(l j:Sl)(R:aG)(w:av)(h:P w λk g=>qv [k] 39 #[j.v] g λd a=>(aF a k 33 [l.v]->cL 40 #[d.v,.func (.func 110) #[] #[pB k]] a λe b=>FE b k 33 λi=>cL 109 #[e.v] b λf c=>FE c k 33 λm=>R f.v c)):B 72 #[l.v,j.v] w R:=
 ir h
def aqQ{s:Sl}{v:Int}(h:cI 107 #[s.v,O U v] w λi a=>R (aj<|JW<|i>=0) a):B 69 #[s.v,O U v] w R:=
 ir h
def ZD(s:Sl)(f:OV)(R:aG)(w:av)(h:cI 81 #[s.v,f.v] w λi a=>R (aj<|JW<|i>=0) a):B 86 #[s.v,f.v] w R:=
 fB (an:=.o) (args:=[.sl s,.raw f]) h
def aqR{s:Sl}{d:OV}(q:cI 81 #[s.v,d.v] w λa h=>K (a==(-1)) (R s.v h)<|Hv a (ar U<|a+1) h λn t i b e=>K (JW<|b<(s.n:Int)) (lJ (λr C=>nx t λu=>n u r (ar U<|b+1) C) λJ=>xj s b e λg=>∃k3:Nat,∃z m,d.v=(.func (.func k3) z.toArray m.toArray)/\(∀x:Array aw,∀j,((callFunc k3 x).run aq j)=(.ok (.enter k3 x) j))/\cB k3 ((Cq (Cq z [O U g]) m).toArray) e λo f=>K (!o) (∃p,ci s i 1 p/\sT p f 1 λv y E A=>sS f v y E A [O U g] λD=>J (ar U<|i+1) D)<|J i f) (∃k:Nat,(i=(k:Int)/\k<=s.n/\s.n<=s.c)/\∃l,((Builtin.clear_ #[31] 0 #[(s.cut k s.n s.c 1).v]).run aq e)=(.ok (ai #[]) l)/\∃c:Nat,(i=(c:Int)/\c<=s.c)/\R ((s.cut 0 c s.c 1).v) l)):B 40 #[s.v,d.v] w R:=
 fB (an:=.d 3<|.f<|.e<|.r [0,1] [.s 5 (.int .i64),.s 6<|.int .i64] (.e<|.q [0,1,6] [.s 5 (.int .i64)])) (args:=[.sl s,.raw d]) q
def ZE(l:Sl)(a b:Int)(R:aG)(w:av):=
 ∃p0,((((JW<|b>=0)&&(JW<|b<(l.n:Int)))&&(JW<|a>b))=aE->ci l b 5 p0)/\
 ∃i,((((JW<|b>=0)&&(JW<|b<(l.n:Int)))&&(JW<|a>b))=aE->aB w (p0.add 4) [O U i])/\
 R (aj<|(((JW<|b>=0)&&(JW<|b<(l.n:Int)))&&(JW<|a>b))&&(JW<|a<i)) w
def K0{l:Sl}{a b:Int}(h:ZE l a b R w):B 49 #[l.v,O U a,O U b] w R:=
 ir h
def aqS{l:Sl}{n:Int}(h:mh 0 w λJ k i a=>K (JW<|i<(l.n:Int)) (xj l i a λb=>K (b==n) (R (aj aE) a)<|nx k λc=>J c (ar U<|i+1) a)<|R (aj aL) a):B 78 #[l.v,O U n] w R:=
 fC (.e<|.f<|.e<|.q [0,1] [.s 5 F]) h
def aAe(f ff bJ nM jB yj p:Sl)(bY:aG)(cc:av)(ce:zf cc λa k w0=>Om [a,k] 37 #[ft f ff bJ nM,p.v] w0 λq0 w1=>(aF w1 k 31 [jB.v]->a≠k->qv [a] 67 #[yj.v,pB k] w1 λl0 w2=>FE w2 k 31 λl1=>∃J:Nat->Int->Sl->Sl->Sl->Sl->Sl->av->Prop,∃k2:Nat,J k2 0 f ff bJ nM l1 w2/\∀k3 i,∀q s t u l6:Sl,∀w,J k3 i q s t u l6 w->K (JW<|i<(f.n:Int)) (∃E:Sl->Sl->Sl->Sl->Sl->av->Prop,(∀l7 l8 l9 l qh:Sl,∀w4,E l7 l8 l9 l qh w4->nx k3 λk4=>J k4 (ar U<|i+1) l7 l8 l9 l qh w4)/\A5 f i w λQ s0 i2 i3 i4=>P w λb w5=>aF w5 k 31 [l6.v]->∃G:C->Sl->Sl->Sl->Sl->Sl->Int->M->Int->Int->Int->av->Prop,(∀b0,∀r x D A I7:Sl,∀m s1 n i7 i8 w6,G b0 r x D A I7 m s1 n i7 i8 w6->K b0 (E r x D A I7 w6) (qv [a,b] 71 #[r.v,O U n] w6 λO4 w7=>FE w7 k 31 λLF=>∃J3:Sl->Sl->Sl->Sl->Sl->Sl->Int->M->Int->Int->Int->av->Prop,(∀EY zx EZ PI HH Vi:Sl,∀i9 s2 R T X z,J3 EY zx EZ PI HH Vi i9 s2 R T X z->∃p1,q0=(aM p1)/\Px z (p1.add 4) λm0=>∃w9,((Builtin.delete_ #[99,3] 0 #[.map m0,O U i]).run aq z)=(.ok (ai #[]) w9)/\bX [a,k,b] z w9/\o0 w9 λg=>aF g k 31 [Vi.v]->∃I:h,∃p2,q0=(aM p2)/\I ((p2.add 4).block)/\Px g (p2.add 4) λm1=>qv [a,b] 67 #[EY.v,pB k] g λPJ d=>FE d k 31 λVj=>bH I g d/\∃y,((Instr.mapUpdate 99 (.map m1) (O U i) PJ.v).run aq d)=(.ok () y)/\bX [a,k,b] d y/\bH I d y/\E zx EZ PI HH Vj y)/\K (m==4) (qv [a,b] 72 #[r.v,LF.v] w7 λHI j=>FE j k 31 λL1=>(aF j a 36 [r.v,x.v,D.v,A.v]->aF j b 131 [O U m,ab s1,O U n,O U i7,O U i8]->cL 40 #[HI.v,.func (.func 73) #[] #[pB a,pB b]] j λVk S=>Qs S a 36 λVm Vn Vo Vp=>FE S k 31 λRG=>afC S b 131 λY s3 Z am aC=>J3 Vk Vm Vn Vo Vp RG Y s3 Z am aC S)) (J3 O4 r x D A LF m s1 n i7 i8 w7)))/\iV [a,b] 70 #[O U Q] w5 λb1 N=>FE N k 31 λRH=>K (!b1) (G aE q s t u RH Q s0 i2 i3 i4 N)<|iV [a,b] 69 #[l0.v,O U i2] N λb2 iA=>FE iA k 31 λXj=>G (!b2) q s t u Xj Q s0 i2 i3 i4 iA) (∃p3,q0=(aM p3)/\Px w (p3.add 4) λm2=>∃v V,((Instr.range 99<|.map m2).run aq w)=(.ok (ae v) V)/\bX [a,k] w V/\∃L:Nat->Sl->Sl->Sl->Sl->Sl->Sl->av->Prop,∃k6:Nat,L k6 Sl.nil q s t u l6 V/\∀k7,∀H PL Xk Xl Xm Yh:Sl,∀W,L k7 H PL Xk Xl Xm Yh W->Or (Exists<|λkf=>((Instr.next (ae v) aL 0).run aq W)=(.ok (ai #[aj aL]) kf)/\bX [a,k] W kf/\fW [a] 74 #[H.v,.func (.func 75) #[] #[]] kf λje=>FE je k 31 λco=>bY H.v je) (Exists<|λv0:OV=>∃v1:OV,∃o,((Instr.next (ae v) aL 0).run aq W)=(.ok (ai #[aj aE,v0.v,v1.v]) o)/\bX [a,k] W o/\∃v2 v3:OV,∃nK,((Instr.entry<|ae v).run aq o)=(.ok (ai #[v2.v,v3.v]) nK)/\bX [a,k] o nK/\∃c,v2.v=(O U c)/\∃e:Sl,v3.v=e.v/\qv [a] 39 #[e.v] nK λaS nL=>FE nL k 31 λaT=>lc 42 (Oi c aS) nL λbv pe=>bX [a,k] nL pe/\mO [a,k] 42 H bv pe λbV lS=>nx k7 λk8=>L k8 bV PL Xk Xl Xm aT lS)))):B 33 #[ft f ff bJ nM,jB.v,yj.v,p.v] cc bY:=
 fC (.d 4<|.s (.e<|.r [4,5,9,10,11,26,27] [.s 28 F,.b 4 [.sl,.sl,.sl,.sl],.b 5 [.sl]] (.d 2<|.r [4,5,9,10,11,26,27,28] [.b 4 [.sl,.sl,.sl,.sl],.b 5 [.sl]] (.e<|.s (.f<|.q [4,5,9,10,11,12,13,26,27,28] [.s 43 .bool,.b 4 [.sl,.sl,.sl,.sl],.b 5 [.sl],.b 13 [F,.str,F,F,F]])<|.e<|.q [4,5,9,10,11,12,13,26,27,28] [.s 14 .sl,.b 4 [.sl,.sl,.sl,.sl],.b 5 [.sl],.b 13 [F,.str,F,F,F]])))<|.e<|.f<|.e<|.q [4,5,76] [.s 15 .sl,.b 4 [.sl,.sl,.sl,.sl],.b 5 [.sl]]) ce
def aqT{c bJ gz nM n yj p:Sl}(am:P w λk w0=>∃J:Nat->Sl->Int->av->Prop,∃k1:Nat,J k1 Sl.nil 0 w0/\∀M,∀l:Sl,∀i r,J M l i r->K (JW<|i<(c.n:Int)) (lJ (λl1 w2=>nx M λk3=>J k3 l1 (ar U<|i+1) w2) λs=>∃p0,ci c i 5 p0/\gF r (p0.add 0) λi1=>iV [k] 77 #[O U i1] r λb0 z=>K (!b0) (s l z) (∃Q,ci c i 5 Q/\gF z (Q.add 2) λj=>iV [k] 78 #[n.v,O U j] z λb1 w4=>iV [k] 78 #[yj.v,O U j] w4 λb2 w5=>K (b1&&b2) (qv [k] 79 #[c.v,O U j] w5 λl2 A=>lJ (λo w7=>P w7 λb w8=>∃J3:Nat->Int->Int->Sl->av->Prop,∃k5:Nat,J3 k5 0 i Sl.nil w8/\∀N d m,∀q:Sl,∀e,J3 N d m q e->K (JW<|d<(o.n:Int)) (Mg (λi5 l5 dh=>nx N λk7=>J3 k7 (ar U<|d+1) i5 l5 dh) λD=>xj o d e λi6=>iV [k,b] 78 #[n.v,O U i6] e λb3 dE=>∃T,ci o d 1 T/\o0 dE λG=>gF G T λi7=>iV [k,b] 49 #[c.v,O U i7,O U j] G λb4 H=>K (b3&&b4) (o0 H λf=>∃t:h,t b/\xj o d f λi8=>lc 31 (O U i8) f λl6 g=>bX [k,b] f g/\bH t f g/\mO [k,b] 31 q l6 g λl7 I=>bH t g I/\∀V,ay [b] I V->D m l7 V)<|D m q H) (lc 42 (Oi m q) e λl8 W=>bX [k,b] e W/\mO [k,b] 42 l l8 W λl9 kf=>s l9 kf)) λC=>∃X,ci c i 5 X/\gF A (X.add 0) λi9=>K (i9==4) (qv [k] 80 #[c.v,n.v] A λv je=>C v je)<|C l2 A)<|Hv l 0 w5 λff k9 x a y=>K (JW<|a<(p.n:Int)) (lJ (λrn nK=>nx k9 λrS=>ff rS rn (ar U<|a+1) nK) λE=>∃Y,ci p a 2 Y/\gF y (Y.add 0) λu=>K (u==i) (XL 31 y λur L=>bX [k] y L/\∃Z,ci p a 2 Z/\iZ L (Z.add 1) λyi=>mO [k] 31 ur yi L λAG pe=>lc 42 (Oi i AG) pe λI7 S=>bX [k] pe S/\mO [k] 42 x I7 S λO4 qj=>E O4 qj)<|E x y)<|s x y)) (R l.v r)):B 34 #[ft c bJ gz nM,n.v,yj.v,p.v] w R:=
 fC (.d 2<|.f<|.e<|.r [1,2,3,4] [.s 9 .sl,.s 10 F] (.e<|.r [1,2,3,4,10] [.s 9 .sl] (.d 5<|.s (.e<|.f<|.e<|.j [1,2,3,4,9,10,12] [.s 15 .sl] .o (.e<|.f<|.e<|.r [1,2,3,4,9,10,12,15,16] [.s 17 F,.b 16 [F,.sl]] (.e<|.q [1,2,3,4,9,10,12,15,16,17] [.b 16 [F,.sl]])))<|.e<|.r [1,2,3,4,10,16] [.s 9 .sl,.s 20 F] (.e<|.q [1,2,3,4,10,16,20] [.s 9 .sl])))) am
def Xt(o n L M p:Sl)(R:aG)(q:av):Prop:=
 P q λk f=>∃m w,((Instr.makeMap 99 VM).run aq f)=(.ok (.map m) w)/\
 bX [k] f w/\
 ∃e c,((Instr.makeMap 95 VM).run aq w)=(.ok (.map e) c)/\
 bX [k] w c/\
 P c λa r=>mh 0 r λJ k3 i b=>K (JW<|i<(p.n:Int)) (azU p i b λh l=>P b λj g=>∃d,((Instr.mapUpdate 99 (.map m) (O U h) l.v).run aq g)=(.ok () d)/\
  bX [k,a,j] g d/\
  nx k3 λs=>J s (ar U<|i+1) d)<|aF b a 101 [o.v,n.v,L.v,M.v,.map m,.map e]->k≠a->R (pB a) b
def Xu(a m L n p:Sl)(R:aG)(w:av)(h:Xt a m L n p R w):B 37 #[ft a m L n,p.v] w R:=
 fC (.d 2<|.f<|.e<|.q [2,5,12,13,14] [.s 15 F]) h
def aAf{a:Addr}(k:Int)(R:aG)(d:av)(h:P d λb w=>∃l:Sl,((JW<|k<0)=aL->aB w ((a.add 0).add 3) [l.v])/\∃c:Sl,(((JW<|k<0)||(JW<|k>=(l.n:Int)))=aL->aB w ((a.add 0).add 3) [c.v])/\∃p0,(((JW<|k<0)||(JW<|k>=(l.n:Int)))=aL->ci c k 7 p0)/\∃i,(((JW<|k<0)||(JW<|k>=(l.n:Int)))=aL->aB w (p0.add 6) [O U i])/\K (((JW<|k<0)||(JW<|k>=(l.n:Int)))||(JW<|i<0)) (∀e,ay [b] w e->R (ai #[xD 0 0 0 (ao #[]) 0 Sl.nil 0,aj aL]) e) (iZ w ((a.add 0).add 3) λp=>Cu p k w λg j m s n q o=>∀f,ay [b] w f->R (ai #[xD g j m s n q o,aj aE]) f)):B 38 #[G a,O U k] d R:=
 ir h
def Xw(n:Int)(g v V:Addr)(R:aG)(w:av):Prop:=
 lJ (λb d=>R (aj b) d) λJ=>Tt w g λa=>K (!a) (J aE w)<|iZ w (v.add 0) λl=>gF w (V.add 6) λi=>cB 42 #[l.v,O U n,O U i] w λc e=>J (!c) e
def aAg(n:Int){g v V:Addr}(R:aG)(w:av)(h:Xw n g v V R w):B 41 #[O U n,G g,G v,G V] w R:=
 fC (.e<|.f<|.q [] [.s 5 .bool]) h
def aAh{l:Sl}{a b:Int}(h:lJ (λc e=>R (aj c) e) λJ=>K (a !=b) (cB 82 #[l.v,O U b,O U a] w λd f=>J d f)<|J aL w):B 42 #[l.v,O U a,O U b] w R:=
 fC (.e<|.f<|.q [] [.s 6 .bool]) h
def aAi{c:Addr}{targets:Sl}(n:∃m h,((Instr.makeMap 95 VM).run aq w)=(.ok (.map m) h)/\mh 0 h λj r e d=>K (JW<|e<(targets.n:Int)) (yH (λz=>nx r λs=>j s (ar U<|e+1) z) λJ=>xj targets e d λi=>Px d (c.add 4) λy=>∃l:Sl,∃f a,((Instr.lookup 99 (.map y) (O U i) aE).run aq d)=(.ok (ai #[l.v,aj f]) a)/\∃g:Sl,((JW<|i<0)=aL->aB a ((c.add 0).add 0) [g.v])/\K ((JW<|i<0)||(JW<|i>=(g.n:Int))) (J a) (iZ a ((c.add 0).add 0) λt=>∃p,ci t i 5 p/\gF a (p.add 0) λo=>cB 70 #[O U o] a λk b=>K (!k) (lc 31 (O U i) b λu A=>cU 47 #[.map m,u.v] A λC=>J C)<|K f (cU 47 #[.map m,l.v] b λD=>J D)<|iZ b ((c.add 0).add 2) λv=>xj v i b λq=>lc 31 (O U q) b λx E=>cU 47 #[.map m,x.v] E λH=>J H))<|R (.map m) d):B 43 #[G c,targets.v] w R:=
 fC (.d 2<|.f<|.e<|.r [0,5,11,12] [.s 13 F] (.d 2<|.q [0,5,11,12,13] [])) n
def aAj{s:Option Nat}(h:mtM 84 #[.map s] w λv a=>cL 83 #[v.v] a λl b=>R l.v b):B 44 #[.map s] w R:=
 ir h
def aAk{d:Addr}{a:Option Nat}{domain:Int}(m:∃q f,((Instr.range 95<|.map a).run aq w)=(.ok (ae q) f)/\Mm f λJ o g=>Or (Exists<|λh=>((Instr.next (ae q) aL 0).run aq g)=(.ok (ai #[aj aL]) h)/\R (ai #[]) h)<|Exists<|λx:OV=>∃y:OV,∃j,((Instr.next (ae q) aL 0).run aq g)=(.ok (ai #[aj aE,x.v,y.v]) j)/\∃v z:OV,∃k,((Instr.entry<|ae q).run aq j)=(.ok (ai #[v.v,z.v]) k)/\∃e,v.v=(O U e)/\mh e k λl k3 i b=>K (JW<|i>domain) (Px b (d.add 5) λu=>lc 31 (O U i) b λs A=>cU 47 #[.map u,s.v] A λc=>iZ c ((d.add 0).add 0) λt=>∃p0,ci t i 5 p0/\gF c (p0.add 2) λn=>nx k3 λp=>l p n c)<|nx o λr=>J r b):B 45 #[G d,.map a,O U domain] w R:=
 fC (.e<|.r [0,2,8] [] (.d 3<|.q [0,2,8] [.s 6 F])) m
def aAl{n:Addr}(Q:P w λk D=>iZ D ((n.add 0).add 0) λt=>∃j:Nat->Int->Option Addr->av->Prop,∃W:Nat,j W 0 (aM n) D/\∀s i q d,j s i q d->K (JW<|i<(t.n:Int)) (lJ (λq1 w2=>nx s λk3=>j k3 (ar U<|i+1) q1 w2) λJ=>A5 t i d λT s0 i2 i3 i4=>∃u,q=(aM u)/\P d λa m=>Px m (u.add 5) λm0=>∃p e,((Instr.lookup 95 (.map m0) (O U i) aL).run aq m)=(.ok (aj p) e)/\bX [k,a] m e/\K (!p) (J q e) (∃v,q=(aM v)/\iZ e ((v.add 0).add 0) λX=>qv [k,a] 71 #[X.v,O U i] e λY H=>(aF H k 87 [ae q]->a≠k->qv [a] 40 #[Y.v,.func (.func 85) #[] #[pB k]] H λl f=>Qx f k 87 λC=>K (T==2) (∃x,C=(aM x)/\Px f (x.add 5) λm1=>fW [a] 47 #[.map m1,l.v] f λI=>Qx I k 87 λq3=>J q3 I)<|Mg (λM c L=>K M (o0 L λb=>aF b k 87 [ae c]->∃J3:h,J3 k/\J3 k/\∃z,c=(aM z)/\iZ b ((z.add 0).add 1) λZ=>xj Z i b λV=>lc 31 (O U V) b λl5 g=>bX [k,a] b g/\bH J3 b g/\Uz [a] 43 #[ae c,l5.v] g λm2 E=>Qx E k 87 λq5=>bH J3 g E/\fW [a] 45 #[ae c,.map m2,O U i] E λy=>Qx y k 87 λq6=>bH J3 E y/\J q6 y)<|J c L) λo=>K (JW<|(l.n:Int)>0) (iV [a] 86 #[l.v,.func (.func 87) #[] #[pB k]] f λN r=>Qx r k 87 λq7=>o (!N) q7 r)<|o aL C f))) (∃A,q=(aM A)/\Px d (A.add 5) λm3=>qv [k] 44 #[.map m3] d λl6 S=>R l6.v S)):B 46 #[G n] w R:=
 fC (.e<|.f<|.e<|.r [1,10,11] [.s 12 F,.b 1 [.ptr]] (.d 2<|.r [1,10,11,12] [.b 1 [.ptr]] (.d 5<|.f<|.q [1,3,4,10,11,12] [.s 43 .bool,.b 1 [.ptr]]))) Q
def aAm{s:Option Nat}{l:Sl}(h:mh 0 w λJ k i a=>K (JW<|i<(l.n:Int)) (xj l i a λc=>∃b,((Instr.mapUpdate 95 (.map s) (O U c)<|aj aE).run aq a)=(.ok () b)/\nx k λd=>J d (ar U<|i+1) b)<|R (ai #[]) a):B 47 #[.map s,l.v] w R:=
 fC (.e<|.q [0,6,7] [.s 8 F]) h
def aqX{b c:Sl}(h:K ((b.n:Int) !=(c.n:Int)) (R (aj aL) w) (mh 0 w λJ n i a=>K (JW<|i<(b.n:Int)) (A5 b i a λd s e f g=>A5 c i a λj p k l m=>K (!((d==j)&&((s==p)&&((e==k)&&((f==l)&&(g==m)))))) (o0 a λq=>R (aj aL) q)<|o0 a λr=>nx n λo=>J o (ar U<|i+1) r)<|R (aj aE) a)):B 48 #[b.v,c.v] w R:=
 fC (.d 2<|.f<|.e<|.q [0,1] [.s 5 F]) h
def aqY(marks:Sl)(R:aG)(b:av)(h:∃J:Nat->Sl->Int->av->Prop,∃d:Nat,J d Sl.nil 0 b/\∀k,∀l:Sl,∀i w,J k l i w->K (JW<|i<(marks.n:Int)) (lJ (λf m=>nx k λe=>J e f (ar U<|i+1) m) λa=>xYB marks i w λc=>K c (lc 31 (O U i) w λg n=>Ek 31 l g n λj o=>a j o)<|a l w) (R l.v w)):B 50 #[marks.v] b R:=
 fC (.d 2<|.f<|.e<|.r [0] [.s 3 .sl,.s 4 F] (.e<|.q [0,4] [.s 3 .sl])) h
def aqZ{a m L n p t:Sl}(y:P w λk r=>LR (Instr.makeSlice 105 (O U (a.n:Int))<|O U (a.n:Int)) r λl s=>bX [k] r s/\mh 0 s λv C d b=>K (JW<|d<(t.n:Int)) (yH (λN=>nx C λk3=>v k3 (ar U<|d+1) N) λJ=>xj t d b λi=>K ((JW<|i<0)||(JW<|i>=(a.n:Int))) (J b) (∃o,ci a i 5 o/\gF b (o.add 0) λz=>iV [k] 77 #[O U z] b λx u=>lc 31 (O U i) u λI f=>bX [k] u f/\lJ (λj Q=>mh 0 Q λJ3 D e c=>K (JW<|e<(j.n:Int)) (xj j e c λA=>∃q,ci l A 1 q/\sT q c 1 λh E V G=>k≠h/\sS c h E V G [aj aE] λS=>nx D λH=>J3 H (ar U<|e+1) S)<|J c) λg=>K x (qv [k] 88 #[ft a m L n,p.v,O U i] f λM T=>g M T)<|g I f))<|R l.v b):B 51 #[ft a m L n,p.v,t.v] w R:=
 fC (.d 2<|.f<|.e<|.r [1,2,3,7] [.s 8 F] (.e<|.r [1,2,3,7,8] [] (.d 4<|.j [1,2,3,7,8] [.s 11 .sl] .o (.e<|.q [1,2,3,7,8,11] [.s 12 F])))) y
def aq0{p C L M m f:Sl}{domain:Int}(s:P w λk D=>mh 0 D λo u i j=>K (JW<|i<(p.n:Int)) (iV [k] 49 #[p.v,O U i,O U domain] j λr E=>mh 0 E λq v a l=>K ((JW<|a<(f.n:Int))&&r) (yH (λG=>nx v λx=>q x (ar U<|a+1) G) λJ=>∃p0,ci f a 1 p0/\o0 l λn=>gF n p0 λt=>iV [k] 49 #[p.v,O U t,O U i] n λc b=>∃g,(c=aL->ci f a 1 g)/\∃d,(c=aL->aB b g [O U d])/\K (c||(d==i)) (∃h,ci m i 1 h/\sT h b 1 λe y I z=>k≠e/\sS b e y I z [aj aE] λH=>J H) (J b))<|nx u λA=>o A (ar U<|i+1) l)<|R (ai #[]) j):B 52 #[ft p C L M,m.v,f.v,O U domain] w R:=
 fC (.d 2<|.r [1,2,3,4] [.s 8 F] (.e<|.f<|.d 2<|.r [1,2,3,4,8,9] [.s 10 F] (.e<|.q [1,2,3,4,8,9,10] []))) s
def aq1{c e L M p m:Sl}(E:P w λk Y=>mh 0 Y λA N i f=>K (JW<|i<(c.n:Int)) (yH (λZ=>nx N λk3=>A k3 (ar U<|i+1) Z) λn=>xYB m i f λD=>K (!D) (n f)<|qv [k] 79 #[c.v,O U i] f λl w3=>Hv aE 0 w3 λC Q b d a=>K (JW<|d<(l.n:Int)) (yH (λo=>∃v,(b=aE->ci l d 1 v)/\∃t,(b=aE->aB o v [O U t])/\∃x,(b=aE->ci m t 1 x)/\∃r,(b=aE->aB o x [aj r])/\nx Q λS=>C S (b&&(!r)) (ar U<|d+1) o) λJ3=>∃y,ci c i 5 y/\gF a (y.add 0) λG=>K (G==2) (xj l d a λH=>∃z,ci m H 1 z/\sT z a 1 λu T z0 V=>k≠u/\sS a u T z0 V [aj aE] λw6=>J3 w6)<|J3 a)<|K ((JW<|(l.n:Int)>0)&&b) (o0 a λg=>∃J:h,J k/\J k/\xj e i g λI=>lc 31 (O U I) g λW j=>bX [k] g j/\bH J g j/\qv [k] 20 #[ft c e L M,p.v,W.v] j λX q=>bH J j q/\fW [k] 52 #[ft c e L M,m.v,X.v,O U i] q λs=>bH J q s/\n s)<|n a)<|R (ai #[]) f):B 53 #[ft c e L M,p.v,m.v] w R:=
 fC (.d 2<|.r [1,2,3] [.s 6 F] (.e<|.r [1,2,3,6] [] (.d 3<|.f<|.e<|.r [1,2,3,6,7] [.s 8 .bool,.s 9 F] (.e<|.f<|.q [1,2,3,6,7,8,9] [])))) E
def aq2(s:M)(lE:aG)(UP:av)(UV:zf UP λb c w0=>Cw [b,c] 89 #[ab s] w0 λl0 i0 i1 w1=>K (i0 !=0) (P w1 λk2 w2=>b≠c->b≠k2->c≠k2->∃J0:h,J0 k2/\vU J0 b/\vU J0 c/\∀w3,ay [c,b] w2 w3->lE (ai #[da Sl.nil 0 (ao #[]) (ao #[]) (ao #[]) Sl.nil Sl.nil Sl.nil Sl.nil 0,zh i0 i1]) w3)<|TW w1 λk3 k a w4=>lc 75 (ab Kaa) w4 λl1 w5=>bX [b,c,k3,k,a] w4 w5/\(aF w5 k 157 [l0.v,O U 0,O U 0,O U 0,O U 16,O U 64,O U 12,O U 200,O U 400]->b≠k->c≠k->k3≠k->a≠k->fW [b,c,k3,a] 90 #[pB k,l1.v] w5 λw6=>jV w6 k 157 λl2 i2 i3 i4 i5 i6 i7 i8 i9=>qw [b,c,k3,a] 91 #[pB k,O U 1] w6 λlT s0 s1 s2 l3 l4 l5 l6 mt w7=>jV w7 k 157 λl7 mK nO n8 oF oN oR pi pm=>∀w8,ay [a] w7 w8->aF w8 k 157 [l7.v,O U mK,O U nO,O U n8,O U oF,O U oN,O U oR,O U pi,O U pm]->lc 75 (ab<|ao #[123]) w8 λl8 w9=>bX [b,c,k3,k,a] w8 w9/\fW [b,c,k3,a] 90 #[pB k,l8.v] w9 λdh=>jV dh k 157 λl9 pP rx tO ut uP wd As AC=>∃J1:Nat->Sl->Int->M->M->M->Sl->Sl->Sl->Sl->Int->Sl->Int->Int->Int->Int->Int->Int->Int->Int->av->Prop,∃k6:Nat,J1 k6 Sl.nil lT s0 s1 s2 l3 l4 l5 l6 mt l9 pP rx tO ut uP wd As AC dh/\∀k7,∀E:Sl,∀u s3 s4 s5,∀qh rn ur yi:Sl,∀v,∀AG:Sl,∀AS AT Bv By BV BY Cc CC dE,J1 k7 E u s3 s4 s5 qh rn ur yi v AG AS AT Bv By BV BY Cc CC dE->lc 75 (ab Kab) dE λI7 ey=>bX [b,c,k3,k,a] dE ey/\pR [b,c,k3,a] 92 #[pB k,I7.v] ey λDo ff=>jV ff k 157 λO4 DO EQ Fd Fn zqF Ge Gg Gt=>K (JW<|Do>0) (o0 ff λfS=>aF fS k 157 [O4.v,O U DO,O U EQ,O U Fd,O U Fn,O U zqF,O U Ge,O U Gg,O U Gt]->∃J2:h,J2 a/\afE [b,c,k3,a] 93 #[pB k] fS λs6 GE GG I=>jV I k 157 λLF W X Y Z am aC aS aT=>bH J2 fS I/\lc 22 (XK s6 GE GG) I λEY iA=>bX [b,c,k3,k,a] I iA/\bH J2 I iA/\mO [b,c,k3,k,a] 22 E EY iA λzx fV=>bH J2 iA fV/\∀iW,ay [a] fV iW->aF iW k 157 [LF.v,O U W,O U X,O U Y,O U Z,O U am,O U aC,O U aS,O U aT]->nx k7 λk8=>J1 k8 zx u s3 s4 s5 qh rn ur yi v LF W X Y Z am aC aS aT iW) (aF ff a 29 [E.v,O U u,ab s3,ab s4,ab s5,qh.v,rn.v,ur.v,yi.v,O U v]->b≠a->c≠a->k3≠a->fW [b,c,k3] 94 #[pB k,G ⟨a,1,VM⟩] ff λkf=>jV kf k 157 λEZ GO GT H1 Id If Is ID IF=>rF kf a 29 λPI IN s7 s8 s9 HH Vi PJ Vj zqI=>∃J3:Sl->Int->M->M->M->Sl->Sl->Sl->Sl->Int->Sl->Int->Int->Int->Int->Int->Int->Int->Int->av->Prop,(∀HI:Sl,∀IS I8 I9 O5,∀L1 Vk Vm Vn:Sl,∀Le,∀Vo:Sl,∀Lt LE LT MK Nm No NO Of je,J3 HI IS I8 I9 O5 L1 Vk Vm Vn Le Vo Lt LE LT MK Nm No NO Of je->iV [b,c,k3] 95 #[pB k] je λb0 ky=>jV ky k 157 λVp w d e x y z A D=>rF ky a 29 λRG f me nj gz RH Xj Hh PL g=>K (!b0) (o0 ky λnK=>aF nK k 157 [Vp.v,O U w,O U d,O U e,O U x,O U y,O U z,O U A,O U D]->aF nK a 29 [RG.v,O U f,ab me,ab nj,ab gz,RH.v,Xj.v,Hh.v,PL.v,O U g]->b≠c->b≠k3->b≠k->b≠a->c≠k3->c≠k->c≠a->k3≠k->k3≠a->k≠a->∃J4:h,J4 k/\vU J4 b/\vU J4 c/\∀nL,ay [c,b] nK nL->aF nL k 157 [Vp.v,O U w,O U d,O U e,O U x,O U y,O U z,O U A,O U D]->aF nL a 29 [RG.v,O U f,ab me,ab nj,ab gz,RH.v,Xj.v,Hh.v,PL.v,O U g]->lE (ai #[da Sl.nil 0 (ao #[]) (ao #[]) (ao #[]) Sl.nil Sl.nil Sl.nil Sl.nil 0,zh d e]) nL) (∀pe,ay [c,b] ky pe->aF pe k 157 [Vp.v,O U w,O U d,O U e,O U x,O U y,O U z,O U A,O U D]->aF pe a 29 [RG.v,O U f,ab me,ab nj,ab gz,RH.v,Xj.v,Hh.v,PL.v,O U g]->lE (ai #[da RG f me nj gz RH Xj Hh PL g,zh 0 0]) pe))/\∃bJ:C->Sl->Int->M->M->M->Sl->Sl->Sl->Sl->Int->Sl->Int->Int->Int->Int->Int->Int->Int->Int->av->Prop,(∀b1,∀Xk:Sl,∀bv ip iD iF,∀Xl Xm Yh fd:Sl,∀bV,∀gE:Sl,∀bY cc ce co cC dO el eQ lS,bJ b1 Xk bv ip iD iF Xl Xm Yh fd bV gE bY cc ce co cC dO el eQ lS->K b1 (fW [b,c,k3] 96 #[pB k] lS λqj=>jV qj k 157 λPi OF ON OR J L N Q R=>rF qj a 29 λPp S To Yi TO RK So ST SW T=>J3 Pp S To Yi TO RK So ST SW T Pi OF ON OR J L N Q R qj) (J3 Xk bv ip iD iF Xl Xm Yh fd bV gE bY cc ce co cC dO el eQ lS))/\o0 kf λvw=>aF vw k 157 [EZ.v,O U GO,O U GT,O U H1,O U Id,O U If,O U Is,O U ID,O U IF]->aF vw a 29 [PI.v,O U IN,ab s7,ab s8,ab s9,HH.v,Vi.v,PJ.v,Vj.v,O U zqI]->iV [b,c,k3] 95 #[pB k] vw λb2 xn=>jV xn k 157 λH i j l m n o p q=>rF xn a 29 λgG r iN iS ld gO gT g8 g9 t=>K b2 (∃p0,ci H i 4 p0/\gF xn (p0.add 0) λV=>bJ (V !=5) gG r iN iS ld gO gT g8 g9 t H i j l m n o p q xn)<|bJ aL gG r iN iS ld gO gT g8 g9 t H i j l m n o p q xn))):B 54 #[ab s] UP lE:=
 fC (.d 8<|.s (.q [2,3,5,6,7,22] [.b 7 [.sl,F,.str,.str,.str,.sl,.sl,.sl,.sl,F],.b 22 [.sl,F,F,F,F,F,F,F,F]])<|.e<|.r [2,3,5,6,7,22] [.b 7 [.sl,F,.str,.str,.str,.sl,.sl,.sl,.sl,F],.b 22 [.sl,F,F,F,F,F,F,F,F]] (.f<|.q [2,3,5,6,7,22] [.s 71 .bool,.b 7 [.sl,F,.str,.str,.str,.sl,.sl,.sl,.sl,F],.b 22 [.sl,F,F,F,F,F,F,F,F]])) UV
def aAn{k:Addr}{E:Int}{y N Y:M}{Z X V p:Sl}{v:Int}(h:P w λa b=>Px b (k.add 0) λD=>iZ b (k.add 1) λr=>fW [a] 56 #[G k,.map D,ab y,O U (r.n:Int),O U v] b λc=>iZ c (k.add 1) λs=>lc 33 (FG 0 (ao #[]) 0 0 0) c λt f=>bX [a] c f/\mO [a] 33 s t f λu g=>sT (k.add 1) g 1 λe m W k3=>a≠e/\sS g e m W k3 [u.v] λQ=>mh 0 Q λJ n i d=>K (JW<|i<(p.n:Int)) (gQ p i d λj H I L x z A C l=>P d λo S=>fW [a,o] 55 #[G k,cp j H I L x z A C l] S λT=>nx n λq=>J q (ar U<|i+1) T)<|R (ai #[]) d):B 55 #[G k,cp E y N Y Z X V p v] w R:=
 fC (.d 4<|.q [0,3,32,33] [.s 34 F]) h
def Xq{k:Addr}{m:Option Nat}{name:M}{p at_:Int}(h:∃i b a,((Instr.lookup 111 (.map m) (ab name) aE).run aq w)=(.ok (ai #[O U i,aj b]) a)/\cU 97 #[G k,aj<|!b,O U 24,O U at_] a λc=>K (!b) (∃d,((Instr.mapUpdate 111 (.map m) (ab name)<|O U p).run aq c)=(.ok () d)/\R (ai #[]) d)<|R (ai #[]) c):B 56 #[G k,.map m,ab name,O U p,O U at_] w R:=
 ir h
def aAo{k:Addr}{r:Int}{C v D:M}{y z x p:Sl}{I at_:Int}(Q:P w λa w0=>fW [a] 98 #[G k,cp r C v D y z x p I,O U at_] w0 λs=>Qw 198 y.v z.v s λl0 t=>bX [a] s t/\fW [a] 99 #[G k,l0.v] t λw3=>mh 0 w3 λE Z i j=>K (JW<|i<(x.n:Int)) (iT x i j λT s0 n b0 V W s1 X l1 Y l2 l3 o=>P j λk3 w5=>fW [a,k3] 97 #[G k,aj<|(T !=3)||((JW<|n>0)&&(JW<|n<=1099511627776)),O U 28,O U o] w5 λw6=>fW [a,k3] 100 #[G k,bL V W s1 X l1 Y] w6 λu=>lc 198 l2.v u λl4 A=>bX [a,k3] u A/\fW [a,k3] 99 #[G k,l4.v] A λw9=>o0 w9 λl=>∃J:h,J k3/\iV [a,k3] 101 #[G k,l3.v] l λL d=>bH J l d/\fW [a,k3] 97 #[G k,aj L,O U 27,O U o] d λm=>bH J d m/\nx Z λk4=>E k4 (ar U<|i+1) m)<|Hv (ar U<|at_+1) 0 j λH k6 q g f=>K (JW<|g<(p.n:Int)) (gQ p g f λb s2 s3 s4 l5 l6 l7 l8 c=>P f λk7 S=>pR [a,k7] 57 #[G k,cp b s2 s3 s4 l5 l6 l7 l8 c,O U q] S λe N=>nx k6 λk8=>H k8 e (ar U<|g+1) N)<|R (O U q) f):B 57 #[G k,cp r C v D y z x p I,O U at_] w R:=
 fC (.d 3<|.s (.e<|.q [0,2,4,23,24] [.s 25 F])<|.e<|.f<|.e<|.q [0,4,8,67,68] [.s 2 F,.s 69 F]) Q
def aq4{c:Sl}{a:Int}{b d e:M}{f g h i:Sl}{j:Int}(k:P w λm n=>is1 [m] 102 #[da c a b d e f g h i j] n λs l o=>R (O U l) o):B 58 #[da c a b d e f g h i j] w R:=
 ir k
def aAp{l:Addr}{o:Int}{y ff za:M}{zy zA wx e:Sl}{bJ p d:Int}(t:P w λk r=>iZ r (l.add 0) λn=>o0 r λa=>∃J:h,J ((l.add 0).block)/\iZ a (l.add 0) λE=>lc 119 (FG o y p d 0) a λH b=>bX [k] a b/\bH J a b/\mO [k] 119 E H b λI f=>bH J b f/\sT (l.add 0) f 1 λj x z0 k3=>k≠j/\sS f j x z0 k3 [I.v] λw4=>mh 0 w4 λs z i g=>K (JW<|i<(e.n:Int)) (gQ e i g λu X Y Z L N Q S v=>P g λA w6=>fW [k,A] 59 #[G l,cp u X Y Z L N Q S v,O U (n.n:Int),O U<|ar U<|d+1] w6 λw7=>nx z λC=>s C (ar U<|i+1) w7) (o0 g λc=>iZ c (l.add 0) λT=>iZ c (l.add 0) λV=>∃q,ci T (n.n:Int) 5 q/\sT (q.add 4) c 1 λm D z1 W=>k≠m/\sS c m D z1 W [O U (V.n:Int)] λw9=>R (ai #[]) w9)):B 59 #[G l,cp o y ff za zy zA wx e bJ,O U p,O U d] w R:=
 fC (.d 3<|.f<|.e<|.q [0,3,5,8,33,34] [.s 35 F]) t
def aAq{l:Addr}{name:M}(h:K (name.toList==((ao #[]).toList)) (R (O U (-1)) w) (iZ w ((l.add 0).add 0) λa=>cI 103 #[a.v,ab name] w λi b=>R (O U i) b)):B 60 #[G l,ab name] w R:=
 ir h
def aAr{l:Addr}{source:Int}{targets:Sl}(k:K ((targets.n:Int)==0) (R (O U (-1)) w) (∃c:Sl,∃e,((au 31 1 #[.mk 0 (O U source)]).run aq w)=(.ok c.v e)/\Ek 31 c targets e λd f=>iZ f ((l.add 0).add 0) λs=>cI 104 #[s.v,d.v] f λm v=>mh m v λg q i a=>lJ (λh b=>K h (iZ b ((l.add 0).add 0) λt=>∃p0,ci t i 5 p0/\gF b (p0.add 2) λn=>nx q λr=>g r n b)<|R (O U i) b) λJ=>K (JW<|i>0) (iZ a ((l.add 0).add 0) λu=>∃p,ci u i 5 p/\gF a (p.add 0) λo=>K (o !=1) (J aE a)<|cB 69 #[d.v,O U i] a λj x=>J j x)<|J aL a)):B 61 #[G l,O U source,targets.v] w R:=
 fC (.d 4<|.f<|.r [0,7] [.s 8 F] (.f<|.f<|.q [0,7,8] [.s 41 .bool])) k
def aq5{c:Sl}{a:Int}{b d e:M}{f g h i:Sl}{j:Int}(n:P w λl p=>is1 [l] 105 #[da c a b d e f g h i j] p λs k m=>K (k !=0) (R (ai #[Sl.nil.v,O U k]) m)<|qv [l] 29 #[da c a b d e f g h i j] m λo q=>R (ai #[o.v,O U 0]) q):B 62 #[da c a b d e f g h i j] w R:=
 ir n
def aq6(t:Int)(D H G:M)(I E C p:Sl)(v:Int)(l:Sl)(R:aG)(b:av)(h:P b λk c=>lc 31 (O U v) c λj d=>bX [k] c d/\mO [k] 31 l j d λm z=>Hv m 0 z λJ g a i w=>K (JW<|i<(p.n:Int)) (gQ p i w λe u x y n o q r f=>qv [k] 63 #[cp e u x y n o q r f,a.v] w λs A=>nx g λk3=>J k3 s (ar U<|i+1) A)<|R a.v w):B 63 #[cp t D H G I E C p v,l.v] b R:=
 fC (.d 2<|.f<|.e<|.q [2] [.s 1 .sl,.s 5 F]) h
def aq7{k:Addr}{e at_:Int}(h:gF w ((k.add 11).add 0) λi=>K (i==0) (sT (k.add 11) w 2 λa b z c=>sS w a b z c [O U e,O U at_] λd=>R (ai #[]) d)<|R (ai #[]) w):B 64 #[G k,O U e,O U at_] w R:=
 ir h
def aq8{k:Addr}{n:Int}{y v d:M}{e z x p:Sl}{I at_:Int}(h:P w λc A=>fW [c] 106 #[G k,cp n y v d e z x p I,O U at_] A λC=>Hv (ar U<|at_+1) 0 C λJ l b i a=>K (JW<|i<(p.n:Int)) (gQ p i a λf s t u m o q r g=>pR [c] 65 #[G k,cp f s t u m o q r g,O U b] a λj D=>nx l λk3=>J k3 j (ar U<|i+1) D)<|R (O U b) a):B 65 #[G k,cp n y v d e z x p I,O U at_] w R:=
 fC (.d 3<|.f<|.e<|.q [0,4] [.s 2 F,.s 7 F]) h
def aq9(l:Sl)(n:Int)(y H W:M)(X V S b:Sl)(I p d:Int)(R:aG)(f:av)(j:P f λk g=>lc 33 (FG n y p d 0) g λt h=>bX [k] g h/\mO [k] 33 l t h λu L=>Hv u 0 L λJ q a i w=>K (JW<|i<(b.n:Int)) (gQ b i w λm D E G v x z A o=>qv [k] 66 #[a.v,cp m D E G v x z A o,O U (l.n:Int),O U<|ar U<|d+1] w λC N=>nx q λk3=>J k3 C (ar U<|i+1) N) (∃e,ci a (l.n:Int) 5 e/\sT (e.add 4) w 1 λc r T s=>k≠c/\sS w c r T s [O U (a.n:Int)] λQ=>R a.v Q)):B 66 #[l.v,cp n y H W X V S b I,O U p,O U d] f R:=
 fC (.d 3<|.f<|.e<|.q [3,5,9] [.s 0 .sl,.s 10 F]) j
def ara{b:Sl}{n:Int}(h:cL 115 #[b.v,O U n] w λc u=>∃J:Nat->Sl->Int->av->Prop,∃o:Nat,J o Sl.nil 0 u/\∀k,∀l:Sl,∀i a,J k l i a->K (JW<|i<(c.n:Int)) (lJ (λr v=>nx k λq=>J q r (ar U<|i+1) v) λe=>xj c i a λg=>∃p,ci b g 5 p/\gF a (p.add 0) λj=>cB 77 #[O U j] a λf d=>K (!f) (xj c i d λm=>lc 31 (O U m) d λs x=>Ek 31 l s x λt y=>e t y)<|e l d) (R l.v a)):B 79 #[b.v,O U n] w R:=
 fC (.d 3<|.f<|.e<|.r [0,6] [.s 5 .sl,.s 7 F] (.e<|.q [0,6,7] [.s 5 .sl])) h
def aAs{l:Sl}(h:cU 117 #[l.v] w λb=>cL 154 #[l.v] b λa c=>R a.v c):B 109 #[l.v] w R:=
 ir h
def aAt(n:Int)(g:Addr)(R:aG)(w:av)(h:iZ w g λl=>cB 111 #[l.v,O U n] w λb a=>R (aj<|!b) a):B 110 #[O U n,G g] w R:=
 ir h
def aAu{r:Sl}{n:Int}(h:lJ (λb a=>R (aj b) a) λJ=>∃p0,(((JW<|n>=0)&&(JW<|n<(r.n:Int)))=aE->ci r n 5 p0)/\∃i,(((JW<|n>=0)&&(JW<|n<(r.n:Int)))=aE->aB w (p0.add 0) [O U i])/\K (((JW<|n>=0)&&(JW<|n<(r.n:Int)))&&(i==1)) (cL 155 #[r.v,O U n] w λl c=>J ((l.n:Int)==0) c) (J aL w)):B 111 #[r.v,O U n] w R:=
 fC (.e<|.f<|.q [] [.s 4 .bool]) h
def arb{s:Sl}{v:Int}(h:mh 0 w λJ k i a=>K (JW<|i<(s.n:Int)) (xj s i a λb=>K (v==b) (R (O U i) a)<|nx k λc=>J c (ar U<|i+1) a)<|R (O U (-1)) a):B 107 #[s.v,O U v] w R:=
 fC (.e<|.f<|.e<|.q [0,1,7] [.s 8 F]) h
def ZF(s:Sl)(f:OV)(R:aG)(a:av)(h:mh 0 a λJ j i w=>K (JW<|i<(s.n:Int)) (xj s i w λg=>∃k:Nat,∃z d,f.v=(.func (.func k) z.toArray d.toArray)/\(∀x:Array aw,∀b,((callFunc k x).run aq b)=(.ok (.enter k x) b))/\cB k ((Cq (Cq z [O U g]) d).toArray) w λe c=>K e (R (O U i) c)<|nx j λk3=>J k3 (ar U<|i+1) c)<|R (O U (-1)) w):B 81 #[s.v,f.v] a R:=
 fB (an:=.e<|.f<|.e<|.q [0,1,7] [.s 8 (.int .i64)]) (args:=[.sl s,.raw f]) h
def arc{l j:Sl}(n:∃J:Nat->Sl->Int->av->Prop,∃o:Nat,J o Sl.nil 0 w/\∀k,∀a:Sl,∀i c,J k a i c->K (JW<|i<(l.n:Int)) (lJ (λq u=>nx k λp=>J p q (ar U<|i+1) u) λe=>cB 78 #[j.v,O U i] c λb d=>lJ (λm h=>K m (lc 31 (O U i) h λr v=>Ek 31 a r v λs x=>e s x)<|e a h) λf=>∃p0,(b=aE->ci l i 5 p0)/\∃g,(b=aE->aB d (p0.add 0) [O U g])/\K (b&&(g==1)) (cL 79 #[l.v,O U i] d λt y=>f ((t.n:Int)==0) y) (f aL d)) (R a.v c)):B 80 #[l.v,j.v] w R:=
 fC (.d 2<|.f<|.e<|.r [0,1] [.s 5 .sl,.s 6 F] (.e<|.r [0,1,6] [.s 5 .sl] (.e<|.f<|.q [0,1,5,6] [.s 32 .bool]))) n
def aAv{l:Sl}{g:Addr}(h:cL 39 #[l.v] w λa c=>cL 40 #[a.v,.func (.func 68) #[] #[G g]] c λb d=>R b.v d):B 67 #[l.v,G g] w R:=
 ir h
def aAw(n:Int){g:Addr}(R:aG)(w:av)(h:iZ w g λl=>cB 69 #[l.v,O U n] w λb a=>R (aj<|!b) a):B 68 #[O U n,G g] w R:=
 ir h
def aAx(kind:Int)(R:aG)(w:av)(h:R (aj<|(kind==3)||(kind==4)) w):B 70 #[O U kind] w R:=
 ir h
def aAy(l:Sl)(n:Int)(R:aG)(b:av)(h:cB 108 #[l.v,O U n] b λe c=>K (!e) (R Sl.nil.v c) (∃J:Nat->Sl->Int->av->Prop,∃j:Nat,J j Sl.nil (ar U<|n+1) c/\∀k,∀a:Sl,∀i w,J k a i w->∃p0,ci l n 5 p0/\gF w (p0.add 4) λf=>K (JW<|i<f) (lc 31 (O U i) w λo r=>Ek 31 a o r λq d=>∃p,ci l i 5 p/\gF d (p.add 4) λg=>nx k λm=>J m q g d)<|R a.v w)):B 71 #[l.v,O U n] b R:=
 fC (.d 3<|.f<|.e<|.q [0,1] [.s 5 .sl,.s 6 F]) h
def aAz(k:Int)(g v:Addr)(R:aG)(w:av)(h:iZ w (g.add 0) λl=>gF w (v.add 2) λi=>cB 42 #[l.v,O U k,O U i] w λb a=>R (aj<|!b) a):B 73 #[O U k,G g,G v] w R:=
 ir h
def ard(kind:Int){R:aG}(w:av)(h:R (aj<|(kind==3)||(kind==4)) w):B 77 #[O U kind] w R:=
 ir h
def aAA{r:Sl}{b a:Int}(h:lJ (λf j=>R (aj f) j) λJ=>cB 108 #[r.v,O U a] w λg d=>K g (cB 108 #[r.v,O U b] d λc e=>∃p0,((c&&(JW<|b<=a))=aE->ci r b 5 p0)/\∃i,((c&&(JW<|b<=a))=aE->aB e (p0.add 4) [O U i])/\J ((c&&(JW<|b<=a))&&(JW<|a<i)) e)<|J aL d):B 82 #[r.v,O U b,O U a] w R:=
 fC (.e<|.f<|.q [] [.s 6 .bool]) h
def aAB{k:Int}{g:Addr}(h:MX w g λq=>∃p0,q=(aM p0)/\iZ w ((p0.add 0).add 0) λl=>∃p,ci l k 5 p/\gF w (p.add 0) λi=>cB 70 #[O U i] w λb a=>R (aj b) a):B 85 #[O U k,G g] w R:=
 ir h
def aAC{k:Int}{g:Addr}(h:MX w g λq=>∃p0,q=(aM p0)/\Px w (p0.add 5) λm=>∃b a,((Instr.lookup 95 (.map m) (O U k) aL).run aq w)=(.ok (aj b) a)/\R (aj b) a):B 87 #[O U k,G g] w R:=
 ir h
def are(o j m M p:Sl)(n:Int)(R:aG)(b:av)(h:P b λk q=>mh 0 q λJ f i w=>K (JW<|i<(p.n:Int)) (∃p0,ci p i 2 p0/\gF w (p0.add 0) λd=>K (d==n) (∃a,ci p i 2 a/\iZ w (a.add 1) λl=>R l.v w)<|nx f λk3=>J k3 (ar U<|i+1) w)<|xj m n w λe=>lc 31 (O U e) w λg c=>bX [k] w c/\R g.v c):B 88 #[ft o j m M,p.v,O U n] b R:=
 fC (.e<|.f<|.e<|.q [1,2,3] [.s 7 F]) h
def arf(s:M)(R:aG)(w:av)(u:K (JW<|(s.size:Int)>16384) (P w λk0 Y=>R (ai #[Sl.nil.v,zh 2 (-1)]) Y) (P w λa Z=>qv [a] 119 #[] Z λC w2=>P w2 λk n=>aF n k 187 [ab s,O U 0,C.v,Sl.nil.v]->fW [a] 120 #[pB k] n λo=>FF o k 187 λS v D E=>∃J:Nat->Int->Int->M->Int->Sl->Sl->av->Prop,∃k3:Nat,J k3 0 0 S v D E o/\∀m i f T x,∀G H:Sl,∀p,J m i f T x G H p->iV [a] 121 #[pB k] p λt b=>FF b k 187 λs2 i4 l5 l6=>K (!t) (pR [a] 122 #[pB k] b λg c=>FF c k 187 λV j I L=>K (g !=0) (∀e,ay [a] c e->aF e k 187 [ab V,O U j,I.v,L.v]->R (ai #[Sl.nil.v,zh g j]) e)<|fW [a] 120 #[pB k] c λq=>FF q k 187 λW y N l=>nx m λA=>J A i f W y N l q) (fW [a] 123 #[pB k,oh 5 (ao #[]) 0 0,O U 0] b λh=>FF h k 187 λX z Q r=>∀d,ay [a] h d->aF d k 187 [ab X,O U z,Q.v,r.v]->R (ai #[r.v,zh 0 0]) d))):B 89 #[ab s] w R:=
 fC (.d 3<|.f<|.e<|.q [3,4,14] [.b 3 [F,F],.b 14 [.str,F,.sl,.sl]]) u
def arh{c:Addr}{texts:Sl}(h:mh 0 w λd k i a=>K (JW<|i<(texts.n:Int)) (yH (λg=>nx k λf=>d f (ar U<|i+1) g) λJ=>JV texts i a λs=>lc 75 (ab s) a λl j=>cI 92 #[G c,l.v] j λe b=>K (e==0) (cU 96 #[G c] b λm=>J m)<|J b)<|R (ai #[]) a):B 90 #[G c,texts.v] w R:=
 fC (.e<|.r [0,6,7] [.s 8 F] (.d 2<|.q [0,6,7,8] [])) h
def ari{r:Addr}{kind:Int}(g:zf w λa k b=>yH (λo=>xB [a,k] 126 #[G (r.add 0),O U 1] o λx s y i p=>P p λd q=>a≠k->a≠d->k≠d->∃c:h,c d/\vU c k/\vU c k/\∀f,ay [a,k] q f->R (cp kind s (ao #[]) (ao #[]) Sl.nil Sl.nil Sl.nil Sl.nil i) f) λJ=>iZ b ((r.add 0).add 0) λn=>gF b ((r.add 0).add 1) λj=>∃p0,ci n j 4 p0/\gF b (p0.add 0) λl=>K (l==1) (o0 b λt=>fW [a,k] 124 #[G r,G<|(r.add 4).add 1,O U 2] t λe=>gF e ((r.add 4).add 2) λm=>K (m==0) (fW [a,k] 125 #[G (r.add 0),O U 21] e λu=>J u)<|J e)<|o0 b λv=>J v):B 91 #[G r,O U kind] w R:=
 fC (.d 2<|.q [0,4,5] []) g
def arj{c:Addr}{texts:Sl}(h:cI 127 #[G c,texts.v] w λi a=>yH (λf=>R (O U i) f) λJ=>K (JW<|i>0) (gF a (c.add 1) λb=>sT (c.add 1) a 1 λk d z e=>sS a k d z e [O U (ar U<|b+1)] λg=>J g)<|J a):B 92 #[G c,texts.v] w R:=
 fC (.d 2<|.q [5] []) h
def ark{r:Addr}(m:P w λk b=>yH (λA=>xB [k] 126 #[G (r.add 0),O U 1] A λE z F n C=>P C λa c=>lc 75 (ab<|ao #[61]) c λt e=>bX [k,a] c e/\fW [k,a] 90 #[G (r.add 0),t.v] e λf=>lc 75 (ab<|ao #[45]) f λu g=>bX [k,a] f g/\pR [k,a] 92 #[G (r.add 0),u.v] g λo D=>xB [k,a] 126 #[G (r.add 0),O U 3] D λH L p I h=>lc 75 (ab<|ao #[59]) h λv i=>bX [k,a] h i/\fW [k,a] 90 #[G (r.add 0),v.v] i λj=>∀d,ay [k] j d->R (XK z (ar U<|(ar U<|1-(ar U<|2*o))*p) n) d) λJ=>iZ b ((r.add 0).add 0) λx=>gF b ((r.add 0).add 1) λq=>∃p0,ci x q 4 p0/\gF b (p0.add 0) λs=>K (s==1) (o0 b λy=>fW [k] 124 #[G r,G<|(r.add 4).add 0,O U 2] y λl=>J l)<|o0 b λS=>J S):B 93 #[G r] w R:=
 fC (.e<|.q [0,2] []) m
def arl{r:Addr}{n:Option Addr}(gE:P w λk w0=>gF w0 ((r.add 4).add 2) λi0=>sT ((r.add 4).add 2) w0 1 λk1 k2 z0 k3=>k≠k1/\sS w0 k1 k2 z0 k3 [O U (ar U<|i0-1)] λw1=>∃H:Nat->C->C->C->C->av->Prop,∃k4:Nat,H k4 aL aL aL aL w1/\∀k5 M N W b3 w2,H k5 M N W b3 w2->∃I:C->C->C->C->C->av->Prop,(∀b4 b5 b6 b7 b8 D,I b4 b5 b6 b7 b8 D->K b4 (nx k5 λk6=>H k6 b5 b6 b7 b8 D) (Zl 75 (ab Kac) (ab Kad) (ab Kae) (ab Kaf) D λl0 w4=>bX [k] D w4/\pR [k] 127 #[G (r.add 0),l0.v] w4 λi1 w5=>∃L:Nat->Int->C->C->C->C->av->Prop,∃k7:Nat,L k7 i1 b5 b6 b7 b8 w5/\∀k8 x j b a c d,L k8 x j b a c d->K (JW<|x>0) (gF d ((r.add 0).add 1) λi3=>sT ((r.add 0).add 1) d 1 λk9 rS z1 rq=>k≠k9/\sS d k9 rS z1 rq [O U (ar U<|i3+1)] λw7=>∃J3:C->C->C->C->av->Prop,(∀e f g i w8,J3 e f g i w8->Zl 75 (ab Kac) (ab Kad) (ab Kae) (ab Kaf) w8 λl1 w9=>bX [k] w8 w9/\pR [k] 127 #[G (r.add 0),l1.v] w9 λi4 dh=>nx k8 λLG=>L LG i4 e f g i dh)/\o0 w7 λE=>∃J:h,∃p0,n=(aM p0)/\J ((p0.add 7).block)/\iZ E (p0.add 7) λA=>(qw [k] 129 #[G r,O U x] E λi5 s0 s1 s2 l3 l4 l5 l6 i6 u=>bH J E u/\lc 25 (cp 0 (ao #[]) (ao #[]) (ao #[]) Sl.nil Sl.nil Sl.nil Sl.nil 0) u λl7 v=>bX [k] u v/\bH J u v/\mO [k] 25 A l7 v λl8 S=>bH J v S/\∃p1,ci l8 (A.n:Int) 9 p1/\∃p2,n=(aM p2)/\(sT p1 S 9 λAx ff z2 Vq=>k≠Ax/\sS S Ax ff z2 Vq [O U i5,ab s0,ab s1,ab s2,l3.v,l4.v,l5.v,l6.v,O U i6] λgz=>sT (p2.add 7) gz 1 λL3 am z3 aC=>k≠L3/\sS gz L3 am z3 aC [l8.v] λiA=>J3 j b a c iA)/\sT (p2.add 7) S 1 λme bJ z4 aS=>k≠me/\sS S me bJ z4 aS [l8.v] λfV=>sT p1 fV 9 λl aT z5 bv=>k≠l/\sS fV l aT z5 bv [O U i5,ab s0,ab s1,ab s2,l3.v,l4.v,l5.v,l6.v,O U i6] λiW=>J3 j b a c iW)/\lc 25 (cp 0 (ao #[]) (ao #[]) (ao #[]) Sl.nil Sl.nil Sl.nil Sl.nil 0) E λl9 z=>bX [k] E z/\bH J E z/\qw [k] 129 #[G r,O U x] z λi7 s3 s4 s5 t qh rn ur i8 je=>bH J z je/\mO [k] 25 A l9 je λyi y=>bH J je y/\∃p3,ci yi (A.n:Int) 9 p3/\∃p4,n=(aM p4)/\(sT p3 y 9 λm bV z6 bY=>k≠m/\sS y m bV z6 bY [O U i7,ab s3,ab s4,ab s5,t.v,qh.v,rn.v,ur.v,O U i8] λnK=>sT (p4.add 7) nK 1 λo cc z7 ce=>k≠o/\sS nK o cc z7 ce [yi.v] λnL=>J3 j b a c nL)/\sT (p4.add 7) y 1 λp co z8 cC=>k≠p/\sS y p co z8 cC [yi.v] λpe=>sT p3 pe 9 λq dO z9 el=>k≠q/\sS pe q dO z9 el [O U i7,ab s3,ab s4,ab s5,t.v,qh.v,rn.v,ur.v,O U i8] λlS=>J3 j b a c lS) (gF d ((r.add 4).add 2) λi9=>sT ((r.add 4).add 2) d 1 λs eQ Ja fd=>k≠s/\sS d s eQ Ja fd [O U (ar U<|i9+1)] λqj=>lc 75 (ab<|ao #[125]) qj λAG vw=>bX [k] qj vw/\fW [k] 90 #[G (r.add 0),AG.v] vw λxn=>R (ai #[]) xn)))/\iV [k] 95 #[G (r.add 0)] w2 λQ F=>K Q (aF F k 195 [aj M,aj N,aj W,aj b3]->cB 128 #[G r,ae n,pB k] F λT L2=>akT L2 k 195 λV X Y Z=>I T V X Y Z L2)<|I aL M N W b3 F):B 94 #[G r,ae n] w R:=
 fB (an:=.d 2<|.s (.r [0,1,4] [.b 4 [.bool,.bool,.bool,.bool]] (.f<|.f<|.q [0,1,4] [.s 23 .bool,.b 4 [.bool,.bool,.bool,.bool]]))<|.f<|.e<|.r [0,1,4] [.s 5 (.int .i64),.b 4 [.bool,.bool,.bool,.bool]] (.e<|.f<|.e<|.q [0,1,4] [.b 4 [.bool,.bool,.bool,.bool]])) (args:=[.ad r,.ptr n]) gE
def arm{c:Addr}{R:aG}(w:av)(h:gF w ((c.add 2).add 0) λi=>R (aj<|i==0) w):B 95 #[G c] w R:=
 ir h
def arn{c:Addr}(h:yH (λb=>cU 125 #[G c,O U 4] b λd=>R (ai #[]) d) λJ=>iZ w (c.add 0) λl=>gF w (c.add 1) λi=>∃p0,ci l i 4 p0/\gF w (p0.add 0) λa=>K (a==5) (o0 w λe=>cU 125 #[G c,O U 3] e λf=>J f)<|o0 w λg=>J g):B 96 #[G c] w R:=
 fC (.q [0] []) h
def aAD{k:Addr}{ok:C}{err at_:Int}(h:∃i,((!ok)=aE->aB w ((k.add 3).add 0) [O U i])/\K ((!ok)&&(i==0)) (sT (k.add 3) w 2 λa b z c=>sS w a b z c [O U err,O U at_] λd=>R (ai #[]) d) (R (ai #[]) w)):B 97 #[G k,aj ok,O U err,O U at_] w R:=
 ir h
def aAE{k:Addr}{n:Int}{y9 H z:M}{zy zA wx p:Sl}{v at_:Int}(L:P w λa w0=>∃J:Nat->Int->C->Int->av->Prop,∃X:Nat,J X 0 aL 0 w0/\∀o i f b c,J o i f b c->K (JW<|b<(p.n:Int)) (gQ p b c λN s0 s1 s2 l0 l1 l2 l3 i3=>P c λk3 w2=>lJ (λQ w3=>nx o λY=>J Y Q (f||(s0.toList==H.toList)) (ar U<|b+1) w3) λg=>iV [a,k3] 130 #[O U N] w2 λu r=>K (!u) (g (ar U<|i+1) r)<|g i r) (iV [a] 130 #[O U n] c λx e=>K x (o0 e λs=>Px s (k.add 0) λm0=>pR [a] 131 #[.map m0,ab z] s λm w7=>yH (λw8=>R (ai #[]) w8) λj=>o0 w7 λt=>∃J3:h,J3 a/\iV [a] 132 #[G k,O U m] t λA d=>bH J3 t d/\K A (iZ d (k.add 1) λZ=>iZ d (k.add 1) λl5=>∃q,ci l5 at_ 5 q/\gF d (q.add 2) λT=>iV [a] 42 #[Z.v,O U m,O U T] d λD E=>bH J3 d E/\fW [a] 97 #[G k,aj D,O U 26,O U v] E λy=>bH J3 E y/\j y) (fW [a] 97 #[G k,aj aL,O U 26,O U v] d λl=>bH J3 d l/\j l))<|K (n==2) (fW [a] 97 #[G k,aj<|(H.toList==((ao #[]).toList))&&(JW<|i>1),O U 25,O U v] e λS=>R (ai #[]) S)<|K (JW<|i>0) (fW [a] 97 #[G k,aj f,O U 25,O U v] e λI=>R (ai #[]) I)<|fW [a] 97 #[G k,aj<|H.toList==((ao #[]).toList),O U 25,O U v] e λW=>fW [a] 97 #[G k,aj<|(p.n:Int)==0,O U 26,O U v] W λV=>R (ai #[]) V)):B 98 #[G k,cp n y9 H z zy zA wx p v,O U at_] w R:=
 fC (.d 3<|.s (.e<|.r [0,2,4,12,13] [.s 6 F,.s 7 .bool,.s 14 F] (.d 2<|.f<|.e<|.q [0,2,4,7,9,12,13,14] [.s 6 F]))<|.e<|.f<|.e<|.q [4,9] []) L
def aAF{k:Addr}{rows:Sl}(h:cL 133 #[rows.v] w λl y=>mh 0 y λg s i b=>K (JW<|i<(l.n:Int)) (xA l i b λj v m n x o t p q=>P b λa f=>yH (λz=>fW [a] 100 #[G k,bL m n x o t p] z λA=>nx s λk3=>g k3 (ar U<|i+1) A) λJ=>K (j==1) (o0 f λc=>Px c (k.add 2) λu=>∃r e d,((Instr.lookup 111 (.map u) (ab v) aE).run aq c)=(.ok (ai #[O U r,aj e]) d)/\bX [a] c d/\fW [a] 97 #[G k,aj e,O U 23,O U q] d λC=>J C)<|J f)<|R (ai #[]) b):B 99 #[G k,rows.v] w R:=
 fC (.e<|.r [0,9,10] [.s 11 F] (.d 2<|.f<|.e<|.q [0,5,9,10,11] [])) h
def aAG{k:Addr}{x W:Int}{m:M}{X:Int}{n:Sl}{o:Int}(s:P w λa c=>yH (λQ=>mh 0 Q λq C i e=>K (JW<|i<(n.n:Int)) (kJ n i e λt u N v H y=>P e λk3 S=>fW [a,k3] 100 #[G k,bL t u N v H y] S λT=>nx C λD=>q D (ar U<|i+1) T)<|R (ai #[]) e) λb=>K (x==2) (o0 c λf=>Px f (k.add 2) λI=>∃z p g,((Instr.lookup 111 (.map I) (ab m) aE).run aq f)=(.ok (ai #[O U z,aj p]) g)/\bX [a] f g/\fW [a] 97 #[G k,aj p,O U 23,O U o] g λV=>b V)<|K (x==3) (o0 c λj=>∃J:h,Px j (k.add 0) λL=>J a/\pR [a] 131 #[.map L,ab m] j λA l=>bH J j l/\iV [a] 132 #[G k,O U A] l λr d=>bH J l d/\fW [a] 97 #[G k,aj r,O U 23,O U o] d λE=>bH J d E/\b E)<|b c):B 100 #[G k,bL x W m X n o] w R:=
 fC (.e<|.j [0,3] [] .o (.e<|.q [0,3,43,44] [.s 45 F])) s
def aAH{k:Addr}{l:Sl}(A:P w λa Z=>∃J:Nat->Sl->Int->Option Addr->av->Prop,∃L:Nat,J L Sl.nil 0 (aM k) Z/\∀n,∀f:Sl,∀i q c,J n f i q c->K (JW<|i<(l.n:Int)) (JV l i c λY=>∃p,q=(aM p)/\Px c (p.add 0) λV=>pR [a] 131 #[.map V,ab Y] c λe u=>K (JW<|e<1) (P u λk3 w3=>R (aj aL) w3) (P u λb w4=>Mg (λW C g=>aF g a 109 [ae W]->aF g b 3 [O U C]->cB 86 #[f.v,.func (.func 134) #[] #[pB a,pB b]] g λx d=>Qx d a 109 λX=>xKI d b 3 λD=>K x (R (aj aL) d)<|lc 31 (O U D) d λN v=>bX [a,b] d v/\mO [a,b] 31 f N v λQ w8=>nx n λM=>J M Q (ar U<|i+1) X w8) λj=>∃o,q=(aM o)/\o0 w4 λh=>iZ h (o.add 1) λS=>∃r,ci S e 5 r/\gF h (r.add 0) λH=>iV [a,b] 130 #[O U H] h λz m=>K z (∃s,q=(aM s)/\o0 m λE=>iZ E (s.add 1) λT=>∃t,ci T e 5 t/\gF E (t.add 2) λI=>∀y,ay [b] E y->j q I y)<|j q e m)) (R (aj aE) c)):B 101 #[G k,l.v] w R:=
 fC (.d 2<|.f<|.e<|.r [2,9,10] [.s 5 .sl,.s 11 F,.b 2 [.ptr]] (.d 2<|.f<|.d 3<|.q [2,5,8,9,10,11] [.b 2 [.ptr],.b 8 [F]])) A
def aro{c:Sl}{f:Int}{g r j:M}{s t u v:Sl}{x:Int}(aT:zf w λa k w0=>ZA [a,k] 136 #[cp f g r j s t u v x] w0 λi0 i1 w1=>(aF w1 k 208 [ae VM,Sl.nil.v,aj aL,O U 0]->a≠k->fW [a] 137 #[pB k,aj<|((((f==1)&&(j.toList==((ao #[]).toList)))&&(JW<|(c.n:Int)<=16))&&(JW<|i0<=64))&&(JW<|i1<=200)] w1 λw2=>pS w2 k 208 λq0 l0 b0 i2=>sC [a] 139 #[pB k,ab g] w2 λs0 H=>pS H k 208 λq1 l1 b1 i3=>Cv 75 (ab Kaa) (ab s0) (ab<|ao #[123]) H λl2 w4=>bX [a,k] H w4/\fW [a] 138 #[pB k,O U 0,l2.v] w4 λw5=>pS w5 k 208 λq2 l3 b2 i4=>∃o:Nat->Int->Option Addr->Sl->C->Int->av->Prop,∃k2:Nat,o k2 0 q2 l3 b2 i4 w5/\∀k3 m q3,∀Z:Sl,∀L Q n,o k3 m q3 Z L Q n->K (JW<|m<(c.n:Int)) (PM c m n λs1 T i8=>P n λb w7=>aF w7 k 208 [ae q3,Z.v,aj L,O U Q]->fW [a,b] 137 #[pB k,aj<|T !=(-9223372036854775808)] w7 λw8=>pS w8 k 208 λq4 l5 b4 i9=>o0 w8 λI=>aF I k 208 [ae q4,l5.v,aj b4,O U i9]->∃J:h,J b/\sC [a,b] 139 #[pB k,ab s1] I λs2 l=>pS l k 208 λq5 l6 b5 bv=>bH J I l/\sC [a,b] 140 #[O U T] l λs3 E=>pS E k 208 λq6 l7 b6 bV=>bH J l E/\((s3.size:Int)+1)<=9223372036854775807/\∃l8:Sl,∃e,((au 75 4 #[.mk 0 (ab Kab),.mk 1<|ab s2,.mk 2<|ab<|ao #[61],.mk 3<|ab<|s3++(ao #[59])]).run aq E)=(.ok l8.v e)/\bX [a,k,b] E e/\bH J E e/\fW [a,b] 138 #[pB k,O U 1,l8.v] e λy=>pS y k 208 λq7 l9 b7 z=>bH J e y/\nx k3 λk5=>o k5 (ar U<|m+1) q7 l9 b7 z y) (fW [a] 141 #[pB k,cp f g r j s t u v x,O U 1] n λS=>pS S k 208 λq8 fd b8 bY=>lc 75 (ab<|ao #[125]) S λqh N=>bX [a,k] S N/\fW [a] 138 #[pB k,O U 0,qh.v] N λD=>pS D k 208 λq9 rn b9 cc=>K b9 (R (ai #[ab (ao #[]),O U 22]) D)<|iV [a] 142 #[pB k] D λp V=>pS V k 208 λgE ur am ce=>K p (R (ai #[ab (ao #[]),O U 2]) V)<|sC [a] 143 #[pB k] V λs4 W=>pS W k 208 λgG yi aC co=>qD [a] 54 #[ab s4] W λAG cC s5 s6 s7 I7 O4 LF EY dO A el G=>pS G k 208 λq zx d i=>K (A !=0) (zf G λk6 k7 X=>aF X k 208 [ae q,zx.v,aj d,O U i]->R (ai #[ab (ao #[]),O U 22]) X)<|zf G λk8 k9 Y=>aF Y k 208 [ae q,zx.v,aj d,O U i]->sC [a,k8,k9] 143 #[pB k] Y λs8 nK=>pS nK k 208 λgO EZ aS eQ=>R (ai #[ab s8,O U 0]) nK))):B 102 #[da c f g r j s t u v x] w R:=
 fC (.d 5<|.f<|.e<|.q [1,4,12,54,55] [.s 56 F,.b 12 [.ptr,.sl,.bool,F]]) aT
def aAI{l:Sl}{name:M}(h:P w λk a=>aF a k 9 [ab name]->cI 144 #[l.v,.func (.func 145) #[] #[pB k]] a λi b=>xKS b k 9 λs=>R (O U i) b):B 103 #[l.v,ab name] w R:=
 ir h
def X9(l n:Sl)(R:aG)(d:av):Prop:=
 P d λk w=>Mg (λb c a=>K b (R (O U (-1)) a) (xj n 0 a λi=>(1<=n.n/\
   n.n<=n.c)/\
  ∃J:Nat->Int->Int->Sl->av->Prop,∃u:Nat,J u i 0 c a/\
  ∀o h e,∀p:Sl,∀g,J o h e p g->K (JW<|e<((n.cut 1 n.n n.c 1).n:Int)) (xj (n.cut 1 n.n n.c 1) e g λt=>Hv h p g λr v j f x=>iV [k] 82 #[f.v,O U j,O U t] x λs m=>K (!s) (∃q,ci f j 5 q/\
   gF m (q.add 2) λB=>nx v λC=>r C B f m)<|nx o λD=>J D j (ar U<|e+1) f m) (R (O U h) g))) λy=>K ((n.n:Int)==0) (y aE l w)<|aF w k 33 [l.v]->cB 86 #[n.v,.func (.func 146) #[] #[pB k]] w λA z=>FE z k 33 λE=>y A E z
def aAJ(l n:Sl)(R:aG)(w:av)(h:X9 l n R w):B 104 #[l.v,n.v] w R:=
 fC (.e<|.s (.f<|.q [1,2] [.s 15 .bool,.b 2 [.sl]])<|.e<|.f<|.e<|.r [2,20,21] [.s 5 F,.s 22 F,.b 2 [.sl]] (.d 2<|.f<|.e<|.q [2,7,20,21,22] [.s 5 F,.b 2 [.sl]])) h
def arq{c:Sl}{g:Int}{b j l:M}{m n o p:Sl}{q:Int}(H:P w λa V=>iV [a] 147 #[da c g b j l m n o p q] V λG x=>K (!G) (R (ai #[ab (ao #[]),O U 22]) x)<|(6+(b.size:Int))<=9223372036854775807/\(((Kag++b).size:Int)+2)<=9223372036854775807/\P x λk y=>aF y k 221 [Sl.nil.v]->fW [a] 148 #[pB k,O U 0,ab<|(Kag++b)++Kah] y λz=>FE z k 221 λQ=>Hv 0 Q z λE k3 i S A=>K (JW<|i<(c.n:Int)) (o0 A λd=>aF d k 221 [S.v]->∃J:h,J a/\∃p0,ci c i 3 p0/\J ((p0.add 0).block)/\FD d (p0.add 0) λs=>(4+(s.size:Int))<=9223372036854775807/\(((Kai++s).size:Int)+3)<=9223372036854775807/\∃v,ci c i 3 v/\gF d (v.add 1) λI=>sC [a] 149 #[O U I] d λr e=>FE e k 221 λW=>bH J d e/\((((Kai++s)++Kaj).size:Int)+(r.size:Int))<=9223372036854775807/\(((((Kai++s)++Kaj)++r).size:Int)+1)<=9223372036854775807/\fW [a] 148 #[pB k,O U 1,ab<|(((Kai++s)++Kaj)++r)++(ao #[59])] e λt=>FE t k 221 λT=>bH J e t/\nx k3 λN=>E N (ar U<|i+1) T t)<|fW [a] 150 #[pB k,cp g b j l m n o p q,O U 1] A λC=>FE C k 221 λX=>fW [a] 148 #[pB k,O U 0,ab<|ao #[125]] C λf=>FE f k 221 λu=>K (JW<|(u.n:Int)>16384) (R (ai #[ab (ao #[]),O U 2]) f) (∃D:L,wE f u D/\R (ai #[ab (ao D.toArray),O U 0]) f)):B 105 #[da c g b j l m n o p q] w R:=
 fC (.d 5<|.f<|.e<|.q [1,5,12] [.s 6 F,.b 12 [.sl]]) H
def arr{k:Addr}{n:Int}{y9 v za:M}{zy zA x p:Sl}{I at_:Int}(am:P w λa w0=>∃l:Nat->Int->C->Int->av->Prop,∃k1:Nat,l k1 0 aL 0 w0/\∀N i c d g,l N i c d g->K (JW<|d<(p.n:Int)) (∃p0,ci p d 9 p0/\gF g (p0.add 0) λi2=>iV [a] 77 #[O U i2] g λb1 Z=>lJ (λi3 w3=>∃T,(c=aL->ci p d 9 T)/\∃Y,(c=aL->aB w3 (T.add 1) [ab Y])/\o0 w3 λw4=>nx N λk3=>l k3 i3 (c||(Y.toList==v.toList)) (ar U<|d+1) w4) λu=>K (!b1) (u (ar U<|i+1) Z)<|u i Z) (iV [a] 77 #[O U n] g λb2 h=>yH (λw6=>fW [a] 151 #[G k,zy.v] w6 λw7=>fW [a] 151 #[G k,zA.v] w7 λw8=>mh 0 w8 λJ3 k5 s t=>K (JW<|s<(x.n:Int)) (yH (λdh=>nx k5 λk6=>J3 k6 (ar U<|s+1) dh) λz=>iT x s t λi5 s1 L b3 i7 i8 s2 i9 l0 o l1 l2 e=>P t λf E=>yH (λey=>fW [a,f] 152 #[G k,bL i7 i8 s2 i9 l0 o] ey λff=>fW [a,f] 151 #[G k,l1.v] ff λfS=>iV [a,f] 153 #[G k,l2.v] fS λb4 H=>K (!b4) (fW [a,f] 64 #[G k,O U 27,O U e] H λiA=>z iA)<|z H) λA=>K ((i5==3)&&((L==0)||(JW<|L>1099511627776))) (fW [a,f] 64 #[G k,O U 28,O U e] E λfV=>A fV)<|A E)<|R (ai #[]) t) λJ=>K b2 (o0 h λW=>iZ W (k.add 10) λl3=>pR [a] 31 #[l3.v,ab za] W λb kf=>o0 kf λj=>iZ j (k.add 10) λl4=>iZ j (k.add 10) λl5=>∃V,ci l5 at_ 5 V/\gF j (V.add 2) λq=>iV [a] 49 #[l4.v,O U b,O U q] j λb5 y=>lJ (λb6 Q=>K b6 (fW [a] 64 #[G k,O U 26,O U I] Q λnL=>J nL)<|J Q) λD=>K ((JW<|b<0)||(!b5)) (D aE y) (iZ y (k.add 10) λl6=>∃X,ci l6 b 5 X/\gF y (X.add 0) λr=>iV [a] 77 #[O U r] y λb7 pe=>D b7 pe))<|lJ (λb8 S=>K b8 (fW [a] 64 #[G k,O U 25,O U I] S λqj=>J qj)<|K (((n==1)&&(i==0))&&(JW<|(p.n:Int)>0)) (fW [a] 64 #[G k,O U 26,O U I] S λvw=>J vw)<|J S) λm=>K ((n==2)&&((!(v.toList==((ao #[]).toList)))||(JW<|i<2))) (m ((n==2)&&((!(v.toList==((ao #[]).toList)))||(JW<|i<2))) h)<|K (((n==1)&&(JW<|i>0))&&(!c)) (m (((n==1)&&(JW<|i>0))&&(!c)) h)<|m (((n==1)&&(i==0))&&(!(v.toList==((ao #[]).toList)))) h)):B 106 #[G k,cp n y9 v za zy zA x p I,O U at_] w R:=
 fC (.d 3<|.s (.e<|.r [0,2,4] [.s 6 F,.s 7 .bool,.s 8 F] (.e<|.f<|.e<|.q [0,2,4,7,8] [.s 6 F]))<|.e<|.j [0,4] [] (.e<|.s (.d 2<|.f<|.q [0,4] [.s 88 .bool])<|.q [0,4,6] [.s 93 .bool]) (.d 3<|.r [0,4] [.s 13 F] (.e<|.r [0,4,13] [] (.e<|.q [0,4,13,14] [])))) am
def ars{b:Sl}{n:Int}(h:∃J:Nat->Sl->Int->av->Prop,∃e:Nat,J e Sl.nil 0 w/\∀k,∀l:Sl,∀i a,J k l i a->K (JW<|i<(b.n:Int)) (lJ (λg o=>nx k λf=>J f g (ar U<|i+1) o) λc=>∃p0,ci b i 5 p0/\gF a (p0.add 2) λd=>K ((d==n)&&(JW<|n>=0)) (lc 31 (O U i) a λj p=>Ek 31 l j p λm q=>c m q)<|c l a) (R l.v a)):B 115 #[b.v,O U n] w R:=
 fC (.d 2<|.f<|.e<|.r [0,1] [.s 5 .sl,.s 6 F] (.e<|.q [0,1,6] [.s 5 .sl])) h
def aAK{r:Sl}{n:Int}(h:P w λk d=>qv [k] 71 #[r.v,O U n] d λl a=>(aF a k 177 [r.v]->cL 40 #[l.v,.func (.func 202) #[] #[pB k]] a λc b=>FE b k 177 λe=>R c.v b)):B 155 #[r.v,O U n] w R:=
 ir h
def Ya(r:Sl)(n:Int)(R:aG)(w:av):Prop:=
 R (aj<|(JW<|n>=0)&&(JW<|n<(r.n:Int))) w
def aAL{r:Sl}{n:Int}(h:Ya r n R w):B 108 #[r.v,O U n] w R:=
 ir h
def aru(h:∃l:Sl,∃a,((au 75 16 #[.mk 0 (ab Kak),.mk 1<|ab Kal,.mk 2<|ab Kaa,.mk 3<|ab Kaf,.mk 4<|ab Kam,.mk 5<|ab Kan,.mk 6<|ab Kae,.mk 7<|ab Kao,.mk 8<|ab Kap,.mk 9<|ab Kaq,.mk 10<|ab Kar,.mk 11<|ab Kad,.mk 12<|ab Kas,.mk 13<|ab Kat,.mk 14<|ab Kac,.mk 15<|ab Kab]).run aq w)=(.ok l.v a)/\R l.v a):B 119 #[] w R:=
 ir h
def arv{c:Addr}(l:Mm w λJ k A=>cB 121 #[G c] A λf a=>K (!f) (FD a (c.add 0) λv=>gF a (c.add 1) λi=>∃c0:UInt8,(0<=i/\(v[Int.toNat i]?)=(aM c0))/\o0 a λC=>Zl 204 (.int .u8 9) (.int .u8 10) (.int .u8 13) (.int .u8 32) C λu D=>cB 168 #[.int .u8 (UInt8.toNat c0:Int),u.v] D λg b=>K g (gF b (c.add 1) λm=>sT (c.add 1) b 1 λk3 o I p=>sS b k3 o I p [O U (ar U<|m+1)] λE=>nx k λq=>J q E)<|cS 170 #[G c] b λx F=>cB 169 #[ab x,ab<|ao #[47,47]] F λh e=>K h (cS 170 #[G c] e λy H=>Zy 171 #[ab y,ab<|ao #[10]] H λz N M d=>gF d (c.add 1) λn=>sT (c.add 1) d 1 λr s L t=>sS d r s L t [O U (ar U<|n+(z.size:Int))] λj=>nx k λS=>J S j)<|R (ai #[]) e)<|R (ai #[]) a):B 120 #[G c] w R:=
 fC (.q [0] []) l
def arw{c:Addr}(h:gF w (c.add 1) λi=>FD w (c.add 0) λs=>o0 w λa=>R (aj<|JW<|i>=(s.size:Int)) a):B 121 #[G c] w R:=
 ir h
def arx(c:Addr)(R:aG)(w:av)(h:FD w ((c.add 0).add 0) λs=>gF w ((c.add 0).add 1) λi=>∃c0:UInt8,(0<=i/\(s[Int.toNat i]?)=(aM c0))/\o0 w λk=>cB 172 #[.int .u8 (UInt8.toNat c0:Int)] k λd a=>K d (cI 173 #[G c] a λf l=>R (O U f) l)<|cB 174 #[.int .u8 (UInt8.toNat c0:Int)] a λe b=>K e (cI 175 #[G c] b λg m=>R (O U g) m)<|cI 176 #[G c] b λj n=>R (O U j) n):B 122 #[G c] w R:=
 ir h
def ary{c:Addr}{t:Int}{i:M}{j y n:Int}(m:P w λk l=>gF l ((c.add 0).add 1) λo=>∀a,ay [k] l a->∃J:h,J ((c.add 3).block)/\iZ a (c.add 3) λu=>lc 148 (oh t i j o) a λv b=>bX [k] a b/\bH J a b/\mO [k] 148 u v b λx d=>bH J b d/\sT (c.add 3) d 1 λf q A k3=>k≠f/\sS d f q A k3 [x.v] λe=>gF e ((c.add 0).add 1) λp=>sT ((c.add 0).add 1) e 1 λg r C s=>k≠g/\sS e g r C s [O U (ar U<|p+n)] λz=>R (ai #[]) z):B 123 #[G c,oh t i j y,O U n] w R:=
 ir m
def arz{r:Addr}{y:Option Addr}{err:Int}(h:yH (λa=>∃p0,y=(aM p0)/\gF a p0 λi=>∃p,y=(aM p)/\sT p a 1 λk d z e=>sS a k d z e [O U (ar U<|i-1)] λf=>R (ai #[]) f) λJ=>∃b,y=(aM b)/\gF w b λc=>K (c==0) (cU 125 #[G (r.add 0),O U err] w λg=>J g)<|J w):B 124 #[G r,ae y,O U err] w R:=
 fB (an:=.q [1] []) (args:=[.ad r,.ptr y,.int .i64 err]) h
def arA{c:Addr}{err:Int}(h:cB 95 #[G c] w λd b=>K d (o0 b λa=>iZ a (c.add 0) λl=>gF a (c.add 1) λi=>∃p0,ci l i 4 p0/\gF a (p0.add 3) λe=>sT (c.add 2) a 2 λk f z g=>sS a k f z g [O U err,O U e] λj=>R (ai #[]) j)<|R (ai #[]) b):B 125 #[G c,O U err] w R:=
 ir h
def arB{c:Addr}{k:Int}(m:P w λa b=>∃J:h,J ((c.add 0).block)/\iZ b (c.add 0) λs=>J ((c.add 1).block)/\gF b (c.add 1) λn=>∃p0,ci s n 4 p0/\J p0.block/\JS b p0 λi t o p=>P b λe u=>iV [a,e] 95 #[G c] u λl d=>K ((!l)||(i !=k)) (fW [a,e] 96 #[G c] d λv=>∀g,ay [a] v g->R (oh 0 (ao #[]) 0 0) g) (gF d (c.add 1) λq=>sT (c.add 1) d 1 λf k3 z r=>a≠f/\e≠f/\sS d f k3 z r [O U (ar U<|q+1)] λx=>∀j,ay [a] x j->R (oh i t o p) j)):B 126 #[G c,O U k] w R:=
 ir m
def arC{c:Addr}{texts:Sl}(e:o0 w λa=>∃J:h,J ((c.add 0).block)/\iZ a (c.add 0) λl=>J ((c.add 1).block)/\gF a (c.add 1) λf=>∃p0,ci l f 4 p0/\J p0.block/\JS a p0 λi s n o=>P a λk j=>iV [k] 95 #[G c] j λd b=>K ((!d)||((i !=2)&&(i !=4))) (R (O U 0) b)<|pR [k] 177 #[texts.v,ab s] b λg m=>R (O U<|ar U<|g+1) m):B 127 #[G c,texts.v] w R:=
 ir e
def arD{r:Addr}{n a:Option Addr}(W:∃s:Sl,∃D,((au 75 3 #[.mk 0 (ab Kar),.mk 1<|ab Kal,.mk 2<|ab Kak]).run aq w)=(.ok s.v D)/\cI 127 #[G (r.add 0),s.v] D λp E=>K (JW<|p>0) (o0 E λf=>∃J:h,∃p0,n=(aM p0)/\J ((p0.add 6).block)/\iZ f (p0.add 6) λl1=>rb3 178 #[G r,O U p] f λX s0 Y M Z i4 s1 i5 l2 i6 l3 l4 i7 g=>bH J f g/\lc 24 (ic X s0 Y M Z i4 s1 i5 l2 i6 l3 l4 i7) g λl5 j=>bH J g j/\Ek 24 l1 l5 j λl6 m=>bH J j m/\∃t,n=(aM t)/\sT (t.add 6) m 1 λk0 k1 z0 k2=>sS m k0 k1 z0 k2 [l6.v] λw6=>R (aj aE) w6)<|Cv 75 (ab Kap) (ab Kan) (ab Kaq) E λl7 w7=>cI 127 #[G (r.add 0),l7.v] w7 λi b=>K (i==0) (R (aj aL) b) (∃u,a=(aM u)/\∃v,Sj u i 4 1 v/\Tt b v λN=>K N (cU 96 #[G (r.add 0)] b λw9=>R (aj aL) w9) (∃x,a=(aM x)/\∃y,Sj x i 4 1 y/\sT y b 1 λk3 k4 z1 k5=>sS b k3 k4 z1 k5 [aj aE] λe=>gF e ((r.add 0).add 1) λi9=>sT ((r.add 0).add 1) e 1 λk6 k7 z2 k8=>sS e k6 k7 z2 k8 [O U (ar U<|i9+1)] λd=>yH (λQ=>R (aj aE) Q) λc=>K (i==1) (cS 179 #[G (r.add 0)] d λs2 o=>∃z,n=(aM z)/\sT (z.add 2) o 1 λk9 rS z3 rq=>sS o k9 rS z3 rq [ab s2] λS=>lc 75 (ab<|ao #[59]) S λl8 T=>cU 90 #[G (r.add 0),l8.v] T λiA=>c iA)<|K (i==2) (cL 180 #[G r] d λl9 V=>∃A,n=(aM A)/\sT (A.add 4) V 1 λH F z4 P=>sS V H F z4 P [l9.v] λiW=>c iW) (cL 180 #[G r] d λl q=>∃C,n=(aM C)/\sT (C.add 5) q 1 λI L z5 k=>sS q I L z5 k [l.v] λje=>c je)))):B 128 #[G r,ae n,ae a] w R:=
 fB (an:=.d 7<|.q [] []) (args:=[.ad r,.ptr n,.ptr a]) W
def arE{r:Addr}{kind:Int}(J:P w λk T=>qw [k] 91 #[G r,O U kind] T λi x y Q o p q s j D=>K (JW<|kind>=3) (P D λb E=>lc 75 (ab Kau) E λL F=>bX [k,b] E F/\fW [k,b] 90 #[G (r.add 0),L.v] F λV=>sC [k,b] 179 #[G (r.add 0)] V λS W=>∀c,ay [b] W c->lc 75 (ab<|ao #[59]) c λM H=>bX [k,b] c H/\fW [k,b] 90 #[G (r.add 0),M.v] H λX=>∀I,ay [k] X I->R (cp i x y S o p q s j) I)<|P D λa h=>lc 75 (ab<|ao #[123]) h λN d=>bX [k,a] h d/\fW [k,a] 90 #[G (r.add 0),N.v] d λe=>(aF e a 27 [O U i,ab x,ab y,ab Q,o.v,p.v,q.v,s.v,O U j]->k≠a->fW [k] 94 #[G r,pB a] e λg=>gdK g a 27 λm z A C t u v l n=>∀f,ay [k] g f->aF f a 27 [O U m,ab z,ab A,ab C,t.v,u.v,v.v,l.v,O U n]->R (cp m z A C t u v l n) f)):B 129 #[G r,O U kind] w R:=
 ir J
def aAM{kind:Int}(h:R (aj<|(kind==3)||(kind==4)) w):B 130 #[O U kind] w R:=
 ir h
def aAN{n:Option Nat}{name:M}(h:∃i b a,((Instr.lookup 111 (.map n) (ab name) aE).run aq w)=(.ok (ai #[O U i,aj b]) a)/\K b (R (O U i) a) (R (O U (-1)) a)):B 131 #[.map n,ab name] w R:=
 ir h
def aAO{k:Addr}{at_:Int}(h:lJ (λb c=>R (aj b) c) λJ=>K (JW<|at_>=0) (iZ w (k.add 1) λl=>∃p0,ci l at_ 5 p0/\gF w (p0.add 0) λi=>cB 130 #[O U i] w λa d=>J (!a) d)<|J aL w):B 132 #[G k,O U at_] w R:=
 fC (.e<|.f<|.q [] [.s 4 .bool]) h
def arF{G:Sl}(h:Hv 0 0 w λJ k i a c=>K (JW<|a<(G.n:Int)) (lJ (λj s=>nx k λm=>J m j (ar U<|a+1) s) λf=>SJ G a c λl=>K (JW<|(ar U<|i+(l.n:Int))<0) (False)<|f (ar U<|i+(l.n:Int)) c)<|cL 181 #[Sl.nil.v,O U i] c λp t=>Hv p 0 t λg n e b d=>K (JW<|b<(G.n:Int)) (SJ G b d λq=>Ek 23 e q d λr u=>nx n λo=>g o r (ar U<|b+1) u)<|R e.v d):B 133 #[G.v] w R:=
 fC (.d 2<|.s (.e<|.r [0,9,10] [.s 3 F,.s 11 F] (.d 2<|.q [0,9,10,11] [.s 3 F]))<|.e<|.f<|.e<|.q [25,26] [.s 6 .sl,.s 27 F]) h
def aAP{o:Int}{g v:Addr}(h:MX w g λq=>gF w v λi=>cB 135 #[ae q,O U i,O U o] w λb a=>R (aj<|!b) a):B 134 #[O U o,G g,G v] w R:=
 ir h
def aAQ{k:Addr}{a b:Int}(h:iZ w (k.add 1) λg=>∃l:Sl,∃f,((au 31 2 #[.mk 0 (O U a),.mk 1<|O U b]).run aq w)=(.ok l.v f)/\cI 104 #[g.v,l.v] f λi c=>∃e:Sl,(((i !=a)&&(i !=b))=aE->aB c (k.add 1) [e.v])/\∃p0,(((i !=a)&&(i !=b))=aE->ci e i 5 p0)/\∃d,(((i !=a)&&(i !=b))=aE->aB c (p0.add 0) [O U d])/\R (aj<|((i !=a)&&(i !=b))&&(d==2)) c):B 135 #[G k,O U a,O U b] w R:=
 ir h
def arG{s:Int}{D H G:M}{L E x p:Sl}{I:Int}(h:P w λj y=>o0 y λz=>∃J:Nat->Int->Int->Int->av->Prop,∃l:Nat,J l 1 (x.n:Int) 0 z/\∀k b c i a,J k b c i a->K (JW<|i<(p.n:Int)) (gQ p i a λd t u v n o q r e=>P a λk3 A=>ZA [j,k3] 136 #[cp d t u v n o q r e] A λf g C=>nx k λm=>J m (ar U<|b+f) (ar U<|c+g) (ar U<|i+1) C) (R (ai #[O U b,O U c]) a)):B 136 #[cp s D H G L E x p I] w R:=
 fC (.d 2<|.f<|.e<|.q [1,12,13] [.s 2 F,.s 3 F,.s 14 F]) h
def arH{p:Addr}(ok:C){R:aG}(w:av)(h:Tt w (p.add 2) λb=>sT (p.add 2) w 1 λk a z c=>sS w k a z c [aj (b||(!ok))] λd=>R (ai #[]) d):B 137 #[G p,aj ok] w R:=
 ir h
def arI{p:Addr}{deep:Int}{words:Sl}(h:cB 142 #[G p] w λc b=>∃d,((!c)=aE->aB b (p.add 2) [aj d])/\K ((!c)&&(!d)) (o0 b λe=>cS 183 #[ab (ao #[32,32]),O U deep] e λs f=>cS 184 #[words.v] f λa g=>((s.size:Int)+(a.size:Int))<=9223372036854775807/\(((s++a).size:Int)+1)<=9223372036854775807/\PN 182 #[G (p.add 0),ab<|(s++a)++(ao #[10])] g λj v i=>R (ai #[]) i) (R (ai #[]) b)):B 138 #[G p,O U deep,words.v] w R:=
 ir h
def arJ{p:Addr}{s:M}(h:cB 185 #[ab s] w λb a=>cU 137 #[G p,aj b] a λc=>R (ab s) c):B 139 #[G p,ab s] w R:=
 ir h
def v1w{n:Int}(h:cS 186 #[O U n] w λs a=>R (ab s) a):B 140 #[O U n] w R:=
 ir h
def arK{p:Addr}{n_:Int}{y9 v za:M}{y z x c:Sl}{ff deep:Int}(t:P w λk f=>yH (λw1=>sC [k] 188 #[G p,y.v] w1 λs0 w2=>fW [k] 187 #[G p,O U deep,ab Kan,ab s0] w2 λw3=>sC [k] 188 #[G p,z.v] w3 λs1 w4=>fW [k] 187 #[G p,O U deep,ab Kaq,ab s1] w4 λw5=>mh 0 w5 λj N i e=>K (JW<|i<(x.n:Int)) (iT x i e λu s2 A m C D s3 E X H Y Z I=>P e λk3 w7=>sC [k,k3] 189 #[G p,ic u s2 A m C D s3 E X H Y Z I] w7 λs4 g=>lc 75 (ab s4) g λl3 h=>bX [k,k3] g h/\fW [k,k3] 138 #[G p,O U deep,l3.v] h λn=>nx N λQ=>j Q (ar U<|i+1) n)<|mh 0 e λl T b d=>K (JW<|b<(c.n:Int)) (gQ c b d λL s5 s6 s7 l4 l5 l6 l7 a=>P d λV o=>fW [k,V] 190 #[G p,cp L s5 s6 s7 l4 l5 l6 l7 a,O U deep] o λq=>nx T λW=>l W (ar U<|b+1) q)<|R (ai #[]) d) λJ=>K (!(v.toList==((ao #[]).toList))) (sC [k] 139 #[G p,ab v] f λs S=>((s.size:Int)+1)<=9223372036854775807/\fW [k] 187 #[G p,O U deep,ab Kap,ab<|s++(ao #[59])] S λr=>J r)<|J f):B 141 #[G p,cp n_ y9 v za y z x c ff,O U deep] w R:=
 fC (.e<|.j [0,2,4] [] .o (.d 2<|.s (.e<|.q [0,2,4,36,37] [.s 38 F])<|.e<|.q [0,2,4,7,51,52] [.s 53 F])) t
def arL{p:Addr}(h:cI 191 #[G (p.add 0)] w λi a=>R (aj<|JW<|i>16384) a):B 142 #[G p] w R:=
 ir h
def K1{b:Addr}(e:o0 w λa=>∃J:h,iZ a (b.add 1) λl=>J ((b.add 1).block)/\iZ a (b.add 1) λf=>∃q c,((Builtin.unsafeSliceData_ #[204] 259 #[l.v]).run aq a)=(.ok (ae q) c)/\bH J a c/\∃s d,((Builtin.unsafeString_ #[259,3] 9 #[ae q,O U (f.n:Int)]).run aq c)=(.ok (ab s) d)/\bH J c d/\R (ab s) d):B 143 #[G b] w R:=
 ir e
def arM(s:Sl)(f:OV)(R:aG)(a:av)(h:mh 0 a λJ n i w=>K (JW<|i<(s.n:Int)) (A5 s i w λg o j l m=>∃k:Nat,∃z d,f.v=(.func (.func k) z.toArray d.toArray)/\(∀x:Array aw,∀b,((callFunc k x).run aq b)=(.ok (.enter k x) b))/\cB k ((Cq (Cq z [FG g o j l m]) d).toArray) w λe c=>K e (R (O U i) c)<|nx n λk3=>J k3 (ar U<|i+1) c)<|R (O U (-1)) w):B 144 #[s.v,f.v] a R:=
 fB (an:=.e<|.f<|.e<|.q [0,1,7] [.s 8 (.int .i64)]) (args:=[.sl s,.raw f]) h
def aAR{f:Int}{s:M}{a b c:Int}{g:Addr}(h:P w λk d=>FD d g λe=>R (aj<|s.toList==e.toList) d):B 145 #[FG f s a b c,G g] w R:=
 ir h
def aAS{n:Int}{g:Addr}(h:iZ w g λl=>cB 108 #[l.v,O U n] w λb a=>R (aj<|!b) a):B 146 #[O U n,G g] w R:=
 ir h
def K2(c:Sl)(a:Int)(b d e:M)(f g h j:Sl)(l:Int)(R:aG)(n:av):Prop:=
 P n λk o=>mh 0 o λJ m i w=>K (JW<|i<(c.n:Int)) (∃p0,ci c i 3 p0/\
  FD w (p0.add 0) λs=>iV [k] 192 #[ab s] w λp q=>∃r,((!p)=aL->ci c i 3 r)/\
   ∃u,((!p)=aL->aB q (r.add 1) [O U u])/\
   K ((!p)||(u==(-9223372036854775808))) (R (aj aL) q) (nx m λk3=>J k3 (ar U<|i+1) q))<|P w λt v=>aF v t 262 [O U 0,O U 0,O U 0]->iV [k] 193 #[pB t,cp a b d e f g h j l,O U 0] v λy x=>aqv x t 262 λB z A=>R (aj<|(((y&&(a==1))&&(JW<|(c.n:Int)<=16))&&(JW<|z<=200))&&(JW<|A<=400)) x
def arN{c:Sl}{a:Int}{b d e:M}{f g h i:Sl}{j:Int}(k:K2 c a b d e f g h i j R w):B 147 #[da c a b d e f g h i j] w R:=
 fC (.e<|.f<|.e<|.q [1] [.s 3 F]) k
def arO{p:Addr}{deep:Int}{s:M}(h:iZ w (p.add 0) λq=>K (JW<|(q.n:Int)>16384) (R (ai #[]) w)<|mh 0 w λJ k i a=>K (JW<|i<deep) (iZ a (p.add 0) λr=>Qw 204 (.int .u8 32) (.int .u8 32) a λt D=>Ek 204 r t D λu b=>sT (p.add 0) b 1 λf k3 L g=>sS b f k3 L g [u.v] λE=>nx k λj=>J j (ar U<|i+1) E)<|iZ a (p.add 0) λv=>LR (Builtin.append_ #[204,9] 204 #[v.v,ab s]) a λx c=>sT (p.add 0) c 1 λl m N n=>sS c l m N n [x.v] λd=>iZ d (p.add 0) λy=>lc 204 (.int .u8 10) d λz H=>Ek 204 y z H λA e=>sT (p.add 0) e 1 λo S P C=>sS e o S P C [A.v] λI=>R (ai #[]) I):B 148 #[G p,O U deep,ab s] w R:=
 fC (.e<|.f<|.e<|.q [0,1,2] [.s 6 F]) h
def X8{n:Int}(h:K (n==0) (R (ab<|ao #[48]) w) (K (JW<|n<0) (XI 195 #[O U n] w λi c=>cS 194 #[.int .u64 i] c λs d=>(1+(s.size:Int))<=9223372036854775807/\R (ab<|(ao #[45])++s) d)<|XI 195 #[O U n] w λa e=>cS 194 #[.int .u64 a] e λb f=>R (ab b) f)):B 149 #[O U n] w R:=
 ir h
def arQ{p:Addr}{x:Int}{x1 a x3:M}{g h c j:Sl}{ff deep:Int}(C:P w λk q=>yH (λr=>yH (λt=>yH (λw3=>mh 0 w3 λJ3 V i b=>∃n:Sl,((JW<|i<(c.n:Int))=aE->aB b (p.add 0) [n.v])/\K ((JW<|i<(c.n:Int))&&(JW<|(n.n:Int)<=16384)) (iT c i b λD s0 H v I L s1 N Y Q Z l3 S=>sC [k] 197 #[ic D s0 H v I L s1 N Y Q Z l3 S] b λs2 w5=>fW [k] 148 #[G p,O U deep,ab s2] w5 λw6=>nx V λk3=>J3 k3 (ar U<|i+1) w6) (mh 0 b λu W e f=>K (JW<|e<(j.n:Int)) (gQ j e f λT s3 s4 s5 l4 l5 l6 l7 d=>fW [k] 198 #[G p,cp T s3 s4 s5 l4 l5 l6 l7 d,O U deep] f λw8=>nx W λX=>u X (ar U<|e+1) w8)<|R (ai #[]) f)) λm=>K (JW<|(h.n:Int)>0) (sC [k] 196 #[h.v] t λs w9=>(6+(s.size:Int))<=9223372036854775807/\fW [k] 148 #[G p,O U deep,ab<|Kav++s] w9 λy=>m y)<|m t) λl=>K (JW<|(g.n:Int)>0) (sC [k] 196 #[g.v] r λo E=>(6+(o.size:Int))<=9223372036854775807/\fW [k] 148 #[G p,O U deep,ab<|Kaw++o] E λz=>l z)<|l r) λJ=>K (!(a.toList==((ao #[]).toList))) ((8+(a.size:Int))<=9223372036854775807/\(((Kax++a).size:Int)+1)<=9223372036854775807/\fW [k] 148 #[G p,O U deep,ab<|(Kax++a)++(ao #[59])] q λA=>J A)<|J q):B 150 #[G p,cp x x1 a x3 g h c j ff,O U deep] w R:=
 fC (.e<|.j [0,2,4] [] .o (.j [0,2,4] [] .o (.j [0,2,4] [] .o (.s (.e<|.q [0,2,4] [.s 6 F])<|.e<|.q [0,2,4] [.s 7 F])))) C
def arR{k:Addr}{l:Sl}(m:mh 0 w λg u i a=>K (JW<|i<(l.n:Int)) (lJ (λh b=>yH (λf=>∃p0,ci l i 9 p0/\kH f (p0.add 2) λn o y q x r=>cU 152 #[G k,bL n o y q x r] f λA=>nx u λv=>g v (ar U<|i+1) A) λc=>K (!h) (∃p,ci l i 9 p/\gF b (p.add 8) λs=>cU 64 #[G k,O U 23,O U s] b λC=>c C)<|c b) λJ=>∃d,ci l i 9 d/\gF a (d.add 0) λt=>K (t !=1) (J aE a) (∃e,ci l i 9 e/\FD a (e.add 1) λz=>cB 199 #[G k,ab z] a λj D=>J j D))<|R (ai #[]) a):B 151 #[G k,l.v] w R:=
 fC (.e<|.r [0,1] [.s 4 F] (.e<|.f<|.s (.q [0,1,4] [.s 5 .bool])<|.q [0,1,4] [])) m
def arS{k:Addr}{x I:Int}{c:M}{L:Int}{d:Sl}{l:Int}(q:P w λa g=>lJ (λm h=>lJ (λn j=>yH (λA=>mh 0 A λJ3 v i b=>K (JW<|i<(d.n:Int)) (kJ d i b λr s z t y u=>fW [a] 152 #[G k,bL r s z t y u] b λC=>nx v λk3=>J3 k3 (ar U<|i+1) C)<|R (ai #[]) b) λf=>K ((!m)||(!n)) (fW [a] 64 #[G k,O U 23,O U l] j λD=>f D)<|f j) λe=>K (x !=3) (e aE h)<|iV [a] 200 #[G k,ab c] h λo E=>e o E) λJ=>K (x !=2) (J aE g)<|iV [a] 199 #[G k,ab c] g λp H=>J p H):B 152 #[G k,bL x I c L d l] w R:=
 fC (.e<|.s (.q [0,3] [.s 4 .bool])<|.s (.q [0,3,4] [.s 5 .bool])<|.j [0,3] [] .o (.e<|.q [0,3] [.s 6 F])) q
def LA(k:Addr)(e:Sl)(R:aG)(m:av):=
 ∃J:Nat->Sl->Int->av->Prop,∃f:Nat,J f Sl.nil 0 m/\
 ∀d,∀l:Sl,∀i b,J d l i b->K (JW<|i<(e.n:Int)) (o0 b λc=>iZ c (k.add 10) λg=>JV e i c λs=>cI 31 #[g.v,ab s] c λa w=>K (JW<|a<1) (R (aj aL) w) (iZ w (k.add 10) λj=>∃p,ci j a 5 p/\
  gF w (p.add 0) λx=>cB 77 #[O U x] w λv q=>lJ (λn y=>mh 0 y λu k3 o t=>K (JW<|o<(l.n:Int)) (o0 t λr=>∃J3:h,J3 ((k.add 10).block)/\
    iZ r (k.add 10) λG=>xj l o r λE=>Qw 31 (O U n) (O U E) r λH B=>bH J3 r B/\
    cI 201 #[G.v,H.v] B λz A=>bH J3 B A/\
     ∃N,((z==n)=aL->ci l o 1 N)/\
     ∃I,((z==n)=aL->aB A N [O U I])/\
     ∃M:Sl,(((z==n)||(z==I))=aL->aB A (k.add 10) [M.v])/\
     ∃P,(((z==n)||(z==I))=aL->ci M z 5 P)/\
     ∃L,(((z==n)||(z==I))=aL->aB A (P.add 0) [O U L])/\
     K (((z==n)||(z==I))||(L !=2)) (R (aj aL) A) (nx k3 λS=>u S (ar U<|o+1) A))<|lc 31 (O U n) t λV Y=>Ek 31 l V Y λW Q=>nx d λT=>J T W (ar U<|i+1) Q) λC=>K v (iZ q (k.add 10) λX=>∃D,ci X a 5 D/\
   gF q (D.add 2) λF=>C F q)<|C a q)) (R (aj aE) b)
def arT{k:Addr}{l:Sl}(h:LA k l R w):B 153 #[G k,l.v] w R:=
 fC (.d 2<|.f<|.e<|.r [0,1] [.s 5 .sl,.s 6 F] (.e<|.f<|.d 3<|.j [0,1,5,6] [.s 7 F] .o (.f<|.e<|.q [0,1,5,6,7] [.s 9 F]))) h
def aAT{k:Int}{g:Addr}(h:iZ w g λl=>∃p0,ci l k 5 p0/\gF w (p0.add 0) λi=>cB 203 #[O U i] w λb a=>R (aj<|!b) a):B 202 #[O U k,G g] w R:=
 ir h
def aAU(kind:Int){R:aG}(w:av)(h:R (aj<|(kind==1)||(kind==2)) w):B 203 #[O U kind] w R:=
 ir h
def arU{c:Int}{o:Sl}(h:cB 218 #[o.v,.int .u8 c] w λb a=>R (aj b) a):B 168 #[.int .u8 c,o.v] w R:=
 ir h
def arV{s u:M}(h:cB 219 #[ab s,ab u] w λb a=>R (aj b) a):B 169 #[ab s,ab u] w R:=
 ir h
def arW{c:Addr}(h:FD w (c.add 0) λs=>gF w (c.add 1) λi=>∃k:Nat,(i=(k:Int)/\k<=s.size)/\o0 w λa=>R (ab<|s.extract k s.size) a):B 170 #[G c] w R:=
 ir h
def arX{s e:M}(R:aG)(w:av)(h:Zy 220 #[ab s,ab e] w λa c b d=>R (ai #[ab a,ab c,aj b]) d):B 171 #[ab s,ab e] w R:=
 ir h
def arY{c:Int}{R:aG}(w:av)(h:R (aj<|((JW<|97<=(bits .or .u8 c 32))&&(JW<|(bits .or .u8 c 32)<=122))||(c==95)) w):B 172 #[.int .u8 c] w R:=
 ir h
def arZ(c:Addr){R:aG}(a:av)(h:cS 221 #[G (c.add 0)] a λs w=>K (JW<|(s.size:Int)>24) (R (O U 2) w)<|lJ (λi f=>cS 223 #[ab s] f λe g=>cU 123 #[G c,oh i e 0 0,O U (s.size:Int)] g λj=>R (O U 0) j) λJ=>iZ w (c.add 2) λl=>cB 222 #[l.v,ab s] w λd b=>K d (J 2 b)<|J 1 b):B 173 #[G c] a R:=
 fC (.d 4<|.q [0,3] [.s 4 F]) h
def ar0{c:Int}(h:R (aj<|(JW<|48<=c)&&(JW<|c<=57)) w):B 174 #[.int .u8 c] w R:=
 ir h
def ar1(c:Addr)(R:aG)(w:av)(h:cS 170 #[G (c.add 0)] w λs g=>akV 224 #[ab s] g λe i a b=>K (a !=0) (R (O U a) b)<|cS 221 #[G (c.add 0)] b λf d=>K (JW<|(f.size:Int)>i) (R (O U 4) d)<|cU 123 #[G c,oh 3 (ao #[]) e 0,O U i] d λj=>R (O U 0) j):B 175 #[G c] w R:=
 ir h
def ar2(c:Addr)(R:aG)(q:av)(D:cS 170 #[G (c.add 0)] q λs X=>lJ (λH w=>lJ (λi r=>K (i==0) (R (O U 4) r) (∃k:Nat,(i=(k:Int)/\k<=s.size)/\cS 223 #[ab (s.extract 0 k)] r λT Y=>cU 123 #[G c,oh 4 T 0 0,O U i] Y λZ=>R (O U 0) Z)) λd=>lJ (λu t=>K u (d 2 t)<|d H t) λJ=>K (JW<|(s.size:Int)>1) (∃c0:UInt8,((0:Int)<=1/\s[1]? =(aM c0))/\K ((UInt8.toNat c0:Int)==61) (∃e:UInt8,((0:Int)<=0/\s[0]? =(aM e))/\o0 w λw6=>Zl 204 (.int .u8 60) (.int .u8 62) (.int .u8 61) (.int .u8 33) w6 λL w7=>cB 168 #[.int .u8 (UInt8.toNat e:Int),L.v] w7 λv a=>K v (J aE a) (∃f:UInt8,((0:Int)<=1/\s[1]? =(aM f))/\∃g:UInt8,((0:Int)<=0/\s[0]? =(aM g))/\K ((UInt8.toNat f:Int)==(UInt8.toNat g:Int)) (∃h:UInt8,((0:Int)<=0/\s[0]? =(aM h))/\Qw 204 (.int .u8 38) (.int .u8 124) a λM w9=>cB 168 #[.int .u8 (UInt8.toNat h:Int),M.v] w9 λx o=>K x (J aE o)<|2<=s.size/\J (((s.extract 0 2).toList)==(Kau.toList)) o) (2<=s.size/\J (((s.extract 0 2).toList)==(Kau.toList)) a))) (∃j:UInt8,((0:Int)<=1/\s[1]? =(aM j))/\∃l:UInt8,((0:Int)<=0/\s[0]? =(aM l))/\K ((UInt8.toNat j:Int)==(UInt8.toNat l:Int)) (∃m:UInt8,((0:Int)<=0/\s[0]? =(aM m))/\o0 w λE=>Qw 204 (.int .u8 38) (.int .u8 124) E λN A=>cB 168 #[.int .u8 (UInt8.toNat m:Int),N.v] A λy p=>K y (J aE p)<|2<=s.size/\J (((s.extract 0 2).toList)==(Kau.toList)) p) (2<=s.size/\o0 w λS=>J (((s.extract 0 2).toList)==(Kau.toList)) S)))<|o0 w λC=>J aL C) λb=>∃n:UInt8,((0:Int)<=0/\s[0]? =(aM n))/\LR (au 204 17 #[.mk 0 (.int .u8 123),.mk 1<|.int .u8 125,.mk 2<|.int .u8 40,.mk 3<|.int .u8 41,.mk 4<|.int .u8 91,.mk 5<|.int .u8 93,.mk 6<|.int .u8 59,.mk 7<|.int .u8 44,.mk 8<|.int .u8 61,.mk 9<|.int .u8 43,.mk 10<|.int .u8 45,.mk 11<|.int .u8 42,.mk 12<|.int .u8 47,.mk 13<|.int .u8 37,.mk 14<|.int .u8 60,.mk 15<|.int .u8 62,.mk 16<|.int .u8 33]) X λP I=>LR (convert 204 204 P.v) I λQ V=>cB 168 #[.int .u8 (UInt8.toNat n:Int),Q.v] V λz W=>K z (b 1 W)<|b 0 W):B 176 #[G c] q R:=
 fC (.d 3<|.j [0,3] [.s 4 F] .o (.r [0,3] [.s 4 F] (.f<|.q [0,3,4] [.s 45 .bool]))) D
def LB(s:Sl){v:M}(R:aG)(a:av)(h:mh 0 a λJ k i w=>K (JW<|i<(s.n:Int)) (JV s i w λc=>K (v.toList==c.toList) (R (O U i) w)<|nx k λb=>J b (ar U<|i+1) w)<|R (O U (-1)) w):B 177 #[s.v,ab v] a R:=
 fC (.e<|.f<|.e<|.q [0,1,7] [.s 8 F]) h
def ar3{r:Addr}{kind:Int}(ce:P w λa N=>∃T:h,T (((r.add 0).add 0).block)/\iZ N ((r.add 0).add 0) λl0=>T (((r.add 0).add 1).block)/\gF N ((r.add 0).add 1) λi0=>∃p0,ci l0 i0 4 p0/\T ((p0.add 3).block)/\gF N (p0.add 3) λL=>P N λk w1=>fW [a,k] 124 #[G r,G<|(r.add 4).add 3,O U 2] w1 λw2=>iV [a,k] 95 #[G (r.add 0)] w2 λb0 Q=>K (!b0) (∀w4,ay [a] Q w4->R (ic kind (ao #[]) 0 aL 0 0 (ao #[]) 0 Sl.nil 0 Sl.nil Sl.nil L) w4) (gF Q ((r.add 0).add 1) λi2=>sT ((r.add 0).add 1) Q 1 λk2 k3 z0 k4=>a≠k2/\k≠k2/\sS Q k2 k3 z0 k4 [O U (ar U<|i2+1)] λw5=>∃J:Int->M->Int->C->Int->Int->M->Int->Sl->Int->Sl->Sl->Int->av->Prop,(∀i3 s0 i4 b1 i5 i6 s1 i7,∀l1:Sl,∀i8,∀l2 l3:Sl,∀i9 w6,J i3 s0 i4 b1 i5 i6 s1 i7 l1 i8 l2 l3 i9 w6->∃V:Int->M->Int->C->Int->Int->M->Int->Sl->Int->Sl->Sl->Int->av->Prop,(∀i s2 b X c d s3 e,∀l4:Sl,∀f,∀l5 l6:Sl,∀g w7,V i s2 b X c d s3 e l4 f l5 l6 g w7->∃J3:Int->M->Int->C->Int->Int->M->Int->Sl->Int->Sl->Sl->Int->av->Prop,(∀u s4 v b3 x y s5 z,∀l7:Sl,∀A,∀l8 l9:Sl,∀D w8,J3 u s4 v b3 x y s5 z l7 A l8 l9 D w8->∃W:Nat->M->Int->M->Int->C->Int->Int->M->Int->Sl->Int->Sl->Sl->Int->av->Prop,∃k5:Nat,W k5 Kau u s4 v b3 x y s5 z l7 A l8 l9 D w8/\∀k6 s6 j s7 l Y m n s8 o,∀t:Sl,∀p,∀qh rn:Sl,∀q w9,W k6 s6 j s7 l Y m n s8 o t p qh rn q w9->lc 75 (ab s6) w9 λur dh=>bX [a,k] w9 dh/\pR [a,k] 92 #[G (r.add 0),ur.v] dh λam Z=>K (JW<|am>0) (o0 Z λey=>∃H:h,H k/\sC [a,k] 179 #[G (r.add 0)] ey λs9 I=>bH H ey I/\lc 75 (ab s9) I λyi S=>bX [a,k] I S/\bH H I S/\mO [a,k] 75 rn yi S λAG gz=>bH H S gz/\∀iA,ay [k] gz iA->nx k6 λk7=>W k7 (ao #[44]) j s7 l Y m n s8 o t p qh AG q iA) (lc 75 (ab<|ao #[59]) Z λI7 fV=>bX [a,k] Z fV/\fW [a,k] 90 #[G (r.add 0),I7.v] fV λiW=>∀kf,ay [a] iW kf->R (ic j s7 l Y m n s8 o t p qh rn q) kf))/\lc 75 (ab<|ao #[123]) w7 λO4 je=>bX [a,k] w7 je/\pR [a,k] 127 #[G (r.add 0),O4.v] je λaC ky=>K (JW<|aC>0) (qv [a,k] 180 #[G r] ky λLF nK=>∀nL,ay [k] nK nL->J3 i s2 b X c d s3 e l4 f LF l6 g nL)<|J3 i s2 b X c d s3 e l4 f l5 l6 g ky)/\lc 75 (ab<|ao #[91]) w6 λEY pe=>bX [a,k] w6 pe/\pR [a,k] 92 #[G (r.add 0),EY.v] pe λs lS=>K (JW<|s>0) (∀qj,ay [k] lS qj->gq [a,k] 225 #[G (r.add 0)] qj λaS aT I8 bv zx bV vw=>∀xn,ay [k] vw xn->lc 75 (ab<|ao #[93]) xn λEZ B3=>bX [a,k] xn B3/\fW [a,k] 90 #[G (r.add 0),EZ.v] B3 λL2=>V i3 s0 i4 (JW<|s>0) aS aT I8 bv zx bV l2 l3 i9 L2) (∀PK,ay [k] lS PK->V i3 s0 i4 (JW<|s>0) i5 i6 s1 i7 l1 i8 l2 l3 i9 PK))/\K (kind==1) (sC [a,k] 179 #[G (r.add 0)] w5 λI9 Vl=>∀Xh,ay [k] Vl Xh->J kind I9 0 aL 0 0 (ao #[]) 0 Sl.nil 0 Sl.nil Sl.nil L Xh) (K (kind==3) (xB [a,k] 126 #[G (r.add 0),O U 3] w5 λco O5 bY cC cc=>∀E,ay [k] cc E->J kind (ao #[]) bY aL 0 0 (ao #[]) 0 Sl.nil 0 Sl.nil Sl.nil L E)<|J kind (ao #[]) 0 aL 0 0 (ao #[]) 0 Sl.nil 0 Sl.nil Sl.nil L w5))):B 178 #[G r,O U kind] w R:=
 fC (.d 4<|.j [0,4,5] [.b 5 [F,.str,F,.bool,F,F,.str,F,.sl,F,.sl,.sl,F]] .o (.j [0,4,5] [.b 5 [F,.str,F,.bool,F,F,.str,F,.sl,F,.sl,.sl,F]] .o (.j [0,4,5] [.b 5 [F,.str,F,.bool,F,F,.str,F,.sl,F,.sl,.sl,F]] .o (.f<|.e<|.q [0,4,5] [.s 6 .str,.b 5 [F,.str,F,.bool,F,F,.str,F,.sl,F,.sl,.sl,F]])))) ce
def ar4{c:Addr}(h:A6 126 #[G c,O U 1] w λi s b d a=>R (ab s) a):B 179 #[G c] w R:=
 ir h
def ar5{r:Addr}(h:zf w λk a d=>lc 75 (ab<|ao #[123]) d λl e=>bX [k,a] d e/\fW [k,a] 90 #[G (r.add 0),l.v] e λb=>(aF b k 151 [G r]->aF b a 23 [Sl.nil.v]->cU 226 #[G r,ab<|ao #[125],.func (.func 227) #[] #[pB a,pB k]] b λc=>Qx c k 151 λq=>FE c a 23 λf=>R f.v c)):B 180 #[G r] w R:=
 ir h
def ar6(s:Sl)(n:Int)(R:aG)(w:av)(h:yH (λb=>lJ (λe f=>R e.v f) λJ=>K (JW<|(ar U<|n-(ar U<|(s.c:Int)-(s.n:Int)))>0) (∃k:Nat,((s.c:Int)=(k:Int)/\k<=s.c)/\∃l:Sl,∃c,((Builtin.append_ #[23,3] 23 #[(s.cut 0 k s.c 9).v,O U<|ar U<|n-(ar U<|(s.c:Int)-(s.n:Int))]).run aq b)=(.ok l.v c)/\∃a:Nat,((s.n:Int)=(a:Int)/\a<=l.c)/\J (l.cut 0 a l.c 9) c)<|J s b) λd=>K (JW<|n<0) (False)<|d w):B 181 #[s.v,O U n] w R:=
 fC (.e<|.j [0,1] [] .o (.q [] [.s 0 .sl])) h
def LC{b:Addr}{s:M}(h:cU 229 #[G b] w λa=>iZ a (b.add 1) λl=>LR (Builtin.append_ #[204,9] 204 #[l.v,ab s]) a λf c=>sT (b.add 1) c 1 λk d z e=>sS c k d z e [f.v] λg=>R (ai #[O U (s.size:Int),.nilIface]) g):B 182 #[G b,ab s] w R:=
 ir h
def ar7{words:Sl}(h:cL 233 #[words.v,.func (.func 234) #[] #[]] w λl a=>cS 232 #[l.v,ab<|ao #[32]] a λs b=>R (ab s) b):B 184 #[words.v] w R:=
 ir h
def ar8{s:M}(i:P w λk c=>jn3 (λf u r q=>R (aj f) q) λJ=>K ((!(s.toList==((ao #[]).toList)))&&(JW<|(s.size:Int)<=24)) (∃c0:UInt8,((0:Int)<=0/\s[0]? =(aM c0))/\iV [k] 172 #[.int .u8 (UInt8.toNat c0:Int)] c λg a=>K g (aF a k 184 [ab s,O U 0]->cS 221 #[pB k] a λn b=>N7 b k 184 λo j=>K (n.toList==s.toList) (cL 119 #[] b λm d=>N7 d k 184 λv t=>cB 222 #[m.v,ab s] d λh e=>N7 e k 184 λp l=>J (!h) p l e)<|J aL o j b)<|J aL s 0 a)<|J aL s 0 c):B 185 #[ab s] w R:=
 fC (.d 2<|.f<|.q [3] [.s 2 .bool,.b 3 [.str,F]]) i
def ar9{p:Addr}{deep:Int}{word t:M}(h:K (!(t.toList==((ao #[]).toList))) (∃l:Sl,∃a,((au 75 2 #[.mk 0 (ab word),.mk 1<|ab t]).run aq w)=(.ok l.v a)/\cU 138 #[G p,O U deep,l.v] a λb=>R (ai #[]) b) (R (ai #[]) w)):B 187 #[G p,O U deep,ab word,ab t] w R:=
 ir h
def asa{p:Addr}{l:Sl}(j:K ((l.n:Int)==0) (R (ab<|ao #[]) w) (gF w (p.add 3) λm=>sT (p.add 3) w 1 λv x z0 y=>sS w v x z0 y [O U (ar U<|m+(l.n:Int))] λe=>gF e (p.add 3) λn=>cU 137 #[G p,aj<|JW<|n<=400] e λW=>lc 75 (ab<|ao #[123]) W λC X=>lJ (λD Y=>lc 75 (ab<|ao #[125]) Y λH Z=>Ek 75 D H Z λI w5=>cS 184 #[I.v] w5 λQ w6=>R (ab Q) w6) λJ=>Hv C 0 X λg z a i b=>K (JW<|i<(l.n:Int)) (xA l i b λo S q r T s L t u=>P b λk c=>Tt c (p.add 2) λh=>K h (J a c)<|sC [k] 236 #[G p,mq o S q r T s L t u] c λV f=>lc 75 (ab V) f λM d=>bX [k] f d/\mO [k] 75 a M d λN E=>nx z λA=>g A N (ar U<|i+1) E)<|J a b)):B 188 #[G p,l.v] w R:=
 fC (.d 5<|.r [] [.s 5 .sl] (.e<|.q [0,28,29] [.s 5 .sl,.s 30 F])) j
def asb(p:Addr)(h:Int)(a:M)(m:Int)(i:C)(b c:Int)(d:M)(e:Int)(f:Sl)(g:Int)(L D:Sl)(j:Int)(R:aG)(u:av)(X:P u λk n=>lJ (λs0 w1=>fW [k] 137 #[G p,aj<|((a.toList==((ao #[]).toList))||(h==1))&&((m==0)||(h==3))] w1 λv=>lJ (λs1 w3=>mh 0 w3 λA k2 l w=>K (JW<|l<(D.n:Int)) (JV D l w λs2=>sC [k] 139 #[G p,ab s2] w λs3 w5=>nx k2 λk3=>A k3 (ar U<|l+1) w5)<|lJ (λs4 w6=>sC [k] 188 #[G p,L.v] w6 λs5 x=>Zl 75 (ab s0) (ab s1) (ab s5) (ab s4) x λl0 y=>bX [k] x y/\sC [k] 184 #[l0.v] y λr w9=>((r.size:Int)+1)<=9223372036854775807/\R (ab<|r++(ao #[59])) w9) λJ3=>K (JW<|(D.n:Int)>0) (sC [k] 232 #[D.v,ab<|ao #[44,32]] w λt N=>(3+(t.size:Int))<=9223372036854775807/\J3 ((ao #[45,62,32])++t) N)<|J3 (ao #[]) w) λo=>K i (sC [k] 237 #[G p,bL b c d e f g] v λs H=>(1+(s.size:Int))<=9223372036854775807/\((((ao #[91])++s).size:Int)+1)<=9223372036854775807/\o (((ao #[91])++s)++(ao #[93])) H)<|fW [k] 238 #[G p,bL b c d e f g] v λQ=>o (ao #[]) Q) λJ=>K (h==1) (sC [k] 139 #[G p,ab a] n λs9 q=>Qw 75 (ab Kar) (ab s9) q λl1 S=>bX [k] q S/\sC [k] 184 #[l1.v] S λI T=>J I T)<|K (h==3) (fW [k] 137 #[G p,aj<|JW<|m>=0] n λY=>sC [k] 140 #[O U m] Y λz V=>Qw 75 (ab Kak) (ab z) V λl2 W=>bX [k] V W/\sC [k] 184 #[l2.v] W λE kf=>J E kf)<|fW [k] 137 #[G p,aj<|h==2] n λZ=>J Kal Z):B 189 #[G p,ic h a m i b c d e f g L D j] u R:=
 fC (.d 2<|.j [0,3] [.s 5 .str] .o (.d 2<|.j [0,3,5,7] [.s 6 .str] .o (.s (.e<|.q [0,3,5,6,7,70,71] [.s 72 F])<|.q [0,3,5,6] [.s 7 .str]))) X
def asc{p:Addr}{n:Int}{y v z:M}{o A x e:Sl}{I deep:Int}(V:P w λk a=>Tt a (p.add 2) λH=>K (H||(JW<|deep>=12)) (fW [k] 137 #[G p,aj aL] a λw1=>R (ai #[]) w1)<|LR (au 75 5 #[.mk 0 (ab<|ao #[]),.mk 1<|ab Kac,.mk 2<|ab Kad,.mk 3<|ab Kae,.mk 4<|ab Kaf]) a λu j=>bX [k] a j/\lJ (λL l=>K L (fW [k] 137 #[G p,aj<|z.toList==((ao #[]).toList)] l λw4=>o0 w4 λm=>∃J:h,J k/\∃p0,ci u n 1 p0/\J p0.block/\FD m p0 λs0=>sC [k] 139 #[G p,ab y] m λs1 b=>bH J m b/\Cv 75 (ab s0) (ab s1) (ab<|ao #[123]) b λY c=>bX [k] b c/\bH J b c/\fW [k] 138 #[G p,O U deep,Y.v] c λE=>bH J c E/\fW [k] 141 #[G p,cp n y v z o A x e I,O U<|ar U<|deep+1] E λF=>lc 75 (ab<|ao #[125]) F λZ s=>bX [k] F s/\fW [k] 138 #[G p,O U deep,Z.v] s λQ=>R (ai #[]) Q)<|lJ (λN t=>K N (fW [k] 137 #[G p,aj<|(v.toList==((ao #[]).toList))&&((ar U<|(ar U<|(ar U<|(o.n:Int)+(A.n:Int))+(x.n:Int))+(e.n:Int))==0)] t λT=>o0 T λS=>∃J3:h,J3 k/\∃d,ci u n 1 d/\J3 d.block/\FD S d λs2=>J3 k/\sC [k] 139 #[G p,ab y] S λs3 g=>bH J3 S g/\sC [k] 139 #[G p,ab z] g λD i=>bH J3 g i/\((D.size:Int)+1)<=9223372036854775807/\∃C:Sl,∃f,((au 75 4 #[.mk 0 (ab s2),.mk 1<|ab s3,.mk 2<|ab Kau,.mk 3<|ab<|D++(ao #[59])]).run aq i)=(.ok C.v f)/\bX [k] i f/\bH J3 i f/\fW [k] 138 #[G p,O U deep,C.v] f λW=>bH J3 f W/\R (ai #[]) W)<|fW [k] 137 #[G p,aj aL] t λX=>R (ai #[]) X) λr=>K (n==3) (r (n==3) l)<|r (n==4) l) λq=>K (n==1) (q (n==1) j)<|q (n==2) j):B 190 #[G p,cp n y v z o A x e I,O U deep] w R:=
 fC (.d 4<|.j [0,2,4,6,19] [.s 22 .bool] .o (.e<|.q [0,2,4,6] [.s 52 .bool])) V
def LH{b:Addr}(R:aG)(w:av)(h:iZ w (b.add 1) λl=>R (O U (l.n:Int)) w):B 191 #[G b] w R:=
 ir h
def Yo(s:M)(R:aG)(w:av):Prop:=
 K ((s.toList==((ao #[]).toList))||(JW<|(s.size:Int)>24)) (R (aj aL) w) (∃c0:UInt8,((0:Int)<=0/\
  s[0]? =(aM c0))/\
 cB 239 #[.int .u8 (UInt8.toNat c0:Int)] w λb e=>cB 240 #[ab s] e λc a=>lJ (λd f=>R (aj d) f) λJ=>K (b&&(!c)) (cI 241 #[ab s,O U 0] a λi g=>J (i==(s.size:Int)) g)<|J aL a)
def aAV{s:M}(h:Yo s R w):B 192 #[ab s] w R:=
 fC (.d 4<|.f<|.q [] [.s 2 .bool]) h
def ase{n:Addr}{x:Int}{y b m:M}{o p c d:Sl}{ff deep:Int}(T:P w λk h=>gF h (n.add 0) λV=>sT (n.add 0) h 1 λt k2 z0 k3=>k≠t/\sS h t k2 z0 k3 [O U (ar U<|V+1)] λw1=>iV [k] 192 #[ab y] w1 λq a=>∃s,(((!q)||(JW<|deep>=12))=aL->aB a (n.add 0) [O U s])/\K (((!q)||(JW<|deep>=12))||(JW<|s>64)) (R (aj aL) a) (K ((x==3)||(x==4)) (iV [k] 192 #[ab m] a λC w3=>R (aj<|((((C&&(b.toList==((ao #[]).toList)))&&((o.n:Int)==0))&&((p.n:Int)==0))&&((c.n:Int)==0))&&((d.n:Int)==0)) w3)<|lJ (λD w4=>iV [k] 242 #[G n,o.v] w4 λE w5=>iV [k] 242 #[G n,p.v] w5 λH u=>K ((((((x !=1)&&(x !=2))||(!(m.toList==((ao #[]).toList))))||(!D))||(!E))||(!H)) (R (aj aL) u)<|mh 0 u λz k5 g j=>K (JW<|g<(c.n:Int)) (iT c g j λW s0 X I Y Z s1 i7 l0 i8 l1 l2 i9=>iV [k] 243 #[G n,ic W s0 X I Y Z s1 i7 l0 i8 l1 l2 i9] j λL v=>K (!L) (R (aj aL) v)<|nx k5 λk6=>z k6 (ar U<|g+1) v)<|mh 0 j λA k8 i l=>K (JW<|i<(d.n:Int)) (gQ d i l λe s2 s3 s4 l3 l4 l5 l6 f=>iV [k] 193 #[G n,cp e s2 s3 s4 l3 l4 l5 l6 f,O U<|ar U<|deep+1] l λN r=>K (!N) (R (aj aL) r)<|nx k8 λk9=>A k9 (ar U<|i+1) r)<|R (aj aE) l) λJ=>K (!(b.toList==((ao #[]).toList))) (iV [k] 192 #[ab b] a λQ S=>J Q S)<|J (b.toList==((ao #[]).toList)) a)):B 193 #[G n,cp x y b m o p c d ff,O U deep] w R:=
 fC (.d 6<|.j [0,2,4] [.s 9 .bool] .o (.d 3<|.s (.e<|.q [0,2,4] [.s 12 F])<|.f<|.e<|.q [0,2,4] [.s 14 F])) T
def aAW{u:Int}(k:K (u==0) (R (ab<|ao #[]) w) (lJ (λm n=>R (ab m) n) λf=>o0 w λb=>∃J:h,(cS 194 #[.int .u64 (ar .u64<|u.tdiv 10)] b λs d=>bH J b d/\∃g:Sl,∃c,((au 204 1 #[.mk 0 (.int .u8<|ar .u8<|ar .u64<|48+(u.tmod 10))]).run aq d)=(.ok g.v c)/\bH J d c/\∃z:L,wE c g z/\((s.size:Int)+((ao z.toArray).size:Int))<=9223372036854775807/\f (s++(ao z.toArray)) c)/\∃l:Sl,∃a,((au 204 1 #[.mk 0 (.int .u8<|ar .u8<|ar .u64<|48+(u.tmod 10))]).run aq b)=(.ok l.v a)/\bH J b a/\∃e:L,(∀p0,l.a=(aM p0)->J p0.block)/\wE a l e/\cS 194 #[.int .u64 (ar .u64<|u.tdiv 10)] a λi j=>bH J a j/\((i.size:Int)+((ao e.toArray).size:Int))<=9223372036854775807/\f (i++(ao e.toArray)) j)):B 194 #[.int .u64 u] w R:=
 fC (.d 2<|.f<|.q [] [.s 2 .str]) k
def Yp(n:Int)(R:aG)(w:av)(h:K (JW<|n<0) (R (.int .u64<|ar .u64<|(ar .u64<|ar U<|0-(ar U<|n+1))+1) w) (R (.int .u64<|ar .u64 n) w)):B 195 #[O U n] w R:=
 ir h
def asg{l:Sl}(h:Hv (ao #[123]) 0 w λJ k s i a=>K (JW<|i<(l.n:Int)) (((s.size:Int)+1)<=9223372036854775807/\xA l i a λc o d e p f n g j=>cS 244 #[mq c o d e p f n g j] a λb q=>(((s++(ao #[32])).size:Int)+(b.size:Int))<=9223372036854775807/\nx k λm=>J m ((s++(ao #[32]))++b) (ar U<|i+1) q)<|((s.size:Int)+2)<=9223372036854775807/\R (ab<|s++(ao #[32,125])) a):B 196 #[l.v] w R:=
 fC (.d 2<|.f<|.e<|.q [0] [.s 3 .str,.s 4 F]) h
def ash(o:Int)(m:M)(a:Int)(b:C)(c d:Int)(e:M)(f:Int)(g:Sl)(h:Int)(L D:Sl)(l:Int)(R:aG)(z:av)(Q:P z λn A=>lJ (λT E=>lJ (λi G=>lJ (λk H=>lJ (λV W=>Hv V 0 W λN S s j w=>K (JW<|j<(D.n:Int)) (lJ (λu I=>JV D j I λv=>((u.size:Int)+(v.size:Int))<=9223372036854775807/\nx S λk3=>N k3 (u++v) (ar U<|j+1) I) λt=>K (j==0) (((s.size:Int)+4)<=9223372036854775807/\t (s++Kay) w)<|((s.size:Int)+2)<=9223372036854775807/\t (s++(ao #[44,32])) w)<|((s.size:Int)+1)<=9223372036854775807/\R (ab<|s++(ao #[59])) w) λJ3=>K (JW<|(L.n:Int)>0) (((k.size:Int)+1)<=9223372036854775807/\sC [n] 196 #[L.v] H λx X=>(((k++(ao #[32])).size:Int)+(x.size:Int))<=9223372036854775807/\J3 ((k++(ao #[32]))++x) X)<|J3 k H) λr=>K b (((i.size:Int)+2)<=9223372036854775807/\sC [n] 245 #[bL c d e f g h] G λp Y=>(((i++Kaz).size:Int)+(p.size:Int))<=9223372036854775807/\((((i++Kaz)++p).size:Int)+1)<=9223372036854775807/\r (((i++Kaz)++p)++(ao #[93])) Y)<|r i G) λq=>K (o==3) (sC [n] 149 #[O U a] E λy Z=>(6+(y.size:Int))<=9223372036854775807/\q (Ka0++y) Z)<|q T E) λJ=>K (o==1) ((3+(m.size:Int))<=9223372036854775807/\J ((ao #[111,110,32])++m) A)<|J Kal A):B 197 #[ic o m a b c d e f g h L D l] z R:=
 fC (.d 2<|.j [1] [.s 3 .str] .o (.j [1] [.s 3 .str] .o (.j [1] [.s 3 .str] .o (.j [1] [.s 3 .str] .o (.f<|.e<|.r [1] [.s 3 .str,.s 4 F] (.e<|.f<|.q [1,4] [.s 3 .str])))))) Q
def asi{p:Addr}{x:Int}{a d b:M}{e f g h:Sl}{i deep:Int}(j:P w λk c=>yH (λl=>fW [k] 150 #[G p,cp x a d b e f g h i,O U<|ar U<|deep+1] l λm=>fW [k] 148 #[G p,O U deep,ab<|ao #[125]] m λn=>R (ai #[]) n) λJ=>K (x==3) ((8+(a.size:Int))<=9223372036854775807/\(((Ka1++a).size:Int)+4)<=9223372036854775807/\((((Ka1++a)++Kay).size:Int)+(b.size:Int))<=9223372036854775807/\(((((Ka1++a)++Kay)++b).size:Int)+1)<=9223372036854775807/\fW [k] 148 #[G p,O U deep,ab<|(((Ka1++a)++Kay)++b)++(ao #[59])] c λo=>R (ai #[]) o)<|K (x==4) ((5+(a.size:Int))<=9223372036854775807/\(((Ka2++a).size:Int)+4)<=9223372036854775807/\((((Ka2++a)++Kay).size:Int)+(b.size:Int))<=9223372036854775807/\(((((Ka2++a)++Kay)++b).size:Int)+1)<=9223372036854775807/\fW [k] 148 #[G p,O U deep,ab<|(((Ka2++a)++Kay)++b)++(ao #[59])] c λq=>R (ai #[]) q)<|K (x==1) ((6+(a.size:Int))<=9223372036854775807/\(((Ka3++a).size:Int)+2)<=9223372036854775807/\fW [k] 148 #[G p,O U deep,ab<|(Ka3++a)++Kah] c λr=>J r)<|(9+(a.size:Int))<=9223372036854775807/\(((Ka4++a).size:Int)+2)<=9223372036854775807/\fW [k] 148 #[G p,O U deep,ab<|(Ka4++a)++Kah] c λs=>J s):B 198 #[G p,cp x a d b e f g h i,O U deep] w R:=
 fC (.e<|.q [0,2,4] []) j
def asj{k:Addr}{name:M}(h:mh 0 w λJ b i a=>iZ a ((k.add 0).add 0) λl=>K (JW<|i<(l.n:Int)) (iZ a ((k.add 0).add 0) λd=>∃p0,ci d i 3 p0/\FD a (p0.add 0) λs=>K (s.toList==name.toList) (R (aj aE) a)<|nx b λc=>J c (ar U<|i+1) a)<|R (aj aL) a):B 199 #[G k,ab name] w R:=
 fC (.e<|.f<|.e<|.q [0,1] [.s 5 F]) h
def asm{k:Addr}{name:M}(h:iZ w (k.add 10) λl=>cI 31 #[l.v,ab name] w λi a=>lJ (λb f=>R (aj b) f) λJ=>K (JW<|i>=0) (iZ a (k.add 10) λe=>∃p0,ci e i 5 p0/\gF a (p0.add 0) λd=>cB 77 #[O U d] a λc g=>J (!c) g)<|J aL a):B 200 #[G k,ab name] w R:=
 fC (.d 2<|.f<|.q [] [.s 4 .bool]) h
def asn{l n:Sl}(s:Hv (-1) 0 w λq v i a m=>K ((JW<|a<(l.n:Int))&&(JW<|(n.n:Int)>0)) (lJ (λt A=>nx v λx=>q x t (ar U<|a+1) A) λJ=>Hv aE 0 m λr y b d c=>K (JW<|d<(n.n:Int)) (xj n d c λu=>cB 49 #[l.v,O U u,O U a] c λe o=>∃p,(b=aE->e=aL->ci n d 1 p)/\∃f,(b=aE->e=aL->aB o p [O U f])/\nx y λz=>r z (b&&(e||(f==a))) (ar U<|d+1) o) (∃j,(b=aE->(JW<|i<0)=aL->ci l a 5 j)/\∃g,(b=aE->(JW<|i<0)=aL->aB c (j.add 3) [O U g])/\∃k,(b=aE->(JW<|i<0)=aL->ci l i 5 k)/\∃h,(b=aE->(JW<|i<0)=aL->aB c (k.add 3) [O U h])/\K (b&&((JW<|i<0)||(JW<|g>h))) (o0 c λC=>J a C) (o0 c λD=>J i D)))<|R (O U i) m):B 201 #[l.v,n.v] w R:=
 fC (.d 2<|.f<|.e<|.r [0,1] [.s 5 F,.s 6 F] (.e<|.r [0,1,6] [.s 5 F] (.e<|.f<|.e<|.q [0,1,5,6] [.s 7 .bool,.s 8 F]))) s
def aso{s:Sl}{v:Int}(h:cI 250 #[s.v,.int .u8 v] w λi a=>R (aj<|JW<|i>=0) a):B 218 #[s.v,.int .u8 v] w R:=
 ir h
def aAX{s u:M}(R:aG)(w:av)(h:∃k:Nat,((JW<|(s.size:Int)>=(u.size:Int))=aE->(u.size:Int)=(k:Int)/\k<=s.size)/\R (aj<|(JW<|(s.size:Int)>=(u.size:Int))&&(((s.extract 0 k).toList)==u.toList)) w):B 219 #[ab s,ab u] w R:=
 ir h
def aAY{s e:M}(R:aG)(w:av)(h:cI 251 #[ab s,ab e] w λi b=>K (JW<|i>=0) (∃k:Nat,(i=(k:Int)/\k<=s.size)/\∃a:Nat,((ar U<|i+(e.size:Int))=(a:Int)/\a<=s.size)/\o0 b λc=>R (ai #[ab (s.extract 0 k),ab<|s.extract a s.size,aj aE]) c)<|R (ai #[ab s,ab<|ao #[],aj aL]) b):B 220 #[ab s,ab e] w R:=
 ir h
def asp{c:Addr}(k:cS 170 #[G c] w λs n=>mh 0 n λf l i b=>lJ (λg d=>K g (nx l λm=>f m (ar U<|i+1) d) (∃k3:Nat,(i=(k3:Int)/\k3<=s.size)/\R (ab<|s.extract 0 k3) d)) λJ=>K (JW<|i<(s.size:Int)) (∃c0:UInt8,(0<=i/\(s[Int.toNat i]?)=(aM c0))/\cB 172 #[.int .u8 (UInt8.toNat c0:Int)] b λh e=>K h (J aE e) (∃a:UInt8,(0<=i/\(s[Int.toNat i]?)=(aM a))/\cB 174 #[.int .u8 (UInt8.toNat a:Int)] e λj o=>J j o))<|J aL b):B 221 #[G c] w R:=
 fC (.d 3<|.f<|.r [3] [.s 4 F] (.f<|.f<|.q [3,4] [.s 22 .bool])) k
def asq{s:Sl}{v:M}(h:cI 177 #[s.v,ab v] w λi a=>R (aj<|JW<|i>=0) a):B 222 #[s.v,ab v] w R:=
 ir h
def LI(s:M)(R:aG)(w:av)(h:cS 252 #[ab s] w λa b=>R (ab a) b):B 223 #[ab s] w R:=
 ir h
def v0w{s:M}(l:mh 0 w λg n i d=>lJ (λh a=>K h (nx n λo=>g o (ar U<|i+1) a)<|K (s.toList==((ao #[]).toList)) (R (ai #[O U 0,O U 0,O U 3]) a)<|lJ (λj e=>K j (R (ai #[O U 0,O U 0,O U 4]) e) (∃k3:Nat,(i=(k3:Int)/\k3<=s.size)/\PN 254 #[ab (s.extract 0 k3),O U 10,O U 64] e λm v f=>Ux v.v/\K (!(Zp v.v)) (R (ai #[O U 0,O U 0,O U 20]) f) (R (ai #[O U m,O U i,O U 0]) f))) λb=>K (i==0) (b (i==0) a) (∃c0:UInt8,((JW<|i>1)=aE->(0:Int)<=0/\s[0]? =(aM c0))/\b ((JW<|i>1)&&((UInt8.toNat c0:Int)==48)) a)) λJ=>K (JW<|i<(s.size:Int)) (∃c:UInt8,(0<=i/\(s[Int.toNat i]?)=(aM c))/\cB 253 #[.int .u8 (UInt8.toNat c:Int)] d λk p=>J k p)<|J aL d):B 224 #[ab s] w R:=
 fC (.d 2<|.s (.r [0] [.s 5 F] (.f<|.f<|.q [0,5] [.s 17 .bool]))<|.f<|.d 2<|.q [0,5] [.s 23 .bool]) l
def asr{s:M}{R:aG}(w:av)(h:R (aj<|s.toList==((ao #[]).toList)) w):B 234 #[ab s] w R:=
 ir h
def ass(c:Addr)(R:aG)(r:av)(C:P r λk Q=>iV [k] 95 #[G c] Q λy t=>K (!y) (∀u,ay [k] t u->R (bL 0 0 (ao #[]) 0 Sl.nil 0) u) (o0 t λg=>∃J:h,o0 g λv=>J ((c.add 0).block)/\iZ v (c.add 0) λN=>o0 v λx=>J ((c.add 1).block)/\gF x (c.add 1) λD=>o0 x λw=>oJ [k] 255 #[N.v,O U D] w λl m s n q o F p H b=>kl g w b/\bH J w b/\o0 b λi=>∀a,g.heap.size<=a->a<i.heap.size->Dt [jD w b] a->K (p !=0) (∀j,ay [a,k] i j->sT (c.add 2) j 2 λd k3 T I=>k≠d/\a≠d/\sS j d k3 T I [O U p,O U H] λz=>∀E,ay [k] z E->R (bL l m s n q o) E) (∀e,ay [a,k] i e->sT (c.add 1) e 1 λf L V M=>k≠f/\a≠f/\sS e f L V M [O U F] λA=>∀S,ay [k] A S->R (bL l m s n q o) S))):B 225 #[G c] r R:=
 fC (.d 2<|.f<|.l aL [] []) C
def ast(r:Addr){sign:M}(read:OV){R:aG}(w:av)(h:Mm w λe j m=>lJ (λf a=>K f (∃k:Nat,∃z d,read.v=(.func (.func k) z.toArray d.toArray)/\(∀x:Array aw,∀b,((callFunc k x).run aq b)=(.ok (.enter k x) b))/\cU k ((Cq (Cq z []) d).toArray) a λn=>nx j λk3=>e k3 n)<|R (ai #[]) a) λJ=>cB 95 #[G (r.add 0)] m λg c=>K g (lc 75 (ab sign) c λl o=>cI 92 #[G (r.add 0),l.v] o λi p=>J (i==0) p)<|J aL c):B 226 #[G r,ab sign,read.v] w R:=
 fB (an:=.r [0,1,2] [] (.f<|.f<|.q [0,1,2] [.s 18 .bool])) (args:=[.ad r,.str sign,.raw read]) h
def asu{g v:Addr}(e:o0 w λa=>∃J:h,J g.block/\iZ a g λq=>MX a v λu=>abZ 228 #[ae u] a λi x f j y k r l m b=>bH J a b/\lc 23 (mq i x f j y k r l m) b λs c=>bH J b c/\Ek 23 q s c λt d=>bH J c d/\sT g d 1 λn o A p=>sS d n o A p [t.v] λz=>R (ai #[]) z):B 227 #[G g,G v] w R:=
 ir e
def asv{r:Addr}(am:P w λa e=>∃J:h,o0 e λX=>J (((r.add 0).add 0).block)/\iZ X ((r.add 0).add 0) λl0=>o0 X λY=>J (((r.add 0).add 1).block)/\gF Y ((r.add 0).add 1) λi0=>∃p0,ci l0 i0 4 p0/\o0 Y λZ=>J ((p0.add 3).block)/\gF Z (p0.add 3) λd=>o0 Z λb=>Cv 75 (ab Kat) (ab Kas) (ab Kam) b λl1 c=>bX [a] b c/\kl e b c/\bH J b c/\o0 c λg=>pR [a] 127 #[G (r.add 0),l1.v] g λi j=>kl e g j/\bH J g j/\o0 j λt=>∀k,e.heap.size<=k->k<t.heap.size->Dt [jD g j,jD b c] k->K (i==0) (∀w9,ay [k] t w9->fW [a,k] 96 #[G (r.add 0)] w9 λdh=>∀E,ay [a] dh E->R (mq i (ao #[]) 0 0 (ao #[]) 0 Sl.nil 0 d) E) (∀y,ay [k] t y->fW [a,k] 124 #[G r,G<|(r.add 4).add 4,O U 2] y λff=>iV [a,k] 95 #[G (r.add 0)] ff λb0 f=>K (!b0) (∀z,ay [a] f z->R (mq i (ao #[]) 0 0 (ao #[]) 0 Sl.nil 0 d) z) (gF f ((r.add 0).add 1) λi3=>sT ((r.add 0).add 1) f 1 λq k3 z0 k4=>a≠q/\k≠q/\sS f q k3 z0 k4 [O U (ar U<|i3+1)] λiA=>sC [a,k] 179 #[G (r.add 0)] iA λS fV=>∀W,ay [k] fV W->∃l:Int->M->Int->Int->M->Int->Sl->Int->Int->av->Prop,(∀u T v x V A,∀I:Sl,∀C D s,l u T v x V A I C D s->lc 75 (ab<|ao #[59]) s λl3 H=>bX [a,k] s H/\fW [a,k] 90 #[G (r.add 0),l3.v] H λky=>∀L,ay [a] ky L->R (mq u T v x V A I C D) L)/\K (i !=2) (lc 75 (ab<|ao #[61]) W λl4 N=>bX [a,k] W N/\fW [a,k] 90 #[G (r.add 0),l4.v] N λpe=>gq [a,k] 225 #[G (r.add 0)] pe λm n s3 o l5 p lS=>∀Q,ay [k] lS Q->l i S m n s3 o l5 p d Q) (l i S 0 0 (ao #[]) 0 Sl.nil 0 d W)))):B 228 #[G r] w R:=
 fC (.e<|.s (.l aL [] [])<|.d 4<|.q [0,2,3] [.b 3 [F,.str,F,F,.str,F,.sl,F,F]]) am
def LJ{b:Addr}(h:MX w (b.add 0) λl=>K l.isNone (∃v:OV,∃e,((convert 203 304<|G b).run aq w)=(.ok v.v e)/\∃d:OV,∃f,((VU 256 #[v.v]).run aq e)=(.ok d.v f)/\∃q a,((convert 304 203 d.v).run aq f)=(.ok (ae q) a)/\sT (b.add 0) a 1 λk i z j=>sS a k i z j [ae q] λn=>R (ai #[]) n) (MX w (b.add 0) λm=>∃c g,((binOp .neq 203 (ae m)<|G b).run aq w)=(.ok (aj c) g)/\K c (False) (R (ai #[]) g))):B 229 #[G b] w R:=
 ir h
def LL(s:Sl)(d:OV)(R:aG)(l:av):Prop:=
 cI 260 #[s.v,d.v] l λa e=>K (a==(-1)) (R s.v e) (Hv a (ar U<|a+1) e λg k i b w=>K (JW<|b<(s.n:Int)) (lJ (λh m=>nx k λj=>g j h (ar U<|b+1) m) λJ=>JV s b w λc=>∃k3:Nat,∃z f,d.v=(.func (.func k3) z.toArray f.toArray)/\
   (∀x:Array aw,∀r,((callFunc k3 x).run aq r)=(.ok (.enter k3 x) r))/\
   cB k3 ((Cq (Cq z [ab c]) f).toArray) w λu p=>K (!u) (∃q,ci s i 1 q/\
    sT q p 1 λs v B y=>sS p s v B y [ab c] λA=>J (ar U<|i+1) A)<|J i p) (∃n:Nat,(i=(n:Int)/\
   n<=s.n/\
   s.n<=s.c)/\
  ∃t,((Builtin.clear_ #[75] 0 #[(s.cut n s.n s.c 1).v]).run aq w)=(.ok (ai #[]) t)/\
  ∃o:Nat,(i=(o:Int)/\
   o<=s.c)/\
  R ((s.cut 0 o s.c 1).v) t))
def asw(s:Sl)(d:OV)(R:aG)(w:av)(h:LL s d R w):B 233 #[s.v,d.v] w R:=
 fB (an:=.d 3<|.f<|.e<|.r [0,1] [.s 5 (.int .i64),.s 6<|.int .i64] (.e<|.q [0,1,6] [.s 5 (.int .i64)])) (args:=[.sl s,.raw d]) h
def asx{p:Addr}{d:Int}{l:M}{X I:Int}{Y:M}{a:Int}{b:Sl}{c m:Int}(z:P w λk v=>Zl 75 (ab<|ao #[]) (ab Kat) (ab Kas) (ab Kam) v λs g=>bX [k] v g/\K ((JW<|d<1)||(JW<|d>3)) (fW [k] 137 #[G p,aj aL] g λQ=>R (ab<|ao #[]) Q) (K (d==2) (fW [k] 238 #[G p,bL X I Y a b c] g λS=>o0 S λo=>∃e:h,e k/\∃p0,ci s d 1 p0/\e p0.block/\FD o p0 λD=>sC [k] 139 #[G p,ab l] o λF i=>bH e o i/\Qw 75 (ab D) (ab F) i λA j=>bX [k] i j/\bH e i j/\sC [k] 184 #[A.v] j λt x=>bH e j x/\((t.size:Int)+1)<=9223372036854775807/\R (ab<|t++(ao #[59])) x) (o0 g λq=>∃J:h,J k/\∃n,ci s d 1 n/\J n.block/\FD q n λH=>J k/\sC [k] 139 #[G p,ab l] q λL r=>bH J q r/\sC [k] 237 #[G p,bL X I Y a b c] r λN f=>bH J r f/\Zl 75 (ab H) (ab L) (ab<|ao #[61]) (ab N) f λC E=>bX [k] f E/\bH J f E/\sC [k] 184 #[C.v] E λu y=>bH J E y/\((u.size:Int)+1)<=9223372036854775807/\R (ab<|u++(ao #[59])) y))):B 236 #[G p,mq d l X I Y a b c m] w R:=
 ir z
def asy{p:Addr}{x a:Int}{b:M}{c:Int}{d:Sl}{e:Int}(h:P w λk f=>sC [k] 262 #[bL x a b c d e] f λs g=>fW [k] 137 #[G p,aj<|!(s.toList==((ao #[]).toList))] g λi=>R (ab s) i):B 237 #[G p,bL x a b c d e] w R:=
 ir h
def asz{p:Addr}{x a:Int}{b:M}{c:Int}{d:Sl}{g:Int}(h:P w λk e=>fW [k] 137 #[G p,aj<|((((x==0)&&(a==0))&&(b.toList==((ao #[]).toList)))&&(c==0))&&((d.n:Int)==0)] e λf=>R (ai #[]) f):B 238 #[G p,bL x a b c d g] w R:=
 ir h
def aAZ{c:Int}(h:R (aj<|(((JW<|c>=65)&&(JW<|c<=90))||((JW<|c>=97)&&(JW<|c<=122)))||(c==95)) w):B 239 #[.int .u8 c] w R:=
 ir h
def aA0{s:M}(h:cL 263 #[] w λl d=>mh 0 d λJ k i a=>K (JW<|i<(l.n:Int)) (JV l i a λc=>K (c.toList==s.toList) (R (aj aE) a)<|nx k λb=>J b (ar U<|i+1) a)<|R (aj aL) a):B 240 #[ab s] w R:=
 fC (.d 2<|.f<|.e<|.q [0,3] [.s 4 F]) h
def LX(s:M)(at_:Int)(R:aG)(c:av):Prop:=
 lJ (λb d=>R (O U b) d) λJ=>mh 0 c λa k i w=>K (JW<|(ar U<|at_+i)<(s.size:Int)) (∃c0:UInt8,(0<=(ar U<|at_+i)/\
   (s[Int.toNat (ar U<|at_+i)]?)=(aM c0))/\
  cB 239 #[.int .u8 (UInt8.toNat c0:Int)] w λf g=>∃e:UInt8,(0<=(ar U<|at_+i)/\
    (s[Int.toNat (ar U<|at_+i)]?)=(aM e))/\
   cB 264 #[.int .u8 (UInt8.toNat e:Int)] g λj h=>K ((!f)&&(!j)) (J i h)<|nx k λl=>a l (ar U<|i+1) h)<|J i w
def asA{s:M}{at_:Int}(h:LX s at_ R w):B 241 #[ab s,O U at_] w R:=
 fC (.d 2<|.r [] [.s 5 F] (.q [0,1] [.s 5 F])) h
def asC{n:Addr}{l:Sl}(y:mh 0 w λs L i a=>K (JW<|i<(l.n:Int)) (gF a (n.add 2) λz=>sT (n.add 2) a 1 λM k3 Y N=>sS a M k3 Y N [O U (ar U<|z+1)] λq=>∃p0,ci l i 9 p0/\FD q (p0.add 1) λT=>cB 192 #[ab T] q λt r=>∃p,ci l i 9 p/\kH r (p.add 2) λA C V D Q E=>cB 265 #[bL A C V D Q E] r λu b=>lJ (λv c=>∃j,ci l i 9 j/\gF c (j.add 0) λg=>∃k,((JW<|g<1)=aL->ci l i 9 k)/\∃h,((JW<|g<1)=aL->aB c (k.add 0) [O U h])/\K ((((JW<|g<1)||(JW<|h>3))||(!t))||(!v)) (R (aj aL) c) (nx L λP=>s P (ar U<|i+1) c)) λJ=>∃m,ci l i 9 m/\gF b (m.add 0) λH=>K (H==2) (∃o,ci l i 9 o/\kH b (o.add 2) λI d W e S f=>cB 266 #[bL I d W e S f] b λx X=>J x X)<|J u b)<|R (aj aE) a):B 242 #[G n,l.v] w R:=
 fC (.e<|.f<|.e<|.r [0,1] [.s 5 F] (.e<|.f<|.d 3<|.q [0,1,5,6] [.s 7 .bool])) y
def asD{n:Addr}{h:Int}{m:M}{a:Int}{i:C}{b c:Int}{d:M}{e:Int}{f:Sl}{g:Int}{L D:Sl}{j:Int}(N:P w λk o=>gF o (n.add 1) λQ=>sT (n.add 1) o 1 λr S z0 k3=>k≠r/\sS o r S z0 k3 [O U (ar U<|Q+1)] λs=>lJ (λx X=>iV [k] 266 #[bL b c d e f g] X λy t=>lJ (λz Y=>iV [k] 242 #[G n,L.v] Y λA Z=>mh 0 Z λv T l p=>K (JW<|l<(D.n:Int)) (JV D l p λW=>iV [k] 192 #[ab W] p λE u=>K (!E) (R (aj aL) u)<|nx T λV=>v V (ar U<|l+1) u)<|R (aj<|(((((JW<|h>=1)&&(JW<|h<=3))&&x)&&z)&&A)&&((a==0)||((h==3)&&(JW<|a>0)))) p) λq=>K i (iV [k] 265 #[bL b c d e f g] t λH w8=>q H w8)<|q y t) λJ=>K (h==1) (iV [k] 192 #[ab m] s λI w9=>J I w9)<|J (m.toList==((ao #[]).toList)) s):B 243 #[G n,ic h m a i b c d e f g L D j] w R:=
 fC (.d 3<|.j [0,3] [.s 5 .bool] .o (.e<|.j [0,3,5] [.s 6 .bool] .o (.e<|.f<|.e<|.q [3,5,6,7] [.s 8 F]))) N
def asE{d:Int}{E:M}{X I:Int}{Y:M}{a:Int}{b:Sl}{c e:Int}(o:K (d==1) (P w λk j=>∃J:h,J k/\(4+(E.size:Int))<=9223372036854775807/\(((Ka5++E).size:Int)+3)<=9223372036854775807/\sC [k] 245 #[bL X I Y a b c] j λs l=>bH J j l/\((((Ka5++E)++Kaj).size:Int)+(s.size:Int))<=9223372036854775807/\(((((Ka5++E)++Kaj)++s).size:Int)+1)<=9223372036854775807/\R (ab<|(((Ka5++E)++Kaj)++s)++(ao #[59])) l) (K (d==2) ((6+(E.size:Int))<=9223372036854775807/\(((Ka6++E).size:Int)+1)<=9223372036854775807/\P w λq p=>R (ab<|(Ka6++E)++(ao #[59])) p) (P w λi m=>∃g:h,g i/\(5+(E.size:Int))<=9223372036854775807/\(((Ka7++E).size:Int)+3)<=9223372036854775807/\sC [i] 245 #[bL X I Y a b c] m λf n=>bH g m n/\((((Ka7++E)++Kaj).size:Int)+(f.size:Int))<=9223372036854775807/\(((((Ka7++E)++Kaj)++f).size:Int)+1)<=9223372036854775807/\R (ab<|(((Ka7++E)++Kaj)++f)++(ao #[59])) n))):B 244 #[mq d E X I Y a b c e] w R:=
 ir o
def asF{x a:Int}{b:M}{c:Int}{d:Sl}{e:Int}(h:P w λk f=>nDb [k] 267 #[bL x a b c d e] f λs i g=>R (ab s) g):B 245 #[bL x a b c d e] w R:=
 ir h
def asG(s:Sl){v:Int}(R:aG)(b:av)(h:mh 0 b λJ k i w=>K (JW<|i<(s.n:Int)) (∃p0,ci s i 1 p0/\∃a,aB w p0 [.int .u8 a]/\K (v==a) (R (O U i) w) (nx k λc=>J c (ar U<|i+1) w))<|R (O U (-1)) w):B 250 #[s.v,.int .u8 v] b R:=
 fC (.e<|.f<|.e<|.q [0,1,7] [.s 8 F]) h
def v2w{c:Int}(h:R (aj<|JW<|(ar .u8<|c-48)<10) w):B 253 #[.int .u8 c] w R:=
 ir h
def v4w{l:Sl}{at_:Int}(x:zf w λa b T=>pR [a,b] 275 #[l.v,.func (.func 276) #[] #[]] T λy p=>K (((JW<|at_<0)||(JW<|at_>=(l.n:Int)))||(y !=(ar U<|(l.n:Int)-1))) (∀q,ay [b,a] p q->R (ai #[bL 0 0 (ao #[]) 0 Sl.nil 0,O U 0,zh 1 (-1)]) q)<|qv [a,b] 277 #[] p λL V=>P V λk r=>aF r k 325 [l.v,O U at_,O U 0,O U 0,O U 0,L.v]->gq [a,b] 278 #[pB k,O U 0] r λz A S C M D s=>E1 s k 325 λN F G H I Q=>P s λk3 t=>aF t k 325 [N.v,O U F,O U G,O U H,O U I,Q.v]->iV [a,b,k3] 279 #[pB k] t λv m=>E1 m k 325 λf e i c d g=>K v (o0 m λu=>aF u k 325 [f.v,O U e,O U i,O U c,O U d,g.v]->a≠b->a≠k->a≠k3->b≠k->b≠k3->k≠k3->∃J:h,J k/\vU J a/\vU J b/\∀n,ay [b,a] u n->aF n k 325 [f.v,O U e,O U i,O U c,O U d,g.v]->R (ai #[bL 0 0 (ao #[]) 0 Sl.nil 0,O U 0,zh i c]) n) (o0 m λo=>aF o k 325 [f.v,O U e,O U i,O U c,O U d,g.v]->a≠b->a≠k->a≠k3->b≠k->b≠k3->k≠k3->∃j:h,j k/\vU j a/\vU j b/\∀E,ay [b,a] o E->aF E k 325 [f.v,O U e,O U i,O U c,O U d,g.v]->R (ai #[bL z A S C M D,O U e,zh 0 0]) E)):B 255 #[l.v,O U at_] w R:=
 ir x
def asH(s:Sl)(f:OV)(R:aG)(a:av)(h:mh 0 a λJ g i w=>K (JW<|i<(s.n:Int)) (JV s i w λj=>∃k:Nat,∃z d,f.v=(.func (.func k) z.toArray d.toArray)/\(∀x:Array aw,∀b,((callFunc k x).run aq b)=(.ok (.enter k x) b))/\cB k ((Cq (Cq z [ab j]) d).toArray) w λe c=>K e (R (O U i) c)<|nx g λk3=>J k3 (ar U<|i+1) c)<|R (O U (-1)) w):B 260 #[s.v,f.v] a R:=
 fB (an:=.e<|.f<|.e<|.q [0,1,7] [.s 8 (.int .i64)]) (args:=[.sl s,.raw f]) h
def v6w{x c:Int}{d:M}{e:Int}{f:Sl}{g:Int}(t:P w λa D=>iV [a] 285 #[bL x c d e f g] D λs i=>K (!s) (R (ab<|ao #[]) i)<|qv [a] 277 #[] i λz E=>P E λk j=>aF j k 334 [ae VM,Sl.nil.v,z.v]->fW [a] 286 #[pB k,bL x c d e f g,aj aL] j λm=>SI m k 334 λW N O=>sC [a] 143 #[pB k] m λA n=>SI n k 334 λX Q S=>uJ [a] 287 #[ab A] n λF G Y H T I u J b=>SI b k 334 λq l h=>K (u !=0) (zf b λL k3 o=>aF o k 334 [ae q,l.v,h.v]->R (ab<|ao #[]) o)<|zf b λv y p=>aF p k 334 [ae q,l.v,h.v]->sC [a,v,y] 143 #[pB k] p λC r=>SI r k 334 λq3 U V=>R (ab C) r):B 262 #[bL x c d e f g] w R:=
 ir t
def aA1(h:∃l:Sl,∃a,((au 75 16 #[.mk 0 (ab Kak),.mk 1<|ab Kal,.mk 2<|ab Kaa,.mk 3<|ab Kaf,.mk 4<|ab Kam,.mk 5<|ab Kan,.mk 6<|ab Kae,.mk 7<|ab Kao,.mk 8<|ab Kap,.mk 9<|ab Kaq,.mk 10<|ab Kar,.mk 11<|ab Kad,.mk 12<|ab Kas,.mk 13<|ab Kat,.mk 14<|ab Kac,.mk 15<|ab Kab]).run aq w)=(.ok l.v a)/\R l.v a):B 263 #[] w R:=
 ir h
def aA2{c:Int}(h:R (aj<|(JW<|c>=48)&&(JW<|c<=57)) w):B 264 #[.int .u8 c] w R:=
 ir h
def asI{x a:Int}{b:M}{c:Int}{d:Sl}{e:Int}(h:P w λk g=>nDb [k] 267 #[bL x a b c d e] g λs f i=>R (aj f) i):B 265 #[bL x a b c d e] w R:=
 ir h
def asJ{x a:Int}{b:M}{c:Int}{d:Sl}{f:Int}(h:P w λk e=>R (aj<|((((x==0)&&(a==0))&&(b.toList==((ao #[]).toList)))&&(c==0))&&((d.n:Int)==0)) e):B 266 #[bL x a b c d f] w R:=
 ir h
def asK{x b:Int}{c:M}{d:Int}{e:Sl}{f:Int}(p:P w λa E=>iV [a] 288 #[bL x b c d e f] E λn i=>K (!n) (R (ai #[ab (ao #[]),aj aL]) i) (P i λk j=>aF j k 340 [Sl.nil.v]->fW [a] 289 #[pB k,bL x b c d e f] j λg=>FE g k 340 λy=>∃z:L,wE g y z/\uJ [a] 290 #[ab (ao z.toArray)] g λq r D s A t u F l=>FE l k 340 λC=>zf l λv k3 m=>aF m k 340 [C.v]->iV [a,v,k3] 291 #[bL x b c d e f,bL q r D s A t,aj aL] m λo h=>FE h k 340 λG=>K (((JW<|((ao z.toArray).size:Int)>16384)||(u !=0))||(!o)) (R (ai #[ab (ao #[]),aj aL]) h)<|R (ai #[ab (ao z.toArray),aj aE]) h)):B 267 #[bL x b c d e f] w R:=
 ir p
def asL(s:Sl)(f:OV){R:aG}(a:av)(h:mh 0 a λJ m i w=>K (JW<|i<(s.n:Int)) (Zx s i w λg n j l=>∃k:Nat,∃z d,f.v=(.func (.func k) z.toArray d.toArray)/\(∀x:Array aw,∀b,((callFunc k x).run aq b)=(.ok (.enter k x) b))/\cB k ((Cq (Cq z [oh g n j l]) d).toArray) w λe c=>K e (R (O U i) c)<|nx m λk3=>J k3 (ar U<|i+1) c)<|R (O U (-1)) w):B 275 #[s.v,f.v] a R:=
 fB (an:=.e<|.f<|.e<|.q [0,1,7] [.s 8 (.int .i64)]) (args:=[.sl s,.raw f]) h
def v3w(t:Int){a:M}(b c:Int){R:aG}(w:av)(h:P w λk d=>R (aj<|t==5) d):B 276 #[oh t a b c] w R:=
 ir h
def aA3(R:aG)(w:av)(h:∃l:Sl,∃a,((au 75 16 #[.mk 1 (ab<|ao #[43]),.mk 2<|ab<|ao #[45],.mk 3<|ab<|ao #[42],.mk 4<|ab<|ao #[47],.mk 5<|ab<|ao #[37],.mk 6<|ab<|ao #[60],.mk 7<|ab Ka8,.mk 8<|ab<|ao #[62],.mk 9<|ab Ka9,.mk 10<|ab Kba,.mk 11<|ab Kbb,.mk 12<|ab Kbc,.mk 13<|ab Kbd,.mk 14<|ab<|ao #[45],.mk 15<|ab<|ao #[33]]).run aq w)=(.ok l.v a)/\R l.v a):B 277 #[] w R:=
 ir h
def Yj{r:Addr}{k:Int}{R:aG}(q:av)(C:K (k==6) (P q λu w0=>gq [u] 299 #[G r] w0 λD H s0 I l0 L w1=>∀z,ay [u] w1 z->R (bL D H s0 I l0 L) z) (P q λd w3=>gq [d] 278 #[G r,O U<|ar U<|k+1] w3 λN Q s1 T l1 V w4=>P w4 λe w5=>pR [d,e] 300 #[G r,O U k] w5 λW w6=>∃J:Nat->Int->Int->Int->M->Int->Sl->Int->av->Prop,∃k3:Nat,J k3 W N Q s1 T l1 V w6/\∀v n a b s c,∀p:Sl,∀i w,J v n a b s c p i w->K (n !=0) (gF w ((r.add 0).add 1) λf=>sT ((r.add 0).add 1) w 1 λo X z0 Y=>d≠o/\e≠o/\sS w o X z0 Y [O U (ar U<|f+1)] λw8=>gq [d,e] 278 #[G r,O U<|ar U<|k+1] w8 λg h s3 j l3 l w9=>P w9 λx t=>Qw 72 (bL a b s c p i) (bL g h s3 j l3 l) t λl4 E=>bX [d,e,x] t E/\∀y,ay [e] E y->pR [d,e,x] 300 #[G r,O U k] y λm A=>nx v λZ=>J Z m 5 0 (ao #[]) n l4 i A) (∀S,ay [d] w S->R (bL a b s c p i) S))):B 278 #[G r,O U k] q R:=
 fC (.d 3<|.f<|.e<|.q [0,1,4,5] [.s 6 F,.b 5 [F,F,.str,F,.sl,F]]) C
def v7w{c:Addr}{R:aG}(w:av)(h:gF w ((c.add 2).add 0) λi=>R (aj<|i !=0) w):B 279 #[G c] w R:=
 ir h
def aA4{x d:Int}{e:M}{c:Int}{i:Sl}{a:Int}(D:zf w λf k g=>∃J:Int->Int->Int->M->Int->Sl->Int->av->Prop,(∀n G o s p,∀L:Sl,∀H h,J n G o s p L H h->lJ (λy N=>R (aj y) N) λj=>K ((((d==o)&&(e.toList==s.toList))&&(c==p))&&((i.n:Int)==n)) (iV [f,k] 306 #[i.v,.func (.func 307) #[] #[]] h λz P=>j (!z) P)<|j aL h)/\K (x==1) (∀q,ay [k] g q->J 0 x (if 0>d then 0 else d) (ao #[]) 0 Sl.nil a q) (lJ (λA b=>K A (iV [f,k] 185 #[ab e] b λC r=>K (!C) (R (aj aL) r) (∀t,ay [k] r t->J 0 x 0 e 0 Sl.nil a t))<|K (x==4) (K (c==15) (∀u,ay [k] b u->J 1 x 0 (ao #[]) 15 Sl.nil a u) (∀v,ay [k] b v->J 1 x 0 (ao #[]) 14 Sl.nil a v))<|K (x==5) (pR [f,k] 305 #[O U c] b λI m=>K (I==6) (R (aj aL) m) (∀E,ay [k] m E->J 2 x 0 (ao #[]) c Sl.nil a E))<|R (aj aL) b) λl=>K (x==2) (l (x==2) g)<|l (x==3) g)):B 285 #[bL x d e c i a] w R:=
 fC (.d 3<|.j [1,3] [.s 4 F,.b 3 [F,F,.str,F,.sl,F]] (.d 3<|.q [1,3,4,11] [.s 18 .bool]) (.f<|.q [1,3] [.s 2 .bool])) D
def aA5(p:Addr)(x o:Int)(b:M)(d:Int)(a:Sl)(x5:Int)(wrapped:C)(R:aG)(By:av)(BV:P By λk w0=>pR [k] 191 #[G (p.add 0)] w0 λi0 g=>K (JW<|i0>16384) (R (ai #[]) g)<|K wrapped (rVs [k] 308 #[G (p.add 0),.int .u8 40] g λv0 s=>K (x==1) (o0 s λw3=>sC [k] 140 #[O U o] w3 λs0 w4=>uf [k] 182 #[G (p.add 0),ab s0] w4 λi1 v1 w5=>nV aq 308 #[G (p.add 0),.int .u8 41] w5<|λx0 w6=>R (ai #[]) w6)<|K (x==2) (o0 s λw7=>uf [k] 182 #[G (p.add 0),ab b] w7 λi2 v2 w8=>nV aq 308 #[G (p.add 0),.int .u8 41] w8<|λo w9=>R (ai #[]) w9)<|K (x==3) ((3+(b.size:Int))<=9223372036854775807/\(((Kbe++b).size:Int)+1)<=9223372036854775807/\o0 s λdh=>uf [k] 182 #[G (p.add 0),ab<|(Kbe++b)++(ao #[41])] dh λi3 v3 dE=>nV aq 308 #[G (p.add 0),.int .u8 41] dE<|λb ey=>R (ai #[]) ey)<|K (x==4) (o0 s λH=>iZ H (p.add 2) λl0=>JV l0 d H λs1=>uf [k] 182 #[G (p.add 0),ab s1] H λi4 v4 fS=>o0 fS λE=>∃J:h,J k/\∃p1,ci a 0 6 p1/\J p1.block/\kH E p1 λi5 i6 s2 i7 l1 i8=>kJ a 0 E λi9 I s3 N l2 Q=>pR [k] 309 #[bL i9 I s3 N l2 Q] E λT iA=>bH J E iA/\fW [k] 286 #[G p,bL i5 i6 s2 i7 l1 i8,aj<|JW<|T<6] iA λfV=>bH J iA fV/\nV aq 308 #[G (p.add 0),.int .u8 41] fV (λd iW=>R (ai #[]) iW)) (pR [k] 309 #[bL x o b d a x5] s λq kf=>o0 kf λF=>∃y:h,y k/\∃p3,ci a 0 6 p3/\y p3.block/\kH F p3 λV W s4 Y l3 Z=>kJ a 0 F λam aC s5 aS l4 aT=>pR [k] 309 #[bL am aC s5 aS l4 aT] F λbv ky=>bH y F ky/\fW [k] 286 #[G p,bL V W s4 Y l3 Z,aj<|JW<|bv<q] ky λnK=>bH y ky nK/\o0 nK λnL=>iZ nL (p.add 2) λl5=>JV l5 d nL λs6=>(1+(s6.size:Int))<=9223372036854775807/\((((ao #[32])++s6).size:Int)+1)<=9223372036854775807/\uf [k] 182 #[G (p.add 0),ab<|((ao #[32])++s6)++(ao #[32])] nL λBY v5 pe=>o0 pe λS=>∃z:h,z k/\∃p6,ci a 1 6 p6/\z p6.block/\kH S p6 λbV bY s7 cc l6 ce=>kJ a 1 S λco cC s8 dO l7 el=>pR [k] 309 #[bL co cC s8 dO l7 el] S λeQ qj=>bH z S qj/\fW [k] 286 #[G p,bL bV bY s7 cc l6 ce,aj<|JW<|eQ<=q] qj λvw=>bH z qj vw/\nV aq 308 #[G (p.add 0),.int .u8 41] vw (λa xn=>R (ai #[]) xn)))<|K (x==1) (o0 g λB3=>sC [k] 140 #[O U o] B3 λs9 L2=>uf [k] 182 #[G (p.add 0),ab s9] L2 λCc v6 PK=>R (ai #[]) PK)<|K (x==2) (o0 g λVl=>uf [k] 182 #[G (p.add 0),ab b] Vl λCC gz Xh=>R (ai #[]) Xh)<|K (x==3) ((3+(b.size:Int))<=9223372036854775807/\(((Kbe++b).size:Int)+1)<=9223372036854775807/\o0 g λAs=>uf [k] 182 #[G (p.add 0),ab<|(Kbe++b)++(ao #[41])] As λDo k8 AC=>R (ai #[]) AC)<|K (x==4) (o0 g λi=>iZ i (p.add 2) λl8=>JV l8 d i λI8=>uf [k] 182 #[G (p.add 0),ab I8] i λDO v9 AS=>o0 AS λw=>∃J3:h,J3 k/\∃p9,ci a 0 6 p9/\J3 p9.block/\kH w p9 λfd gE I9 gG l9 gO=>kJ a 0 w λgT g8 O5 g9 ut ip=>pR [k] 309 #[bL gT g8 O5 g9 ut ip] w λiD j=>bH J3 w j/\fW [k] 286 #[G p,bL fd gE I9 gG l9 gO,aj<|JW<|iD<6] j λt=>bH J3 j t/\R (ai #[]) t) (pR [k] 309 #[bL x o b d a x5] g λr AT=>o0 AT λX=>∃A:h,A k/\∃e,ci a 0 6 e/\A e.block/\kH X e λiF iN ff iS qh ld=>kJ a 0 X λlE lT bJ mt rn mK=>pR [k] 309 #[bL lE lT bJ mt rn mK] X λnO l=>bH A X l/\fW [k] 286 #[G p,bL iF iN ff iS qh ld,aj<|JW<|nO<r] l λu=>bH A l u/\o0 u λm=>iZ m (p.add 2) λur=>JV ur d m λL=>(1+(L.size:Int))<=9223372036854775807/\((((ao #[32])++L).size:Int)+1)<=9223372036854775807/\uf [k] 182 #[G (p.add 0),ab<|((ao #[32])++L)++(ao #[32])] m λEQ Fd Bv=>o0 Bv λc=>∃D:h,D k/\∃f,ci a 1 6 f/\D f.block/\kH c f λn8 oF uP oN yi oR=>kJ a 1 c λpi pm wd pP AG rx=>pR [k] 309 #[bL pi pm wd pP AG rx] c λtO n=>bH D c n/\fW [k] 286 #[G p,bL n8 oF uP oN yi oR,aj<|JW<|tO<=r] n λv=>bH D n v/\R (ai #[]) v)):B 286 #[G p,bL x o b d a x5,aj wrapped] By R:=
 ir BV
def v5w{s:M}(R:aG)(q:av)(A:zf q λk a S=>Cw [k,a] 89 #[ab s] S λl n C r=>K (n !=0) (P r λj T=>k≠a->k≠j->a≠j->∃J:h,J j/\vU J k/\vU J a/\∀t,ay [a,k] T t->R (ai #[bL 0 0 (ao #[]) 0 Sl.nil 0,zh n C]) t) (P r λk3 V=>oJ [k,a,k3] 255 #[l.v,O U 0] V λD G Q H N I o d L u=>∀b w,u.heap.size<=b->b<w.heap.size->ay [k3] u w->Mg (λg i v=>K (g !=0) (o0 v λW=>k≠a->k≠k3->k≠b->a≠k3->a≠b->k3≠b->∃e:h,e k3/\vU e k/\vU e a/\∀x,ay [a,k] W x->R (ai #[bL 0 0 (ao #[]) 0 Sl.nil 0,zh g i]) x) (o0 v λz=>k≠a->k≠k3->k≠b->a≠k3->a≠b->k3≠b->∃J3:h,J3 k3/\vU J3 k/\vU J3 a/\∀E,ay [a,k] z E->R (ai #[bL D G Q H N I,zh g i]) E)) λm=>∃p0,((d==0)=aE->ci l o 4 p0)/\∃c,((d==0)=aE->aB w (p0.add 0) [O U c])/\K ((d==0)&&(c !=5)) (∃p,ci l o 4 p/\gF w (p.add 3) λf=>∀y,ay [k3] w y->m 4 f y) (m d L w))):B 287 #[ab s] q R:=
 fC (.d 4<|.q [2,3,5,6] [.b 5 [F,F]]) A
def asN{x b:Int}{c:M}{d:Int}{a:Sl}{l:Int}(r:P w λk D=>mh 0 D λm z i f=>K (JW<|i<(a.n:Int)) (kJ a i f λs t C u A v=>iV [k] 288 #[bL s t C u A v] f λn j=>K (!n) (R (aj aL) j)<|nx z λk3=>m k3 (ar U<|i+1) j)<|iV [k] 192 #[ab c] f λo g=>K (x==1) (R (aj<|(((JW<|b>=0)&&(c.toList==((ao #[]).toList)))&&(d==0))&&((a.n:Int)==0)) g)<|lJ (λp e=>K p (R (aj<|(((b==0)&&o)&&(d==0))&&((a.n:Int)==0)) e)<|K (x==4) (R (aj<|(((b==0)&&(c.toList==((ao #[]).toList)))&&((d==14)||(d==15)))&&((a.n:Int)==1)) e)<|K (x==5) (lJ (λq E=>R (aj q) E) λh=>K ((b==0)&&(c.toList==((ao #[]).toList))) (pR [k] 310 #[bL x b c d a l] e λy G=>h ((JW<|y<6)&&((a.n:Int)==2)) G)<|h aL e)<|R (aj aL) e) λJ=>K (x==2) (J (x==2) g)<|J (x==3) g):B 288 #[bL x b c d a l] w R:=
 fC (.e<|.s (.e<|.q [1] [.s 3 F])<|.d 2<|.f<|.d 3<|.j [1,5,6,29] [.s 49 .bool] .o (.d 4<|.f<|.f<|.q [1] [.s 2 .bool])) r
def asO(p:Addr)(x S:Int)(b:M)(f:Int)(a:Sl)(x5:Int)(R:aG)(am:av)(aC:P am λk w=>iZ w (p.add 0) λl0=>K (JW<|(l0.n:Int)>16384) (R (ai #[]) w)<|K (x==1) (sC [k] 149 #[O U S] w λs0 w1=>fW [k] 311 #[G p,ab s0] w1 λw2=>R (ai #[]) w2)<|K (x==2) (fW [k] 311 #[G p,ab b] w λw3=>R (ai #[]) w3)<|K (x==3) ((3+(b.size:Int))<=9223372036854775807/\(((Kbe++b).size:Int)+1)<=9223372036854775807/\fW [k] 311 #[G p,ab<|(Kbe++b)++(ao #[41])] w λw4=>R (ai #[]) w4)<|K (x==4) (yH (λw5=>∃p0,ci a 0 6 p0/\o0 w5 λQ=>kH Q p0 λi0 i1 s1 i2 l1 i3=>∃p1,ci a 0 6 p1/\gF Q (p1.add 0) λi4=>fW [k] 312 #[G p,bL i0 i1 s1 i2 l1 i3,aj<|i4==5] Q λw7=>R (ai #[]) w7) λT=>K (f==14) (fW [k] 311 #[G p,ab<|ao #[45]] w λw8=>T w8)<|fW [k] 311 #[G p,ab<|ao #[33]] w λw9=>T w9)<|K (x==5) (pR [k] 310 #[bL x S b f a x5] w λd dh=>qv [k] 313 #[] dh λl2 V=>SJ l2 d V λY=>o0 V λe=>∃J:h,J k/\∃I,ci a 0 6 I/\J I.block/\kH e I λi6 i7 s2 i8 l4 i9=>kJ a 0 e λl m s3 n l5 o=>pR [k] 310 #[bL l m s3 n l5 o] e λq j=>bH J e j/\fW [k] 312 #[G p,bL i6 i7 s2 i8 l4 i9,aj<|JW<|q<d] j λX=>bH J j X/\mh 0 X λJ2 k2 i g=>K (JW<|i<(Y.n:Int)) (yH (λiA=>nx k2 λk3=>J2 k3 (ar U<|i+1) iA) λJ3=>xj Y i g λr=>K (r==f) (o0 g λfV=>qv [k] 314 #[] fV λl6 W=>SJ l6 d W λl7=>JV l7 i W λN=>(1+(N.size:Int))<=9223372036854775807/\((((ao #[32])++N).size:Int)+1)<=9223372036854775807/\fW [k] 311 #[G p,ab<|((ao #[32])++N)++(ao #[32])] W λkf=>J3 kf)<|o0 g λje=>J3 je) (o0 g λy=>∃c:h,c k/\∃L,ci a 1 6 L/\c L.block/\kH y L λs t s5 u l8 v=>kJ a 1 y λz A s6 C l9 D=>pR [k] 310 #[bL z A s6 C l9 D] y λE H=>bH c y H/\fW [k] 312 #[G p,bL s t s5 u l8 v,aj<|JW<|E<=d] H λZ=>bH c H Z/\R (ai #[]) Z))<|R (ai #[]) w):B 289 #[G p,bL x S b f a x5] am R:=
 fC (.d 10<|.s (.q [0,3] [])<|.e<|.f<|.d 3<|.f<|.e<|.r [0,3,4,5] [.s 6 F] (.e<|.q [0,3,4,5,6] [])) aC
def asP{s:M}(y:zf w λk a N=>Cw [k,a] 315 #[ab s] N λl o z t=>K (o !=0) (P t λj Q=>k≠a->k≠j->a≠j->∃J:h,J j/\vU J k/\vU J a/\∀u,ay [a,k] Q u->R (ai #[bL 0 0 (ao #[]) 0 Sl.nil 0,zh o z]) u)<|P t λk3 S=>oJ [k,a,k3] 316 #[l.v,O U 0] S λA C L D I F q r G e=>K (r !=0) (∀b m,e.heap.size<=b->b<m.heap.size->ay [k3] e m->k≠a->k≠k3->k≠b->a≠k3->a≠b->k3≠b->∃f:h,f k3/\vU f k/\vU f a/\∀v,ay [a,k] m v->R (ai #[bL 0 0 (ao #[]) 0 Sl.nil 0,zh r G]) v) (∃p0,ci l q 4 p0/\∀c d,e.heap.size<=c->c<d.heap.size->ay [k3] e d->gF d (p0.add 0) λH=>K (H !=5) (o0 d λx=>k≠a->k≠k3->k≠c->a≠k3->a≠c->k3≠c->∃g:h,∃p,ci l q 4 p/\g ((p.add 3).block)/\gF x (p.add 3) λi=>vU g k/\vU g a/\∀n,ay [a,k] x n->R (ai #[bL 0 0 (ao #[]) 0 Sl.nil 0,zh 4 i]) n) (∀E,ay [a,k] d E->R (ai #[bL A C L D I F,zh 0 0]) E))):B 290 #[ab s] w R:=
 ir y
def asQ{h E:Int}{X:M}{I:Int}{Y:Sl}{a j c:Int}{d:M}{e:Int}{b:Sl}{f:Int}{at_:C}(o:zf w λy z k=>K ((((((h !=j)||(E !=c))||(!(X.toList==d.toList)))||(I !=e))||(at_&&(a !=f)))||((Y.n:Int) !=(b.n:Int))) (R (aj aL) k)<|mh 0 k λJ k3 i l=>K (JW<|i<(Y.n:Int)) (∃p0,ci Y i 6 p0/\o0 l λg=>kH g p0 λp q H r D s=>kJ b i g λt u L v G x=>iV [y,z] 291 #[bL p q H r D s,bL t u L v G x,aj at_] g λn m=>K (!n) (R (aj aL) m)<|nx k3 λA=>J A (ar U<|i+1) m)<|R (aj aE) l):B 291 #[bL h E X I Y a,bL j c d e b f,aj at_] w R:=
 fC (.d 2<|.f<|.e<|.q [2,3,4] [.s 7 F]) o
def aA6(r:Addr)(R:aG)(am:av)(aC:zf am λa k w0=>xB [a,k] 320 #[G (r.add 0)] w0 λq I i1 i w1=>zf w1 λb k3 w2=>∃J:Option Addr->Int->Int->M->Int->Sl->Int->Int->Int->M->Int->Sl->Int->av->Prop,(∀H i3 i4 s1 i5,∀l0:Sl,∀i6 Y Z s2 i9,∀l1:Sl,∀c w,J H i3 i4 s1 i5 l0 i6 Y Z s2 i9 l1 c w->∃p0,H=(aM p0)/\gF w ((p0.add 0).add 1) λs=>∃p1,H=(aM p1)/\sT ((p1.add 0).add 1) w 1 λl k5 z0 k6=>a≠l/\k≠l/\b≠l/\k3≠l/\sS w l k5 z0 k6 [O U (ar U<|s+1)] λw4=>∀w5,ay [k] w4 w5->R (bL Y Z s2 i9 l1 c) w5)/\iV [a,k,b,k3] 279 #[G (r.add 0)] w2 λb0 L=>K b0 (∀w7,ay [k] L w7->R (bL 0 0 (ao #[]) 0 Sl.nil i) w7)<|Qw 75 (ab<|ao #[45]) (ab<|ao #[33]) L λl2 w8=>bX [a,k,b,k3] L w8/\iV [a,k,b,k3] 321 #[G (r.add 0),l2.v] w8 λb1 N=>K b1 (∀p,ay [k3] N p->∃n:Int->Int->M->Int->Sl->Int->av->Prop,(∀d e s3 g,∀l3:Sl,∀j S,n d e s3 g l3 j S->gq [a,k,b,k3] 322 #[G r,.func (.func 299) #[G r] #[]] S λt u s4 v l4 x T=>lc 72 (bL t u s4 v l4 x) T λl5 W=>bX [a,k,b,k3] T W/\∀V,ay [k,k3] W V->R (bL d e s3 g l5 j) V)/\K (I.toList==((ao #[33]).toList)) (∀X,ay [k3] p X->n 4 0 (ao #[]) 15 Sl.nil i X) (n 4 0 (ao #[]) 14 Sl.nil i p))<|lc 75 (ab<|ao #[40]) N λl6 iA=>bX [a,k,b,k3] N iA/\iV [a,k,b,k3] 321 #[G (r.add 0),l6.v] iA λb2 f=>K b2 (aF f a 321 [G r]->k≠a->b≠a->k3≠a->gq [k,b,k3] 322 #[G r,.func (.func 323) #[] #[pB a]] f λy z s5 A l7 C iW=>Qx iW a 321 λq1=>∀E,ay [k] iW E->aF E a 321 [ae q1]->R (bL y z s5 A l7 C) E)<|K (q==3) (o0 f λje=>a≠k->a≠b->a≠k3->k≠b->k≠k3->b≠k3->∃o:h,o b/\vU o k3/\vU o k3/\∀ky,ay [k3] je ky->J (aM r) 0 0 (ao #[]) 0 Sl.nil 0 1 i1 (ao #[]) 0 Sl.nil i ky)<|K (q==1) (o0 f λnK=>a≠k->a≠b->a≠k3->k≠b->k≠k3->b≠k3->∃J3:h,J3 b/\vU J3 k3/\vU J3 k3/\∀nL,ay [k3] nK nL->J (aM r) 0 0 (ao #[]) 0 Sl.nil 0 2 0 I 0 Sl.nil i nL)<|K ((q==2)&&(I.toList==(Kao.toList))) (gF f ((r.add 0).add 1) λD=>sT ((r.add 0).add 1) f 1 λm k8 z1 k9=>a≠m/\k≠m/\b≠m/\k3≠m/\sS f m k8 z1 k9 [O U (ar U<|D+1)] λpe=>fW [a,k,b,k3] 324 #[G (r.add 0),ab<|ao #[40]] pe λlS=>sC [a,k,b,k3] 325 #[G r] lS λs6 qj=>∀vw,ay [k3] qj vw->fW [a,k,b,k3] 324 #[G (r.add 0),ab<|ao #[41]] vw λxn=>∀P,ay [k] xn P->R (bL 3 0 s6 0 Sl.nil i) P) (fW [a,k,b,k3] 326 #[G (r.add 0)] f λL2=>∀Q,ay [k] L2 Q->R (bL 0 0 (ao #[]) 0 Sl.nil i) Q)):B 299 #[G r] am R:=
 fC (.d 3<|.r [1,2,3,4] [.b 1 [.ptr],.b 2 [F,F,.str,F,.sl,F],.b 4 [F,F,.str,F,.sl,F]] (.d 3<|.f<|.e<|.q [1,2,3,4] [.b 4 [F,F,.str,F,.sl,F]])) aC
def aA7{r:Addr}{k:Int}(h:mh 1 w λd j i b=>K (JW<|i<=13) (lJ (λe c=>K e (R (O U i) c)<|nx j λl=>d l (ar U<|i+1) c) λJ=>o0 b λo=>cI 305 #[O U i] o λg a=>K (g==k) (iZ a (r.add 5) λm=>JV m i a λs=>lc 75 (ab s) a λn p=>cB 321 #[G (r.add 0),n.v] p λf q=>J f q)<|J aL a)<|R (O U 0) b):B 300 #[G r,O U k] w R:=
 fC (.e<|.f<|.e<|.r [0,1] [.s 5 F] (.e<|.f<|.f<|.q [0,1,5] [.s 27 .bool])) h
def aA8{op:Int}(h:K ((JW<|op>=3)&&(JW<|op<=5)) (R (O U 5) w) (lJ (λd a=>K d (R (O U 4) a)<|K ((JW<|op>=6)&&(JW<|op<=9)) (R (O U 3) a)<|lJ (λe b=>K e (R (O U 2) b)<|K (op==12) (R (O U 1) b)<|K (op==13) (R (O U 0) b)<|R (O U 6) b) λc=>K (op==10) (c (op==10) a)<|c (op==11) a) λJ=>K (op==1) (J (op==1) w)<|J (op==2) w)):B 305 #[O U op] w R:=
 fC (.e<|.f<|.d 2<|.j [0] [.s 10 .bool] .o (.d 3<|.q [0] [.s 22 .bool])) h
def asR(s:Sl)(f:OV){R:aG}(w:av)(h:cI 329 #[s.v,f.v] w λi a=>R (aj<|JW<|i>=0) a):B 306 #[s.v,f.v] w R:=
 fB (an:=.o) (args:=[.sl s,.raw f]) h
def aA9{e s:Int}{a:M}{b:Int}{c:Sl}{d:Int}(h:P w λk g=>iV [k] 285 #[bL e s a b c d] g λf i=>R (aj<|!f) i):B 307 #[bL e s a b c d] w R:=
 ir h
def ZG(b:Addr)(c:Int)(R:aG)(h:av):Prop:=
 cU 229 #[G b] h λw=>iZ w (b.add 1) λl=>lc 204 (.int .u8 c) w λf i=>Ek 204 l f i λg a=>sT (b.add 1) a 1 λk d z e=>sS a k d z e [g.v] λj=>R .nilIface j
def asS{b:Addr}{c:Int}{R:aG}(w:av)(h:ZG b c R w):B 308 #[G b,.int .u8 c] w R:=
 ir h
def ahP{b:Addr}{c:Int}{R:aG}(w:av)(h:ZG b c R w):nV aq 308 #[G b,.int .u8 c] w R:=
 aqt (an:=.o) (args:=[.ad b,.int .u8 c]) checked.mixed D D h
def aBa{x e:Int}{f:M}{a:Int}{g:Sl}{j:Int}(h:K (x !=5) (P w λl b=>R (O U 6) b) (P w λk c=>pR [k] 305 #[O U a] c λi d=>R (O U i) d)):B 309 #[bL x e f a g j] w R:=
 ir h
def asT{x u:Int}{v:M}{d:Int}{y:Sl}{z:Int}(h:P w λk q=>qv [k] 313 #[] q λl r=>mh 0 r λJ g i c=>K ((JW<|i<6)&&(x==5)) (mh 0 c λe j b a=>SJ l i a λo=>K (JW<|b<(o.n:Int)) (SJ l i a λp=>xj p b a λf=>K (f==d) (o0 a λs=>R (O U i) s)<|o0 a λt=>nx j λm=>e m (ar U<|b+1) t)<|nx g λn=>J n (ar U<|i+1) a)<|R (O U 6) c):B 310 #[bL x u v d y z] w R:=
 fC (.d 2<|.f<|.e<|.r [1,3] [.s 4 F] (.e<|.f<|.e<|.q [1,3,4] [.s 5 F])) h
def asU{p:Addr}{s:M}(h:iZ w (p.add 0) λd=>K (JW<|(d.n:Int)<=16384) (iZ w (p.add 0) λe=>∃l:Sl,∃a,((Builtin.append_ #[204,9] 204 #[e.v,ab s]).run aq w)=(.ok l.v a)/\sT (p.add 0) a 1 λk b z c=>sS a k b z c [l.v] λf=>R (ai #[]) f)<|R (ai #[]) w):B 311 #[G p,ab s] w R:=
 ir h
def asV{p:Addr}{x c:Int}{d:M}{e:Int}{f:Sl}{g:Int}{i:C}(h:P w λk a=>yH (λj=>fW [k] 289 #[G p,bL x c d e f g] j λb=>K i (fW [k] 311 #[G p,ab<|ao #[41]] b λl=>R (ai #[]) l)<|R (ai #[]) b) λJ=>K i (fW [k] 311 #[G p,ab<|ao #[40]] a λm=>J m)<|J a):B 312 #[G p,bL x c d e f g,aj i] w R:=
 fC (.e<|.q [0,2,4] []) h
def asW(h:∃l:Sl,∃a,((au 31 1 #[.mk 0 (O U 13)]).run aq w)=(.ok l.v a)/\lc 31 (O U 12) a λb i=>Qw 31 (O U 10) (O U 11) i λc j=>Zl 31 (O U 6) (O U 7) (O U 8) (O U 9) j λd k=>Qw 31 (O U 1) (O U 2) k λe m=>Cv 31 (O U 3) (O U 4) (O U 5) m λf n=>LR (au 49 6 #[.mk 0 l.v,.mk 1 b.v,.mk 2 c.v,.mk 3 d.v,.mk 4 e.v,.mk 5 f.v]) n λg o=>R g.v o):B 313 #[] w R:=
 ir h
def asX(h:∃l:Sl,∃a,((au 75 1 #[.mk 0 (ab Kbd)]).run aq w)=(.ok l.v a)/\lc 75 (ab Kbc) a λb i=>Qw 75 (ab Kba) (ab Kbb) i λc j=>Zl 75 (ab<|ao #[60]) (ab Ka8) (ab<|ao #[62]) (ab Ka9) j λd k=>Qw 75 (ab<|ao #[43]) (ab<|ao #[45]) k λe m=>Cv 75 (ab<|ao #[42]) (ab<|ao #[47]) (ab<|ao #[37]) m λf n=>LR (au 358 6 #[.mk 0 l.v,.mk 1 b.v,.mk 2 c.v,.mk 3 d.v,.mk 4 e.v,.mk 5 f.v]) n λg o=>R g.v o):B 314 #[] w R:=
 ir h
def Yk(s:M)(R:aG)(w:av):Prop:=
 K (JW<|(s.size:Int)>16384) (P w λe b=>R (ai #[Sl.nil.v,zh 2 (-1)]) b) (P w λk c=>pR [k] 330 #[ab s,O U 0] c λi d=>∃J:Nat->Sl->Int->Int->Int->av->Prop,∃a:Nat,J a Sl.nil i 0 0 d/\
  ∀k3,∀l:Sl,∀f o p g,J k3 l f o p g->K (JW<|f<(s.size:Int)) (aed [k] 331 #[ab s,O U f] g λu F v x z q j=>K (q !=0) (∀A m,aRd j m A<|ay [k] j m->R (ai #[Sl.nil.v,zh q f]) m) (P j λh r=>lc 148 (oh u F v x) r λB t=>bX [k,h] r t/\
   mO [k,h] 148 l B t λI L=>pR [k,h] 330 #[ab s,O U<|ar U<|f+z] L λG N=>nx k3 λH=>J H I G o p N)) (lc 148 (oh 5 (ao #[]) 0 (s.size:Int)) g λC n=>bX [k] g n/\
  mO [k] 148 l C n λD E=>∀y,ay [k] E y->R (ai #[D.v,zh 0 0]) y))
def aBb{s:M}(h:Yk s R w):B 315 #[ab s] w R:=
 fC (.d 4<|.f<|.q [0,3] [.s 4 .sl,.s 5 F,.b 3 [F,F]]) h
def asZ(l:Sl)(at_:Int)(R:aG)(q:av)(N:K ((JW<|at_<0)||(JW<|at_>=(l.n:Int))) (zf q λk0 k1 Z=>R (ai #[bL 0 0 (ao #[]) 0 Sl.nil 0,O U 0,zh 1 (-1)]) Z) (zf q λa k3 w1=>∃J:Nat->Int->Int->Int->M->Int->Sl->Int->Int->Int->av->Prop,∃V:Nat,J V 0 0 0 (ao #[]) 0 Sl.nil 0 0 0 w1/\∀C e u v E x,∀D:Sl,∀y z A w,J C e u v E x D y z A w->K (JW<|e<(l.n:Int)) (∃p0,ci l e 4 p0/\gF w (p0.add 0) λQ=>K (!((Q==5)==(e==(ar U<|(l.n:Int)-1)))) (∀G,ay [k3,a] w G->R (ai #[bL 0 0 (ao #[]) 0 Sl.nil 0,O U 0,zh 1 (-1)]) G)<|nx C λW=>J W (ar U<|e+1) u v E x D y z A w) (P w λk H=>aF H k 372 [l.v,O U at_,O U 0,O U 0,O U 0]->gq [a,k3] 332 #[pB k,O U 0] H λS T Y m X n r=>afD r k 372 λf b d i c=>K (i !=0) (P r λo I=>aF I k 372 [f.v,O U b,O U d,O U i,O U c]->a≠k3->a≠k->a≠o->k3≠k->k3≠o->k≠o->∃g:h,g k/\vU g a/\vU g k3/\∀s,ay [k3,a] I s->aF s k 372 [f.v,O U b,O U d,O U i,O U c]->R (ai #[bL 0 0 (ao #[]) 0 Sl.nil 0,O U 0,zh i c]) s) (P r λp L=>aF L k 372 [f.v,O U b,O U d,O U i,O U c]->a≠k3->a≠k->a≠p->k3≠k->k3≠p->k≠p->∃j:h,j k/\vU j a/\vU j k3/\∀t,ay [k3,a] L t->aF t k 372 [f.v,O U b,O U d,O U i,O U c]->R (ai #[bL S T Y m X n,O U b,zh 0 0]) t)))):B 316 #[l.v,O U at_] q R:=
 fC (.d 2<|.f<|.e<|.q [0,1,4,6] [.s 7 F,.b 4 [F,F,.str,F,.sl,F],.b 6 [F,F]]) N
def aBc{c:Addr}(h:P w λk a=>iZ a (c.add 0) λl=>gF a (c.add 1) λi=>Zx l i a λd s e f=>∀b,ay [k] a b->R (oh d s e f) b):B 320 #[G c] w R:=
 ir h
def v8w{c:Addr}{a:Sl}(h:A6 320 #[G c] w λi s n o g=>P g λk j=>lJ (λd l=>R (aj d) l) λJ=>iV [k] 279 #[G c] j λe b=>K ((!e)&&(i==4)) (iV [k] 222 #[a.v,ab s] b λf m=>J f m)<|J aL b):B 321 #[G c,a.v] w R:=
 fC (.d 2<|.f<|.q [5] [.s 4 .bool]) h
def aBd(r:Addr)(read:OV)(R:aG)(g:av)(m:P g λk w=>gF w (r.add 4) λn=>K (n==20) (fW [k] 333 #[G (r.add 0),O U 21] w λI=>∀h,ay [k] I h->R (bL 0 0 (ao #[]) 0 Sl.nil 0) h) (gF w ((r.add 0).add 1) λo=>sT ((r.add 0).add 1) w 1 λe y N k3=>k≠e/\sS w e y N k3 [O U (ar U<|o+1)] λc=>gF c (r.add 4) λp=>sT (r.add 4) c 1 λf A Q C=>k≠f/\sS c f A Q C [O U (ar U<|p+1)] λJ=>∃a:Nat,∃z l,read.v=(.func (.func a) z.toArray l.toArray)/\(∀x:Array aw,∀i,((callFunc a x).run aq i)=(.ok (.enter a x) i))/\gq [k] a ((Cq (Cq z []) l).toArray) J λq s H t E u L=>P L λD d=>gF d (r.add 4) λv=>sT (r.add 4) d 1 λb S T F=>k≠b/\D≠b/\sS d b S T F [O U (ar U<|v-1)] λM=>∀j,ay [k] M j->R (bL q s H t E u) j)):B 322 #[G r,read.v] g R:=
 fB (an:=.o) (args:=[.ad r,.raw read]) m
def aBe(g:Addr){R:aG}(w:av)(h:P w λk a=>MX a g λq=>gq [k] 278 #[ae q,O U 0] a λi d s e l f n=>P n λj b=>MX b g λm=>∃p0,m=(aM p0)/\fW [k,j] 324 #[G (p0.add 0),ab<|ao #[41]] b λo=>∀c,ay [k] o c->R (bL i d s e l f) c):B 323 #[G g] w R:=
 ir h
def v9w{c:Addr}{sign:M}(h:∃l:Sl,∃b,((au 75 1 #[.mk 0 (ab sign)]).run aq w)=(.ok l.v b)/\cB 321 #[G c,l.v] b λd a=>K (!d) (cU 326 #[G c] a λg=>R (ai #[]) g)<|gF a (c.add 1) λi=>sT (c.add 1) a 1 λk e z f=>sS a k e z f [O U (ar U<|i+1)] λj=>R (ai #[]) j):B 324 #[G c,ab sign] w R:=
 ir h
def aBf(r:Addr)(R:aG)(b:av)(h:A6 320 #[G (r.add 0)] b λi s m n f=>P f λk g=>iV [k] 279 #[G (r.add 0)] g λc w=>K (c||(i !=1)) (fW [k] 326 #[G (r.add 0)] w λj=>R (ab<|ao #[]) j)<|gF w ((r.add 0).add 1) λd=>sT ((r.add 0).add 1) w 1 λa e z k3=>k≠a/\sS w a e z k3 [O U (ar U<|d+1)] λl=>R (ab s) l):B 325 #[G r] b R:=
 ir h
def aBg{c:Addr}(h:yH (λb=>cU 333 #[G c,O U 4] b λd=>R (ai #[]) d) λJ=>A6 320 #[G c] w λi s f g a=>K (i==5) (cU 333 #[G c,O U 3] a λe=>J e)<|J a):B 326 #[G c] w R:=
 fC (.q [0] []) h
def as0(s:Sl)(f:OV)(R:aG)(a:av)(h:mh 0 a λJ n i w=>K (JW<|i<(s.n:Int)) (kJ s i w λg j p l o m=>∃k:Nat,∃z d,f.v=(.func (.func k) z.toArray d.toArray)/\(∀x:Array aw,∀b,((callFunc k x).run aq b)=(.ok (.enter k x) b))/\cB k ((Cq (Cq z [bL g j p l o m]) d).toArray) w λe c=>K e (R (O U i) c)<|nx n λk3=>J k3 (ar U<|i+1) c)<|R (O U (-1)) w):B 329 #[s.v,f.v] a R:=
 fB (an:=.e<|.f<|.e<|.q [0,1,7] [.s 8 (.int .i64)]) (args:=[.sl s,.raw f]) h
def Ye(s:M)(at_:Int)(R:aG)(c:av):Prop:=
 lJ (λb d=>R (O U b) d) λJ=>mh at_ c λa k i w=>K (JW<|i<(s.size:Int)) (∃c0:UInt8,(0<=i/\
   (s[Int.toNat i]?)=(aM c0))/\
  ∃f:UInt8,((((UInt8.toNat c0:Int)==47)&&(JW<|(ar U<|i+1)<(s.size:Int)))=aE->0<=(ar U<|i+1)/\
   (s[Int.toNat (ar U<|i+1)]?)=(aM f))/\
  K ((((UInt8.toNat c0:Int)==47)&&(JW<|(ar U<|i+1)<(s.size:Int)))&&((UInt8.toNat f:Int)==47)) (mh i w λj l e h=>∃g:UInt8,((JW<|e<(s.size:Int))=aE->0<=e/\
    (s[Int.toNat e]?)=(aM g))/\
   K ((JW<|e<(s.size:Int))&&((UInt8.toNat g:Int) !=10)) (nx l λm=>j m (ar U<|e+1) h) (nx k λn=>a n e h)) (K (((((UInt8.toNat c0:Int)==9)||((UInt8.toNat c0:Int)==10))||((UInt8.toNat c0:Int)==13))||((UInt8.toNat c0:Int)==32)) (nx k λo=>a o (ar U<|i+1) w)<|J i w))<|J i w
def aBh{s:M}{at_:Int}(h:Ye s at_ R w):B 330 #[ab s,O U at_] w R:=
 fC (.e<|.r [] [.s 1 F] (.r [0] [.s 1 F] (.d 3<|.f<|.q [0] [.s 1 F]))) h
def as2(s:M)(at_:Int){R:aG}(t:av)(I:∃c0:UInt8,(0<=at_/\(s[Int.toNat at_]?)=(aM c0))/\P t λk Q=>iV [k] 239 #[.int .u8 (UInt8.toNat c0:Int)] Q λD T=>∃g:UInt8,(0<=at_/\(s[Int.toNat at_]?)=(aM g))/\iV [k] 264 #[.int .u8 (UInt8.toNat g:Int)] T λG w=>K D (pR [k] 241 #[ab s,O U at_] w λi W=>∃k3 a:Nat,(at_=(k3:Int)/\(ar U<|at_+i)=(a:Int)/\k3<=a/\a<=s.size)/\P W λq X=>iV [k,q] 240 #[ab (s.extract k3 a)] X λH u=>∃J:Int->M->Int->Int->av->Prop,(∀l r m n f,J l r m n f->K (JW<|i>24) (∀v,ay [k] f v->R (ai #[oh 0 (ao #[]) 0 0,O U 0,O U 2]) v) (∀x,ay [k] f x->R (ai #[oh l r m n,O U i,O U 0]) x))/\K H (∀C,ay [q] u C->J 2 (s.extract k3 a) 0 at_ C) (J 1 (s.extract k3 a) 0 at_ u))<|K G (∃d:Nat,(at_=(d:Int)/\d<=s.size)/\afF [k] 334 #[ab (s.extract d s.size)] w λL o p h=>K (p !=0) (∀E,ay [k] h E->R (ai #[oh 0 (ao #[]) 0 0,O U 0,O U p]) E)<|pR [k] 241 #[ab s,O U at_] h λN y=>K (JW<|N>o) (∀j,ay [k] y j->R (ai #[oh 0 (ao #[]) 0 0,O U 0,O U 4]) j) (∀S,ay [k] y S->R (ai #[oh 3 (ao #[]) L at_,O U o,O U 0]) S))<|pR [k] 335 #[ab s,O U at_] w λc z=>K (c==0) (∀A,ay [k] z A->R (ai #[oh 0 (ao #[]) 0 0,O U 0,O U 4]) A) (∃e b:Nat,(at_=(e:Int)/\(ar U<|at_+c)=(b:Int)/\e<=b/\b<=s.size)/\∀V,ay [k] z V->R (ai #[oh 4 (s.extract e b) 0 at_,O U c,O U 0]) V)):B 331 #[ab s,O U at_] t R:=
 fC (.d 3<|.f<|.e<|.f<|.d 3<|.q [4,9,10] [.b 10 [F,.str,F,F]]) I
def LY{r:Addr}{k:Int}{R:aG}(q:av)(C:K (k==6) (P q λu w0=>gq [u] 336 #[G r] w0 λD H s0 I l0 L w1=>∀z,ay [u] w1 z->R (bL D H s0 I l0 L) z) (P q λd w3=>gq [d] 332 #[G r,O U<|ar U<|k+1] w3 λN Q s1 T l1 V w4=>P w4 λe w5=>pR [d,e] 337 #[G r,O U k] w5 λW w6=>∃J:Nat->Int->Int->Int->M->Int->Sl->Int->av->Prop,∃k3:Nat,J k3 W N Q s1 T l1 V w6/\∀v n a b s c,∀p:Sl,∀i w,J v n a b s c p i w->K (n !=0) (gF w (r.add 1) λf=>sT (r.add 1) w 1 λo X z0 Y=>d≠o/\e≠o/\sS w o X z0 Y [O U (ar U<|f+1)] λw8=>gq [d,e] 332 #[G r,O U<|ar U<|k+1] w8 λg h s3 j l3 l w9=>P w9 λx t=>Qw 72 (bL a b s c p i) (bL g h s3 j l3 l) t λl4 E=>bX [d,e,x] t E/\∀y,ay [e] E y->pR [d,e,x] 337 #[G r,O U k] y λm A=>nx v λZ=>J Z m 5 0 (ao #[]) n l4 i A) (∀S,ay [d] w S->R (bL a b s c p i) S))):B 332 #[G r,O U k] q R:=
 fC (.d 4<|.f<|.q [0,1,4,5] [.s 6 F,.b 5 [F,F,.str,F,.sl,F]]) C
def aBi{c:Addr}{err:Int}(h:cB 279 #[G c] w λd a=>K (!d) (A6 320 #[G c] a λj s l i b=>sT (c.add 2) b 2 λk e z f=>sS b k e z f [O U err,O U i] λg=>R (ai #[]) g)<|R (ai #[]) a):B 333 #[G c,O U err] w R:=
 ir h
def Yf(s:M)(R:aG)(g:av):Prop:=
 K ((s.size:Int)==0) (R (ai #[O U 0,O U 0,O U 3]) g) (mh 0 g λJ k i w=>∃c0:UInt8,((JW<|i<(s.size:Int))=aE->0<=i/\
  (s[Int.toNat i]?)=(aM c0))/\
 ∃e:UInt8,(((JW<|i<(s.size:Int))&&(JW<|(UInt8.toNat c0:Int)>=48))=aE->0<=i/\
  (s[Int.toNat i]?)=(aM e))/\
 K (((JW<|i<(s.size:Int))&&(JW<|(UInt8.toNat c0:Int)>=48))&&(JW<|(UInt8.toNat e:Int)<=57)) (nx k λj=>J j (ar U<|i+1) w) (∃f:UInt8,((i==0)=aL->(JW<|i>1)=aE->(0:Int)<=0/\
  s[0]? =(aM f))/\
 K ((i==0)||((JW<|i>1)&&((UInt8.toNat f:Int)==48))) (R (ai #[O U 0,O U 0,O U 4]) w) (Hv 0 0 w λh l b a d=>K (JW<|a<i) (∃c:UInt8,(0<=a/\
   (s[Int.toNat a]?)=(aM c))/\
  K (JW<|b>(ar U<|(ar U<|9223372036854775807-(ar U<|ar .u8<|(UInt8.toNat c:Int)-48)).tdiv 10)) (R (ai #[O U 0,O U 0,O U 20]) d) (nx l λm=>h m (ar U<|(ar U<|10*b)+(ar U<|ar .u8<|(UInt8.toNat c:Int)-48)) (ar U<|a+1) d))<|R (ai #[O U b,O U i,O U 0]) d)))
def aBj{s:M}(h:Yf s R w):B 334 #[ab s] w R:=
 fC (.d 3<|.s (.q [0] [.s 5 F])<|.d 2<|.f<|.e<|.q [0,5] [.s 6 F,.s 7 F]) h
def L0(s:M)(at_:Int)(R:aG)(c:av):=
 ∃l:Sl,∃a,((au 75 7 #[.mk 0 (ab Kau),.mk 1<|ab Ka8,.mk 2<|ab Ka9,.mk 3<|ab Kba,.mk 4<|ab Kbb,.mk 5<|ab Kbc,.mk 6<|ab Kbd]).run aq c)=(.ok l.v a)/\
 mh 0 a λJ b i w=>K (JW<|i<(l.n:Int)) (∃k k3:Nat,((JW<|(ar U<|at_+2)<=(s.size:Int))=aE->at_=(k:Int)/\
   (ar U<|at_+2)=(k3:Int)/\
   k<=k3/\
   k3<=s.size)/\
  ∃p0,((JW<|(ar U<|at_+2)<=(s.size:Int))=aE->ci l i 1 p0)/\
  ∃g,((JW<|(ar U<|at_+2)<=(s.size:Int))=aE->aB w p0 [ab g])/\
  K ((JW<|(ar U<|at_+2)<=(s.size:Int))&&(((s.extract k k3).toList)==g.toList)) (o0 w λo=>R (O U 2) o) (o0 w λp=>nx b λj=>J j (ar U<|i+1) p)) (mh 0 w λh m d e=>K (JW<|d<17) (∃c0:UInt8,(0<=at_/\
   (s[Int.toNat at_]?)=(aM c0))/\
  ∃f:UInt8,(0<=d/\
   (Kbf[Int.toNat d]?)=(aM f))/\
  K ((UInt8.toNat c0:Int)==(UInt8.toNat f:Int)) (o0 e λq=>R (O U 1) q) (o0 e λr=>nx m λn=>h n (ar U<|d+1) r))<|R (O U 0) e)
def as4{s:M}{at_:Int}(h:L0 s at_ R w):B 335 #[ab s,O U at_] w R:=
 fC (.d 2<|.s (.e<|.q [0,1,5] [.s 6 F])<|.e<|.f<|.e<|.q [0,1,7] [.s 8 F]) h
def as5{r:Addr}(R:aG)(X:av)(am:P X λk c=>∃J:h,J ((r.add 0).block)/\iZ c (r.add 0) λl0=>J ((r.add 1).block)/\gF c (r.add 1) λi0=>∃p0,ci l0 i0 4 p0/\J p0.block/\JS c p0 λi V i2 t=>P c λa w1=>iV [k,a] 338 #[G r,ab<|ao #[45]] w1 λb0 w2=>iV [k,a] 338 #[G r,ab<|ao #[33]] w2 λx w3=>iV [k,a] 338 #[G r,ab<|ao #[40]] w3 λb2 w=>gF w ((r.add 3).add 0) λi4=>K (i4 !=0) (∀Y,ay [k] w Y->R (bL 0 0 (ao #[]) 0 Sl.nil 0) Y)<|K (b0||x) (iV [k,a] 339 #[G r] w λb3 Z=>K (!b3) (∀w7,ay [k] Z w7->R (bL 0 0 (ao #[]) 0 Sl.nil 0) w7)<|gq [k,a] 336 #[G r] Z λi5 i6 s1 i7 l1 i8 w8=>P w8 λL u=>gF u (r.add 2) λi9=>sT (r.add 2) u 1 λk3 k4 z0 k5=>k≠k3/\a≠k3/\L≠k3/\sS u k3 k4 z0 k5 [O U (ar U<|i9-1)] λy=>lJ (λd E=>lc 72 (bL i5 i6 s1 i7 l1 i8) E λl2 z=>bX [k,a,L] E z/\∀D,ay [k] z D->R (bL 4 0 (ao #[]) d l2 t) D) λv=>K x (v 15 y)<|v 14 y)<|K b2 (iV [k,a] 339 #[G r] w λb4 C=>K (!b4) (∀H,ay [k] C H->R (bL 0 0 (ao #[]) 0 Sl.nil 0) H) (gq [k,a] 332 #[G r,O U 0] C λe f s2 g l3 j iA=>P iA λM fV=>fW [k,a,M] 340 #[G r,ab<|ao #[41]] fV λW=>gF W (r.add 2) λl=>sT (r.add 2) W 1 λb k8 z1 k9=>k≠b/\a≠b/\M≠b/\sS W b k8 z1 k9 [O U (ar U<|l-1)] λkf=>∀I,ay [k] kf I->R (bL e f s2 g l3 j) I))<|K (i==3) (gF w (r.add 1) λm=>sT (r.add 1) w 1 λS rq z2 LG=>k≠S/\a≠S/\sS w S rq z2 LG [O U (ar U<|m+1)] λky=>∀N,ay [k] ky N->R (bL 1 i2 (ao #[]) 0 Sl.nil t) N)<|K (i==1) (gF w (r.add 1) λn=>sT (r.add 1) w 1 λA ff z3 Vq=>k≠A/\a≠A/\sS w A ff z3 Vq [O U (ar U<|n+1)] λnL=>∀Q,ay [k] nL Q->R (bL 2 0 V 0 Sl.nil t) Q)<|K ((i==2)&&(V.toList==(Kao.toList))) (gq [k,a] 341 #[G r] w λo p s3 q l4 s lS=>∀T,ay [k] lS T->R (bL o p s3 q l4 s) T) (fW [k,a] 342 #[G r] w λvw=>∀xn,ay [k] vw xn->R (bL 0 0 (ao #[]) 0 Sl.nil 0) xn)):B 336 #[G r] X R:=
 fC (.d 5<|.f<|.d 3<|.f<|.d 5<|.q [2,3,8] [.s 9 F]) am
def as6{r:Addr}{k:Int}(h:cL 314 #[] w λm c=>SJ m k c λl=>cL 313 #[] c λn d=>SJ n k d λo=>mh 0 d λJ g i a=>K (JW<|i<(l.n:Int)) (JV l i a λs=>cB 338 #[G r,ab s] a λe b=>K e (xj o i b λf=>R (O U f) b)<|nx g λj=>J j (ar U<|i+1) b)<|R (O U 0) a):B 337 #[G r,O U k] w R:=
 fC (.d 3<|.f<|.e<|.q [0,5,6] [.s 7 F]) h
def as7{r:Addr}{s:M}(c:o0 w λa=>∃J:h,J ((r.add 0).block)/\iZ a (r.add 0) λl=>J ((r.add 1).block)/\gF a (r.add 1) λi=>∃p0,ci l i 4 p0/\J p0.block/\JS a p0 λd f g j=>P a λk b=>gF b ((r.add 3).add 0) λe=>R (aj<|((e==0)&&(d==4))&&(f.toList==s.toList)) b):B 338 #[G r,ab s] w R:=
 ir c
def as8{r:Addr}(h:gF w (r.add 2) λi=>K (i==20) (cU 343 #[G r,O U 21] w λj=>R (aj aL) j)<|gF w (r.add 2) λb=>sT (r.add 2) w 1 λk d z e=>sS w k d z e [O U (ar U<|b+1)] λa=>gF a (r.add 1) λc=>sT (r.add 1) a 1 λk3 f m g=>sS a k3 f m g [O U (ar U<|c+1)] λl=>R (aj aE) l):B 339 #[G r] w R:=
 ir h
def as9{r:Addr}{s:M}(h:cB 338 #[G r,ab s] w λb a=>K (!b) (cU 342 #[G r] a λe=>R (ai #[]) e)<|gF a (r.add 1) λi=>sT (r.add 1) a 1 λk c z d=>sS a k c z d [O U (ar U<|i+1)] λf=>R (ai #[]) f):B 340 #[G r,ab s] w R:=
 ir h
def ata(r:Addr){R:aG}(l:av)(q:P l λk b=>∃J:h,J ((r.add 0).block)/\iZ b (r.add 0) λH=>J ((r.add 1).block)/\gF b (r.add 1) λs=>∃p0,ci H s 4 p0/\J ((p0.add 3).block)/\gF b (p0.add 3) λi=>P b λa g=>gF g (r.add 1) λt=>sT (r.add 1) g 1 λe k3 T C=>k≠e/\a≠e/\sS g e k3 T C [O U (ar U<|t+1)] λN=>fW [k,a] 340 #[G r,ab<|ao #[40]] N λw=>gF w ((r.add 3).add 0) λu=>K (u !=0) (∀m,ay [k] w m->R (bL 3 0 (ao #[]) 0 Sl.nil i) m) (iZ w (r.add 0) λI=>gF w (r.add 1) λv=>∃p,ci I v 4 p/\gF w (p.add 0) λx=>K (x !=1) (o0 w λQ=>fW [k,a] 342 #[G r] Q λS=>∀n,ay [k] S n->R (bL 3 0 (ao #[]) 0 Sl.nil i) n) (o0 w λc=>iZ c (r.add 0) λL=>gF c (r.add 1) λz=>∃j,ci L z 4 j/\FD c (j.add 1) λM=>∀d,ay [a] c d->gF d (r.add 1) λA=>sT (r.add 1) d 1 λf D V F=>k≠f/\a≠f/\sS d f D V F [O U (ar U<|A+1)] λo=>fW [k,a] 340 #[G r,ab<|ao #[41]] o λE=>∀y,ay [k] E y->R (bL 3 0 M 0 Sl.nil i) y))):B 341 #[G r] l R:=
 ir q
def atb{r:Addr}(h:iZ w (r.add 0) λl=>gF w (r.add 1) λi=>∃p0,ci l i 4 p0/\gF w (p0.add 0) λa=>K (a==5) (o0 w λb=>cU 343 #[G r,O U 3] b λc=>R (ai #[]) c)<|o0 w λd=>cU 343 #[G r,O U 4] d λe=>R (ai #[]) e):B 342 #[G r] w R:=
 ir h
def atc{r:Addr}{e:Int}(h:gF w ((r.add 3).add 0) λi=>K (i==0) (o0 w λa=>iZ a (r.add 0) λl=>gF a (r.add 1) λb=>∃p0,ci l b 4 p0/\gF a (p0.add 3) λc=>sT (r.add 3) a 2 λk d z f=>sS a k d z f [O U e,O U c] λg=>R (ai #[]) g)<|R (ai #[]) w):B 343 #[G r,O U e] w R:=
 ir h
end Vc
namespace Go.Proofs
open Go.Shelf
def Tryz.DK:Go.Shelf.Ren:=⟨λ|156=>232|165=>231|166=>182|169=>143|240=>229|241=>259|276=>256|277=>280|n=>n,λ|31=>75|9=>9|3=>3|4=>4|0=>0|20=>20|72=>206|76=>250|70=>203|37=>204|75=>249|127=>259|164=>304|5=>5|80=>215|n=>n,λ|n=>n⟩
def Tryz.U2:Go.Proofs.Lays.n156 prog Tryz.DK:={
 mixed:=D
 f156:=func232.trans (bn aM D)
 f165:=func231.trans (bn aM D)
 f166:=func182.trans (bn aM D)
 f169:=func143.trans (bn aM D)
 f240:=func229.trans (bn aM D)
 f241:=func259.trans (bn aM D)
 f276:=func256.trans (bn aM D)
 f277:=func280.trans (bn aM D)
 t0:=underlying0
 a0:=isAgg0
 z0:=sizeOf0
 v0:=zeroValue0
 t3:=underlying3
 a3:=isAgg3
 z3:=sizeOf3
 v3:=zeroValue3
 t4:=underlying4
 a4:=isAgg4
 z4:=sizeOf4
 v4:=zeroValue4
 t9:=underlying9
 a9:=isAgg9
 z9:=sizeOf9
 v9:=zeroValue9
 t20:=underlying20
 a20:=isAgg20
 z20:=sizeOf20
 v20:=zeroValue20
 t31:=underlying75
 a31:=isAgg75
 z31:=sizeOf75
 v31:=zeroValue75
 t37:=underlying204
 a37:=isAgg204
 z37:=sizeOf204
 v37:=zeroValue204
 t70:=underlying203
 a70:=isAgg203
 z70:=sizeOf203
 v70:=zeroValue203
 t72:=underlying206
 a72:=isAgg206
 z72:=sizeOf206
 v72:=zeroValue206
 t75:=underlying249
 a75:=isAgg249
 z75:=sizeOf249
 v75:=zeroValue249
 t76:=underlying250
 a76:=isAgg250
 z76:=sizeOf250
 v76:=zeroValue250
 t127:=underlying259
 a127:=isAgg259
 z127:=sizeOf259
 v127:=zeroValue259
 t164:=underlying304
 a164:=isAgg304
 z164:=sizeOf304
 v164:=zeroValue304}
def Tryz.ua:Builder.Extra prog Tryz.DK:={
 sizeBuilder:=D
 liesBuilder:=D
 t5:=underlying5
 a5:=isAgg5
 z5:=sizeOf5
 v5:=zeroValue5
 infoByte:=D
 cellsByte:=D
 sizeByte:=D
 neB5:=Z}
open Go.RowKit in
theorem Tryz.strings_Join_none (a:Option Addr) (c:Nat) (sep:ByteArray) (w:World):
 Calls Tryz.prog 232 #[.slice a 0 c,.string sep] w λe w'=>e=.returned (.string ⟨#[]⟩)/\w'=w:=Any.strings_Join_none Tryz.U2 Tryz.ua a c sep w
open Go.RowKit in
theorem Tryz.strings_Join (bk o c:Nat) (xs:List ByteArray) (sep:ByteArray) (w:World) (Ay:∀(j:Nat) x,xs[j]? =some x->w.cell? ⟨bk,o+j,none⟩=some (.string x)) (Yb:bk<w.heap.size) (hN:xs.length<=140737488355328) (rh:xs.length<=c) (fj:(Lib.join (xs.map (·.data.toList)) sep.data.toList).length<=140737488355328):
 Calls Tryz.prog 232 #[.slice (some ⟨bk,o,none⟩) xs.length c,.string sep] w λe w'=>e=.returned (.string ⟨(Lib.join (xs.map (·.data.toList)) sep.data.toList).toArray⟩)/\Below w.heap.size w w':=Any.strings_Join Tryz.U2 Tryz.ua bk o c xs sep w Ay Yb hN rh fj
def Tryz.Lu:Go.Shelf.Ren:=⟨λ|171=>186|243=>235|246=>261|283=>281|284=>282|285=>283|286=>284|129=>165|317=>301|318=>302|319=>303|320=>304|337=>327|338=>328|n=>n,λ|3=>3|9=>9|2=>2|4=>4|171=>328|0=>0|53=>235|37=>204|5=>5|173=>330|212=>351|51=>233|20=>20|213=>352|46=>180|232=>376|233=>377|n=>n,λ|17=>1|18=>4|19=>5|n=>n⟩
def Tryz.acu:Go.Proofs.LaysM.n171 prog Tryz.Lu:={
 mixed:=D
 f129:=func165.trans (bn aM D)
 f171:=func186.trans (bn aM D)
 f243:=func235.trans (bn aM D)
 f246:=func261.trans (bn aM D)
 f283:=func281.trans (bn aM D)
 f284:=func282.trans (bn aM D)
 f285:=func283.trans (bn aM D)
 f286:=func284.trans (bn aM D)
 f317:=func301.trans (bn aM D)
 f318:=func302.trans (bn aM D)
 f319:=func303.trans (bn aM D)
 f320:=func304.trans (bn aM D)
 f337:=func327.trans (bn aM D)
 f338:=func328.trans (bn aM D)
 t0:=underlying0
 a0:=isAgg0
 z0:=sizeOf0
 v0:=zeroValue0
 t2:=underlying2
 a2:=isAgg2
 z2:=sizeOf2
 v2:=zeroValue2
 t3:=underlying3
 a3:=isAgg3
 z3:=sizeOf3
 v3:=zeroValue3
 t4:=underlying4
 a4:=isAgg4
 z4:=sizeOf4
 v4:=zeroValue4
 t5:=underlying5
 a5:=isAgg5
 z5:=sizeOf5
 v5:=zeroValue5
 t9:=underlying9
 a9:=isAgg9
 z9:=sizeOf9
 v9:=zeroValue9
 t20:=underlying20
 a20:=isAgg20
 z20:=sizeOf20
 v20:=zeroValue20
 t37:=underlying204
 a37:=isAgg204
 z37:=sizeOf204
 v37:=zeroValue204
 t46:=underlying180
 a46:=isAgg180
 z46:=sizeOf180
 v46:=zeroValue180
 t51:=underlying233
 a51:=isAgg233
 z51:=sizeOf233
 v51:=zeroValue233
 t53:=underlying235
 a53:=isAgg235
 z53:=sizeOf235
 v53:=zeroValue235
 t171:=underlying328
 a171:=isAgg328
 z171:=sizeOf328
 v171:=zeroValue328
 t173:=underlying330
 a173:=isAgg330
 z173:=sizeOf330
 v173:=zeroValue330
 t212:=underlying351
 a212:=isAgg351
 z212:=sizeOf351
 v212:=zeroValue351
 t213:=underlying352
 a213:=isAgg352
 z213:=sizeOf352
 t232:=underlying376
 a232:=isAgg376
 z232:=sizeOf376
 v232:=zeroValue376
 t233:=underlying377
 a233:=isAgg377
 z233:=sizeOf377
 v233:=zeroValue377
 g17:=D
 g18:=D
 g19:=D
 i0:=D
 i2:=D
 i3:=D
 i4:=D
 i5:=D
 i9:=D
 i20:=D
 i37:=D
 i46:=D
 i51:=D
 i53:=D
 i171:=D
 i173:=D
 i212:=D
 i232:=D
 i233:=D
 m17:=D
 m18:=D
 m19:=D}
open Go.RowKit Go.Sort Go.Lib in
theorem Tryz.strconv_Itoa (n:Int) (h0: -9223372036854775808<=n) (h1:n<=9223372036854775807) (w:World) (aCN:Lib.TabIs Tryz.prog w "internal/strconv.uint64pow10" .u64 Lib.pow10Tab):
 Calls Tryz.prog 186 #[.int .i64 n] w λe w'=>e=.returned (.string ⟨(Lib.itoa n).toArray⟩)/\∃k os,w'=grow (w.drewN k) os:=Any.strconv_Itoa Tryz.acu n h0 h1 w aCN
def Tryz.Lv:Go.Shelf.Ren:=⟨λ|316=>252|n=>n,λ|9=>9|3=>3|4=>4|37=>204|0=>0|127=>259|5=>5|n=>n,λ|n=>n⟩
def Tryz.acw:Go.Proofs.LaysM.n316 prog Tryz.Lv:={
 mixed:=D
 f316:=func252.trans (bn aM D)
 t0:=underlying0
 a0:=isAgg0
 z0:=sizeOf0
 v0:=zeroValue0
 t3:=underlying3
 a3:=isAgg3
 z3:=sizeOf3
 v3:=zeroValue3
 t4:=underlying4
 a4:=isAgg4
 z4:=sizeOf4
 v4:=zeroValue4
 t9:=underlying9
 a9:=isAgg9
 z9:=sizeOf9
 v9:=zeroValue9
 t37:=underlying204
 a37:=isAgg204
 z37:=sizeOf204
 v37:=zeroValue204
 t127:=underlying259
 a127:=isAgg259
 z127:=sizeOf259
 v127:=zeroValue259
 t5:=underlying5
 a5:=isAgg5
 z5:=sizeOf5
 v5:=zeroValue5
 i0:=D
 i3:=D
 i4:=D
 i5:=D
 i9:=D
 i37:=D
 i127:=D}
open Go.RowKit in
theorem Tryz.stringslite_Clone (s:ByteArray) (w:World) (amW:s.size<=281474976710656):
 Calls Tryz.prog 252 #[.string s] w λe w'=>e=.returned (.string s)/\Below w.heap.size w w':=Any.stringslite_Clone Tryz.acw s w amW
def Tryz.Lw:Go.Shelf.Ren:=⟨λ|174=>254|247=>273|245=>274|287=>294|279=>295|280=>296|281=>297|282=>298|321=>317|322=>318|316=>252|171=>186|205=>319|243=>235|246=>261|283=>281|284=>282|285=>283|286=>284|129=>165|317=>301|318=>302|319=>303|320=>304|337=>327|338=>328|n=>n,λ|9=>9|3=>3|2=>2|75=>249|85=>300|4=>4|167=>343|5=>5|53=>235|175=>344|46=>180|168=>346|37=>204|0=>0|210=>362|21=>21|127=>259|145=>375|143=>373|171=>328|173=>330|212=>351|51=>233|20=>20|213=>352|232=>376|233=>377|80=>215|n=>n,λ|15=>2|16=>3|17=>1|18=>4|19=>5|n=>n⟩
def Tryz.OY:Go.Proofs.LaysC.n174 prog Tryz.Lw:={
 mixed:=D
 f129:=func165.trans (bn aM D)
 f171:=func186.trans (bn aM D)
 f174:=func254.trans (bn aM D)
 f205:=func319.trans (bn aM D)
 f243:=func235.trans (bn aM D)
 f245:=func274.trans (bn aM D)
 f246:=func261.trans (bn aM D)
 f247:=func273.trans (bn aM D)
 f279:=func295.trans (bn aM D)
 f280:=func296.trans (bn aM D)
 f281:=func297.trans (bn aM D)
 f282:=func298.trans (bn aM D)
 f283:=func281.trans (bn aM D)
 f284:=func282.trans (bn aM D)
 f285:=func283.trans (bn aM D)
 f286:=func284.trans (bn aM D)
 f287:=func294.trans (bn aM D)
 f316:=func252.trans (bn aM D)
 f317:=func301.trans (bn aM D)
 f318:=func302.trans (bn aM D)
 f319:=func303.trans (bn aM D)
 f320:=func304.trans (bn aM D)
 f321:=func317.trans (bn aM D)
 f322:=func318.trans (bn aM D)
 f337:=func327.trans (bn aM D)
 f338:=func328.trans (bn aM D)
 t0:=underlying0
 a0:=isAgg0
 z0:=sizeOf0
 v0:=zeroValue0
 t2:=underlying2
 a2:=isAgg2
 z2:=sizeOf2
 v2:=zeroValue2
 t3:=underlying3
 a3:=isAgg3
 z3:=sizeOf3
 v3:=zeroValue3
 t4:=underlying4
 a4:=isAgg4
 z4:=sizeOf4
 v4:=zeroValue4
 t5:=underlying5
 a5:=isAgg5
 z5:=sizeOf5
 v5:=zeroValue5
 t9:=underlying9
 a9:=isAgg9
 z9:=sizeOf9
 v9:=zeroValue9
 t20:=underlying20
 a20:=isAgg20
 z20:=sizeOf20
 v20:=zeroValue20
 t21:=underlying21
 a21:=isAgg21
 z21:=sizeOf21
 v21:=zeroValue21
 t37:=underlying204
 a37:=isAgg204
 z37:=sizeOf204
 v37:=zeroValue204
 t46:=underlying180
 a46:=isAgg180
 z46:=sizeOf180
 v46:=zeroValue180
 t51:=underlying233
 a51:=isAgg233
 z51:=sizeOf233
 v51:=zeroValue233
 t53:=underlying235
 a53:=isAgg235
 z53:=sizeOf235
 v53:=zeroValue235
 t75:=underlying249
 a75:=isAgg249
 z75:=sizeOf249
 v75:=zeroValue249
 t85:=underlying300
 a85:=isAgg300
 z85:=sizeOf300
 v85:=zeroValue300
 t127:=underlying259
 a127:=isAgg259
 z127:=sizeOf259
 v127:=zeroValue259
 t143:=underlying373
 a143:=isAgg373
 z143:=sizeOf373
 v143:=zeroValue373
 t145:=underlying375
 a145:=isAgg375
 z145:=sizeOf375
 v145:=zeroValue375
 t167:=underlying343
 a167:=isAgg343
 z167:=sizeOf343
 v167:=zeroValue343
 t168:=underlying346
 a168:=isAgg346
 z168:=sizeOf346
 v168:=zeroValue346
 t171:=underlying328
 a171:=isAgg328
 z171:=sizeOf328
 v171:=zeroValue328
 t173:=underlying330
 a173:=isAgg330
 z173:=sizeOf330
 v173:=zeroValue330
 t175:=underlying344
 a175:=isAgg344
 z175:=sizeOf344
 v175:=zeroValue344
 t210:=underlying362
 a210:=isAgg362
 z210:=sizeOf362
 v210:=zeroValue362
 t212:=underlying351
 a212:=isAgg351
 z212:=sizeOf351
 v212:=zeroValue351
 t213:=underlying352
 a213:=isAgg352
 z213:=sizeOf352
 t232:=underlying376
 a232:=isAgg376
 z232:=sizeOf376
 v232:=zeroValue376
 t233:=underlying377
 a233:=isAgg377
 z233:=sizeOf377
 v233:=zeroValue377
 g15:=D
 g16:=D
 g17:=D
 g18:=D
 g19:=D
 t80:=underlying215
 a80:=isAgg215
 z80:=sizeOf215
 v80:=zeroValue215
 i0:=D
 i2:=D
 i3:=D
 i4:=D
 i5:=D
 i9:=D
 i20:=D
 i21:=D
 i37:=D
 i46:=D
 i51:=D
 i53:=D
 i75:=D
 i80:=D
 i85:=D
 i127:=D
 i143:=D
 i145:=D
 i167:=D
 i168:=D
 i171:=D
 i173:=D
 i175:=D
 i210:=D
 i212:=D
 i232:=D
 i233:=D
 m15:=D
 m16:=D
 m17:=D
 m18:=D
 m19:=D
 c0:=D
 c2:=D
 c3:=D
 c4:=D
 c5:=D
 c9:=D
 c20:=D
 c21:=D
 c37:=D
 c46:=D
 c51:=D
 c53:=D
 c75:=D
 c80:=D
 c85:=D
 c127:=D
 c143:=D
 c145:=D
 c167:=D
 c168:=D
 c171:=D
 c173:=D
 c175:=D
 c210:=D
 c212:=D
 c213:=D
 c232:=D
 c233:=D}
open Go.RowKit in
theorem Tryz.strconv_ParseInt_10_at64_ok (s:ByteArray) (O6:s.size<=9223372036854775806) (v:Int) (h:Lib.parseIntB 64 s.data.toList=.ok v) (w:World):
 Calls Tryz.prog 254 #[.string s,.int .i64 10,.int .i64 64] w λe w'=>e=.returned (.tuple #[.int .i64 v,.nilIface])/\(w'=w∨∃t,w'=Lib.bytesWorld w 5 t):=Any.strconv_ParseInt_10_at64_ok Tryz.OY s O6 v h w
open Go.RowKit in
theorem Tryz.strconv_ParseInt_10_at64_range_var (s:ByteArray) (amW:s.size<=281474976710656) (h:Lib.parseIntB 64 s.data.toList=.range) (tp:TypeId) (p:Value) (w:World) (amX:w.var? Tryz.prog "strconv.ErrRange" =some #[.iface tp p]):
 Calls Tryz.prog 254 #[.string s,.int .i64 10,.int .i64 64] w λe w'=>∃N,e=.returned (.tuple #[.int .i64 (Lib.intSat 64 s.data.toList),.iface 346 (.pointer (some ⟨N,0,none⟩))])/\w.heap.size<=N/\w'.heap[N]? =some (.cells #[.string ⟨#[80,97,114,115,101,73,110,116]⟩,.string s,.iface tp p] 362 (0,0))/\Below w.heap.size w w':=Any.strconv_ParseInt_10_at64_range_var Tryz.OY s amW h tp p w amX
def Tryz.OZ:Go.Shelf.Ren:=⟨λ|219=>251|217=>269|225=>270|224=>271|267=>272|266=>292|314=>293|n=>n,λ|9=>9|3=>3|4=>4|5=>5|46=>180|146=>306|51=>233|n=>n,λ|1=>0|n=>n⟩
def Tryz.ag3:Go.Proofs.Lays.n219 prog Tryz.OZ:={
 mixed:=D
 f217:=func269.trans (bn aM D)
 f219:=func251.trans (bn aM D)
 f224:=func271.trans (bn aM D)
 f225:=func270.trans (bn aM D)
 f266:=func292.trans (bn aM D)
 f267:=func272.trans (bn aM D)
 f314:=func293.trans (bn aM D)
 t3:=underlying3
 a3:=isAgg3
 z3:=sizeOf3
 v3:=zeroValue3
 t4:=underlying4
 a4:=isAgg4
 z4:=sizeOf4
 v4:=zeroValue4
 t5:=underlying5
 a5:=isAgg5
 z5:=sizeOf5
 v5:=zeroValue5
 t9:=underlying9
 a9:=isAgg9
 z9:=sizeOf9
 v9:=zeroValue9
 t46:=underlying180
 a46:=isAgg180
 z46:=sizeOf180
 v46:=zeroValue180
 t51:=underlying233
 a51:=isAgg233
 z51:=sizeOf233
 v51:=zeroValue233
 t146:=underlying306
 a146:=isAgg306
 z146:=sizeOf306
 v146:=zeroValue306
 g1:=D}
open Go.RowKit Go.Lib in
theorem Tryz.stringslite_Index_one (s:ByteArray) (c:UInt8) (w:World):
 Calls Tryz.prog 251 #[.string s,.string ⟨#[c]⟩] w λe w'=>e=.returned (.int .i64 (Lib.indexByte s.data.toList c))/\w'=w:=Any.stringslite_Index_one Tryz.ag3 s c w
def Tryz.O0:Go.Shelf.Ren:=⟨λ|189=>117|125=>113|257=>167|128=>164|129=>165|294=>209|295=>210|296=>211|297=>212|298=>213|299=>214|216=>215|300=>216|301=>217|328=>247|329=>205|330=>206|331=>248|332=>249|215=>114|343=>268|n=>n,λ|28=>31|3=>3|46=>180|0=>0|51=>233|53=>235|4=>4|183=>227|182=>226|131=>166|5=>5|9=>9|218=>267|222=>192|228=>294|229=>209|n=>n,λ|n=>n⟩
def Tryz.U3:Go.Proofs.Lays.n189 prog Tryz.O0:={
 mixed:=D
 f125:=func113.trans (bn aM D)
 f128:=func164.trans (bn aM D)
 f129:=func165.trans (bn aM D)
 f189:=func117.trans (bn aM D)
 f215:=func114.trans (bn aM D)
 f216:=func215.trans (bn aM D)
 f257:=func167.trans (bn aM D)
 f294:=func209.trans (bn aM D)
 f295:=func210.trans (bn aM D)
 f296:=func211.trans (bn aM D)
 f297:=func212.trans (bn aM D)
 f298:=func213.trans (bn aM D)
 f299:=func214.trans (bn aM D)
 f300:=func216.trans (bn aM D)
 f301:=func217.trans (bn aM D)
 f328:=func247.trans (bn aM D)
 f329:=func205.trans (bn aM D)
 f330:=func206.trans (bn aM D)
 f331:=func248.trans (bn aM D)
 f332:=func249.trans (bn aM D)
 f343:=func268.trans (bn aM D)
 t0:=underlying0
 a0:=isAgg0
 z0:=sizeOf0
 v0:=zeroValue0
 t3:=underlying3
 a3:=isAgg3
 z3:=sizeOf3
 v3:=zeroValue3
 t4:=underlying4
 a4:=isAgg4
 z4:=sizeOf4
 v4:=zeroValue4
 t5:=underlying5
 a5:=isAgg5
 z5:=sizeOf5
 v5:=zeroValue5
 t9:=underlying9
 a9:=isAgg9
 z9:=sizeOf9
 v9:=zeroValue9
 t28:=underlying31
 a28:=isAgg31
 z28:=sizeOf31
 v28:=zeroValue31
 t46:=underlying180
 a46:=isAgg180
 z46:=sizeOf180
 v46:=zeroValue180
 t51:=underlying233
 a51:=isAgg233
 z51:=sizeOf233
 v51:=zeroValue233
 t53:=underlying235
 a53:=isAgg235
 z53:=sizeOf235
 v53:=zeroValue235
 t131:=underlying166
 a131:=isAgg166
 z131:=sizeOf166
 v131:=zeroValue166
 t182:=underlying226
 a182:=isAgg226
 z182:=sizeOf226
 v182:=zeroValue226
 t183:=underlying227
 a183:=isAgg227
 z183:=sizeOf227
 v183:=zeroValue227
 t218:=underlying267
 a218:=isAgg267
 z218:=sizeOf267
 v218:=zeroValue267
 t222:=underlying192
 a222:=isAgg192
 z222:=sizeOf192
 v222:=zeroValue192
 t228:=underlying294
 a228:=isAgg294
 z228:=sizeOf294
 v228:=zeroValue294
 t229:=underlying209
 a229:=isAgg209
 z229:=sizeOf209
 v229:=zeroValue209}
open Go.Sort Go.RowKit in
theorem Tryz.slices_Sort_int (blk off cap:Nat) (zs:List Int) (w:World) (hH:Holds (Value.int .i64) w blk off zs.toArray) (hblk:blk<w.heap.size) (hsz:zs.length<4611686018427387904):
 Calls Tryz.prog 117 #[.slice (some ⟨blk,off,none⟩) zs.length cap] w λe w'=>
  e=.returned (.tuple #[])/\∃n os,w'=grow (putRow (Value.int .i64) (Sort.ahead w n) blk off (zs.mergeSort λx y=>decide (x<=y)).toArray) os:=Any.slices_Sort_int Tryz.U3 blk off cap zs w hH hblk hsz
def Tryz.DL:Go.Shelf.Ren:=⟨λ|105=>183|212=>230|99=>169|165=>231|166=>182|170=>191|169=>143|263=>257|264=>258|206=>219|240=>229|241=>259|276=>256|277=>280|n=>n,λ|9=>9|3=>3|4=>4|20=>20|0=>0|46=>180|109=>284|5=>5|72=>206|76=>250|51=>233|146=>306|53=>235|148=>308|70=>203|37=>204|75=>249|127=>259|164=>304|80=>215|n=>n,λ|n=>n⟩
def Tryz.ag4:Go.Proofs.Lays.n105 prog Tryz.DL:={
 mixed:=D
 f99:=func169.trans (bn aM D)
 f105:=func183.trans (bn aM D)
 f165:=func231.trans (bn aM D)
 f166:=func182.trans (bn aM D)
 f169:=func143.trans (bn aM D)
 f170:=func191.trans (bn aM D)
 f206:=func219.trans (bn aM D)
 f212:=func230.trans (bn aM D)
 f240:=func229.trans (bn aM D)
 f241:=func259.trans (bn aM D)
 f263:=func257.trans (bn aM D)
 f264:=func258.trans (bn aM D)
 f276:=func256.trans (bn aM D)
 f277:=func280.trans (bn aM D)
 t0:=underlying0
 a0:=isAgg0
 z0:=sizeOf0
 v0:=zeroValue0
 t3:=underlying3
 a3:=isAgg3
 z3:=sizeOf3
 v3:=zeroValue3
 t4:=underlying4
 a4:=isAgg4
 z4:=sizeOf4
 v4:=zeroValue4
 t5:=underlying5
 a5:=isAgg5
 z5:=sizeOf5
 v5:=zeroValue5
 t9:=underlying9
 a9:=isAgg9
 z9:=sizeOf9
 v9:=zeroValue9
 t20:=underlying20
 a20:=isAgg20
 z20:=sizeOf20
 v20:=zeroValue20
 t37:=underlying204
 a37:=isAgg204
 z37:=sizeOf204
 v37:=zeroValue204
 t46:=underlying180
 a46:=isAgg180
 z46:=sizeOf180
 v46:=zeroValue180
 t51:=underlying233
 a51:=isAgg233
 z51:=sizeOf233
 v51:=zeroValue233
 t53:=underlying235
 a53:=isAgg235
 z53:=sizeOf235
 v53:=zeroValue235
 t70:=underlying203
 a70:=isAgg203
 z70:=sizeOf203
 v70:=zeroValue203
 t72:=underlying206
 a72:=isAgg206
 z72:=sizeOf206
 v72:=zeroValue206
 t75:=underlying249
 a75:=isAgg249
 z75:=sizeOf249
 v75:=zeroValue249
 t76:=underlying250
 a76:=isAgg250
 z76:=sizeOf250
 v76:=zeroValue250
 t109:=underlying284
 a109:=isAgg284
 z109:=sizeOf284
 v109:=zeroValue284
 t127:=underlying259
 a127:=isAgg259
 z127:=sizeOf259
 v127:=zeroValue259
 t146:=underlying306
 a146:=isAgg306
 z146:=sizeOf306
 v146:=zeroValue306
 t148:=underlying308
 a148:=isAgg308
 z148:=sizeOf308
 v148:=zeroValue308
 t164:=underlying304
 a164:=isAgg304
 z164:=sizeOf304
 v164:=zeroValue304}
def Tryz.BZ:Builder.Extra prog Tryz.DL:={
 sizeBuilder:=D
 liesBuilder:=D
 t5:=underlying5
 a5:=isAgg5
 z5:=sizeOf5
 v5:=zeroValue5
 infoByte:=D
 cellsByte:=D
 sizeByte:=D
 neB5:=Z}
open Go.RowKit Go.Lib in
theorem Tryz.strings_Repeat (s:ByteArray) (c:Nat) (w:World) (hc:c<=9223372036854775807) (fj:s.size*c<=140737488355328):
 Calls Tryz.prog 183 #[.string s,.int .i64 c] w λe w'=>e=.returned (.string ⟨(Lib.repeatL s.data.toList c).toArray⟩)/\Below w.heap.size w w':=Any.strings_Repeat Tryz.ag4 Tryz.BZ s c w hc fj
def Tryz.HC:Go.Shelf.Ren:=⟨λ|15=>39|n=>n,λ|22=>31|3=>3|4=>4|n=>n,λ|n=>n⟩
def Tryz.C8:Go.Proofs.Lays2.n15 prog Tryz.HC:={
 mixed:=D
 f15:=func39.trans (bn aM D)
 t3:=underlying3
 a3:=isAgg3
 z3:=sizeOf3
 v3:=zeroValue3
 t4:=underlying4
 a4:=isAgg4
 z4:=sizeOf4
 v4:=zeroValue4
 t22:=underlying31
 a22:=isAgg31
 z22:=sizeOf31
 v22:=zeroValue31
 i3:=D}
open Go.RowKit Go.Lib in
theorem Tryz.slices_Clone_int (b off n c:Nat) (zs:List Int) (w:World) (hz:n<=zs.length) (tv:n*8<=140737488355328) (hc:∀j,j<zs.length->w.cell? ⟨b,off+j,none⟩=some (.int .i64 (zs.getD j 0))):
 Calls Tryz.prog 39 #[.slice (some ⟨b,off,none⟩) n c] w λe w'=>∃v',e=.returned v'/\w'.ownsRow w.heap.size 3 1 v' n ((zs.take n).map (Value.int .i64))/\v'≠.slice none 0 0/\Below w.heap.size w w':=Any.slices_Clone_int Tryz.C8 b off n c zs w hz tv hc
open Go.RowKit Go.Lib in
theorem Tryz.slices_Clone_int_nil (n c:Nat) (w:World):
 Calls Tryz.prog 39 #[.slice none n c] w λe w'=>e=.returned (.slice none 0 0)/\w'=w:=Any.slices_Clone_int_nil Tryz.C8 n c w
open Go.RowKit Go.Lib in
theorem Tryz.slices_Clone_int_zero (a:Addr) (c:Nat) (w:World):
 Calls Tryz.prog 39 #[.slice (some a) 0 c] w λe w'=>∃v',e=.returned v'/\w'.ownsRow w.heap.size 3 1 v' 0 []/\v'≠.slice none 0 0/\Below w.heap.size w w':=Any.slices_Clone_int_zero Tryz.C8 a c w
def Tryz.HD:Go.Shelf.Ren:=⟨λ|20=>154|n=>n,λ|22=>31|3=>3|4=>4|0=>0|n=>n,λ|n=>n⟩
def Tryz.I1:Go.Proofs.Lays2.n20 prog Tryz.HD:={
 mixed:=D
 f20:=func154.trans (bn aM D)
 t0:=underlying0
 a0:=isAgg0
 z0:=sizeOf0
 v0:=zeroValue0
 t3:=underlying3
 a3:=isAgg3
 z3:=sizeOf3
 v3:=zeroValue3
 t4:=underlying4
 a4:=isAgg4
 z4:=sizeOf4
 v4:=zeroValue4
 t22:=underlying31
 a22:=isAgg31
 z22:=sizeOf31
 v22:=zeroValue31
 i3:=D}
open Go.RowKit Go.Lib Go.Sort in
theorem Tryz.slices_Compact_int (blk off cap:Nat) (zs:List Int) (w:World) (hH:Holds (Value.int .i64) w blk off zs.toArray) (hsz:zs.length<=9223372036854775807) (rh:zs.length<=cap):
 Calls Tryz.prog 154 #[.slice (some ⟨blk,off,none⟩) zs.length cap] w λe w'=>e=.returned (.slice (some ⟨blk,off,none⟩) (Lib.compact zs).length cap)/\∃q,w'=putRow (Value.int .i64) (Sort.ahead w q) blk off (Lib.compact zs++List.replicate (zs.length-(Lib.compact zs).length) 0).toArray:=Any.slices_Compact_int Tryz.I1 blk off cap zs w hH hsz rh
open Go.RowKit Go.Lib Go.Sort in
theorem Tryz.slices_Compact_int_empty (a:Option Addr) (cap:Nat) (w:World):
 Calls Tryz.prog 154 #[.slice a 0 cap] w λe w'=>e=.returned (.slice a 0 cap)/\w'=w:=Any.slices_Compact_int_empty Tryz.I1 a cap w
open Go.RowKit Go.Sort in
theorem Tryz.slices_Sort_int_none (p:Option Addr) (cap:Nat) (w:World):
 Calls Tryz.prog 117 #[.slice p 0 cap] w λe w'=>e=.returned (.tuple #[])/\w'=w:=Any.slices_Sort_int_none Tryz.U3 p cap w
end Go.Proofs
namespace Con
open Go.Value renaming int->O,string->ab,pointer->ae,agg->ah,tuple->ai,bool->aj
open Go.IntKind renaming i64->U,wrap->ar
open Go.Ending renaming returned->ak
open _root_.ByteArray renaming mk->ao
open _root_.Go.Proofs.Tryz renaming prog->aq
open Go.Instr renaming buildSlice->au
open Go renaming World->av,Value->aw,Calls->az
open Go.Kt renaming Only->ay,SliceF->aA,Cells->aB,OnlyP->aD,Blk->aF
open Go Go.RowKit Go.Kt Go.Kt.V Vc
def jK{P:Program}{f:FuncId}{a:Array aw}{w:av}{Q:Ending->av->Prop}(h:az P f a w λe b=>∃v,e=ak v/\Q (ak v) b):az P f a w Q:=h.mono (by rintro e b ⟨v,rfl,q⟩;exact q)
def ret{P}{f}{a}{w}{r}{Q:av->Prop}(h:az P f a w λe b=>∃v,e=ak v/\v=r/\Q b):az P f a w λe b=>e=ak r/\Q b:=
 R
def Blk.dv{w}{b}{t}{cs}(h:aF w b t cs) j {v} (a:cs[j]? =aM v):aB w ((⟨b,0,VM⟩:Addr).add j) [v]:=by
 rw[jS,bS];exact h.cells j [v] R
def Hl:=@Blk.dv
def gC(c:UInt8):C:=(65<=c.toNat&&c.toNat<=90)||(97<=c.toNat&&c.toNat<=122)||c.toNat==95
def dH(c:UInt8):C:=48<=c.toNat&&c.toNat<=57
def gf(c:UInt8):C:=gC c||dH c
def qU(c:UInt8):C:=[9,10,13,32].contains c
def xKQ:∀n:Fin 256,(((JW<|97<=(bits .or .u8 (n.val:Int) 32))&&(JW<|(bits .or .u8 n.val 32)<=122))||((n.val:Int)==95))=((65<=n.val&&n.val<=90)||(97<=n.val&&n.val<=122)||n.val==95):=Ks
def FH w c:az aq 172 #[.int .u8 c.toNat] w λe a=>e=ak (aj<|gC c)/\ay [] w a:=ret (arY w ⟨by rw[xKQ ⟨c.toNat,c.toNat_lt⟩];rfl,qE _ _⟩)
def SK w c:az aq 174 #[.int .u8 c.toNat] w λe a=>e=ak (aj<|dH c)/\ay [] w a:=by
 refine ret<|ar0 ⟨?_,qE _ _⟩;congr 1;rw[bM];simp[dH,aO,bB];omega
def aiv w c:az aq 253 #[.int .u8 c.toNat] w λe a=>e=ak (aj<|dH c)/\ay [] w a:=by
 refine ret<|v2w ⟨?_,qE _ _⟩;let h:∀n:Fin 256,JW ((ar .u8<|n.val-48)<10)=(JW (48<=n.val)&&JW (n.val<=57)):=Ks
 rw[h ⟨c.toNat,c.toNat_lt⟩];rfl
def rE0{w:av}{F:h}{s:Sl}{l:L}(b:aA lY 1 w F s l)(c:UInt8):
  az aq 250 #[Sl.v s,.int .u8 (c.toNat:Int)] w λe a=>∃i:Int,e=ak (O U i)/\JW (i>=0)=l.contains c/\ay [] w a:=by
 refine(asG s (λv a=>∃i:Int,v=O U i/\JW (i>=0)=l.contains c/\ay [] w a) w ?_).mono (by
  simp_all)
 have:=b.len;have:=b.big;have:=b.cap;refine⟨λf i a=>∃n:Nat,n<=WS l/\i=(n:Int)/\f=(WS l)-n/\(∀x,x∈l.take n->x≠c)/\a=w,WS l,R,?_⟩;rintro f _ _ ⟨n,g,rfl,rfl,p,rfl⟩;refine⟨λd=>?_,λd=>?_⟩
 .have J:(n:Int)<s.n:=S d;let⟨ad,x,u,o,e,v,z,q,k⟩:=b.get X J;rw[aV]at e;unfold lY jq at k;subst k;refine⟨ad,o,_,q,λm=>⟨_,I,?_,qE _ _⟩,λm=>⟨(WS l)-(n+1),X,n+1,X,N0,I,?_,I⟩⟩
  .have m:c=x:=a7.1 R
   grind
  intro y c;rw[aX,e]at c
  grind
 have:¬((n:Int)<s.n):=aQ d;rw[bm X]at p;refine⟨_,I,?_,qE _ _⟩
 grind
def ajN{w}{F}{s}{l}(h:aA lY 1 w F s l) c:
  az aq 218 #[Sl.v s,.int .u8 c.toNat] w λe a=>e=ak (aj<|l.contains c)/\ay [] w a:=by
 refine ret<|aso<|(rE0 h c).mono ?_;simp_all
def SL{w}{F}{s}{l}(h:aA lY 1 w F s l) c:
  az aq 168 #[.int .u8 c.toNat,Sl.v s] w λe a=>e=ak (aj<|l.contains c)/\ay [] w a:=by
 refine ret<|arU<|(ajN h c).mono ?_;simp_all
def oK:Rp (L):=λ_ _ l c=>c=[ab (T l)]
def dI:oK.Ok where
 keep h _:=h
 inHeap h:=h
 mono h _:=h
 one:=by
  rintro w F x c h v a;subst h;simp at a;subst a;rfl
def nXb{w}{F}{s}{l}(h:aA oK 1 w F s l) c:
  az aq 177 #[Sl.v s,ab<|T c] w λe a=>∃i,e=ak (O U i)/\JW (i>=0)=l.contains c/\ay [] w a:=by
 refine(LB s (λv a=>∃i,v=O U i/\JW (i>=0)=l.contains c/\ay [] w a) w ?_).mono (by
  simp_all)
 have:=h.len;have:=h.big;have:=h.cap;refine⟨λd i a=>∃n,n<=WS l/\i=n/\d=(WS l)-n/\(∀x,x∈l.take n->x≠c)/\a=w,WS l,R,?_⟩;rintro d _ _ ⟨n,g,rfl,rfl,p,rfl⟩;refine⟨λb=>?_,λb=>?_⟩
 .have J:=S b;let⟨ad,x,s,e,c,o,q,j,k⟩:=h.get X J;rw[aV]at c;subst k;refine⟨ad,e,_,j,?_⟩;dsimp only;rw[jC];refine⟨λm=>⟨_,I,?_,qE _ _⟩,λm=>⟨(WS l)-_,X,n+1,X,N0,I,?_,I⟩⟩
  .grind
  intro y l;rw[aX,c]at l
  grind
 have:=aQ b;rw[bm X]at p;refine⟨_,I,?_,qE _ _⟩
 grind
def xE{w}{F}{s}{l}(h:aA oK 1 w F s l) c:
  az aq 222 #[Sl.v s,ab<|T c] w λe a=>e=ak (aj<|l.contains c)/\ay [] w a:=by
 refine ret<|asq<|(nXb h c).mono ?_;simp_all
abbrev YH(w:av)(b:Nat)(t:TypeId)(l:L)(i:Nat)(r:aI):Prop:=aF w b t (ab (T l)::O U i::r)
def L4{w}{b}{t}{l}{i}{r}(h:YH w b t l i r):
  az aq 121 #[ae (aM ⟨b,0,VM⟩)] w λe a=>e=ak (aj<|JW<|WS l<=i)/\ay [] w a:=by
 refine ret<|arw ⟨i,Hl h 1 I,T l,Hl h 0 I,λc O=>⟨?_,O⟩⟩;rw[cE];simp_all
def FI{w}{b}{t}{l}{i}{r}(h:YH w b t l i r)(c:i<=WS l):
  az aq 170 #[ae (aM ⟨b,0,VM⟩)] w λe a=>e=ak (ab<|T<|l.drop i)/\ay [] w a:=by
 refine ret<|arW ⟨T l,Hl h 0 I,i,Hl h 1 I,i,⟨I,P9⟩,λd O=>⟨?_,O⟩⟩;rw[xr,cE,bm A]
def nW{p}:∀{l:L} {n:Nat},n<=(WS l)->(∀x,x∈l.take n->p x=aE)->(∀x,l[n]? =aM x->p x=aL)->l.takeWhile p=l.take n
 |[],n,_,_,_=>N
 |c::r,0,_,_,h=>by
  simp_all
 |c::r,n+1,hn,h,a=>by
  rw[fM,E<|h c N,fL,nW (n:=n) ZP R P9]
def ZK{w:av}{b}{t}{l}{i}{r}(c:YH w b t l i r)(d:i<=WS l)(q:WS l<9223372036854775807):
  az aq 221 #[ae (aM ⟨b,0,VM⟩)] w λe a=>e=ak (ab<|T<|(l.drop i).takeWhile gf)/\ay [] w a:=by
 refine ret<|asp<|(FI c d).mono ?_;rintro _ s ⟨rfl,o⟩;have f:WS (l.drop i)<=WS l:=R
 generalize l.drop i=m at*
 refine⟨T m,I,λv j a=>∃n,n<=WS m/\j=n/\v=(WS m)-n/\(∀x,x∈m.take n->gf x=aE)/\ay [] w a,WS m,R,?_⟩;rintro v _ k ⟨n,g,rfl,rfl,p,U⟩;rw[cE];refine⟨λb a=>(b=aE->∃x,m[n]? =aM x/\gf x=aE)/\(b=aL->∀x,m[n]? =aM x->gf x=aL)/\ay [] w a,?_,λh=>?_,λh=>⟨R,λ_ x hx=>?_,U⟩⟩
 .rintro b r ⟨i,l,F⟩;refine⟨λe=>?_,λe=>⟨n,X,?_,F⟩⟩
  .obtain⟨x,hx,t⟩:=i e;have J:=(aZ.1 hx).1;refine⟨(WS m)-_,X,n+1,X,N0,I,λy b=>?_,F⟩;rw[aX,hx]at b
   grind
  rw[xr,lg,yx,nW g p<|l e]
 .have J:=S h;have hx:m[n]? =aM _:=aR X;generalize m[n]'_=x at hx;have l:(T m)[Int.toNat (n:Int)]? =aM x:=Mp
  refine⟨x,R,(FH k x).mono ?_⟩;rintro _ i ⟨rfl,N⟩;refine⟨_,I,λe=>⟨λ_=>⟨x,hx,by unfold gf;rw[e];rfl⟩,R,U.bG N⟩,λe=>⟨x,R,(SK i x).mono ?_⟩⟩;rintro _ r ⟨rfl,B⟩;refine⟨_,I,λhd=>⟨x,hx,by unfold gf;grind⟩,λhd y b=>?_,U.bG<|N.bG B⟩;rw[hx]at b;injection b with b;subst b;unfold gf;rw[e,hd];rfl
 simp_all
def xCQ w l p (h:WS l<9223372036854775807) (b:WS p<9223372036854775807):az aq 169 #[ab (T l),ab<|T p] w λe a=>e=ak (aj<|JW<|l.take (WS p)=p)/\ay [] w a:=by
 refine ret<|arV<|(ret<|aAX (λv a=>v=aj (JW<|l.take (WS p)=p)/\ay [] w a) w ?_).mono ?_
 .rw[cE,cE];refine⟨WS p,A,?_,qE _ _⟩;rw[xr,jC,lg,yx];congr 1
  grind
 simp_all
def slT:∀l c,Lib.indexByte l c=if c∈l then(WS (l.takeWhile (· !=c)):Int)else -1
 |[],c=>rfl
 |b::l,c=>by
  rw[Lib.indexByte,slT l c];by_cases h:b=c
  .subst h;simp
  .by_cases m:c∈l
   .simp_all
   grind
def FJ{c}:∀{l:L},¬c∈l->l.takeWhile (· !=c)=l
 |[],_=>rfl
 |b::l,h=>by
  simp at h;rw[fM,E<|by simpa using λe=>h.1 e.symm,FJ h.2]
def pT{p}:∀{l:L},l.takeWhile p=l.take (WS<|l.takeWhile p)
 |[]=>rfl
 |b::l=>by
  rw[fM];split
  .rw[aY,fL,<-pT]
  rfl
def atd w l c (h:WS l<9223372036854775807):az aq 171 #[ab (T l),ab<|T [c]] w λe a=>∃(s:M) (b:C),e=ak (ai #[ab (T (l.takeWhile (· !=c))),ab s,aj b])/\ay [] w a:=by
 refine(arX (λv a=>∃(s:M) (b:C),v=(ai #[ab (T (l.takeWhile (· !=c))),ab s,aj b])/\ay [] w a) w ?_).mono (by
  simp_all)
 refine(aAY (λv a=>∃(s:M) (b:C),v=(ai #[ab (T (l.takeWhile (· !=c))),ab s,aj b])/\ay [] w a) w ?_).mono ?_
 .refine(Tryz.stringslite_Index_one _ c w).mono ?_;rintro _ _ ⟨rfl,rfl⟩;let e:(T l).data.toList=l:=I;rw[e,slT];refine⟨_,I,λb=>?_,λb=>?_⟩
  .by_cases m:c∈l
   .rw[E m];have:WS (l.takeWhile (· !=c))<WS l:=by
     have d:=List.takeWhile_append_dropWhile (p:=(· !=c)) (l:=l);have f:=bn List.length d;rw[aU]at f;let e:l.dropWhile (· !=c)≠[]:=by
      intro e;rw[e,bq]at d;rw[<-d]at m;have:=List.all_takeWhile (p:=(· !=c)) (l:=l)
      grind
     have:=xd.2 e;omega
    let hk:(T l).extract 0 (WS (l.takeWhile (· !=c)))=T (l.takeWhile (· !=c)):=by
     rw[xr,lg,yx,<-pT]
    refine⟨WS<|l.takeWhile _,⟨I,Hn⟩,WS (l.takeWhile _)+1,⟨by rw[cE,eI X o];rfl,P9⟩,λw O=>⟨(T l).extract (WS (l.takeWhile (· !=c))+1) (T l).size,aE,?_,O⟩⟩;rw[hk]
   simp_all
  .by_cases m:c∈l
   .simp_all
   .rw[FJ m];exact⟨_,_,I,qE _ _⟩
 simp_all
def xF w l {n} {parts} (h:parts=(((l.map jq).zipIdx 0).map λx=>(x.2,x.1)).toArray) (d:WS l=n) (c:0<n) (v:n*1<=16777216):
  ∃s b,(au 204 n parts).run aq w=.ok (Sl.v s) b/\Own lY 1 5 w.heap.size b (λ_=>True) s l/\ay [] w b/\s.a=aM ⟨w.heap.size,0,VM⟩:=by
 let⟨s,b,f,g,j,k,_⟩:=jP (P:=aq) (t:=204) (e:=5) (i:=t5) (w:=w) (F:=λ_=>True) (r:=lY) (size:=1) (vs:=l.map jq) (xs:=l) (len:=n) D D I I Z h A c v uA (by
  clear h d
  induction l with
  |nil=>exact trivial
  |cons a l i=>exact⟨⟨I,I⟩,i⟩)
 grind
def afH l w:pJ oK 1 w (λ_=>True) l ((l.map λx=>Value.string<|T x).map λv=>v.cells.toList):=by
 induction l with
 |nil=>exact trivial
 |cons a l i=>exact⟨⟨I,I⟩,i⟩
def lj w l {n} {parts} (p:parts=(((l.map λx=>Value.string<|T x).zipIdx 0).map λx=>(x.2,x.1)).toArray) (f:WS l=n) (h:0<n) (v:n*1<=16777216):
  ∃s a,(au 75 n parts).run aq w=.ok (Sl.v s) a/\Own oK 1 9 w.heap.size a (λ_=>True) s l/\ay [] w a:=by
 let⟨s,a,b,c,d,_⟩:=jP (P:=aq) (t:=75) (e:=9) (i:=t9) (w:=w) (F:=λ_=>True) (r:=oK) (size:=1) (vs:=l.map λx=>Value.string _) (xs:=l) (len:=n) D D I I Z p A h v dI (afH l w)
 grind
def MY{α}{r:Rp α}{size}{e}{B}{w}{F}{s}{xs}(h:r.Ok)(p:∀w F G x a,r w F x a->r w G x a)(n:Own r size e B w F s xs):aA r size w (λk=>B<=k/\s.a=aM ⟨k,0,VM⟩) s xs:=by
 rcases n with⟨rfl,rfl⟩|⟨g,c,tail,b,d,f,i,j,l,m,o⟩
 .exact WB ..
 let k:Own r size e B w (λ_=>False) s xs:=.inr ⟨g,c,tail,b,d,f,i,j,l,m,R⟩;exact(k.slice h).mono h R
def Dw{e}{B}{w}{F}{s}{xs}(h:Own lY 1 e B w F s xs):aA lY 1 w (λk=>B<=k/\s.a=aM ⟨k,0,VM⟩) s xs:=MY uA (λ_ _ _ _ _ h=>h) h
def wG{e}{B}{w}{F}{s}{xs}(h:Own oK 1 e B w F s xs):aA oK 1 w (λk=>B<=k/\s.a=aM ⟨k,0,VM⟩) s xs:=MY dI (λ_ _ _ _ _ h=>h) h
def mj:C->L->Nat
 |_,[]=>0
 |true,c::r=>1+mj (c !=10) r
 |false,c::r=>if qU c then 1+mj aL r else if c==47&&r.head? ==aM 47 then 1+mj aE r else 0
def JY:∀{b:C} {l:L},mj b l<=WS l
 |b,[]=>by simp[mj]
 |true,c::r=>by
  rw[mj,aY];have:=JY (b:=c !=10) (l:=r);omega
 |false,c::r=>by
  rw[mj,aY];have:=JY (b:=aL) (l:=r);have:=JY (b:=aE) (l:=r)
  grind
def unR:∀l,mj aE l=WS (l.takeWhile (· !=10))+mj aL (l.drop (WS (l.takeWhile (· !=10))))
 |[]=>rfl
 |c::r=>by
  by_cases hc:c=10
  .subst hc;simp[mj,qU]
  .have h:(c !=10)=aE:=WH
   rw[mj,h,unR r,fM,E h,aY,ki];omega
def D7{l}(h:l.take 2=[47,47]):mj aL l=WS (l.takeWhile (· !=10))+mj aL (l.drop (WS (l.takeWhile (· !=10)))):=by
 match l,h with
 |a::b::r,h=>
  obtain⟨rfl,rfl⟩:=h;let e:mj aL (47::47::r)=1+mj aE (47::r):=by
   conv=>lhs;rw[mj]
   rfl
  let c:(47::47::r).takeWhile (· !=10)=47::(47::r).takeWhile (· !=10):=by
   rfl
  rw[e,unR _,c,aY,ki];omega
def pU{l:L}{j}{x}(h:l[j]? =aM x):l.drop j=x::l.drop (j+1):=by
 let⟨a,b⟩:=aZ.1 h;rw[eV a,b]
def wV{w}{b}{t}{l}{i}{r}(p:YH w b t l i r)(A:i<=WS l)(B:WS l<9223372036854775807):
  az aq 120 #[ae (aM ⟨b,0,VM⟩)] w λe c=>e=ak (ai #[])/\ay [b] w c/\YH c b t l (i+mj aL (l.drop i)) r:=by
 refine ret<|arv ⟨λv c=>∃j,j<=WS l/\v=(WS l)-j/\i+mj aL _=j+mj aL (l.drop j)/\ay [b] w c/\YH c b t l j r,(WS l)-i,⟨i,A,I,I,qE _ _,p⟩,?_⟩;rintro v D ⟨j,m,rfl,h,g,k⟩;have kp:∀{u o:av} {n:Nat},ay [] u o->YH u b t l n r->YH o b t l n r:=λq C=>(q.block b C.lt N).trans C;refine(L4 k).mono ?_;rintro _ F ⟨rfl,f⟩;have d:=kp f k;refine⟨_,I,λhc=>?_,λhc=>⟨I,g.trans f N,?_⟩⟩
 .have J:j<WS l:=WH
  have hx:l[j]? =aM l[j]:=aR J;generalize l[j]=x at hx;have hd:=pU hx;refine⟨T l,Hl d 0 I,j,Hl d 1 I,x,⟨X,Mp⟩,λR K=>let⟨s,W,M,P,k3,_⟩:=xF R [9,10,13,32] (n:=4) (parts:=#[(0,.int .u8 9),_,_,_]) I I Z Z;⟨s,W,M,(SL (Dw P) x).mono ?_⟩⟩;rintro _ Y ⟨rfl,L⟩;have G:=K.bG<|k3.bG L;have r:=kp G d;have w:=g.trans (f.bG G) N;refine⟨_,I,λi=>⟨j,Hl r 1 I,b,1,_,t,I,r,N,λw5 V H=>⟨(WS l)-_,X,j+1,X,I,?_,w.trans V N,?_⟩⟩,λi=>(FI r m).mono ?_⟩
  .have e:qU x=aE:=i;rw[h,hd,mj,E e];omega
  .rw[eI X X]at H;exact H
  rintro _ w6 ⟨rfl,e⟩;have am:WS (l.drop j)<=WS l:=by rw[cT];omega
  refine⟨_,I,(xCQ w6 _ [47,47] X Z).mono ?_⟩;rintro _ w7 ⟨rfl,T⟩;have h7:=kp T<|kp e r;refine⟨_,I,λs=>(FI h7 m).mono ?_,λs=>⟨I,w.trans (e.bG T) N,?_⟩⟩
  .rintro _ w8 ⟨rfl,y⟩;refine⟨_,I,(atd w8 _ 10 X).mono ?_⟩;rintro _ w9 ⟨s9,b9,rfl,z⟩;have h9:=kp z<|kp y h7;have x:=S s;have hk:=D7 x;have fj:WS ((l.drop j).takeWhile (· !=10))<=WS (l.drop j):=by
    rw[pT,dj];exact X
   have ff:0<WS ((l.drop j).takeWhile (· !=10)):=by
    match b:l.drop j,x with
    |a::l,x=>
     have:a=47:=by
      match l,x with
      |n::a,x=>simp at x;exact x.1
     subst this;simp
   have aC:WS (l.drop j)=(WS l)-j:=cT;generalize hn:WS ((l.drop j).takeWhile _)=n at*
   refine⟨_,s9,b9,I,j,Hl h9 1 I,b,1,_,t,I,h9,N,λdh dy pz=>⟨(WS l)-_,X,j+n,X,I,?_,(w.trans (e.bG<|T.bG<|y.bG z) N).trans dy N,?_⟩⟩
   .rw[h,hk,jG];omega
   .rw[cE,hn,eI X X]at pz;exact pz
  .have s:¬(l.drop j).take 2=[47,47]:=aQ s;have i:qU x=aL:=i;have n:mj aL (l.drop j)=0:=by
    rw[hd,mj,Q<|by simp[i],Q];intro a;apply s;rw[hd];simp only[aO,dw]at a;obtain⟨rfl,a⟩:=a;cases b:l.drop _ with
    |nil=>rw[b]at a;simp at a
    |cons y z=>
     rw[b]at a;simp at a;rw[a];rfl
   rw[h,n];exact h7
 .have z:=fF WH;rw[h,z];exact d
def Er(w:av):=∃t p,w.var? aq "strconv.ErrRange" =aM #[.iface t p]
def er_num:prog.globalNamed "strconv.ErrRange" =aM 3:=Mi
def Er.keep{w w'}(h:Er w)(hk:3<w.heap.size->w'.heap[3]? =w.heap[3]?):Er w':=by
 let⟨t,p,h⟩:=h;refine⟨t,p,?_⟩;unfold World.var? at h⊢;rw[er_num]at h⊢;simp at h⊢;rw[hk]
 .exact h
 refine bK λn=>?_;rw[nP X]at h;cases h
def Er.lt{w}(h:Er w):3<w.heap.size:=by
 let⟨t,p,h⟩:=h;unfold World.var? at h;rw[er_num]at h;simp at h;refine bK λn=>?_;rw[nP X]at h;cases h
def Er.only{w w'}(h:Er w)(O:ay [] w w'):Er w':=h.keep λb=>O.block _ b N
def nC(a:Nat)(d:L):Nat:=d.foldl (λa c=>a*10+(c.toNat-48)) a
def JZ:∀d a,a<=nC a d
 |[],a=>bc _
 |c::r,a=>by
  have:=JZ r<|a*10+(c.toNat-48);show a<=nC (a*10+_) r;omega
def pum:∀d a,(∀c∈d,dH c=aE)->a<=18446744073709551615->
  Lib.parseUintM 18446744073709551615 a d=if nC a d<=18446744073709551615 then .ok (nC a d)else .range
 |[],a,_,h=>by rw[Lib.parseUintM];exact(E h).symm
 |c::r,a,hd,b=>by
  have h:=hd c N;simp[dH,aO,bB]at h;let e:nC a (c::r)=nC (a*10+_) r:=I;have:=JZ r<|a*10+(c.toNat-48);rw[Lib.parseUintM,E h,e];split
  .grind
  split
  .grind
  rw[pum r _ R X]
def pib{ds}(hd:∀c∈ds,dH c=aE)(i:ds≠[]):Lib.parseIntB 64 ds=if nC 0 ds<9223372036854775808 then .ok (nC 0 ds)else .range:=by
 match ds,i with
 |c::r,_=>
  have e:=hd c N;simp[dH,aO,bB]at e;let a:¬(c.toNat=43∨c.toNat=45):=X
  let b:¬c.toNat=45:=X
  let d:Lib.parseUintB 64 (c::r)=Lib.parseUintM 18446744073709551615 0 (c::r):=by
   rfl
  unfold Lib.parseIntB;dsimp only;rw[Q a,d,pum _ _ hd Z];by_cases h:nC 0 (c::r)<=18446744073709551615
  .rw[E h];by_cases w:nC 0 (c::r)<9223372036854775808
   .rw[E w];simp[b];omega
   rw[Q w];simp;omega
  rw[Q h,Q X]
def im(l:L):Nat×Nat×Int:=
 if l=[]then(0,0,3)else if l.takeWhile dH=[]∨(1<WS (l.takeWhile dH)/\l.head? =aM 48)then(0,0,4)
 else if nC 0 (l.takeWhile dH)<9223372036854775808 then(nC 0<|l.takeWhile dH,WS<|l.takeWhile dH,0)else(0,0,20)
def mbN{p}{l:L}:∀c,c∈l.takeWhile p->p c=aE:=by
 have:=List.all_takeWhile (p:=p) (l:=l)
 grind
def rcd{a:av}{l:L}(f:Er a)(k:WS l<281474976710656):
  az aq 224 #[ab (T l)] a λe w=>e=ak (ai #[O U (im l).1,O U (im l).2.1,O U (im l).2.2])/\ay [] a w:=by
 refine ret<|v0w ⟨λv j w=>∃n,n<=WS l/\j=n/\v=(WS l)-n/\(∀x,x∈l.take n->dH x=aE)/\ay [] a w,WS l,⟨0,bE _,I,I,N,qE _ _⟩,?_⟩;rintro v _ i ⟨n,d,rfl,rfl,g,c⟩;rw[cE];refine⟨λb w=>(b=aE->∃x,l[n]? =aM x/\dH x=aE)/\(b=aL->∀x,l[n]? =aM x->dH x=aL)/\ay [] a w,?_,λh=>?_,λh=>⟨R,λ_ x hx=>?_,c⟩⟩
 .rintro b u ⟨q,t,o⟩;refine⟨λm=>?_,λm=>?_⟩
  .obtain⟨x,hx,e⟩:=q m;let J:=(aZ.1 hx).1;refine⟨(WS l)-(n+1),X,n+1,X,N0,I,λy b=>?_,o⟩;rw[aX,hx]at b
   grind
  let z:=nW d g<|t m;let B:WS (l.takeWhile dH)=n:=A
  let C:(ao #[])=T []:=I;rw[C,jC];refine⟨λy=>⟨?_,o⟩,λy=>?_⟩
  .have y:l=[]:=S y;rw[im,E y];rfl
  let y:¬l=[]:=aQ y;refine⟨λb w=>b=JW (l.takeWhile dH=[]∨(1<WS (l.takeWhile dH)/\l.head? =aM 48))/\ay [] a w,?_,λD=>?_,λD=>?_⟩
  .rintro b r ⟨rfl,F⟩;refine⟨λm=>⟨?_,F⟩,λm=>⟨n,⟨I,d⟩,?_⟩⟩
   .rw[im,Q y,E<|S m];rfl
   let m:=aQ m;have hx:(T l).extract 0 n=T (l.takeWhile dH):=by rw[xr,lg,yx,z]
   rw[hx];let H:l.takeWhile dH≠[]:=R
   have b:=pib R H;let G:(T<|l.takeWhile dH).size<=281474976710656:=Hn
   by_cases x:nC 0 (l.takeWhile dH)<9223372036854775808
   .rw[E x]at b;refine(Tryz.strconv_ParseInt_10_at64_ok (T<|l.takeWhile dH) X _ b r).mono ?_;rintro _ J ⟨rfl,p⟩;let n:ay [] r J:=by
     rcases p with rfl|⟨s,rfl⟩
     .exact qE _ _
     exact YO<|Lib.bytesWorld_below _ _ _
    refine⟨_,⟨.nilIface,I⟩,I,.inl I,λe=>(by cases e),λ_=>⟨?_,F.bG n⟩⟩;rw[im,Q y,Q m,E x,B]
   rw[Q x]at b;let⟨J,p,n⟩:=f.only F;refine(Tryz.strconv_ParseInt_10_at64_range_var (T<|l.takeWhile dH) G b J p r n).mono ?_;rintro _ M ⟨K,rfl,_,_,s⟩;refine⟨_,⟨.iface _ _,I⟩,I,.inr ⟨_,_,I⟩,λ_=>⟨?_,F.bG<|YO s⟩,λe=>(by cases e)⟩;rw[im,Q y,Q m,Q x];rfl
  .simp_all
  let D:n≠0:=by simpa using D
  obtain⟨x,r,rfl⟩:∃x r,l=x::r:=by
   cases l with
   |nil=>exact absurd I y
   |cons x r=>grind
  refine⟨x,λ_=>⟨rU _,by rw[tJ];rfl⟩,?_,o⟩;have b:(x::r).takeWhile dH≠[]:=A
  rw[B,bM];simp;constructor
  .rintro⟨q,t⟩;exact .inr ⟨X,a7.1<|by show x.toNat=48;omega⟩
  rintro(e|⟨q,rfl⟩)
  .exact absurd e b
  grind
 .have J:(n:Int)<WS l:=S h;have hx:l[n]? =aM (l[n]' X):=aR X;generalize l[n]' X=x at hx;refine⟨x,⟨bf n,Mp⟩,(aiv i x).mono ?_⟩;rintro _ m ⟨rfl,b⟩;refine⟨_,I,R,λhd y e=>?_,c.bG b⟩;simp_all
 simp_all
structure Tk where
 k:Int
 t:L
 n:Int
 a:Int
deriving DecidableEq
def Tk.v(x:Tk):aw:=ah #[O U x.k,ab<|T x.t,O U x.n,O U x.a]
def V2:Rp Tk:=λ_ _ x c=>c=[O U x.k,ab<|T x.t,O U x.n,O U x.a]
def ju:V2.Ok where
 keep h _:=h
 inHeap h:=h
 mono h _:=h
 one:=by
  rintro w F x c h v a;subst h;simp at a;rcases a with rfl|rfl|rfl|rfl<;>rfl
abbrev oL(B:Nat)(w:av)(s:Sl)(x:J Tk):Prop:=Own V2 4 165 B w (λ_=>True) s x
def oL.of{B}{w}{F}{s}{xs}(h:Own V2 4 165 B w F s xs):oL B w s xs:=P9
def oL.sl{B}{w}{s}{xs}(h:oL B w s xs):aA V2 4 w (λk=>B<=k/\s.a=aM ⟨k,0,VM⟩) s xs:=MY ju (λ_ _ _ _ _ h=>h) h
def oL.flat{B}{w}{s}{xs}(h:oL B w s xs):Own V2 4 165 B w (λ_=>False) s xs:=by
 assumption
def oL.keep{B}{w w'}{s}{xs}(h:oL B w s xs)(hk:∀k,B<=k/\s.a=aM ⟨k,0,VM⟩->k<w.heap.size->w'.heap[k]? =w.heap[k]?):oL B w' s xs:=
 oL.of (h.flat.keep ju A)
def oL.only{B}{w w'}{s}{xs}(h:oL B w s xs)(O:ay [] w w'):oL B w' s xs:=h.keep λk _ b=>O.block k b N
def oL.p{B}{w w'}{s}{xs}{D}(h:oL B w s xs)(O:aD D w w')(a:∀k,B<=k->s.a=aM ⟨k,0,VM⟩->¬D k):oL B w' s xs:=h.keep λk hk b=>O.block k b<|a k hk.1 hk.2
def ec{w}{B}{s}{xs} t (j:oL B w s xs) (f:B<=w.heap.size) (m:(WS xs+1)*40<=140737488355328):
  ∃y a,(au 148 1 #[(0,t.v)]).run aq w=.ok (Sl.v y) a/\ay [] w a/\∃c b,(Builtin.append_ #[148,148] 148 #[Sl.v s,Sl.v y]).run aq a=.ok (Sl.v c) b/\oL B b c (xs++[t])/\aD (λk=>B<=k/\s.a=aM ⟨k,0,VM⟩) a b:=by
 let⟨y,a,l,n,c,b,k3,o,⟨q,p,d⟩,_⟩:=iO (P:=aq) (t:=148) (ty:=148) (e:=165) (i:=t165) (bytes:=40) (size:=4) (v:=t.v) (x:=t) (G:=λ_=>False) D D I I I I Z Z Z ju j f I I R m;exact⟨y,a,l,n,c,b,k3,oL.of o,p.p λg h=>.inl ⟨(d g h).2.1,(d g h).1⟩⟩
def lM:J (L):=[[97,102,116,101,114],[97,108,119,97,121,115],[99,104,97,114,116],[100,101,101,112],[101,109,105,116],[101,110,116,101,114],[104,105,115,116,111,114,121],[105,110],[105,110,105,116,105,97,108],[108,101,97,118,101],[111,110],[112,97,114,97,108,108,101,108],[114,97,105,115,101],[115,101,116],[115,116,97,116,101],[118,97,114]]
def Db w:az aq 119 #[] w λe a=>∃s,e=ak s.v/\Own oK 1 9 w.heap.size a (λ_=>True) s lM/\ay [] w a:=by
 exact jK<|aru<|let⟨s,a,h,b,c⟩:=lj w lM (n:=16) I I Z Z;⟨s,a,h,s,I,b,c⟩
structure Cut (w:av) (b:Nat) (l:L) (i:Nat) (rs:Sl) (acc:List Tk):Prop where
 blk:∃ws:Sl,aF w b 187 [ab (T l),O U (i:Int),ws.v,rs.v]/\aA oK 1 w (λk=>k<b) ws lM
 own:oL (b+1) w rs acc
 er:Er w
 gb:3<b
 il:i<=WS l
 ll:WS l<=16384
def Cut.lt{w}{b}{l}{i}{rs}{acc}(h:Cut w b l i rs acc):b<w.heap.size:=by
 let⟨s,a,_⟩:=h.blk;exact a.lt
def Cut.only{w w'}{b}{l}{i}{rs}{acc}(h:Cut w b l i rs acc)(O:ay [] w w'):Cut w' b l i rs acc:=by
 let⟨s,a,c⟩:=h.blk;exact⟨⟨s,(O.block b a.lt N).trans a,ZH dI Z c O N⟩,h.own.only O,h.er.only O,h.gb,h.il,h.ll⟩
def Cut.move{w w'}{b}{l}{i j}{rs}{acc}(h:Cut w b l i rs acc)(a:ay [b] w w')(e:j<=WS l)(B:∀s:Sl,aF w b 187 [ab (T l),O U i,s.v,rs.v]->aF w' b 187 [ab (T l),O U j,s.v,rs.v]):Cut w' b l j rs acc:=by
 let⟨s,c,d⟩:=h.blk;exact⟨⟨s,B s c,ZH dI Z d a R⟩,h.own.keep λk hk J=>a.block k J V6,h.er.keep λJ=>a.block _ J<|by simp;have:=h.gb;omega,h.gb,e,h.ll⟩
def SN{w:av}{b:Nat}{l:L}{i:Nat}{r:Sl}{a:J Tk}(h:Cut w b l i r a)(k:Int)(t:L)(C P:Int)(n:Nat)(hn:i+n<=WS l)(ha:WS a<=16384):
  az aq 123 #[ae (aM ⟨b,0,VM⟩),ah #[O U k,ab<|T t,O U C,O U P],O U (n:Int)] w λe H=>e=ak (ai #[])/\aD (λk=>b<=k) w H/\∃D,Cut H b l (i+n) D (a++[⟨k,t,C,i⟩]):=by
 refine ret<|ary λz w0 fH dC p=>let K:=h.lt;let M:=h.ll;let G:=h.only p;let⟨m,B,am⟩:=G.blk;⟨i,Hl B 1 I,λu j=>?_⟩;let W:aF u b 187 _:=(j.block b B.lt R).trans B;let x:oL (b+1) u r a:=G.own.keep λq d c=>by
  refine j.block q c ?_;simp only[bh];rintro rfl;have:=(h.own.blk d.2).2
  grind
 have:=j.size;let⟨y,w2,S,f,s,v,V,Y,g⟩:=ec ⟨k,t,C,i⟩ x X X;have:=f.size;have:=g.size;have:∀q,r.a=aM ⟨q,0,VM⟩->q≠z:=λq d=>by
  have:=(h.own.blk d).2
  grind
 refine⟨λq=>q=b,I,r,Hl W 3 I,y,w2,S,f.same o,ZX f,s,v,V,?_,?_,?_⟩
 .exact g.same R
 .intro q d c;exact g.block q c X
 let aC:aF v b 187 [ab (T l),O U (i:Int),m.v,r.v]:=(g.block b X X).trans<|(f.block b X N).trans W;refine⟨b,3,_,187,Mi,aC,N,X,λw4 y e=>let e:aF w4 b 187 [ab (T l),O U (i:Int),m.v,s.v]:=e;⟨i,Hl e 1 I,b,1,_,187,Mi,e,N,X,λw5 dV t=>⟨I,?_,s,?_⟩⟩⟩
 .have n:aD (λk=>b<=k) w u:=p.p0.trans (j.p (F:=λq=>q=z) A) X;let O:aD (λk=>b<=k) w v:=(n.bG f).trans g X;let T:aD (λk=>b<=k) w w4:=O.trans (y.p (F:=λq=>q=b) A) X;exact T.trans (dV.p (F:=λq=>q=b) A) X
 have:=y.size;have t:aF w5 b 187 [ab (T l),O U<|IntKind.i64.wrap<|(i:Int)+n,m.v,s.v]:=t;rw[eI X X]at t;let up:aD (λk=>b<=k) w w5:=by
  let n:aD (λk=>b<=k) w u:=p.p0.trans (j.p (F:=λq=>q=z) A) X;let O:aD (λk=>b<=k) w v:=(n.bG f).trans g X;let T:aD (λk=>b<=k) w w4:=O.trans (y.p (F:=λq=>q=b) A) X;exact T.trans (dV.p (F:=λq=>q=b) A) X
 let aS:=h.gb;let⟨Xo,qN,aT⟩:=h.blk;have bv:Xo=m:=by
  have:aF w0 b 187 [ab (T l),O U (i:Int),Xo.v,r.v]:=(p.block b K N).trans qN;unfold aF at this B;rw[this]at B;simp[Sl.v]at B;cases m;cases Xo;simp_all
 subst bv;refine⟨⟨Xo,t,Zz dI Z aT up λq d _ hd=>X⟩,?_,h.er.keep λc=>up.block _ c X,aS,hn,M⟩;let e4:oL (b+1) w4 s _:=Y.keep λq d c=>y.block q c R;exact e4.keep λq d c=>dV.block q c R
abbrev Tq:=Int×L×Int×Nat
def pC(m:L):Except Int Tq:=
 if 24<WS (m.takeWhile gf) then .error 2 else .ok (if lM.contains (m.takeWhile gf)then 2 else 1,m.takeWhile gf,0,WS<|m.takeWhile gf)
def vX(m:L):Except Int Tq:=
 if(im m).2.2≠0 then .error (im m).2.2 else if(im m).2.1<WS (m.takeWhile gf) then .error 4 else .ok (3,[],(im m).1,(im m).2.1)
def qV:L:=[123,125,40,41,91,93,59,44,61,43,45,42,47,37,60,62,33]
def uL(m:L):C:=match m with
 |c::d::_=>(d==61&&[60,62,61,33].contains c)||(d==c&&[38,124].contains c)||(c==45&&d==62)
 |_=>aL
def kO(m:L):Nat:=if uL m then 2 else match m with
 |c::_=>if qV.contains c then 1 else 0
 |[]=>0
def qF(m:L):Except Int Tq:=if kO m=0 then .error 4 else .ok (4,m.take<|kO m,0,kO m)
def ot(m:L):Except Int Tq:=match m with
 |[]=>.error 4
 |c::_=>if gC c then pC m else if dH c then vX m else qF m
def ZO(w:av)(b:Nat)(l:L)(i:Nat)(a:J Tk)(r:Except Int Tq)(v:aw):Prop:=match r with
 |.error e=>v=O U e/\∃r,Cut w b l i r a
 |.ok q=>v=O U 0/\∃r,Cut w b l (i+q.2.2.2) r<|a++[⟨q.1,q.2.1,q.2.2.1,i⟩]
def uM{p}{l:L}:WS (l.takeWhile p)<=WS l:=by
 rw[pT,dj];omega
def akX{w}{b}{l}{i}{rs}{acc}(h:Cut w b l i rs acc)(g:WS acc<=16384):
  az aq 173 #[ae (aM ⟨b,0,VM⟩)] w λe a=>∃v,e=ak v/\aD (λk=>b<=k) w a/\ZO a b l i acc (pC<|l.drop i) v:=by
 refine arZ ⟨b,0,VM⟩ w<|let⟨s,d,f⟩:=h.blk;have L:=h.ll;(ZK d h.il X).mono ?_;rintro _ m ⟨rfl,c⟩;have j:=by
  have:=uM (p:=gf) (l:=l.drop i);rwa[cT]at this
 have P:=h.il;refine⟨_,I,λhc=>⟨c.p0,?_⟩,λhc=>?_⟩
 .rw[cE]at hc;rw[pC,E PZ];exact⟨I,rs,h.only c⟩
 rw[cE]at hc;have hc:¬24<WS ((l.drop i).takeWhile gf):=R
 rw[pC,Q hc];generalize n:(l.drop i).takeWhile gf=b at*
 let⟨o,q,e⟩:=(h.only c).blk;refine⟨λk a=>k=(if lM.contains b then 2 else 1)/\ay [] w a,?_,o,Hl q 2 I,(xE e b).mono ?_⟩
 .rintro _ w ⟨rfl,U⟩;refine(ret<|LI _ (λv a=>v=ab (T b)/\ay [] w a) w ?_).mono ?_
  .refine(Tryz.stringslite_Clone _ w Hn).mono ?_;rintro _ i ⟨rfl,f⟩;exact⟨_,I,I,YO f⟩
  rintro _ i ⟨rfl,F⟩;rw[cE];refine⟨_,I,(SN (h.only<|U.bG F) _ b 0 0 (WS b) X g).mono ?_⟩;rintro _ k ⟨rfl,N,r,C⟩;exact⟨I,(U.bG F).ph N,I,r,C⟩
 rintro _ w ⟨rfl,B⟩;refine⟨_,I,λd=>⟨by rw[E d],c.bG B⟩,λd=>⟨by rw[d];rfl,c.bG B⟩⟩
def aeA{w}{b}{l:L}{i}{rs}{acc}(h:Cut w b l i rs acc)(c:WS acc<=16384):
  az aq 175 #[ae (aM ⟨b,0,VM⟩)] w λe a=>∃v,e=ak v/\aD (λk=>b<=k) w a/\ZO a b l i acc (vX<|l.drop i) v:=by
 refine ar1 ⟨b,0,VM⟩ (λv a=>aD (λk=>b<=k) w a/\ZO a b l i acc (vX<|l.drop i) v) w<|let⟨s,d,g⟩:=h.blk;have:=h.ll;have:=h.il;(FI d h.il).mono ?_;rintro _ m ⟨rfl,T⟩;have:WS (l.drop i)=(WS l)-i:=cT;refine⟨_,I,(rcd (h.er.only T) X).mono ?_⟩;rintro _ n ⟨rfl,U⟩;let j:=T.bG U;refine⟨_,_,_,I,λhe=>⟨j.p0,?_⟩,λhe=>?_⟩
 .rw[vX,E Ze];exact⟨I,rs,h.only j⟩
 let he:¬(im<|l.drop i).2.2≠0:=Ze
 have:(im<|l.drop i).2.1<=WS (l.drop i):=by
  have:=uM (p:=dH) (l:=l.drop i);unfold im
  grind
 let⟨b,q,w⟩:=(h.only j).blk;refine(ZK q h.il X).mono ?_;rintro _ e ⟨rfl,F⟩;let o:=j.bG F;refine⟨_,I,?_⟩;dsimp only;rw[cE];refine⟨λhc=>⟨o.p0,?_⟩,λhc=>?_⟩
 .rw[vX,Q he,E PZ];exact⟨I,rs,h.only o⟩
 rw[vX,Q he,Q YD];refine(SN (h.only o) 3 [] _ 0 (im _).2.1 X c).mono ?_;rintro _ i ⟨rfl,N,r,C⟩;exact⟨I,o.ph N,I,r,C⟩
end Con
