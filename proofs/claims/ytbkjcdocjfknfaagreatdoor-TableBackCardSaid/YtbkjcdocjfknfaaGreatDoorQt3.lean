import Derived.Test.YtbkjcdocjfknfaaGreatDoorQt2
set_option linter.unusedSectionVars false
namespace Go.Kt.V
open Go renaming World->av,Value->aw
open Go Go.RowKit Go.Kt
set_option linter.unusedSimpArgs false
set_option linter.unusedVariables false
def oH(l:List aw)(i:Nat):aw:=match l,i with
 | [],_=>undef
 | v::_,0=>v
 | _::r,i+1=>oH r i
def zp:List Nat->List aw->List (Nat×aw)
 | i::r,v::s=>(i,v)::zp r s
 | _,_=>[]
def P6:List (Nat×SV)->List Nat
 | []=>[]
 | p::r=>p.1::P6 r
def Lu:List (Nat×SV)->List SV
 | []=>[]
 | p::r=>p.2::Lu r
theorem Si β:∀l,zp (P6 l) (cm β (Lu l))=zf β l
 | []=>rfl
 | p::r=>by
  have:=Si β r;simp[cm]at this;simp[P6,Lu,cm,zp,zf,this]
def YK(P:Program)(t:TypeId):Bool:=match P.underlying t with
 | some (.pointer _)=>true
 | _=>false
def YL:Operand->Bool
 | .const _=>true
 | _=>false
def ptS:SV->Bool
 | .ptr _=>true
 | .ad _=>true
 | _=>false
def gX(P:Program):Op->Bool
 | .move _=>true
 | .assign _=>true
 | .pick _ _ _=>true
 | .binOp _ t x y _=>!(YK P t)||YL x||YL y
 | .unOp _ _ _=>true
 | .extract _ _=>true
 | .build _ _=>true
 | .makeFunc _ _ _=>true
 | .makeInterface _ _=>true
 | .nilCheck _=>true
 | .fieldAddr _ _ _=>true
 | .field _ _ _=>true
 | .indexAddr _ _ _=>true
 | .load _ _=>true
 | .index _ _ _=>true
 | .slice _ _ _ _ _=>true
 | .convert s d _=>(match P.underlying s,P.underlying d with
  | some (.int _),some (.int _)=>true
  | some .string,some .string=>true
  | some (.slice e),some .string=>(match P.underlying e with
   | some (.int .u8)=>true
   | _=>false)
  | _,_=>false)
 | .call c=>(match c.callee with
  | .builtin .len=>(match c.argTypes.toList with
   | [t]=>(match P.underlying t with
    | some (.slice _)=>true
    | some .string=>true
    | _=>false)
   | _=>false)
  | .builtin .cap=>true
  | .builtin .min=>true
  | .builtin .max=>true
  | _=>false)
 | _=>false
def vH:Op->Bool
 | .store _ _ _=>true
 | _=>false
def YM(P:Program)(X:XT)(st:St)(o:Oper)(b:Builtin)(ts:Array TypeId)(vs:List SV)(K:St->Prop):Prop:=match b with
 | .append=>pw P X st o.dst (yM P o.type) vs (fun l=>Builtin.append_ ts o.type l.toArray) K
 | .copy=>pw P X st o.dst (yM P o.type) vs (fun l=>Builtin.copy_ ts o.type l.toArray) K
 | .delete=>pw P X st o.dst (yM P o.type) vs (fun l=>Builtin.delete_ ts o.type l.toArray) K
 | .clear=>pw P X st o.dst (yM P o.type) vs (fun l=>Builtin.clear_ ts o.type l.toArray) K
 | .len=>pw P X st o.dst (yM P o.type) vs (fun l=>Builtin.len_ ts o.type l.toArray) K
 | .unsafeSliceData=>pw P X st o.dst (yM P o.type) vs (fun l=>Builtin.unsafeSliceData_ ts o.type l.toArray) K
 | .unsafeString=>pw P X st o.dst (yM P o.type) vs (fun l=>Builtin.unsafeString_ ts o.type l.toArray) K
 | _=>False
def I3(f:FuncId)(args:Array aw):Sem aw:=do
 match <-callFunc f args with
 | .value v=>pure v
 | _=>stuck "extV"
theorem Lv{P}{f}{args}{w w1}{v}(h:(I3 f args).run P w=.ok v w1):(callFunc f args).run P w=.ok (.value v) w1:=by
 unfold I3 at h;rw[Sem.run_bind]at h;cases hc:(callFunc f args).run P w with
 | ok n w2=>
  rw[hc,Result.andThen_ok]at h;cases n<;>first | (simp at h;done) | (simp at h;obtain⟨rfl,rfl⟩:=h;rfl) | (simp at h)
 | _=>rw[hc]at h;simp at h
theorem Ue{P}{a:Act}{w w1}{v}{dst}{x}{f}{first captured}{xs:List Operand}{ats}{t'}{p}{af}{g}{args}
  (hx:a.eval x=.func (.func f) first.toArray captured.toArray)
  (ha:first++xs.map a.eval++captured=args) (hc:(callFunc f args.toArray).run P w=.ok (.value v) w1):
  (execOp a.eval ⟨dst,.call ⟨.value x,xs.toArray,ats⟩,t',p,af,g⟩).run P w=.ok (.value v) w1:=by
 subst ha;simp only[execOp,resolve,hx,Deferred.ofValue,invoke]
 grind
def Uf(P:Program)(X:XT)(st:St)(o:Oper)(fv:SV)(vs:List SV)(K:St->Prop):Prop:=match fv with
 | .fn g fs cs=>bif yK fs&&yK cs&&Ll P g then dP (st.esc (kJ fs++vs++kJ cs)) fun st=>Lm P X st o.dst (YJ P g) g (kJ fs++vs++kJ cs) [] K
  else bif yK fs&&yK cs then dP (st.esc (kJ fs++vs++kJ cs)) fun st=>pw P X st o.dst (YJ P g) (kJ fs++vs++kJ cs) (fun l=>I3 g l.toArray) K else False
 | .raw v=>dP (st.esc vs) fun st=>∃(g:FuncId) (fst cap:List aw),v.v=.func (.func g) fst.toArray cap.toArray/\(∀args w,(callFunc g args).run P w=.ok (.enter g args) w)/\Lq P X st o.dst (yM P o.type) g fst vs cap K
 | _=>False
abbrev YT:=Option Nat->Prop->Prop
def YN(P:Program)(X:XT)(Y:YT)(st:St)(o:Oper)(p s:SV)(vs:List SV)(K:St->Prop):Prop:=match p with
 | .box i off=>bU (cJ st.bx i) fun b=>bif b.ok&&Nat.ble (off+vs.length) b.cells.length then Y b.blk (K ((st.qw i b (YG b.cells off vs)).put o.dst .un))else False
 | .ad p=>dP (st.esc vs) fun st=>∃(bk off:Nat) (cells:List aw) (ety:TypeId),p=(⟨bk,off,none⟩)/\Blk st.w0 bk ety cells/\off+vs.length<=cells.length/\
  bif fL st.FN vs&&nB st.bx then neB bk st.bx (∀w1,Only [bk] st.w0 w1->Blk w1 bk ety (cd cells off (cm st.bl vs))->X st.w0 w1 (K (St.put {st with w0:=w1} o.dst .un)))else False
 | _=>False
def YO(P:Program)(st:St)(o:Oper)(fv:SV)(vs:List SV)(K:St->Prop):Prop:=match fv with
 | .fn g fs cs=>bif yK fs&&yK cs&&Ll P g then dP (st.esc (kJ fs++vs++kJ cs)) fun st=>bif fL st.FN (kJ fs++vs)&&fL st.FN (kJ cs)then
  K (St.put {st with df:=(g,cm st.bl (kJ fs++vs),cm st.bl (kJ cs))::st.df} o.dst .un)else False else False
 | _=>False
def YP:List TypeId->List TypeId
 | []=>[]
 | _::r=>r
def loud(P:Program)(X:XT)(Y:YT)(st:St)(o:Oper)(K:St->Prop):Prop:=match o.op with
 | .binOp op t x y _=>bU (st.ev x) fun a=>bU (st.ev y) fun b=>bif ptS a&&ptS b then dP (st.esc [a,b]) fun st=>pw P X st o.dst [o.type] [a,b] (fun vs=>Go.binOp op t (oH vs 0) (oH vs 1)) K else False
 | .alloc t=>bU (zc P t) fun zs=>bif Xv st zs then K (st.BF o.dst t zs)else False
 | .box t x=>bU (st.ev x) fun s=>bU (wM s) fun zs=>bif Xv st zs then K (st.BF o.dst t zs)else False
 | .store t x y=>bU (st.ev x) fun p=>bU (st.ev y) fun s=>bU (wM s) fun vs=>bif sz P t vs.length then YN P X Y st o p s vs K else False
 | .call c=>bU (st.Iv c.args.toList) fun vs=>(match c.callee with
  | .value f=>bU (st.ev f) fun fv=>Uf P X st o fv vs K
  | .builtin b=>dP (st.esc vs) fun st=>YM P X st o b c.argTypes vs K
  | _=>False)
 | .defer c=>bU (st.Iv c.args.toList) fun vs=>(match c.callee with
  | .value f=>bU (st.ev f) fun fv=>YO P st o fv vs K
  | _=>False)
 | .buildSlice t n ps=>bU (st.Pb ps.toList) fun l=>dP (st.esc (Lu l)) fun st=>pw P X st o.dst [t] (Lu l) (fun vs=>Instr.buildSlice t n (zp (P6 l) vs).toArray) K
 | .makeSlice t x y=>bU (st.ev x) fun a=>bU (st.ev y) fun b=>dP st fun st=>pw P X st o.dst [t] [a,b] (fun vs=>Instr.makeSlice t (oH vs 0) (oH vs 1)) K
 | .makeMap t none=>dP st fun st=>pw P X st o.dst [t] [] (fun _=>Instr.makeMap t none) K
 | .makeMap t (some x)=>bU (st.ev x) fun a=>dP st fun st=>pw P X st o.dst [t] [a] (fun vs=>Instr.makeMap t (some (oH vs 0))) K
 | .lookup t x i ok=>bU (st.ev x) fun a=>bU (st.ev i) fun b=>dP st fun st=>pw P X st o.dst (yM P o.type) [a,b] (fun vs=>Instr.lookup t (oH vs 0) (oH vs 1) ok) K
 | .mapUpdate t x y z=>bU (st.ev x) fun a=>bU (st.ev y) fun b=>bU (st.ev z) fun c=>dP (st.esc [a,b,c]) fun st=>P4 P X st o.dst [a,b,c] (fun vs=>Instr.mapUpdate t (oH vs 0) (oH vs 1) (oH vs 2)) K
 | .insert t x y z=>bU (st.ev x) fun a=>bU (st.ev y) fun b=>bU (st.ev z) fun c=>dP (st.esc [a,b,c]) fun st=>P4 P X st o.dst [a,b,c] (fun vs=>Instr.mapUpdate t (oH vs 0) (oH vs 1) (oH vs 2)) K
 | .convert s d x=>bU (st.ev x) fun a=>dP (st.esc [a]) fun st=>pw P X st o.dst [d] [a] (fun vs=>convert s d (oH vs 0)) K
 | .range t x=>bU (st.ev x) fun a=>dP st fun st=>∃p,Ls P X st o.dst [a] (fun vs=>Instr.range t (oH vs 0)) (.ptr p) K
 | .next x false=>bU (st.ev x) fun a=>dP st fun st=>Ls P X st o.dst [a] (fun vs=>Instr.next (oH vs 0) false o.type) (.tup (lV [.bl false])) K∨
  Xw P (YP (yM P o.type)) fun rs=>Ls P X st o.dst [a] (fun vs=>Instr.next (oH vs 0) false o.type) (.tup (lV (.bl true::rs))) K
 | .entry x=>bU (st.ev x) fun a=>dP st fun st=>R9 [.raw,.raw] fun rs=>Ls P X st o.dst [a] (fun vs=>Instr.entry (oH vs 0)) (.tup (lV rs)) K
 | _=>False
section
variable {P:Program} {β:Nat->Nat} {st:St} {a:Act} {w w1:av} {X:XT} {Y:YT} {E:av->av->Prop} {K:St->Prop} {Q:Exit->Act->av->Prop}
abbrev Sj(E:av->av->Prop)(st:St)(K:St->Prop)(w:av)(a':Act)(w':av):Prop:=∃β' cn,K cn/\Ext st cn/\E w w'/\Rep β' cn a' w'
theorem jB(hX:∀w0 w1 p,X w0 w1 p->p/\E w0 w1){o}{BN}{args l}{run}(h:dP (st.esc l) fun st=>pw P X st o.dst BN args run K)(hR:Rep β st a w)
  (hx:∀v w1,(run (cm β args)).run P w=.ok v w1->(execOp a.eval o).run P w=.ok (.value v) w1):o.wp P a w (Sj E st K w) Q:=by
 obtain⟨s1,h1,e1,fJ,hm,_⟩:=dq h (hR.esc l);obtain⟨v,w',hr,cn,k1,k2,k3,k4⟩:=Gz hX h1 hm fJ;exact u7 v (hx v w' hr) rfl ⟨β,cn,k1,(Ext.esc st l).trans (e1.trans k2),k3,k4⟩
theorem th(hX:∀w0 w1 p,X w0 w1 p->p/\E w0 w1){o}{BN}{args}{run}(h:dP st fun st=>pw P X st o.dst BN args run K)(hR:Rep β st a w)
  (hx:∀v w1,(run (cm β args)).run P w=.ok v w1->(execOp a.eval o).run P w=.ok (.value v) w1):o.wp P a w (Sj E st K w) Q:=by
 obtain⟨s1,h1,e1,fJ,hm,_⟩:=dq h hR;obtain⟨v,w',hr,cn,k1,k2,k3,k4⟩:=Gz hX h1 hm fJ;exact u7 v (hx v w' hr) rfl ⟨β,cn,k1,e1.trans k2,k3,k4⟩
theorem CK(hX:∀w0 w1 p,X w0 w1 p->p/\E w0 w1){o}{args l}{run}(h:dP (st.esc l) fun st=>P4 P X st o.dst args run K)(hR:Rep β st a w)
  (hx:∀w1,(run (cm β args)).run P w=.ok () w1->(execOp a.eval o).run P w=.ok .skip w1):o.wp P a w (Sj E st K w) Q:=by
 obtain⟨s1,h1,e1,fJ,hm,_⟩:=dq h (hR.esc l);obtain⟨w',hr,cn,k1,k2,k3,k4⟩:=P5 hX h1 hm fJ;exact K0 (hx w' hr) rfl ⟨β,cn,k1,(Ext.esc st l).trans (e1.trans k2),k3,k4⟩
theorem GA(hE:∀w w1,Only [] w w1->E w w1){d}{t}{zs}(hc:Xv st zs=true)(h:K (st.BF d t zs))(hR:Rep β st a w){b}(hb:w.heap.size<=b)(hO:Only [] w w1)(hB:Blk w1 b t (cm β zs)):
  Sj E st K w (a.put d (.pointer (some ⟨b,0,none⟩))) w1:=by
 simp[Xv]at hc;exact⟨_,_,h,Ext.BF _ _ _ _,hE _ _ hO,hR.BF hc.1.1.1 hc.1.1.2 hc.1.2 hb hO hB hc.2⟩
theorem Lw(hX:∀w0 w1 p,X w0 w1 p->p/\E w0 w1){o}{BN}{f}{args}{mo}{s1}(h:Lm P X s1 o.dst BN f args mo K)(hm:s1.mv=false)(e1:Ext st s1)(hR:Rep β s1 a w)
  (hx:(execOp a.eval o).run P w=.ok (.enter f (cm β args++mo).toArray) w):o.wp P a w (Sj E st K w) Q:=by
 refine Gp hx ((Lp hX h hm hR).mono ?_);rintro e w' ⟨v,rfl,cn,k1,k2,k3,k4⟩;exact⟨v,_,rfl,rfl,β,cn,k1,e1.trans k2,k3,k4⟩
theorem I4(hX:∀w0 w1 p,X w0 w1 p->p/\E w0 w1){o}{BN}{f}{fst}{args}{mo}{s1}(h:Lq P X s1 o.dst BN f fst args mo K)(hm:s1.mv=false)(e1:Ext st s1)(hR:Rep β s1 a w)
  (hx:(execOp a.eval o).run P w=.ok (.enter f (vG (vG fst (cm β args)) mo).toArray) w):o.wp P a w (Sj E st K w) Q:=by
 refine Gp hx ((Lr hX h hm hR).mono ?_);rintro e w' ⟨v,rfl,cn,k1,k2,k3,k4⟩;exact⟨v,_,rfl,rfl,β,cn,k1,e1.trans k2,k3,k4⟩
theorem Ly{s}(h:ptS s=true) β:∃q,val β s=.pointer q:=by
 cases s<;>first | (cases h;done) | exact⟨_,rfl⟩
theorem P7{a:Act}{dst}{op}{t ty}{x y}{t'}{p}{af}{g}{u v r}(hu:∃q,u=.pointer q)(hv:∃q,v=.pointer q)(hx:a.eval x=u)(hy:a.eval y=v){w w1}
  (hr:(Go.binOp op t u v).run P w=.ok r w1):(execOp a.eval ⟨dst,.binOp op t x y ty,t',p,af,g⟩).run P w=.ok (.value r) w1:=by
 obtain⟨q,rfl⟩:=hu;obtain⟨q',rfl⟩:=hv;have hg:eqGuard op t x y (.pointer q) (.pointer q')=pure ():=by cases op<;>rfl
 simp[execOp,hx,hy,hg,hr]
theorem P8{a:Act}{dst}{x}{fn}{first captured:List aw}{xs:List Operand}{ats}{t'}{p}{af}{g}{args}{w}
  (hx:a.eval x=.func fn first.toArray captured.toArray) (ha:first++xs.map a.eval=args):
  (execOp a.eval ⟨dst,.defer ⟨.value x,xs.toArray,ats⟩,t',p,af,g⟩).run P w=.ok (.defer {target:=.fn fn captured.toArray,args:=args.toArray}) w:=by
 subst ha;simp only[execOp,resolve,hx,Deferred.ofValue];simp
theorem Lz{a:Act}{dst}{t}{x}{t'}{p}{af}{g}{u v}{w w1}(hx:a.eval x=u)(hr:(Instr.range t u).run P w=.ok v w1):
  (execOp a.eval ⟨dst,.range t x,t',p,af,g⟩).run P w=.ok (.value v) w1:=by
 simp[execOp,hx,hr]
theorem GB{a:Act}{dst}{x}{t'}{p}{af}{g}{u v}{w w1}(hx:a.eval x=u)(hr:(Instr.next u false t').run P w=.ok v w1):
  (execOp a.eval ⟨dst,.next x false,t',p,af,g⟩).run P w=.ok (.value v) w1:=by
 simp[execOp,hx,hr]
theorem LA{a:Act}{dst}{x}{t'}{p}{af}{g}{u v}{w w1}(hx:a.eval x=u)(hr:(Instr.entry u).run P w=.ok v w1):
  (execOp a.eval ⟨dst,.entry x,t',p,af,g⟩).run P w=.ok (.value v) w1:=by
 simp[execOp,hx,hr]
theorem jC β l m:cm β (l++m)=cm β l++cm β m:=by simp[cm]
theorem Ay(hX:∀w0 w1 p,X w0 w1 p->p/\E w0 w1){o:Oper}(hE:∀w w1,Only [] w w1->E w w1)(hS:vH o.op=true->∀bk k w w1 p,Y bk p->(∀j,bk=some j->k=j)->Only [k] w w1->p/\E w w1)(h:loud P X Y st o K)(hR:Rep β st a w):o.wp P a w (Sj E st K w) Q:=by
 obtain⟨dst,op,t',p,af,g⟩:=o;unfold loud at h;dsimp only at h;split at h
 ·obtain⟨x,hx,h⟩:=ba h;obtain⟨y,hy,h⟩:=ba h;obtain⟨hp,h⟩:=cX h;simp only[aR]at hp;exact jB hX h hR fun v w1 hr=>P7 (Ly hp.1 β) (Ly hp.2 β) (hR.ev hx) (hR.ev hy) hr
 ·obtain⟨zs,hz,h⟩:=ba h;obtain⟨hc,h⟩:=cX h;obtain⟨z,z1,z2⟩:=Sh hz w;exact Cp z1 (z2 β) (fun _=>rfl) fun b w1 hb hO hB=>GA hE hc h hR hb hO hB
 ·obtain⟨s,hs,h⟩:=ba h;obtain⟨zs,hz,h⟩:=ba h;obtain⟨hc,h⟩:=cX h;exact TX (by rw[hR.ev hs];exact(uu hz β).1) (fun _=>rfl) fun b w1 hb hO hB=>GA hE hc h hR hb hO hB
 ·obtain⟨q,hx,h⟩:=ba h;obtain⟨s,hy,h⟩:=ba h;obtain⟨vs,hv,h⟩:=ba h;obtain⟨hsz,h⟩:=cX h;obtain⟨c1,c2⟩:=uu hv β;have hE':=hS rfl;cases q with
  | box i off=>
   obtain⟨b,hb,h⟩:=ba h;obtain⟨h1,h⟩:=cX h;simp only[aR]at h1;have h2:=ci h1.2;refine Co (mT hsz w) (hR.ev hx) (by rw[hR.ev hy];exact c1) (eu β vs) c2 (hR.bx i b hb h1.1).blk (by rw[eu,eu];exact h2) rfl rfl fun w1 hO hB=>?_;rw[<-CA]at hB;obtain⟨h,he⟩:=hE' _ (β i) _ w1 _ h (fun j hj=>(hR.bx i b hb h1.1).at_ j hj) hO;exact⟨β,_,h,(Ext.qw hb).trans (Ext.put _ _ _),he,(hR.qw hb h1.1 hO hB).put dst .un⟩
  | ad ad=>
   simp only[YN]at h;obtain⟨s1,h1,e1,fJ,hm,_⟩:=dq h (hR.esc vs);obtain⟨bk,off,cells,ety,rfl,hB,FP,h2⟩:=h1;obtain⟨h3,h2⟩:=cX h2;simp only[aR]at h3;obtain⟨h2,gL⟩:=EZ h2;have hw:=fJ.still hm;rw[<-hw,fJ.qv h3.1]at h2;rw[<-hw]at hB;refine Co (mT hsz w) (hR.ev hx) (by rw[hR.ev hy];exact c1) (eu β vs) c2 hB (by rw[eu];exact FP) rfl rfl fun w1 hO vw=>?_;obtain⟨h4,h5⟩:=hX _ _ _ (h2 w1 hO vw);refine⟨β,_,h4,((Ext.esc st vs).trans e1).trans (Ext.trans (t:={s1 with w0:=w1}) ⟨rfl,aV _,fun _ _ _ h _=>h,fun i b' kV ho hs=>⟨b',kV,ho,rfl,rfl,rfl,fun _ h=>h⟩,K7,B0⟩ (Ext.put _ _ _)),h5,?_⟩;refine Rep.put (v:=.un) (Rep.next (ct':=s1.ct) fJ hm h3.2 fun i b' kV ho=>⟨b',kV,ho,rfl,?_⟩) _;have eD:=fJ.JJ h3.2 kV ho;have:=gL i b' kV ho;rw[eD]at this;exact hO.blk (fJ.bx i b' kV ho).blk (by simpa using this)
  | _=>exact h.elim
 ·rename_i c;obtain⟨callee,⟨xs⟩,ts⟩:=c;obtain⟨vs,hv,h⟩:=ba h;have yC:=hR.Iv hv;dsimp only at h;cases callee with
  | value f=>
   obtain⟨fv,hf,h⟩:=ba h;cases fv with
   | fn g' fs cs=>
    have ef:yK fs=true->yK cs=true->a.eval f=.func (.func g') (cm β (kJ fs)).toArray (cm β (kJ cs)).toArray:=fun k1 k2=>by
     rw[hR.ev hf];show Value.func (.func g') (nt β fs).toArray (nt β cs).toArray=_;rw[kx β k1,kx β k2]
    have h':=h;unfold Uf at h';rcases kK h' with⟨h0,h1⟩ | ⟨_,h1⟩
    ·simp only[aR]at h0;obtain⟨s1,h1,e1,fJ,hm,_⟩:=dq h1 (hR.esc _);refine Lw hX h1 hm ((Ext.esc _ _).trans e1) fJ ?_;exact Cg (ef h0.1.1 h0.1.2) (gN h0.2) (by rw[yC,jC,jC,bN])
    ·obtain⟨h0,h1⟩:=cX h1;simp only[aR]at h0;exact jB hX h1 hR fun v w1 hr=>Ue (ef h0.1 h0.2) (by rw[yC,jC,jC]) (Lv hr)
   | raw v=>
    simp only[Uf]at h;obtain⟨s1,⟨g',fst,cap,h1,h2,h3⟩,e1,fJ,hm,_⟩:=dq h (hR.esc vs);refine I4 hX h3 hm ((Ext.esc _ _).trans e1) fJ ?_;have ef:a.eval f=.func (.func g') fst.toArray cap.toArray:=(hR.ev hf).trans h1;exact Cg ef h2 (by rw[yC];rfl)
   | _=>exact h.elim
  | builtin b=>
   unfold YM at h;cases b with
   | append=>exact jB hX h hR fun v w1 hr=>uo yC hr
   | copy=>exact jB hX h hR fun v w1 hr=>wD yC hr
   | delete=>exact jB hX h hR fun v w1 hr=>uq yC hr
   | clear=>exact jB hX h hR fun v w1 hr=>vD yC hr
   | len=>exact jB hX h hR fun v w1 hr=>yG yC hr
   | unsafeSliceData=>exact jB hX h hR fun v w1 hr=>(by rw[<-yC]at hr;exact jV (fun _=>rfl) hr)
   | unsafeString=>exact jB hX h hR fun v w1 hr=>(by rw[<-yC]at hr;exact jV (fun _=>rfl) hr)
   | _=>
    obtain⟨s1,h1,_⟩:=dq h (hR.esc vs);exact h1.elim
  | _=>exact h.elim
 ·rename_i c;obtain⟨callee,⟨xs⟩,ts⟩:=c;obtain⟨vs,hv,h⟩:=ba h;have yC:=hR.Iv hv;dsimp only at h;cases callee with
  | value f=>
   obtain⟨fv,hf,h⟩:=ba h;cases fv with
   | fn g' fs cs=>
    unfold YO at h;obtain⟨h0,h1⟩:=cX h;simp only[aR]at h0;have ef:a.eval f=.func (.func g') (cm β (kJ fs)).toArray (cm β (kJ cs)).toArray:=by
     rw[hR.ev hf];show Value.func (.func g') (nt β fs).toArray (nt β cs).toArray=_;rw[kx β h0.1.1,kx β h0.1.2]
    obtain⟨s1,h1,e1,fJ,hm,_⟩:=dq h1 (hR.esc _);obtain⟨hc,h1⟩:=cX h1;simp only[aR]at hc;rw[fJ.qv hc.1,fJ.qv hc.2]at h1;have hr:=P8 (P:=P) (dst:=dst) (ats:=ts) (t':=t') (p:=p) (af:=af) (g:=g) (w:=w) ef (by rw[yC,<-jC]);unfold Oper.wp;rw[hr,Oper.upon_defer];have N3:Rep β {s1 with df:=(g',cm β (kJ fs++vs),cm β (kJ cs))::s1.df} {a with defers:={target:=.fn (.func g') (cm β (kJ cs)).toArray,args:=(cm β (kJ fs++vs)).toArray}::a.defers} w:=by
     obtain⟨us,hu⟩:=fJ.fr;exact⟨⟨us,by rw[hu];rfl⟩,fJ.bx,fJ.ne,fJ.only,fJ.still⟩
    exact⟨β,_,h1,((Ext.esc _ _).trans e1).trans (Ext.trans (t:={s1 with df:=(g',cm β (kJ fs++vs),cm β (kJ cs))::s1.df}) ⟨rfl,aV _,fun _ _ _ h _=>h,fun i b' kV ho hs=>⟨b',kV,ho,rfl,rfl,rfl,fun _ h=>h⟩,K7,⟨[_],rfl⟩⟩ (Ext.put _ _ _)),hE _ _ (Only.refl _ _),N3.put dst .un⟩
   | _=>exact h.elim
  | _=>exact h.elim
 ·rename_i t n ps;obtain⟨l,hl,h1⟩:=ba h;clear h;obtain⟨ps⟩:=ps;refine jB hX h1 hR fun v w1 hr=>?_;rw[Si]at hr;exact zY (hR.Pb hl) hr
 ·obtain⟨u,hx,h⟩:=ba h;obtain⟨v,hy,h⟩:=ba h;exact th hX h hR fun _ w1 hr=>Cb (hR.ev hx) (hR.ev hy) hr
 ·exact th hX h hR fun _ w1 hr=>IQ hr
 ·obtain⟨u,hx,h⟩:=ba h;exact th hX h hR fun _ w1 hr=>EB (hR.ev hx) hr
 ·obtain⟨u,hx,h⟩:=ba h;obtain⟨v,hy,h⟩:=ba h;exact th hX h hR fun _ w1 hr=>KW (hR.ev hx) (hR.ev hy) hr
 ·obtain⟨u,hx,h⟩:=ba h;obtain⟨v,hy,h⟩:=ba h;obtain⟨z,hz,h⟩:=ba h;exact CK hX h hR fun w1 hr=>Cf (hR.ev hx) (hR.ev hy) (hR.ev hz) hr
 ·obtain⟨u,hx,h⟩:=ba h;obtain⟨v,hy,h⟩:=ba h;obtain⟨z,hz,h⟩:=ba h;exact CK hX h hR fun w1 hr=>KX (hR.ev hx) (hR.ev hy) (hR.ev hz) hr
 ·obtain⟨u,hx,h⟩:=ba h;exact jB hX h hR fun _ w1 hr=>IR (hR.ev hx) hr
 ·obtain⟨u,hx,h⟩:=ba h;obtain⟨s1,⟨q,h1⟩,e1,fJ,hm,_⟩:=dq h hR;obtain⟨v,w',hr,cn,k1,k2,k3,k4⟩:=wa hX h1 hm fJ;exact u7 v (Lz (hR.ev hx) hr) rfl ⟨β,cn,k1,e1.trans k2,k3,k4⟩
 ·obtain⟨u,hx,h⟩:=ba h;obtain⟨s1,h1,e1,fJ,hm,_⟩:=dq h hR;rcases h1 with h1 | h1
  ·obtain⟨v,w',hr,cn,k1,k2,k3,k4⟩:=wa hX h1 hm fJ;exact u7 v (GB (hR.ev hx) hr) rfl ⟨β,cn,k1,e1.trans k2,k3,k4⟩
  ·obtain⟨_,h1,_⟩:=xb h1;obtain⟨v,w',hr,cn,k1,k2,k3,k4⟩:=wa hX h1 hm fJ;exact u7 v (GB (hR.ev hx) hr) rfl ⟨β,cn,k1,e1.trans k2,k3,k4⟩
 ·obtain⟨u,hx,h⟩:=ba h;obtain⟨s1,h1,e1,fJ,hm,_⟩:=dq h hR;obtain⟨_,h1,_⟩:=rM h1;obtain⟨v,w',hr,cn,k1,k2,k3,k4⟩:=wa hX h1 hm fJ;exact u7 v (LA (hR.ev hx) hr) rfl ⟨β,cn,k1,e1.trans k2,k3,k4⟩
 ·exact h.elim
end
def nd(P:Program)(st:St)(o:Op):Bool:=match o with
 | .load _ x=>(match st.ev x with
  | some (.ad _)=>true
  | _=>false)
 | .convert s _ _=>(match P.underlying s with
  | some (.slice _)=>true
  | _=>false)
 | _=>false
def Ug(b:Bool)(st:St)(K:St->Prop):Prop:=bif b&&st.mv then dP st K else K st
theorem uz{b}{st}{K}(h:Ug b st K){β}{a}{w}(hR:Rep β st a w):∃cn,K cn/\Ext st cn/\Rep β cn a w/\cn.fr=st.fr/\cn.n=st.n:=by
 rcases kK h with⟨_,h⟩ | ⟨_,h⟩
 ·obtain⟨s,h1,h2,h3,h4,h5,h6,_⟩:=dq h hR;exact⟨s,h1,h2,h3,h5,h6⟩
 ·exact⟨st,h,Ext.refl _,hR,rfl,rfl⟩
def Az(P:Program):List Oper->Bool
 | []=>true
 | o::r=>gX P o.op&&Az P r
def E1:List Oper->Bool
 | []=>false
 | o::r=>mem o.op||E1 r
def X0:XT:=fun _ _ p=>p
def Y0:YT:=fun _ p=>p
def agT(P:Program)(t:TypeId):Bool:=match P.underlying t with
 | some d=>jY d
 | none=>false
def Uh(P:Program)(o:Oper)(v:SV)(K:SV->Prop):Prop:=match o.op,v with
 | .extract _ _,.raw x=>(match K8 P 12 o.type with
  | []=>K (.raw x)
  | [.raw]=>K (.raw x)
  | ls=>R9 ls fun vs=>x.v=val β0 (IZ (agT P o.type) vs)/\K (IZ (agT P o.type) vs))
 | _,v=>K v
theorem P9{P}{o}{v}{K:SV->Prop}(h:Uh P o v K):∃u,K u/\∀β,val β u=val β v:=by
 unfold Uh at h;split at h
 ·split at h
  ·exact⟨_,h,fun _=>rfl⟩
  ·exact⟨_,h,fun _=>rfl⟩
  ·obtain⟨vs,⟨e,h⟩,_,hc⟩:=rM h;refine⟨_,h,fun β=>Eq.trans ?_ e.symm⟩;exact(ga (g:=fun _=>false) (fun i h=>(by cases h)) _ (Gy _ _ (hc _))).symm
 ·exact⟨_,h,fun _=>rfl⟩
def GC(P:Program)(st:St)(o:Oper)(K:St->Prop):Prop:=
 bif gX P o.op then Ug (nd P st o.op) st fun st=>T6 P [] st o.op fun v=>Uh P o v fun v=>K (st.put o.dst v)else loud P X0 Y0 st o K
def vI(P:Program)(ops:List Oper):Nat->List Oper->St->(St->Prop)->Prop
 | 0,_,_,_=>False
 | _+1,[],st,K=>K st
 | f+1,o::rest,st,K=>match o.guard with
  | none=>GC P st o fun st=>vI P ops f rest st K
  | some (j,want)=>(match Uc st ops j with
   | some (_,.un)=>vI P ops f rest (st.put o.dst .un) K
   | some (_,.bl b)=>bif b==want then GC P st o fun st=>vI P ops f rest st K else vI P ops f rest (st.put o.dst .un) K
   | some (d,.bt t)=>bif Az P ((o::rest).take (vF ops j (o::rest)+1))
    then Ug (E1 ((o::rest).take (vF ops j (o::rest)+1))) st fun st=>uw P ops f [] ((o::rest).take (vF ops j (o::rest)+1)) st fun st=>vI P ops f ((o::rest).drop (vF ops j (o::rest)+1)) st K
    else((t=true->vI P ops f (o::rest) (st.put (some d) (.bl true)) K)/\(t=false->vI P ops f (o::rest) (st.put (some d) (.bl false)) K))
   | _=>False)
section
variable {P:Program} {ops:List Oper} {Q:Exit->Act->av->Prop}
theorem LB{st}{o}{rest}{K}{β}{a}{w}(h:GC P st o K)(hR:Rep β st a w)(hw:Region.wanted o (yielded ops.toArray a.tmps)=true)
  (hK:∀β' cn a' w',K cn->Ext st cn->Rep β' cn a' w'->wpList P ops.toArray Q rest a' w'):wpList P ops.toArray Q (o::rest) a w:=by
 rcases kK h with⟨_,h⟩ | ⟨_,h⟩
 ·obtain⟨s,h1,h2,h3,h4,h5⟩:=uz h hR;obtain⟨v,hv,hy⟩:=EV h1;obtain⟨u,hv,ev⟩:=P9 hv;exact zW _ hw (hy trivial β a w h3 _ _ _ _ _ w fun _=>rfl) rfl (hK β _ _ w hv (h2.trans (Ext.put _ _ _)) (ev β▸h3.put o.dst u))
 ·refine TW hw (Oper.wp_mono ?_ (Ay (E:=fun _ _=>True) (fun _ _ _ h=>⟨h,trivial⟩) (fun _ _ _=>trivial) (fun _ _ _ _ _ _ h _ _=>⟨h,trivial⟩) h hR));rintro a' w' ⟨β',cn,k1,k2,_,k4⟩;exact hK β' cn a' w' k1 k2 k4
theorem qG:∀{f:Nat} {l:List Oper} {st:St} {K:St->Prop},vI P ops f l st K->∀{β:Nat->Nat} {a:Act} {w:av},Rep β st a w->
  (∀β' cn a' w',K cn->Ext st cn->Rep β' cn a' w'->Q .normal a' w')->wpList P ops.toArray Q l a w
 | 0,_,_,_,h,_,_,_,_,_=>h.elim
 | _+1,[],st,K,h,β,a,w,hR,hK=>hK β st a w h (Ext.refl _) hR
 | f+1,o::rest,st,K,h,β,a,w,hR,hK=>by
  have no:vI P ops f rest _ K->Region.wanted o _=false->wpList P ops.toArray Q _ a w:=fun h hw=>
   R5 hw rfl (qG h (hR.put o.dst .un) fun β' cn a' w' k1 k2 k3=>hK β' cn a' w' k1 ((Ext.put _ _ _).trans k2) k3)
  have Ph:(GC P st o fun st=>vI P ops f rest st K)->Region.wanted o _=true->wpList P ops.toArray Q _ a w:=fun h hw=>
   LB h hR hw fun β' cn a' w' k1 k2 k3=>qG k1 k3 fun β2 vA a2 w2 m1 m2 m3=>hK β2 vA a2 w2 m1 (k2.trans m2) m3
  unfold vI at h;split at h
  ·rename_i hg;exact Ph h (wn hg)
  ·rename_i j want hg;split at h
   ·rename_i d ht;exact no h (uv hR hg ht)
   ·rename_i d b ht;have hw:=ny hR hg ht (b:=b) rfl;rcases kK h with⟨e,h⟩ | ⟨e,h⟩
    ·exact Ph h (hw.trans e)
    ·exact no h (hw.trans e)
   ·rename_i d t ht;obtain⟨oj,KB,XJ,Pf⟩:=wP ht;rcases kK h with⟨_,h⟩ | ⟨_,h⟩
    ·generalize vF ops j _+1=m at h;obtain⟨s,h1,h2,h3,h4,h5⟩:=uz h hR;obtain⟨s2,k1,k2,k3,k4⟩:=oE h1;obtain⟨a',g1,g2⟩:=k4 trivial β a w h3;have:=An (Q:=Q) (rest:=(o::rest).drop m) g1 (qG k1 g2 fun β2 vA a2 w2 m1 m2 m3=>hK β2 vA a2 w2 m1 ((h2.trans k2).trans m2) m3);rwa[dD]at this
    ·cases t with
     | true=>exact qG (h.1 rfl) (hR.set Pf rfl) fun β' cn a' w' k1 k2 k3=>hK β' cn a' w' k1 ((Ext.put _ _ _).trans k2) k3
     | false=>exact qG (h.2 rfl) (hR.set Pf rfl) fun β' cn a' w' k1 k2 k3=>hK β' cn a' w' k1 ((Ext.put _ _ _).trans k2) k3
   ·exact h.elim
end
def JT:List Lf->Type
 | []=>av->Prop
 | l::r=>l.T->JT r
def CL:(ls:List Lf)->JT ls->(List SV->av->Prop)->Prop
 | [],J,K=>∀w,J w->K [] w
 | l::r,J,K=>∀x,CL r (J x) fun vs w=>K (l.sv x::vs) w
def unI(k:IntKind)(s:SV):Option Int:=match nu s with
 | some (k',n)=>bif decide (k'=k)then some n else none
 | none=>none
def unP(bl:Nat->Nat)(s:SV):Option (Option Addr):=match s with
 | .box i o=>some (some ⟨bl i,o,none⟩)
 | s=>sJ s
def unM(s:SV):Option (Option Nat):=match s with
 | .map m=>some m
 | _=>none
def unR(bl:Nat->Nat)(s:SV):Option OV:=match s with
 | .raw v=>some v
 | .fn f fs cs=>some ⟨.func (.func f) (nt bl fs).toArray (nt bl cs).toArray,rfl⟩
 | _=>none
def un(bl:Nat->Nat):(l:Lf)->SV->Option l.T
 | .int k=>unI k
 | .bool=>wL
 | .str=>rN
 | .ptr=>unP bl
 | .sl=>Gs
 | .map=>unM
 | .raw=>unR bl
theorem YQ{bl}{l}{s}{x}(h:un bl l s=some x) β:val β (l.sv x)=val bl s:=by
 cases l with
 | int k=>
  have h:unI k s=some x:=h;unfold unI at h;split at h
  ·rename_i k' n ho;obtain⟨e,rfl⟩:=Al h;have e:=aP e;subst e;rw[cQ ho];rfl
  ·cases h
 | bool=>rw[jZ h];rfl
 | str=>rw[fM h];rfl
 | ptr=>
  have h:unP bl s=some x:=h;unfold unP at h;split at h
  ·injection h with h;subst h;rfl
  ·rw[PU h];rfl
 | sl=>rw[iC h];rfl
 | map=>
  have h:unM s=some x:=h;unfold unM at h;split at h
  ·injection h with h;subst h;rfl
  ·cases h
 | raw=>
  have h:unR bl s=some x:=h;unfold unR at h;split at h
  ·injection h with h;subst h;rfl
  ·injection h with h;subst h;rfl
  ·cases h
def apJ:(ls:List Lf)->(Nat->Nat)->JT ls->List SV->av->Prop
 | [],_,J,[],w=>J w
 | l::r,bl,J,s::ss,w=>(match un bl l s with
  | some x=>apJ r bl (J x) ss w
  | none=>False)
 | _,_,_,_,_=>False
theorem LC{bl}{w}:∀{ls:List Lf} {J:JT ls} {ss:List SV} {K:List SV->av->Prop},apJ ls bl J ss w->CL ls J K->∃vs,K vs w/\vs.length=ls.length/\(∀β,cm β vs=cm bl ss)/\∀g,fL g vs=true
 | [],J,[],K,h,k=>⟨[],k w h,rfl,fun _=>rfl,fun _=>rfl⟩
 | l::r,J,s::ss,K,h,k=>by
  unfold apJ at h;split at h
  ·rename_i x hx;obtain⟨vs,h1,h2,h3,h4⟩:=LC h (k x);refine⟨_,h1,by simp[h2],fun β=>?_,fun g=>by simp[fL,Lf.cln,h4 g,jw]⟩;have:=h3 β;simp only[cm,bE]at this⊢;rw[this,YQ hx]
  ·exact h.elim
 | [],_,_::_,_,h,_=>h.elim
 | _::_,_,[],_,h,_=>h.elim
inductive MI where
 | s (slot:Nat) (l:Lf)
 | a (slot:Nat) (ls:List Lf)
 | b (slot:Nat) (ls:List Lf)
def mLs:List MI->List Lf
 | []=>[]
 | .s _ l::r=>l::mLs r
 | .a _ ls::r=>ls++mLs r
 | .b _ ls::r=>ls++mLs r
def Xx(st:St)(i:Nat):Option Nat:=match st.get i with
 | some (.box j _)=>some j
 | _=>none
def LD:List SV->List SV
 | []=>[]
 | .box j o::r=>.box j o::LD r
 | _::r=>LD r
def xf(st:St):List MI->List SV
 | []=>[]
 | .b i _::r=>(match Xx st i with
  | some j=>(match cJ st.bx j with
   | some b=>LD b.cells++xf st r
   | none=>xf st r)
  | none=>xf st r)
 | .s i _::r=>(match st.get i with
  | some (.box j o)=>.box j o::xf st r
  | _=>xf st r)
 | _::r=>xf st r
def nC(st s:St):List MI->Option (List SV)
 | []=>some []
 | .s i _::r=>(match s.get i,nC st s r with
  | some v,some l=>some (v::l)
  | _,_=>none)
 | .a i ls::r=>(match s.get i,nC st s r with
  | some (.agg l),some m=>bif yK l&&Nat.beq (kJ l).length ls.length then some (kJ l++m)else none
  | _,_=>none)
 | .b i ls::r=>(match Xx st i with
  | some j=>(match cJ s.bx j,nC st s r with
   | some b,some m=>bif Nat.beq b.cells.length ls.length then some (b.cells++m)else none
   | _,_=>none)
  | none=>none)
def E2(ct:Nat):List MI->List SV->List (Nat×Nat×SV)
 | .s i _::r,v::vs=>(i,ct,v)::E2 ct r vs
 | .a i ls::r,vs=>(i,ct,.agg (lV (vs.take ls.length)))::E2 ct r (vs.drop ls.length)
 | .b _ ls::r,vs=>E2 ct r (vs.drop ls.length)
 | _,_=>[]
def E3(st:St):List MI->List SV->List iQ->List iQ
 | .s _ _::r,_::vs,bx=>E3 st r vs bx
 | .a _ ls::r,vs,bx=>E3 st r (vs.drop ls.length) bx
 | .b i ls::r,vs,bx=>(match Xx st i with
  | some j=>(match cJ bx j with
   | some b=>E3 st r (vs.drop ls.length) (IY bx j {b with cells:=vs.take ls.length,stp:=st.ct})
   | none=>E3 st r (vs.drop ls.length) bx)
  | none=>E3 st r (vs.drop ls.length) bx)
 | _,_,bx=>bx
def Sk:List MI->List Nat
 | []=>[]
 | .s i _::r=>i::Sk r
 | .a i _::r=>i::Sk r
 | .b _ _::r=>Sk r
def LF(st:St):List MI->List Nat
 | []=>[]
 | .b i _::r=>(match Xx st i with
  | some j=>j::LF st r
  | none=>LF st r)
 | _::r=>LF st r
def Ui(fr:List (Nat×Nat×SV)):List Nat->List (Nat×Nat×SV)
 | []=>[]
 | i::r=>match dh fr i with
  | some p=>(i,p)::Ui fr r
  | none=>Ui fr r
def j6(st:St)(kp:List Nat)(ms:List MI)(vs:List SV)(w:av):St:=
 {n:=st.n,fr:=E2 st.ct ms vs++Ui st.fr kp,bx:=E3 st ms vs st.bx,w0:=w,mv:=false,dt:=[],ct:=st.ct+1,df:=st.df}
def Qa(st s:St)(sl:List Nat):List Nat->Bool
 | []=>true
 | i::r=>(match dh st.fr i with
  | some (k,v)=>(match dh s.fr i with
   | some (k',_)=>Nat.beq k k'&&Nat.blt k st.ct&&!sl.elem i&&cln (CG st.bx) v
   | none=>false)
  | none=>true)&&Qa st s sl r
def I5(st:St)(Pj:List Nat):Nat->List iQ->List iQ->Bool
 | _,[],_=>true
 | i,b::r,c::q=>(!b.ok||(b.blk.isSome&&(Pj.elem i||(Nat.blt c.stp st.ct&&fL (CG st.bx) b.cells))))&&I5 st Pj (i+1) r q
 | _,_::_,[]=>false
def I6(st:St)(kp:List Nat) ms (J:JT (mLs ms)) (s:St):Prop:=
 bif Qa st s (Sk ms) kp&&I5 st (LF st ms) 0 st.bx s.bx&&Nat.beq s.df.length st.df.length then
  bU (nC st s ms) fun vs=>bif fL (CG s.bx) vs then apJ _ (En s.bx) J vs s.w0 else False
 else False
theorem qH:∀l m i,dh (l++m) i=match dh l i with
  | some p=>some p
  | none=>dh m i
 | [],_,_=>rfl
 | (k,p)::r,m,i=>by
  simp[bZ,dh];cases Nat.beq k i with
  | true=>rfl
  | false=>exact qH r m i
theorem wb{fr}:∀{kp:List Nat} {i:Nat} {p:Nat×SV},dh (Ui fr kp) i=some p->i∈kp/\dh fr i=some p
 | j::r,i,p,h=>by
  unfold Ui at h;split at h
  ·rename_i q hq;simp[dh]at h;cases hb:Nat.beq j i with
   | true=>
    rw[hb]at h;simp at h;subst h;have:=bR hb;subst this;exact⟨by simp,hq⟩
   | false=>
    rw[hb]at h;obtain⟨h1,h2⟩:=wb (by simpa using h);exact⟨by simp[h1],h2⟩
  ·obtain⟨h1,h2⟩:=wb h;exact⟨by simp[h1],h2⟩
theorem CM{fr}{p}:∀{kp:List Nat} {i:Nat},i∈kp->dh fr i=some p->dh (Ui fr kp) i=some p
 | j::r,i,hi,h=>by
  unfold Ui;cases hb:Nat.beq j i with
  | true=>
   have:=bR hb;subst this;rw[h];simp[dh,Nat.beq_refl,lS]
  | false=>
   have zP:i∈r:=by
    rcases aQ.1 hi with e | e
    ·subst e;simp at hb
    ·exact e
   have ih:=CM (p:=p) zP h;split
   ·simp[dh,hb,rk];exact ih
   ·exact ih
theorem qI{ct}:∀{ms:List MI} {vs:List SV} {i:Nat},(Sk ms).elem i=false->dh (E2 ct ms vs) i=none
 | [],vs,i,_=>rfl
 | .s j l::r,[],i,_=>rfl
 | .s j l::r,v::vs,i,h=>by
  simp only[Sk,jR]at h;split at h
  ·cases h
  ·rename_i gL;simp[E2,dh];have:Nat.beq j i=false:=by
    cases hb:Nat.beq j i with
    | false=>rfl
    | true=>have:=bR hb;subst this;simp at gL
   rw[this,rk];exact qI h
 | .a j ls::r,vs,i,h=>by
  simp only[Sk,jR]at h;split at h
  ·cases h
  ·rename_i gL;simp[E2,dh];have:Nat.beq j i=false:=by
    cases hb:Nat.beq j i with
    | false=>rfl
    | true=>have:=bR hb;subst this;simp at gL
   rw[this,rk];exact qI h
 | .b j ls::r,vs,i,h=>by
  simp[E2];exact qI h
theorem qJ{ct}:∀{ms:List MI} {vs:List SV} {i:Nat} {p:Nat×SV},dh (E2 ct ms vs) i=some p->p.1=ct
 | [],vs,i,p,h=>by cases vs<;>cases h
 | .s j l::r,[],i,p,h=>by cases h
 | .s j l::r,v::vs,i,p,h=>by
  simp[E2,dh]at h;cases hb:Nat.beq j i with
  | true=>rw[hb]at h;simp at h;subst h;rfl
  | false=>rw[hb]at h;exact qJ (by simpa using h)
 | .a j ls::r,vs,i,p,h=>by
  simp[E2,dh]at h;cases hb:Nat.beq j i with
  | true=>rw[hb]at h;simp at h;subst h;rfl
  | false=>rw[hb]at h;exact qJ (by simpa using h)
 | .b j ls::r,vs,i,p,h=>by
  simp[E2]at h;exact qJ h
theorem gf{st}:∀ms vs bx i b,cJ bx i=some b->∃b',cJ (E3 st ms vs bx) i=some b'/\b'.ty=b.ty/\b'.ok=b.ok/\b'.blk=b.blk/\((LF st ms).elem i=false->b'=b)/\(b'=b∨b'.stp=st.ct)
 | [],vs,bx,i,b,h=>⟨b,by cases vs<;>exact h,rfl,rfl,rfl,fun _=>rfl,.inl rfl⟩
 | .s j l::r,[],bx,i,b,h=>⟨b,h,rfl,rfl,rfl,fun _=>rfl,.inl rfl⟩
 | .s j l::r,v::vs,bx,i,b,h=>gf r vs bx i b h
 | .a j ls::r,vs,bx,i,b,h=>gf r _ bx i b h
 | .b s ls::r,vs,bx,i,b,h=>by
  simp only[E3,LF];cases hj:Xx st s with
  | none=>exact gf r _ bx i b h
  | some j=>
   dsimp only;cases hc:cJ bx j with
   | none=>
    obtain⟨b',h1,h2,h3,h4,h5,h6⟩:=gf (st:=st) r _ bx i b h;refine⟨b',h1,h2,h3,h4,fun he=>h5 ?_,h6⟩;simp only[jR]at he;split at he
    ·cases he
    ·exact he
   | some c=>
    by_cases uk:i=j
    ·subst uk;rw[hc]at h;injection h with h;subst h;obtain⟨b',h1,h2,h3,h4,h5,h6⟩:=gf (st:=st) r _ _ i _ (by rw[gM hc,if_pos rfl]);refine⟨b',h1,h2,h3,h4,fun he=>?_,?_⟩
     ·simp at he
     ·rcases h6 with rfl | h6
      ·exact .inr rfl
      ·exact .inr h6
    ·obtain⟨b',h1,h2,h3,h4,h5,h6⟩:=gf (st:=st) r _ (IY bx j {c with cells:=vs.take ls.length,stp:=st.ct}) i b (by rw[gM hc,if_neg uk];exact h);refine⟨b',h1,h2,h3,h4,fun he=>h5 ?_,h6⟩;simp only[jR]at he;split at he
     ·cases he
     ·exact he
theorem lW{st}:∀ms vs bx i,cJ bx i=none->cJ (E3 st ms vs bx) i=none
 | [],vs,bx,i,h=>by cases vs<;>exact h
 | .s j l::r,[],bx,i,h=>h
 | .s j l::r,v::vs,bx,i,h=>lW r vs bx i h
 | .a j ls::r,vs,bx,i,h=>lW r _ bx i h
 | .b s ls::r,vs,bx,i,h=>by
  simp[E3];cases hj:Xx st s with
  | none=>exact lW r _ bx i h
  | some j=>
   dsimp only;cases hc:cJ bx j with
   | none=>exact lW r _ bx i h
   | some c=>
    refine lW r _ _ i ?_;rw[gM hc,if_neg]
    ·exact h
    ·rintro rfl;rw[h]at hc;cases hc
theorem Ext.NM{st}{kp}{ms}{vs}{w}:Ext st (j6 st kp ms vs w):=by
 refine⟨rfl,fZ _,fun i k v hl bQ=>?_,fun i b' hb ho hs=>?_,fun i b hb=>?_,B0⟩
 ·simp[j6]at hl;rw[qH]at hl;split at hl
  ·rename_i p hp;have:=qJ hp;simp at hl;subst hl;omega
  ·exact(wb hl).2
 ·simp[j6]at hb;cases hn:cJ st.bx i with
  | none=>rw[lW _ _ _ _ hn]at hb;cases hb
  | some b=>
   obtain⟨b2,h1,h2,h3,h4,h5,h6⟩:=gf (st:=st) ms vs st.bx i b hn;rw[h1]at hb;injection hb with hb;subst hb;rcases h6 with rfl | h6
   ·exact⟨b2,rfl,ho,rfl,rfl,rfl,fun _ h=>h⟩
   ·omega
 ·obtain⟨b2,h1,h2,h3,h4,_⟩:=gf (st:=st) ms vs st.bx i b hb;exact⟨b2,h1,h2,h3,fun k hk=>by rw[h4];exact hk⟩
def LG(st:St)(kp:List Nat)(ms:List MI)(s:St):Prop:=Ext st s∨∃vs w,Ext (j6 st kp ms vs w) s
section
variable {st s:St} {kp:List Nat} {ms:List MI} {β:Nat->Nat} {a:Act} {w:av}
theorem LG.n(h:LG st kp ms s):s.n=st.n:=by
 rcases h with h | ⟨vs,w,h⟩
 ·exact h.n
 ·exact h.n
theorem LG.df(h:LG st kp ms s):∃l,s.df=l++st.df:=by
 rcases h with h | ⟨vs,w,h⟩
 ·exact h.df
 ·exact h.df
theorem LG.slot(h:LG st kp ms s){i k}{v v'}(hi:i∈kp)(h1:dh st.fr i=some (k,v))(h2:dh s.fr i=some (k,v'))(hk:k<st.ct)(hs:(Sk ms).elem i=false):v'=v:=by
 rcases h with h | ⟨vs,w,h⟩
 ·have:=h.fr i k v' h2 hk;rw[h1]at this;simpa using this.symm
 ·have:=h.fr i k v' h2 (Nat.lt_succ_of_lt hk);simp[j6]at this;rw[qH,qI hs]at this;rw[CM hi h1]at this;simpa using this.symm
theorem LG.ps(h:LG st kp ms s){i}{b}(hb:cJ st.bx i=some b):∃c,cJ s.bx i=some c/\c.ty=b.ty/\c.ok=b.ok/\∀k,b.blk=some k->c.blk=some k:=by
 rcases h with h | ⟨vs,w,h⟩
 ·exact h.ps i b hb
 ·obtain⟨b2,h1,h2,h3,h4,_⟩:=gf (st:=st) ms vs st.bx i b hb;obtain⟨c,k1,k2,k3,k4⟩:=h.ps i b2 h1;exact⟨c,k1,k2.trans h2,k3.trans h3,fun k hk=>k4 k (by rw[h4];exact hk)⟩
theorem LG.cells(h:LG st kp ms s){i}{b c}(hb:cJ st.bx i=some b)(hc:cJ s.bx i=some c)(ho:b.ok=true)(hl:(LF st ms).elem i=false)(hs:c.stp<st.ct):c.cells=b.cells:=by
 rcases h with h | ⟨vs,w,h⟩
 ·obtain⟨c',k1,k2,k3,k4⟩:=h.ps i b hb;rw[hc]at k1;injection k1 with k1;subst k1;obtain⟨b3,m1,m2,m3,_⟩:=h.bx i c hc (k3.trans ho) hs;rw[hb]at m1;injection m1 with m1;rw[m1,m3]
 ·obtain⟨b2,h1,h2,h3,h4,h5,_⟩:=gf (st:=st) ms vs st.bx i b hb;obtain⟨c',k1,k2,k3,k4⟩:=h.ps i b2 h1;rw[hc]at k1;injection k1 with k1;subst k1;obtain⟨b3,m1,m2,m3,m4,m5,m6⟩:=h.bx i c hc (k3.trans (h3.trans ho)) (Nat.lt_succ_of_lt hs);rw[show cJ (j6 st kp ms vs w).bx i=cJ (E3 st ms vs st.bx) i from rfl,h1]at m1;injection m1 with m1;subst m1;rw[<-m3,h5 hl]
theorem GD{sl}:∀{kp:List Nat},Qa st s sl kp=true->∀i∈kp,∀k v,dh st.fr i=some (k,v)->∃v',dh s.fr i=some (k,v')/\k<st.ct/\sl.elem i=false/\cln (CG st.bx) v=true
 | j::r,h,i,hi,k,v,hl=>by
  simp only[Qa,aR]at h;rcases aQ.1 hi with rfl | hi
  ·have h1:=h.1;rw[hl]at h1;dsimp only at h1;split at h1
   ·rename_i k' v' hs;simp only[aR,dK]at h1;have e:=bR h1.1.1.1;subst e;exact⟨v',hs,ci h1.1.1.2,h1.1.2,h1.2⟩
   ·cases h1
  ·exact GD h.2 i hi k v hl
theorem AA{Pj}:∀{l m:List iQ} {n:Nat},I5 st Pj n l m=true->∀i b,cJ l i=some b->b.ok=true->b.blk.isSome=true/\(Pj.elem (n+i)=true∨∃c,cJ m i=some c/\c.stp<st.ct/\fL (CG st.bx) b.cells=true)
 | b::r,[],n,h,_,_,_,_=>by simp[I5]at h
 | b::r,c::q,n,h,0,b',hb,ho=>by
  simp only[I5,aR,cD,dK]at h;simp[cJ,aX]at hb;subst hb;rcases h.1 with h1 | ⟨h1,h2⟩
  ·rw[ho]at h1;cases h1
  ·refine⟨h1,?_⟩;rcases h2 with h2 | h2
   ·exact .inl h2
   ·exact .inr ⟨c,rfl,ci h2.1,h2.2⟩
 | b::r,c::q,n,h,i+1,b',hb,ho=>by
  simp[I5,aR]at h;have:=AA h.2 i b' hb ho;rwa[show n+1+i=n+(i+1) by omega]at this
theorem Rep.at(hR:Rep β s a w){i}{v}(h:s.get i=some v):i<s.n/\a.tmps[i]? =some (V.val β v):=by
 unfold St.get at h;cases hb:Nat.blt i s.n with
 | false=>rw[hb]at h;cases h
 | true=>
  rw[hb,lS]at h;cases hl:dh s.fr i with
  | none=>rw[hl]at h;cases h
  | some p=>
   rw[hl]at h;simp at h;subst h;exact⟨ci hb,hR.ok.at_ i p hl (ci hb)⟩
theorem pU{g}:∀{l m:List SV},fL g (l++m)=true->fL g l=true/\fL g m=true
 | [],m,h=>⟨rfl,h⟩
 | s::r,m,h=>by
  simp[bZ,fL,aR]at h⊢;obtain⟨h1,h2⟩:=pU h.2;exact⟨⟨h.1,h1⟩,h2⟩
theorem oI{γ b}{vs l m}{n}(hv:V.cm γ vs=V.cm b l++V.cm b m)(hl:l.length=n):V.cm γ (vs.take n)=V.cm b l/\V.cm γ (vs.drop n)=V.cm b m:=by
 have h1:(V.cm γ vs).take n=V.cm γ (vs.take n):=by simp[V.cm,lg]
 have h2:(V.cm γ vs).drop n=V.cm γ (vs.drop n):=by simp[V.cm,ov]
 have hn:(V.cm b l).length=n:=by rw[eu,hl]
 rw[<-h1,<-h2,hv,<-hn];exact⟨List.take_left,List.drop_left⟩
theorem AB(hR:Rep β s a w){ct}{γ}:∀{ms:List MI} {ss vs:List SV},nC st s ms=some ss->fL (CG s.bx) ss=true->V.cm γ vs=V.cm (En s.bx) ss->∀i p,dh (E2 ct ms vs) i=some p->a.tmps[i]? =some (V.val γ p.2)
 | [],ss,vs,_,_,_,i,p,h=>by cases vs<;>cases h
 | .s j l::r,ss,[],_,_,_,i,p,h=>by cases h
 | .s j l::r,ss,v::vs,ha,hc,hv,i,p,h=>by
  simp[nC]at ha;split at ha
  ·rename_i v0 l0 h1 h2;simp at ha;subst ha;simp[fL,aR]at hc;simp[V.cm,bE,pG]at hv;simp[E2,dh]at h;cases hb:Nat.beq j i with
   | true=>
    rw[hb]at h;simp at h;subst h;have:=bR hb;subst this;rw[(hR.at h1).2,hv.1,hR.aaf hc.1]
   | false=>
    rw[hb]at h;exact AB hR h2 hc.2 hv.2 i p (by simpa using h)
  ·cases ha
 | .a j ls::r,ss,vs,ha,hc,hv,i,p,h=>by
  simp[nC]at ha;split at ha
  ·rename_i l0 m0 h1 h2;obtain⟨h3,rfl⟩:=Al ha;simp only[aR]at h3;obtain⟨c1,c2⟩:=pU hc;rw[jC]at hv;obtain⟨e1,e2⟩:=oI hv (bR h3.2);simp[E2,dh]at h;cases hb:Nat.beq j i with
   | true=>
    rw[hb]at h;simp at h;subst h;have:=bR hb;subst this;rw[(hR.at h1).2];show some (Value.agg (nt β l0).toArray)=some (Value.agg (nt γ _).toArray);rw[oB,e1,kx β h3.1,hR.qv c1]
   | false=>
    rw[hb]at h;exact AB hR h2 c2 e2 i p (by simpa using h)
  ·cases ha
 | .b j ls::r,ss,vs,ha,hc,hv,i,p,h=>by
  simp[nC]at ha;split at ha
  ·split at ha
   ·rename_i b m0 h1 h2;obtain⟨h3,rfl⟩:=Al ha;obtain⟨c1,c2⟩:=pU hc;rw[jC]at hv;obtain⟨e1,e2⟩:=oI hv (bR h3);exact AB hR h2 c2 e2 i p h
   ·cases ha
  ·cases ha
theorem xh(hR:Rep β s a w){γ:Nat->Nat}(IA:∀i b,cJ st.bx i=some b->∃c,cJ s.bx i=some c/\c.ty=b.ty/\c.ok=b.ok)(hγ:∀i b,cJ st.bx i=some b->b.ok=true->γ i=β i):∀{ms:List MI} {ss vs:List SV} {bx:List iQ},nC st s ms=some ss->fL (CG s.bx) ss=true->V.cm γ vs=V.cm (En s.bx) ss->
  (∀j b',cJ bx j=some b'->∃b,cJ st.bx j=some b/\b'.ty=b.ty/\b'.ok=b.ok)->(∀j b',cJ bx j=some b'->b'.ok=true->Blk w (γ j) b'.ty (V.cm γ b'.cells)∨(LF st ms).elem j=true)->
  ∀j b',cJ (E3 st ms vs bx) j=some b'->b'.ok=true->Blk w (γ j) b'.ty (V.cm γ b'.cells)
 | [],ss,vs,bx,_,_,_,_,hi,j,b',hb,ho=>by
  have:E3 st [] vs bx=bx:=by cases vs<;>rfl
  rw[this]at hb;rcases hi j b' hb ho with h | h
  ·exact h
  ·cases h
 | .s k l::r,ss,[],bx,ha,hc,hv,h0,hi,j,b',hb,ho=>by
  simp only[nC]at ha;split at ha
  ·simp only[aX]at ha;subst ha;simp[V.cm]at hv
  ·cases ha
 | .s k l::r,ss,v::vs,bx,ha,hc,hv,h0,hi,j,b',hb,ho=>by
  simp only[nC]at ha;split at ha
  ·rename_i v0 l0 h1 h2;simp only[aX]at ha;subst ha;simp only[fL,aR]at hc;simp only[V.cm,bE,pG]at hv;exact xh hR IA hγ h2 hc.2 hv.2 h0 hi j b' hb ho
  ·cases ha
 | .a k ls::r,ss,vs,bx,ha,hc,hv,h0,hi,j,b',hb,ho=>by
  simp only[nC]at ha;split at ha
  ·rename_i l0 m0 h1 h2;obtain⟨h3,rfl⟩:=Al ha;simp only[aR]at h3;have eH:=bR h3.2;obtain⟨c1,c2⟩:=pU hc;rw[jC]at hv;obtain⟨e1,e2⟩:=oI hv eH;exact xh hR IA hγ h2 c2 e2 h0 hi j b' hb ho
  ·cases ha
 | .b k ls::r,ss,vs,bx,ha,hc,hv,h0,hi,j,b',hb,ho=>by
  simp[nC]at ha;split at ha
  ·rename_i q hq;split at ha
   ·rename_i c m0 h1 h2;obtain⟨h3,rfl⟩:=Al ha;have eH:=bR h3;obtain⟨c1,c2⟩:=pU hc;rw[jC]at hv;obtain⟨e1,e2⟩:=oI hv eH;simp only[E3,hq]at hb;cases hn:cJ bx q with
    | none=>
     rw[hn]at hb;refine xh hR IA hγ h2 c2 e2 h0 (fun i b IB ho5=>?_) j b' hb ho;rcases hi i b IB ho5 with h | h
     ·exact .inl h
     ·simp only[LF,hq,jR]at h;split at h
      ·rename_i e;have e:=by simpa using e
       rw[e,hn]at IB;cases IB
      ·exact .inr h
    | some b=>
     rw[hn]at hb;obtain⟨bs,g1,g2,g3⟩:=h0 q b hn;refine xh hR IA hγ h2 c2 e2 (fun i b2 ym=>?_) (fun i b2 ym VJ=>?_) j b' hb ho
     ·rw[gM hn]at ym;split at ym
      ·rename_i e;subst e;injection ym with ym;subst ym;exact⟨bs,g1,g2,g3⟩
      ·exact h0 i b2 ym
     ·rw[gM hn]at ym;split at ym
      ·rename_i e;subst e;injection ym with ym;subst ym;left;have B6:bs.ok=true:=by rw[<-g3];exact VJ
       obtain⟨c',k1,k2,k3⟩:=IA i bs g1;rw[h1]at k1;injection k1 with k1;subst k1;have hB:=(hR.bx i c h1 (k3.trans B6)).blk;rw[hγ i bs g1 B6,g2,<-k2,e1,hR.qv c1];exact hB
      ·rename_i gL;rcases hi i b2 ym VJ with h | h
       ·exact .inl h
       ·simp only[LF,hq,jR]at h;split at h
        ·rename_i e;exact absurd (by simpa using e) gL
        ·exact .inr h
   ·cases ha
  ·cases ha
theorem pV{J}(h:I6 st kp ms J s)(hR:Rep β s a w)(hm:s.mv=false)(FQ:LG st kp ms s){K}(hK:CL _ J K):
  ∃vs,K vs w/\Rep (En st.bx) (j6 st kp ms vs w) a w:=by
 obtain⟨h0,h⟩:=cX h;obtain⟨ss,hss,h⟩:=ba h;obtain⟨hc,h⟩:=cX h;simp only[aR]at h0;obtain⟨h0,zQ⟩:=h0;have hdf:s.df=st.df:=by
  obtain⟨l,hl⟩:=FQ.df;have:=bR zQ;rw[hl,aO]at this;have:l=[]:=List.length_eq_zero_iff.1 (by omega);rw[hl,this,cf]
 rw[<-hR.still hm]at h;obtain⟨vs,k1,k2,k3,k4⟩:=LC h hK;have IA:∀i b,cJ st.bx i=some b->∃c,cJ s.bx i=some c/\c.ty=b.ty/\c.ok=b.ok:=fun i b hb=>by
  obtain⟨c,h1,h2,h3,_⟩:=FQ.ps hb;exact⟨c,h1,h2,h3⟩
 have BM:∀i b,cJ st.bx i=some b->b.ok=true->b.blk=some (β i):=fun i b hb ho=>by
  obtain⟨hs,_⟩:=AA h0.2 i b hb ho;obtain⟨c,h1,h2,h3,h4⟩:=FQ.ps hb;cases hk:b.blk with
  | none=>rw[hk]at hs;cases hs
  | some k=>rw[(hR.bx i c h1 (h3.trans ho)).at_ k (h4 k hk)]
 have hγ:∀i b,cJ st.bx i=some b->b.ok=true->En st.bx i=β i:=fun i b hb ho=>by
  unfold En;rw[hb];dsimp only;rw[BM i b hb ho];rfl
 have lq:∀i,CG st.bx i=true->En st.bx i=β i:=fun i hi=>by
  unfold CG at hi;cases hb:cJ st.bx i with
  | none=>rw[hb]at hi;cases hi
  | some b=>
   rw[hb]at hi;simp at hi;exact hγ i b hb hi.1
 have FR:∀i b',cJ (E3 st ms vs st.bx) i=some b'->b'.ok=true->∃b,cJ st.bx i=some b/\b.ok=true/\b'.blk=b.blk:=fun i b' hb ho=>by
  cases hn:cJ st.bx i with
  | none=>rw[lW _ _ _ _ hn]at hb;cases hb
  | some b=>
   obtain⟨b2,h1,h2,h3,h4,_⟩:=gf (st:=st) ms vs st.bx i b hn;rw[h1]at hb;injection hb with hb;subst hb;exact⟨b,rfl,by rw[<-h3];exact ho,h4⟩
 refine⟨vs,k1,oC ⟨hR.ok.sz.trans FQ.n,hR.ok.df.trans (bO R8 hdf),fun i p hl hi=>?_⟩,fun i b' hb ho=>?_,fun i j bi bj g1 g2 g3 g4 uk=>?_,Only.refl _ _,fun _=>rfl⟩
 ·simp[j6]at hl;rw[qH]at hl;split at hl
  ·rename_i q hq;simp at hl;subst hl;exact AB hR hss hc (k3 _) i q hq
  ·obtain⟨m1,m2⟩:=wb hl;obtain⟨k,v⟩:=p;obtain⟨v',n1,n2,n3,n4⟩:=GD h0.1 i m1 k v m2;have:=FQ.slot m1 m2 n1 n2 n3;subst this;rw[hR.ok.at_ i _ n1 (by rw[FQ.n];exact hi)];congr 1;exact(ga (g:=CG st.bx) lq _ n4).symm
 ·have hB:=xh hR IA hγ hss hc (k3 _) (bx:=st.bx) (fun j b hb=>⟨b,hb,rfl,rfl⟩) (fun j b hb ho=>by
   obtain⟨_,h1⟩:=AA h0.2 j b hb ho;rw[bJ]at h1;rcases h1 with h1 | ⟨c,h1,h2,h3⟩
   ·exact .inr h1
   ·cases hl:(LF st ms).elem j with
    | true=>exact .inr rfl
    | false=>
     left;obtain⟨c',e1,e2,e3⟩:=IA j b hb;rw[h1]at e1;injection e1 with e1;subst e1;have:=(hR.bx j c h1 (e3.trans ho)).blk;rw[hγ j b hb ho,<-e2,ft (g:=CG st.bx) lq _ h3,<-FQ.cells hb h1 ho hl h2];exact this) i b' hb ho
  obtain⟨b,g1,g2,g3⟩:=FR i b' hb ho;refine⟨hB,fun k hk=>?_,fun hk=>?_⟩
  ·rw[hγ i b g1 g2];rw[g3,BM i b g1 g2]at hk;simpa using hk
  ·rw[g3,BM i b g1 g2]at hk;cases hk
 ·obtain⟨b,e1,e2,_⟩:=FR i bi g1 g3;obtain⟨c,f1,f2,_⟩:=FR j bj g2 g4;obtain⟨b',p1,_,p3⟩:=IA i b e1;obtain⟨c',q1,_,q3⟩:=IA j c f1;rw[hγ i b e1 e2,hγ j c f1 f2];exact hR.ne i j b' c' p1 q1 (p3.trans e2) (q3.trans f2) uk
end
def bL(S:Nat->Prop)(w w':av):Prop:=∀k,S k->k<w.heap.size->w'.heap[k]? =w.heap[k]?
theorem bL.refl S w:bL S w w:=fun _ _ _=>rfl
theorem bL.only{S}{w w'}(h:Only [] w w'):bL S w w':=fun k _ hk=>h.block k hk (by simp)
def rP(S:Nat->Prop)(k:Nat):Prop:=¬S k
def EE(P:Program)(ops:List Oper)(mb ms:Bool)(S:Nat->Prop)(j:Nat)(w w':av):Prop:=match fA ops j with
 | some o=>bif gX P o.op then w'.heap=w.heap else bif mb&&(ms||!vH o.op)then bL S w w' else True
 | none=>False
def XB(mb ms:Bool)(S:Nat->Prop)(o:Op):XT:=fun w0 w1 p=>bif mb&&(ms||!vH o)then bL S w0 w1/\p else p
def YB(mb ms:Bool)(S:Nat->Prop):YT:=fun bk p=>bif mb&&ms then(match bk with
 | some k=>rP S k/\p
 | none=>False)else p
def oJ(P:Program):Nat->List Oper->List Nat
 | _,[]=>[]
 | i,o::r=>bif gX P o.op then oJ P (i+1) r else i::oJ P (i+1) r
def Sm(q:Nat)(seen:List Nat):List Edge->Bool
 | []=>false
 | e::r=>(Region.binds .any e&&(Nat.beq e.on q||seen.elem e.on))||Sm q seen r
def LH(q:Nat):Nat->List Nat->List Oper->List Nat
 | _,seen,[]=>seen
 | i,seen,o::r=>bif Sm q seen o.after.toList then LH q (i+1) (i::seen) r else LH q (i+1) seen r
def O2(bD:Array Bool):Nat->List Oper->List Nat
 | _,[]=>[]
 | i,_::r=>bif bD.getD i true then i::O2 bD (i+1) r else O2 bD (i+1) r
def I7(D N:List Nat):List Nat->List Nat
 | []=>[]
 | j::r=>bif D.elem j||N.elem j then I7 D N r else j::I7 D N r
def GF(ops:List Oper):List Nat->Bool
 | []=>true
 | j::r=>(match fA ops j with
  | some o=>!vH o.op
  | none=>false)&&GF ops r
def Dq(ops:List Oper)(q:Nat):List Nat:=(LH q 0 [] ops).reverse
def Uj(P:Program)(ops:List Oper)(bD:Array Bool)(q:Nat):List Nat:=I7 (Dq ops q) (O2 bD 0 ops) (oJ P 0 ops)
def Uk{α:Type}:List α->Bool
 | []=>true
 | _=>false
def okT(ops:List Oper)(bD:Array Bool)(q:Nat):Bool:=
 Region.noSelect ops.toArray&&Region.free .any ops.toArray bD q&&Ai .any ops.toArray bD&&ur .any ops.toArray q [] (Dq ops q)&&(O2 bD 0 ops).all (fun k=>bD.getD k true)
def Qb(st:St)(ops:List Oper)(o:Oper)(Ph no:St->Prop):Prop:=match o.guard with
 | none=>Ph st
 | some (j,want)=>(match Uc st ops j with
  | some (_,.un)=>no st
  | some (_,.bl b)=>bif b==want then Ph st else no st
  | some (d,.bt t)=>((t=true->bif true==want then Ph (st.put (some d) (.bl true))else no (st.put (some d) (.bl true)))/\
   (t=false->bif false==want then Ph (st.put (some d) (.bl false))else no (st.put (some d) (.bl false))))
  | _=>False)
def ldB(P:Program)(S:Nat->Prop)(st:St)(t:TypeId)(a:SV)(K:SV->Prop):Prop:=match P.underlying t with
 | none=>False
 | some d=>(match a with
  | .box i o=>bU (cJ st.bx i) fun b=>bif b.ok&&b.blk.isSome&&sz P t ((b.cells.drop o).take (rO P t)).length&&(jY d||Nat.beq ((b.cells.drop o).take (rO P t)).length 1)then S (b.blk.getD 0)/\K (IZ (jY d) ((b.cells.drop o).take (rO P t)))else False
  | .ad p=>bif !st.mv&&sz P t (K8 P 12 t).length&&(jY d||Nat.beq (K8 P 12 t).length 1)then S p.block/\R9 (K8 P 12 t) fun vs=>Cells st.w0 p (cm β0 vs)/\K (IZ (jY d) vs)else False
  | _=>False)
def cvB(P:Program)(S:Nat->Prop)(st:St)(s d:TypeId)(a:SV)(K:SV->Prop):Prop:=match P.underlying s,P.underlying d with
 | some (.slice e),some .string=>(match P.underlying e with
  | some (.int .u8)=>bU (Gs a) fun u=>bif st.mv then False else ∃l,(∀ad,u.a=some ad->S ad.block)/\wC st.w0 u l/\K (.str ⟨l.toArray⟩)
  | _=>False)
 | _,_=>False
def YR(P:Program):Op->Bool
 | .load _ _=>true
 | .convert s d _=>(match P.underlying s,P.underlying d with
  | some (.slice _),some .string=>true
  | _,_=>false)
 | _=>false
def cvI(P:Program):Op->Bool
 | .convert s d _=>(match P.underlying s,P.underlying d with
  | some (.int _),some (.int _)=>true
  | some .string,some .string=>true
  | _,_=>false)
 | _=>false
def cvZ(P:Program)(s d:TypeId)(a:SV)(K:SV->Prop):Prop:=match P.underlying s,P.underlying d with
 | some (.int _),some (.int kd)=>bU (nu a) fun p=>K (.int kd (kd.wrap p.2))
 | some .string,some .string=>bU (rN a) fun u=>K (.str u)
 | _,_=>False
def qP(P:Program)(ops:List Oper)(mb ms:Bool)(S:Nat->Prop)(bD:Array Bool)(q:Nat)(o:Oper)(st:St)(K:St->Prop):Prop:=
 bif gX P o.op then
  bif cvI P o.op then(match o.op with
   | .convert s d x=>bU (st.ev x) fun a=>cvZ P s d a fun v=>K (st.put o.dst v)
   | _=>False)
  else bif !mem o.op||Uk (Uj P ops bD q)then Ug (nd P st o.op) st fun st=>T6 P [] st o.op fun v=>K (st.put o.dst v)
  else bif mb&&(ms||GF ops (Uj P ops bD q))then(match o.op with
   | .load t x=>Ug (nd P st o.op) st fun st=>bU (st.ev x) fun a=>ldB P S st t a fun v=>K (st.put o.dst v)
   | .convert s d x=>Ug (nd P st o.op) st fun st=>bU (st.ev x) fun a=>cvB P S st s d a fun v=>K (st.put o.dst v)
   | _=>False)else False
 else False
def fq(P:Program)(ops:List Oper):List Nat->Option Nat
 | []=>none
 | i::r=>match fA ops i with
  | some o=>bif gX P o.op then some i else fq P ops r
  | none=>none
def CN(P:Program)(ops:List Oper)(mb ms:Bool)(S:Nat->Prop):Nat->Array Bool->St->(St->Prop)->Prop
 | 0,bD,st,K=>(match Region.ready .any ops.toArray bD with
  | []=>K st
  | _=>False)
 | g+1,bD,st,K=>(match Region.ready .any ops.toArray bD with
  | []=>K st
  | i::r=>(match fq P ops (i::r)with
   | some q=>bU (fA ops q) fun o=>bif okT ops bD q&&(i::r).contains q then
    Qb st ops o (fun st=>qP P ops mb ms S bD q o st fun st=>CN P ops mb ms S g (bD.setIfInBounds q true) st K) (fun st=>CN P ops mb ms S g (bD.setIfInBounds q true) (st.put o.dst .un) K)else False
   | none=>(match r with
    | []=>bU (fA ops i) fun o=>bif gX P o.op then False else
     Qb st ops o (fun st=>loud P (XB mb ms S o.op) (YB mb ms S) st o fun st=>CN P ops mb ms S g (bD.setIfInBounds i true) st K) (fun st=>CN P ops mb ms S g (bD.setIfInBounds i true) (st.put o.dst .un) K)
    | [j]=>bU (fA ops i) fun o=>bU (fA ops j) fun o'=>bif gX P o.op||gX P o'.op then False else
     Qb st ops o (fun st=>loud P (XB mb ms S o.op) (YB mb ms S) st o fun st=>CN P ops mb ms S g (bD.setIfInBounds i true) st K) (fun st=>CN P ops mb ms S g (bD.setIfInBounds i true) (st.put o.dst .un) K)/\
     Qb st ops o' (fun st=>loud P (XB mb ms S o'.op) (YB mb ms S) st o' fun st=>CN P ops mb ms S g (bD.setIfInBounds j true) st K) (fun st=>CN P ops mb ms S g (bD.setIfInBounds j true) (st.put o'.dst .un) K)
    | _=>False)))
def mbN(P:Program)(ops:List Oper):Nat->List Oper->Bool
 | _,[]=>false
 | i,o::r=>(bif YR P o.op then(oJ P 0 ops).any fun j=>!(Dq ops i).elem j&&!(Dq ops j).elem i
  else false)||mbN P ops (i+1) r
def Ul(P:Program)(ops:List Oper):Nat->List Oper->Bool
 | _,[]=>false
 | i,o::r=>(bif YR P o.op then(oJ P 0 ops).any fun j=>!(Dq ops i).elem j&&!(Dq ops j).elem i&&(match fA ops j with
   | some o'=>vH o'.op
   | none=>false)
  else false)||Ul P ops (i+1) r
section
variable {P:Program} {ops:List Oper} {mb ms:Bool} {S:Nat->Prop} {β:Nat->Nat} {a:Act} {w:av}
theorem xi{st}{o}{Ph no}(h:Qb st ops o Ph no)(hR:Rep β st a w):
  ∃s,Ext st s/\Rep β s a w/\((Region.wanted o (yielded ops.toArray a.tmps)=true/\Ph s)∨(Region.wanted o (yielded ops.toArray a.tmps)=false/\no s)):=by
 unfold Qb at h;split at h
 ·rename_i hg;exact⟨st,Ext.refl _,hR,.inl ⟨wn hg,h⟩⟩
 ·rename_i j want hg;split at h
  ·rename_i d ht;exact⟨st,Ext.refl _,hR,.inr ⟨uv hR hg ht,h⟩⟩
  ·rename_i d b ht;have hw:=ny hR hg ht (b:=b) rfl;rcases kK h with⟨e,h⟩ | ⟨e,h⟩
   ·exact⟨st,Ext.refl _,hR,.inl ⟨hw.trans e,h⟩⟩
   ·exact⟨st,Ext.refl _,hR,.inr ⟨hw.trans e,h⟩⟩
  ·rename_i d t ht;obtain⟨oj,KB,XJ,Pf⟩:=wP ht;have hw:=ny hR hg ht (b:=t) rfl;cases t with
   | true=>
    refine⟨_,Ext.put _ _ (.bl true),hR.set Pf rfl,?_⟩;rcases kK (h.1 rfl)with⟨e,h⟩ | ⟨e,h⟩
    ·exact .inl ⟨hw.trans e,h⟩
    ·exact .inr ⟨hw.trans e,h⟩
   | false=>
    refine⟨_,Ext.put _ _ (.bl false),hR.set Pf rfl,?_⟩;rcases kK (h.2 rfl)with⟨e,h⟩ | ⟨e,h⟩
    ·exact .inl ⟨hw.trans e,h⟩
    ·exact .inr ⟨hw.trans e,h⟩
  ·exact h.elim
theorem E4{st:St}{d}{t}{x}{l}{ad}{w'}(hu:P.underlying t=some d)(hsz:sz P t l.length=true)(jS:jY d=true∨Nat.beq l.length 1=true)
  (Iz:a.eval x=.pointer (some ad)) (hC:Cells w' ad (cm β l)) dst t' p af g:
  (execOp a.eval ⟨dst,.load t x,t',p,af,g⟩).run P w'=.ok (.value (val β (IZ (jY d) l))) w':=by
 rcases jS with pv | jS
 ·rw[mF pv];have:=jc (P:=P) hu w';rw[pv]at this;exact qD this (mT hsz w') (eu β l) Iz hC
 ·cases pv:jY d with
  | true=>
   have e:=mF pv β l;rw[pv]at e;rw[e];have:=jc (P:=P) hu w';rw[pv]at this;exact qD this (mT hsz w') (eu β l) Iz hC
  | false=>
   obtain⟨s,rfl⟩:=wO jS;have:=jc (P:=P) hu w';rw[pv]at this;exact zX this Iz (Cells.one hC)
theorem rQ:∀{l:List Oper} {i j:Nat} {o:Oper},fA l j=some o->gX P o.op=false->i+j∈oJ P i l
 | [],_,_,_,h,_=>by cases h
 | c::r,i,0,o,h,hp=>by
  simp[fA,aX]at h;subst h;simp[oJ,hp]
 | c::r,i,j+1,o,h,hp=>by
  have:=rQ (l:=r) (i:=i+1) (j:=j) h hp;rw[show i+1+j=i+(j+1) by omega]at this;simp[oJ];cases gX P c.op with
  | true=>exact this
  | false=>exact cP _ this
theorem tj{D N}:∀{l:List Nat} {j:Nat},j∈l->j∉D->j∉N->j∈I7 D N l
 | c::r,j,h,h1,h2=>by
  simp only[I7];rcases aQ.1 h with rfl | h
  ·have e1:D.elem j=false:=by simpa using h1
   have e2:N.elem j=false:=by simpa using h2
   rw[e1,e2];simp
  ·cases(D.elem c||N.elem c)with
   | true=>exact tj h h1 h2
   | false=>exact cP _ (tj h h1 h2)
theorem CO:∀{l:List Nat} {j:Nat} {o:Oper},GF ops l=true->j∈l->fA ops j=some o->vH o.op=false
 | [],j,o,_,hj,_=>by cases hj
 | c::r,j,o,h,hj,ho=>by
  simp[GF,aR]at h;rcases aQ.1 hj with hc | hj
  ·have h1:=h.1;rw[<-hc,ho]at h1;cases he:vH o.op with
   | false=>rfl
   | true=>dsimp only at h1;rw[he]at h1;cases h1
  ·exact CO h.2 hj ho
def Sta(P:Program)(ops:List Oper)(mb ms:Bool)(S:Nat->Prop)(D N:List Nat)(F:av->Prop):Prop:=∀j w w',j∉D->j∉N->F w->EE P ops mb ms S j w w'->F w'
theorem Sn{bD}{q}{o}{st}{K}(h:qP P ops mb ms S bD q o st K)(hR:Rep β st a w):
  ∃(v:aw) (s':St) (F:av->Prop),K s'/\Ext st s'/\Rep β s' (a.put o.dst v) w/\F w/\Sta P ops mb ms S (Dq ops q) (O2 bD 0 ops) F/\gX P o.op=true/\∀w',F w'->(execOp a.eval o).run P w'=.ok (.value v) w':=by
 rcases kK h with⟨hp,h⟩ | ⟨_,h⟩
 case inr=>exact h.elim
 rcases kK h with⟨_,h⟩ | ⟨_,h⟩
 ·obtain⟨dst,op,t',p,af,g⟩:=o;cases op with
  | convert s d x=>
   dsimp only at h;obtain⟨ax,hx,h1⟩:=ba h;unfold cvZ at h1;split at h1
   ·rename_i ks kd h2 h3;obtain⟨⟨k,n⟩,VK,h1⟩:=ba h1;exact⟨_,_,fun _=>True,h1,Ext.put _ _ _,hR.put _ _,trivial,fun _ _ _ _ _ _ _=>trivial,hp,fun w' _=>yY (run_underlying h2 w') (run_underlying h3 w') ((hR.ev hx).trans (cQ VK β))⟩
   ·rename_i h2 h3;obtain⟨u,VK,h1⟩:=ba h1;exact⟨_,_,fun _=>True,h1,Ext.put _ _ _,hR.put _ _,trivial,fun _ _ _ _ _ _ _=>trivial,hp,fun w' _=>yZ (run_underlying h2 w') (run_underlying h3 w') ((hR.ev hx).trans (fM VK β))⟩
   ·exact h1.elim
  | _=>exact h.elim
 rcases kK h with⟨hb,h⟩ | ⟨hb,h⟩
 ·obtain⟨s1,h1,e1,fJ,_⟩:=uz h hR;obtain⟨v,hv,hy⟩:=EV h1;have hy:=hy trivial β a w fJ;obtain⟨dst,op,t',p,af,g⟩:=o;cases hm:mem op with
  | false=>
   exact⟨val β v,_,fun _=>True,hv,e1.trans (Ext.put _ _ _),fJ.put _ v,trivial,fun _ _ _ _ _ _ _=>trivial,hp,fun w' _=>hy _ _ _ _ _ w' fun e=>by rw[hm]at e;cases e⟩
  | true=>
   have hn:=by simpa[hm]using hb
   refine⟨val β v,_,fun w'=>w'.heap=w.heap,hv,e1.trans (Ext.put _ _ _),fJ.put _ v,rfl,fun j w1 w2 hD hN hF hE=>?_,hp,fun w' hF=>hy _ _ _ _ _ w' fun _=>hF⟩;unfold EE at hE;split at hE
   ·rename_i oj hj;rcases kK hE with⟨_,e⟩ | ⟨e,_⟩
    ·exact e.trans hF
    ·have:=tj (by have:=rQ (i:=0) hj e;rwa[bJ]at this) hD hN;unfold Uj at hn;revert hn this;generalize I7 (Dq ops q) (O2 bD 0 ops) (oJ P 0 ops)=m;intro hn this;cases m with
     | nil=>cases this
     | cons=>cases hn
   ·exact hE.elim
 ·obtain⟨h0,h⟩:=cX h;simp only[aR]at h0;obtain⟨dst,op,t',p,af,g⟩:=o;have uj:∀F:av->Prop,∀k:Nat,S k->(∀w1 w2:av,F w1->w2.heap[k]? =w1.heap[k]? ->F w2)->(∀w1,F w1->k<w1.heap.size)->Sta P ops mb ms S (Dq ops q) (O2 bD 0 ops) F:=by
   intro F k hk KD hF2 j w1 w2 hD hN hF hE;unfold EE at hE;split at hE
   ·rename_i oj hj;rcases kK hE with⟨_,e⟩ | ⟨e,hE⟩
    ·exact KD w1 w2 hF (by rw[e])
    ·have:=tj (by have:=rQ (i:=0) hj e;rwa[bJ]at this) hD hN;have hs:(ms||!vH oj.op)=true:=by
      rcases cD _ _▸h0.2 with h2 | h2
      ·rw[h2];rfl
      ·rw[CO h2 this hj,Bool.not_false,Gf]
     rw[h0.1,hs]at hE;exact KD w1 w2 hF (hE k hk (hF2 _ hF))
   ·exact hE.elim
  cases op with
  | load t x=>
   dsimp only at h;obtain⟨s1,h1,e1,fJ,_⟩:=uz h hR;obtain⟨ax,hx,h1⟩:=ba h1;unfold ldB at h1;split at h1
   ·exact h1.elim
   ·rename_i d hu;split at h1
    ·rename_i i off;obtain⟨b,yU,h1⟩:=ba h1;obtain⟨hc,hS,hK⟩:=cX h1;simp only[aR,cD]at hc;obtain⟨⟨⟨ul,KC⟩,hsz⟩,jS⟩:=hc;have hBO:=fJ.bx i b yU ul;have hB:=hBO.blk;have hbe:b.blk.getD 0=β i:=by
      cases hk:b.blk with
      | none=>rw[hk]at KC;cases KC
      | some k=>rw[hBO.at_ k hk];rfl
     rw[hbe]at hS;have Iz:=fJ.ev hx;refine⟨_,_,fun w'=>Blk w' _ b.ty _,hK,e1.trans (Ext.put _ _ _),fJ.put _ _,hB,uj _ _ hS (fun w1 w2 hF e=>by unfold Blk at hF⊢;rw[e];exact hF) (fun w1 hF=>hF.lt),hp,fun w' hF=>?_⟩;generalize hl:(b.cells.drop off).take (rO P t)=l at*
     have hC:Cells w' ⟨β i,off,none⟩ (cm β l):=hF.BE off _ (by
      rw[eu,<-hl];simp only[cm,lg,ov];rw[cO,nl];simp only[cy,bC];omega)
     exact E4 (st:=st) hu hsz jS Iz hC _ _ _ _ _
    ·rename_i ad;obtain⟨hc,hS,h2⟩:=cX h1;simp only[aR,cD,dK]at hc;obtain⟨⟨ot,hsz⟩,jS⟩:=hc;obtain⟨vs,⟨hF,hK⟩,eH,lq⟩:=rM h2;rw[<-fJ.still ot]at hF;have hv:∀w',Cells w' ad _->Cells w' ad (cm β vs):=fun w' h=>by
      rw[ft (β:=β) (β':=β0) (g:=fun _=>false) (fun i h=>(by cases h)) vs (lq _)];exact h
     rw[<-eH]at hsz jS;by_cases aax:cm β0 vs=[]
     ·refine⟨_,_,fun _=>True,hK,e1.trans (Ext.put _ _ _),fJ.put _ _,trivial,fun _ _ _ _ _ _ _=>trivial,hp,fun w' _=>?_⟩;exact E4 (st:=st) hu hsz jS (fJ.ev hx) (hv w' (by rw[aax];intro j v hj;simp at hj)) _ _ _ _ _
     ·exact⟨_,_,fun w'=>Cells w' ad _,hK,e1.trans (Ext.put _ _ _),fJ.put _ _,hF,uj _ ad.block hS (fun w1 w2 hF e=>hF.keep e) (fun w1 hF=>hF.lt' aax),hp,fun w' hF=>E4 (st:=st) hu hsz jS (fJ.ev hx) (hv w' hF) _ _ _ _ _⟩
    ·exact h1.elim
  | convert s d x=>
   dsimp only at h;obtain⟨s1,h1,e1,fJ,_⟩:=uz h hR;obtain⟨ax,hx,h1⟩:=ba h1;unfold cvB at h1;split at h1
   ·rename_i e hu1 VL;split at h1
    ·rename_i hu3;obtain⟨u,VK,h1⟩:=ba h1;cases hm:s1.mv with
     | true=>rw[hm]at h1;exact h1.elim
     | false=>
      rw[hm]at h1;obtain⟨l,hS,hF,hK⟩:=h1;rw[<-(fJ.still hm)]at hF;refine⟨_,_,fun w'=>wC w' u l,hK,e1.trans (Ext.put _ _ _),fJ.put _ _,hF,?_,hp,fun w' hF'=>wF hu1 hu3 VL ((fJ.ev hx).trans (iC VK β)) hF'⟩;by_cases hl:l=[]
      ·subst hl;exact fun j w1 w2 _ _ KD _=>⟨KD.1,fun hh=>absurd rfl hh⟩
      ·obtain⟨ad,ha,_⟩:=hF.2 hl;refine uj _ ad.block (hS ad ha) (fun w1 w2 KD e=>⟨KD.1,fun hh=>?_⟩) (fun w1 KD=>?_)
       ·obtain⟨JK,D9,hC⟩:=KD.2 hh;rw[ha]at D9;injection D9 with D9;subst D9;exact⟨ad,ha,hC.keep e⟩
       ·obtain⟨JK,D9,hC⟩:=KD.2 hl;rw[ha]at D9;injection D9 with D9;subst D9;exact hC.lt' (by cases l with
         | nil=>exact absurd rfl hl
         | cons c l=>simp)
    ·exact h1.elim
   ·exact h1.elim
  | _=>exact h.elim
theorem oK{j}{o}(hj:fA ops j=some o) w:EE P ops mb ms S j w w:=by
 unfold EE;rw[hj];dsimp only;cases gX P o.op with
 | true=>rfl
 | false=>
  cases(mb&&_)with
  | true=>exact bL.refl _ _
  | false=>exact trivial
theorem CP{Q}{j}{o}{st}{K}(hj:fA ops j=some o)(hp:gX P o.op=false)(h:loud P (XB mb ms S o.op) (YB mb ms S) st o K)(hR:Rep β st a w):o.wp P a w (Sj (EE P ops mb ms S j) st K w) Q:=by
 have XM:EE P ops mb ms S j=fun w w'=>bif mb&&(ms||!vH o.op)then bL S w w' else True:=by
  unfold EE;rw[hj];dsimp only;rw[hp];rfl
 refine Ay (fun w0 w1 p hx=>?_) (fun w w1 hO=>?_) (fun hs bk k w w1 p hy hk hO=>?_) h hR
 ·rw[XM];unfold XB at hx;cases hb:(mb&&_)with
  | true=>rw[hb]at hx;exact⟨hx.2,hx.1⟩
  | false=>rw[hb]at hx;exact⟨hx,trivial⟩
 ·rw[XM];cases(mb&&_)with
  | true=>exact bL.only hO
  | false=>exact trivial
 ·rw[XM];rw[hs,Bool.not_true,Bool.or_false];unfold YB at hy;cases hb:(mb&&ms)with
  | true=>
   rw[hb]at hy;cases bk with
   | none=>exact hy.elim
   | some j=>
    refine⟨hy.2,fun q hq bQ=>hO.block q bQ ?_⟩;have:=hk j rfl;subst this;simp;rintro rfl;exact hy.1 hq
  | false=>rw[hb]at hy;exact⟨hy,trivial⟩
theorem pW{Q}(hQ:∀c a w,¬Q (.panic c) a w):∀{g:Nat} {bD:Array Bool} {st:St} {K:St->Prop} {β:Nat->Nat} {a:Act} {w:av},CN P ops mb ms S g bD st K->Rep β st a w->
  (∀β' cn a' w',K cn->Ext st cn->Rep β' cn a' w'->Q .normal a' w')->fb P .any ops.toArray Q (EE P ops mb ms S) g bD a w
 | 0,bD,st,K,β,a,w,h,hR,hK=>by
  unfold CN at h;split at h
  ·rename_i hr;exact⟨hr,hK β st a w h (Ext.refl _) hR⟩
  ·exact h.elim
 | g+1,bD,st,K,β,a,w,h,hR,hK=>by
  have L:∀{j:Nat} {o:Oper},fA ops j=some o->gX P o.op=false->
    Qb st ops o (fun st=>loud P (XB mb ms S o.op) (YB mb ms S) st o fun st=>CN P ops mb ms S g (bD.setIfInBounds j true) st K) (fun st=>CN P ops mb ms S g (bD.setIfInBounds j true) (st.put o.dst .un) K)->
    if Region.wanted o (yielded ops.toArray a.tmps)then o.wp P a w (fun a' w'=>EE P ops mb ms S j w w'/\fb P .any ops.toArray Q (EE P ops mb ms S) g (bD.setIfInBounds j true) a' w') Q∨(o.asks P a w/\LetsOut Q)
    else(fun a' w'=>EE P ops mb ms S j w w'/\fb P .any ops.toArray Q (EE P ops mb ms S) g (bD.setIfInBounds j true) a' w') (a.put o.dst undef) w:=by
   intro j o ho hp h;obtain⟨s,e1,fJ,h1⟩:=xi h hR;rcases h1 with⟨hw,h1⟩ | ⟨hw,h1⟩
   ·rw[if_pos hw];refine .inl (Oper.wp_mono ?_ (CP ho hp h1 fJ));rintro a' w' ⟨β',cn,k1,k2,k3,k4⟩;exact⟨k3,pW hQ k1 k4 fun β2 vA a2 w2 m1 m2 m3=>hK β2 vA a2 w2 m1 ((e1.trans k2).trans m2) m3⟩
   ·rw[if_neg (by simp[hw])];exact⟨oK ho w,pW hQ h1 (fJ.put o.dst .un) fun β2 vA a2 w2 m1 m2 m3=>hK β2 vA a2 w2 m1 ((e1.trans (Ext.put _ _ _)).trans m2) m3⟩
  unfold CN at h;split at h
  ·rename_i hr;exact TZ hr (hK β st a w h (Ext.refl _) hR)
  ·rename_i i r hr;split at h
   ·rename_i q hq;obtain⟨o,ho,h⟩:=ba h;obtain⟨hc,h⟩:=cX h;simp only[aR,okT]at hc;obtain⟨⟨⟨⟨⟨c1,c2⟩,c3⟩,c4⟩,c5⟩,c6⟩:=hc;obtain⟨s,e1,fJ,h1⟩:=xi h hR;rcases h1 with⟨hw,h1⟩ | ⟨hw,h1⟩
    ·obtain⟨v,s2,F,k1,k2,k3,k4,k5,k6,k7⟩:=Sn h1 fJ;have hE:∀w1,F w1->EE P ops mb ms S q w1 w1:=fun w1 _=>oK ho w1;exact K2 q _ _ v F ho c1 c2 (by rw[hr];exact c6) c3 c4 c5 (fun c a w hp=>(hQ _ _ _ hp).elim) k5 hE k4 (R6 hw k7) rfl
      (pW hQ k1 k3 fun β2 vA a2 w2 m1 m2 m3=>hK β2 vA a2 w2 m1 ((e1.trans k2).trans m2) m3)
    ·exact K2 q _ _ undef _ ho c1 c2 (by rw[hr];exact c6) c3 c4 c5 (fun c a w hp=>(hQ _ _ _ hp).elim) (fun _ _ _ _ _ _ _=>trivial) (fun w1 _=>oK ho w1) trivial (Yy hw) rfl
      (pW hQ h1 (fJ.put o.dst .un) fun β2 vA a2 w2 m1 m2 m3=>hK β2 vA a2 w2 m1 ((e1.trans (Ext.put _ _ _)).trans m2) m3)
   ·split at h
    ·obtain⟨o,ho,h⟩:=ba h;rcases kK h with⟨_,h⟩ | ⟨hp,h⟩
     ·exact h.elim
     obtain⟨s,e1,fJ,h1⟩:=xi h hR;rcases h1 with⟨hw,h1⟩ | ⟨hw,h1⟩
     ·refine Yw i ho hr hw (Oper.wp_mono ?_ (CP ho hp h1 fJ));rintro a' w' ⟨β',cn,k1,k2,k3,k4⟩;exact⟨k3,pW hQ k1 k4 fun β2 vA a2 w2 m1 m2 m3=>hK β2 vA a2 w2 m1 ((e1.trans k2).trans m2) m3⟩
     ·exact PS i ho hr hw (oK ho w) rfl (pW hQ h1 (fJ.put o.dst .un) fun β2 vA a2 w2 m1 m2 m3=>hK β2 vA a2 w2 m1 ((e1.trans (Ext.put _ _ _)).trans m2) m3)
    ·rename_i j _;obtain⟨o,ho,h⟩:=ba h;obtain⟨o',KE,h⟩:=ba h;rcases kK h with⟨_,h⟩ | ⟨hp,h⟩
     ·exact h.elim
     simp at hp;exact Yx i j ho KE hr (L ho hp.1 h.1) (L KE hp.2 h.2)
    ·exact h.elim
end
def ik(ws w w':av):Prop:=w.heap.size<=w'.heap.size/\∀k,ws.heap.size<=k->k<w.heap.size->w'.heap[k]? =w.heap[k]?
def tq(mk:List (Nat×Nat))(b:Nat):Prop:=∀p∈mk,b<p.1∨p.2<=b
theorem ik.only{bs}{ws w w'}(h:Only bs w w')(hb:∀b∈bs,b<ws.heap.size∨w.heap.size<=b):ik ws w w':=
 ⟨h.size,fun k h1 h2=>h.block k h2 fun hk=>by grind⟩
theorem ik.vq{ws w w'}(h:Only [] w w'):ik ws w w':=ik.only h (by simp)
theorem tq.one{m n b}{r}(h:tq ((m,n)::r) b):b<m∨n<=b:=h _ dc
structure LZ where
 z:Nat
 d:Nat
 t:TypeId
 zs:List SV
def rR(P:Program)(z:Nat)(o:Oper):Option LZ:=match o.op,o.dst,o.guard with
 | .alloc t,some d,none=>(match zc P t with
  | some zs=>bif Uk o.after.toList&&fL (fun _=>false) zs then some ⟨z,d,t,zs⟩else none
  | none=>none)
 | _,_,_=>none
def jt(P:Program):Nat->List Oper->List LZ
 | _,[]=>[]
 | i,o::r=>match rR P i o with
  | some p=>p::jt P (i+1) r
  | none=>jt P (i+1) r
def ly:List LZ->List Nat
 | []=>[]
 | p::r=>p.z::ly r
def YS:List LZ->List Nat
 | []=>[]
 | p::r=>p.d::YS r
def CQ(z d:Nat):Nat->List Oper->Bool
 | _,[]=>true
 | i,o::r=>(Nat.beq i z||(match o.dst with
  | some e=>!Nat.beq e d
  | none=>true))&&CQ z d (i+1) r
def Xy(ops:List Oper):List LZ->Bool
 | []=>true
 | p::r=>CQ p.z p.d 0 ops&&Xy ops r
theorem LI{α}:∀{l:List α},Uk l=true->l=[]
 | [],_=>rfl
theorem j8{P}{z}{o}{p}(h:rR P z o=some p):p.z=z/\o.op=.alloc p.t/\o.dst=some p.d/\o.guard=none/\o.after.toList=[]/\zc P p.t=some p.zs/\fL (fun _=>false) p.zs=true:=by
 unfold rR at h;split at h
 ·rename_i t d h1 h2 h3;split at h
  ·rename_i zs hz;obtain⟨h4,rfl⟩:=Al h;simp at h4;exact⟨rfl,h1,h2,h3,LI h4.1,hz,h4.2⟩
  ·cases h
 ·cases h
theorem lz{Z}{z}:z∈ly Z↔∃p∈Z,p.z=z:=by
 induction Z with
 | nil=>simp[ly]
 | cons p r ih=>simp[ly,ih,eq_comm (a:=z)]
theorem xj{P}:∀{l:List Oper} {i:Nat} {p:LZ},p∈jt P i l->∃j o,p.z=i+j/\fA l j=some o/\rR P p.z o=some p
 | [],i,p,h=>by cases h
 | o::r,i,p,h=>by
  have tl:p∈jt P (i+1) r->∃j o',p.z=i+j/\fA (o::r) j=some o'/\rR P p.z o'=some p:=fun h=>by
   obtain⟨j,o',h1,h2,h3⟩:=xj h;exact⟨j+1,o',by omega,h2,h3⟩
  unfold jt at h;split at h
  ·rename_i q hq;rcases aQ.1 h with rfl | h
   ·have:=(j8 hq).1;exact⟨0,o,this,rfl,by rw[this];exact hq⟩
   ·exact tl h
  ·exact tl h
theorem xn{P}:∀{l:List Oper} {i:Nat},(ly (jt P i l)).Nodup
 | [],i=>by simp[jt,ly]
 | o::r,i=>by
  unfold jt;split
  ·rename_i q hq;have e:=(j8 hq).1;simp[ly];refine⟨fun hm=>?_,xn⟩;obtain⟨p,h1,h2⟩:=lz.1 hm;obtain _:=xj h1;omega
  ·exact xn
theorem LJ{z d}:∀{l:List Oper} {i j:Nat} {o:Oper},CQ z d i l=true->fA l j=some o->i+j≠z->o.dst≠some d:=by
 intro l
 induction l with
 | nil=>intro i j o _ h;cases h
 | cons c r ih=>
  intro i j o h hj hz;simp only[CQ,aR,cD]at h;cases j with
  | zero=>
   simp[fA]at hj;intro e;simp_all
  | succ j=>exact ih (i:=i+1) (j:=j) h.2 hj (by omega)
theorem LK{ops}:∀{Z:List LZ},Xy ops Z=true->∀p∈Z,CQ p.z p.d 0 ops=true
 | q::r,h,p,hp=>by
  simp[Xy]at h;rcases aQ.1 hp with rfl | hp
  ·exact h.1
  ·exact LK h.2 p hp
def dQ(l:Array Bool):List Nat->Array Bool
 | []=>l
 | z::r=>dQ (l.setIfInBounds z true) r
theorem CR(l:Array Bool) i j:(l.setIfInBounds i true).setIfInBounds j true=(l.setIfInBounds j true).setIfInBounds i true:=by
 by_cases h:i=j
 ·subst h;rfl
 ·exact Array.setIfInBounds_comm _ _ h
theorem lX:∀{D:List Nat} {l:Array Bool} {z:Nat},dQ (l.setIfInBounds z true) D=(dQ l D).setIfInBounds z true
 | [],_,_=>rfl
 | d::r,l,z=>by simp[dQ,CR,lX]
theorem CS{D E}(h:D.Perm E):∀l,dQ l D=dQ l E:=by
 induction h with
 | nil=>intro l;rfl
 | cons x _ ih=>intro l;exact ih _
 | swap x y r=>intro l;simp[dQ];rw[CR]
 | trans _ _ h1 h2=>intro l;exact(h1 l).trans (h2 l)
theorem nD:∀{D:List Nat} {l:Array Bool} {k:Nat},(dQ l D).getD k false=true↔l.getD k false=true∨(k∈D/\k<l.size)
 | [],l,k=>by simp[dQ]
 | d::r,l,k=>by
  simp only[dQ];rw[nD];by_cases h:d=k
  ·subst h;by_cases hs:d<l.size
   ·simp[hs]
   ·simp[hs]
  ·simp[nc h,Ne.symm h]
theorem lY:∀{D:List Nat} {l:Array Bool} {k:Nat},(dQ l D).getD k true=true↔l.getD k true=true∨k∈D
 | [],l,k=>by simp[dQ]
 | d::r,l,k=>by
  simp only[dQ];rw[lY];by_cases h:d=k
  ·simp_all
  ·simp[nc h,Ne.symm h]
def yN(Zi:List Nat):List Nat->List Nat
 | []=>[]
 | j::r=>bif Zi.elem j then yN Zi r else j::yN Zi r
theorem nE{Zi}:∀{l:List Nat} {j:Nat},j∈yN Zi l↔j∈l/\j∉Zi
 | [],j=>by simp[yN]
 | c::r,j=>by
  simp only[yN];cases h:Zi.elem c with
  | true=>
   simp only[lS,nE,aQ]
   grind
  | false=>
   simp[nE]
   grind
def GH(Zi R:List Nat):List Nat->Bool
 | []=>true
 | j::r=>(R.elem j&&!Zi.elem j)&&GH Zi R r
theorem CT{Zi R}:∀{l:List Nat},GH Zi R l=true->∀j∈l,j∈R/\j∉Zi
 | c::r,h,j,hj=>by
  simp[GH]at h;rcases aQ.1 hj with rfl | hj
  ·grind
  ·exact CT h.2 j hj
def tt(l:Array Bool):List Nat->Bool
 | []=>true
 | z::r=>!l.getD z true&&tt l r
theorem vf{l}:∀{Zi:List Nat},tt l Zi=true->∀z∈Zi,l.getD z true=false
 | c::r,h,z,hz=>by
  simp only[tt,aR,dK]at h;rcases aQ.1 hz with rfl | hz
  ·exact h.1
  ·exact vf h.2 z hz
def Um(ops:List Oper)(Zi:List Nat)(l:Array Bool):Bool:=GH Zi (Region.ready .any ops.toArray l) (Region.ready .any ops.toArray (dQ l Zi))
def GI(z:Nat):List Nat->Bool
 | []=>true
 | j::r=>Nat.beq j z&&GI z r
theorem CU{z}:∀{l:List Nat},GI z l=true->∀j∈l,j=z
 | c::r,h,j,hj=>by
  simp only[GI,aR]at h;rcases aQ.1 hj with rfl | hj
  ·simp_all
  ·exact CU h.2 j hj
def Qc(ops:List Oper)(l:Array Bool)(Zi:List Nat):List Nat->Bool
 | []=>true
 | z::r=>GI z (Region.ready .any ops.toArray (dQ l (Zi.erase z)))&&Qc ops l Zi r
theorem GJ{ops}{l}{Zi}:∀{r:List Nat},Qc ops l Zi r=true->∀z∈r,∀j∈Region.ready .any ops.toArray (dQ l (Zi.erase z)),j=z
 | c::r,h,z,hz=>by
  simp[Qc]at h;rcases aQ.1 hz with rfl | hz
  ·exact CU h.1
  ·exact GJ h.2 z hz
section
variable {md:Region.Mode} {ops:Array Oper}
theorem uA{l}{D E}(hs:∀x∈D,x∈E){j}(h:j∈Region.ready md ops (dQ l D))(hj:j∉E):j∈Region.ready md ops (dQ l E):=by
 rw[mem_ready]at h⊢;obtain⟨h0,o,ho,kl⟩:=h;refine⟨?_,o,ho,fun e he hb=>?_⟩
 ·rw[dL]at h0⊢;intro h1;rcases lY.1 h1 with h1 | h1
  ·exact h0 (lY.2 (.inl h1))
  ·exact hj h1
 ·rcases nD.1 (kl e he hb)with h1 | h1
  ·exact nD.2 (.inl h1)
  ·exact nD.2 (.inr ⟨hs _ h1.1,h1.2⟩)
theorem yO{l}(h:ow md ops l){D}(hD:∀z∈D,∀o,ops[z]? =some o->o.after.toList=[]):ow md ops (dQ l D):=by
 intro k o hk hl e he hb;rcases nD.1 hl with h1 | h1
 ·exact nD.2 (.inl (h k o hk h1 e he hb))
 ·have:=hD k h1.1 o hk;simp_all
end
theorem Un{P}{o:Oper}{a}{w}{K}{Q}(hh:o.wp P a w K Q):
  o.wp P a w (fun a' w'=>K a' w'/\∀i,o.dst≠some i->a'.tmps[i]? =a.tmps[i]?) Q:=by
 unfold Oper.wp at*
 generalize (execOp a.eval o).run P w=r at*
 cases r with
 | ok n w'=>
  cases n
  case value v=>exact⟨hh,(iT _ _ _).2.2⟩
  case skip=>exact⟨hh,(iT _ _ _).2.2⟩
  case defer d=>exact⟨hh,(iT _ _ _).2.2⟩
  case enter f args=>
   refine Calls.mono hh (fun e sA he=>?_);cases e with
   | returned v=>exact⟨he,(iT _ _ _).2.2⟩
   | _=>exact he
  case row n args=>exact Rows.mono hh (fun v sA he=>⟨he,(iT _ _ _).2.2⟩)
  all_goals exact hh
 | halt x w'=>cases x<;>simp[Oper.upon]at hh⊢ <;>exact hh
structure Late (Z:List LZ) (ws:av) (bz:Nat->Nat) (D:List Nat) (mk:List (Nat×Nat)) (a:Act) (w:av):Prop where
 at_:∀p∈Z,p.z∈D->a.tmps[p.d]? =some (.pointer (some ⟨bz p.z,0,none⟩))/\Blk w (bz p.z) p.t (cm β0 p.zs)/\ws.heap.size<=bz p.z/\tq mk (bz p.z)
 sub:∀z∈D,z∈ly Z
 ne:∀z∈D,∀z'∈D,z≠z'->bz z≠bz z'
 top:∀p∈mk,p.2<=w.heap.size
 le:ws.heap.size<=w.heap.size
section
variable {Z:List LZ} {ws:av} {bz:Nat->Nat} {D:List Nat} {mk:List (Nat×Nat)} {a a':Act} {w w1:av}
theorem Late.act(h:Late Z ws bz D mk a w)(ha:∀p∈Z,a'.tmps[p.d]? =a.tmps[p.d]?):Late Z ws bz D mk a' w:=
 ⟨fun p hp hd=>by rw[ha p hp];exact h.at_ p hp hd,h.sub,h.ne,h.top,h.le⟩
theorem Late.loud(h:Late Z ws bz D mk a w)(hN:ik ws w w1)(ha:∀p∈Z,a'.tmps[p.d]? =a.tmps[p.d]?):Late Z ws bz D ((w.heap.size,w1.heap.size)::mk) a' w1:=by
 refine⟨fun p hp hd=>?_,h.sub,h.ne,fun p hp=>?_,bh h.le hN.1⟩
 ·obtain⟨h1,h2,h3,h4⟩:=h.at_ p hp hd;have h5:=h2.lt;refine⟨by rw[ha p hp];exact h1,?_,h3,fun q hq=>?_⟩
  ·unfold Blk at h2⊢;rw[hN.2 _ h3 h5];exact h2
  ·rcases aQ.1 hq with rfl | hq
   ·exact .inl h5
   ·exact h4 q hq
 ·rcases aQ.1 hp with rfl | hp
  ·exact aV _
  ·exact bh (h.top p hp) hN.1
theorem Late.alloc(h:Late Z ws bz D mk a w)(hu:∀p∈Z,∀q∈Z,p.z=q.z->p=q)(hd:∀p∈Z,∀q∈Z,p.z≠q.z->p.d≠q.d){p}(hp:p∈Z)(hn:p.z∉D){b}(hb:w.heap.size<=b)(hO:Only [] w w1)(hB:Blk w1 b p.t (cm β0 p.zs))(hs:p.d<a.tmps.size):
  Late Z ws (fun z=>if z=p.z then b else bz z) (p.z::D) mk (a.put (some p.d) (.pointer (some ⟨b,0,none⟩))) w1:=by
 refine⟨fun q hq hqd=>?_,fun z hz=>?_,fun z hz z' Pk gL=>?_,fun q hq=>bh (h.top q hq) hO.size,bh h.le hO.size⟩
 ·by_cases e:q.z=p.z
  ·have:=hu q hq p hp e;subst this;rw[if_pos rfl];refine⟨by simp[Act.put,hs],hB,bh h.le hb,fun x hx=>.inr (bh (h.top x hx) hb)⟩
  ·rw[if_neg e];obtain⟨h1,h2,h3,h4⟩:=h.at_ q hq (by grind);refine⟨?_,hO.blk h2 (by simp),h3,h4⟩;rw[(iT a _ _).2.2 q.d (by
    intro k;injection k with k;exact hd p hp q hq (Ne.symm e) k)]
   exact h1
 ·rcases aQ.1 hz with rfl | hz
  ·exact lz.2 ⟨p,hp,rfl⟩
  ·exact h.sub z hz
 ·have KA:∀z∈D,bz z<w.heap.size:=fun z hz=>by
   obtain⟨q,hq,rfl⟩:=lz.1 (h.sub z hz);exact(h.at_ q hq hz).2.1.lt
  rcases aQ.1 hz with rfl | hz<;>rcases aQ.1 Pk with rfl | Pk
  ·exact absurd rfl gL
  ·grind
  ·rw[if_neg gL,if_pos rfl];have:=KA _ hz;omega
  ·rw[if_neg (fun e=>hn (by rw[<-e];exact hz)),if_neg (fun e=>hn (by rw[<-e];exact Pk))];exact h.ne _ hz _ Pk gL
end
def YF:YT:=fun _ _=>False
def XL(mb ms:Bool)(S:Nat->Prop)(ws:av)(o:Op):XT:=fun w0 w1 p=>ik ws w0 w1/\XB mb ms S o w0 w1 p
def GK(st:St):List LZ->Bool
 | []=>true
 | p::r=>(dh st.fr p.d).isNone&&Nat.blt p.d st.n&&GK st r
theorem CV{st}:∀{Z:List LZ},GK st Z=true->∀p∈Z,dh st.fr p.d=none/\p.d<st.n
 | q::r,h,p,hp=>by
  simp only[GK,aR,sH]at h;rcases aQ.1 hp with rfl | hp
  ·simp_all
  ·exact CV h.2 p hp
def St.uR(st:St):St:={st with mv:=true}
def eqA:List Bool->List Bool->Bool
 | [],[]=>true
 | a::r,b::s=>(a==b)&&eqA r s
 | _,_=>false
theorem LM:∀{l m:List Bool},eqA l m=true->l=m
 | [],[],_=>rfl
 | a::r,b::s,h=>by
  simp[eqA]at h;rw[h.1,LM h.2]
def lL(P:Program)(ops:List Oper)(mb ms:Bool)(S:Nat->Prop)(ws:av)(mk:List (Nat×Nat))(st:St)(o:Oper)(D:List (Nat×Nat)->St->Prop):Prop:=
 bif gX P o.op then False else Qb st ops o (fun st=>dP st fun st=>loud P (XL mb ms S ws o.op) YF st o fun s=>bif s.mv then False else D ((st.w0.heap.size,s.w0.heap.size)::mk) s.uR) (fun st=>D mk (St.uR (st.put o.dst .un)))
def fqG(P:Program)(ops:List Oper)(Zi:List Nat)(bD:Array Bool):List Nat->Option Nat
 | []=>none
 | i::r=>(match fA ops i with
  | some o=>bif gX P o.op&&Um ops Zi (bD.setIfInBounds i true)then some i else fqG P ops Zi bD r
  | none=>fqG P ops Zi bD r)
def fqZ(P:Program)(ops:List Oper)(Zi:List Nat)(bD:Array Bool)(l:List Nat):Option Nat:=
 match fqG P ops Zi bD l with
 | some q=>some q
 | none=>fq P ops l
def I8(P:Program)(ops:List Oper)(mb ms:Bool)(S:Nat->Prop)(ws:av)(Z:List LZ)(uT:Array Bool)(gm:Nat)(K:List (Nat×Nat)->St->Prop):Nat->Array Bool->List (Nat×Nat)->St->Prop
 | 0,_,_,_=>False
 | g+1,bD,mk,st=>bif tt bD (ly Z)&&GK st Z then(match yN (ly Z) (Region.ready .any ops.toArray bD)with
  | []=>bif Qc ops bD (ly Z) (ly Z)&&eqA bD.toList uT.toList&&Nat.beq (g+1) gm&&Nat.ble (ly Z).length (g+1)then K mk st else False
  | i::r=>bif Um ops (ly Z) bD&&Nat.ble (ly Z).length g then(match fqZ P ops (ly Z) bD (i::r)with
   | some q=>bU (fA ops q) fun o=>bif okT ops bD q&&(i::r).contains q then
    Qb st ops o (fun st=>qP P ops mb ms S bD q o st.uR fun st=>I8 P ops mb ms S ws Z uT gm K g (bD.setIfInBounds q true) mk st.uR) (fun st=>I8 P ops mb ms S ws Z uT gm K g (bD.setIfInBounds q true) mk (St.uR (st.put o.dst .un)))else False
   | none=>(match r with
    | []=>bU (fA ops i) fun o=>lL P ops mb ms S ws mk st o fun mk st=>I8 P ops mb ms S ws Z uT gm K g (bD.setIfInBounds i true) mk st
    | [j]=>bU (fA ops i) fun o=>bU (fA ops j) fun o'=>
     lL P ops mb ms S ws mk st o (fun mk st=>I8 P ops mb ms S ws Z uT gm K g (bD.setIfInBounds i true) mk st)/\
     lL P ops mb ms S ws mk st o' (fun mk st=>I8 P ops mb ms S ws Z uT gm K g (bD.setIfInBounds j true) mk st)
    | [j,k]=>bU (fA ops i) fun o=>bU (fA ops j) fun o'=>bU (fA ops k) fun o''=>
     lL P ops mb ms S ws mk st o (fun mk st=>I8 P ops mb ms S ws Z uT gm K g (bD.setIfInBounds i true) mk st)/\
     lL P ops mb ms S ws mk st o' (fun mk st=>I8 P ops mb ms S ws Z uT gm K g (bD.setIfInBounds j true) mk st)/\
     lL P ops mb ms S ws mk st o'' (fun mk st=>I8 P ops mb ms S ws Z uT gm K g (bD.setIfInBounds k true) mk st)
    | _=>False))else False)else False
section
variable {P:Program} {ops:List Oper} {mb ms:Bool} {S:Nat->Prop} {β:Nat->Nat} {a:Act} {w:av} {ws:av} {Z:List LZ} {uT:Array Bool} {gm:Nat}
theorem Rep.late{st}(hR:Rep β st a w)(hm:st.mv=true){d}{v}(hd:dh st.fr d=none){w1}(hO:Only [] w w1):Rep β st (a.put (some d) v) w1:=by
 obtain⟨p1,p2,p3⟩:=iT a _ v;refine⟨oC ⟨p1.trans hR.ok.sz,p2.trans hR.ok.df,fun i p hl hi=>?_⟩,fun i b hb ho=>?_,hR.ne,hR.only.cp hO,fun h=>by rw[hm]at h;cases h⟩
 ·rw[p3 i (by grind)];exact hR.ok.at_ i p hl hi
 ·obtain⟨k1,k2,k3⟩:=hR.bx i b hb ho;exact⟨hO.blk k1 (by simp),k2,k3⟩
theorem Rep.uR{st}(hR:Rep β st a w):Rep β st.uR a w:=⟨hR.fr,hR.bx,hR.ne,hR.only,fun h=>by cases h⟩
theorem Ext.uR st:Ext st st.uR:=⟨rfl,aV _,fun _ _ _ h _=>h,fun i b h ho _=>⟨b,h,ho,rfl,rfl,rfl,fun _ h=>h⟩,K7,B0⟩
theorem YU{Q}{j}{o}{st}{mk}{D}(hj:fA ops j=some o)(h:lL P ops mb ms S ws mk st o D)(hR:Rep β st a w):
  wpOp P ops.toArray Q j (fun a' w'=>EE P ops mb ms S j w w'/\(∀i,o.dst≠some i->a'.tmps[i]? =a.tmps[i]?)/\∃β' cn mk',D mk' cn/\Ext st cn/\cn.mv=true/\Rep β' cn a' w'/\((mk'=mk/\w'=w)∨(mk'=(w.heap.size,w'.heap.size)::mk/\ik ws w w'))) a w:=by
 rcases kK h with⟨_,h⟩ | ⟨hp,h⟩
 ·exact h.elim
 have Rr:ops.toArray[j]? =some o:=by rw[iB]at hj;simpa using hj
 unfold wpOp;simp only[Rr];obtain⟨s,e1,fJ,h1⟩:=xi h hR;rcases h1 with⟨hw,h1⟩ | ⟨hw,h1⟩
 ·rw[if_pos hw];left;obtain⟨s1,h2,e2,Tn,IC,_⟩:=dq h1 fJ;have XM:EE P ops mb ms S j=fun w w'=>bif mb&&(ms||!vH o.op)then bL S w w' else True:=by
   unfold EE;simp_all
  have:=Un (Ay (E:=fun w w'=>EE P ops mb ms S j w w'/\ik ws w w') (Q:=Q) (fun w0 w1 p hx=>?_) (fun w w1 hO=>?_) (fun hs bk k w w1 p hy hk hO=>hy.elim) h2 Tn)
  ·refine Oper.wp_mono ?_ this;rintro a' w' ⟨⟨β',cn,k1,k2,k3,k4⟩,k5⟩;rcases kK k1 with⟨_,k1⟩ | ⟨km,k1⟩
   ·exact k1.elim
   refine⟨k3.1,k5,β',cn.uR,_,k1,((e1.trans e2).trans k2).trans (Ext.uR _),rfl,k4.uR,.inr ⟨?_,k3.2⟩⟩;rw[<-k4.still km,<-Tn.still IC]
  ·rw[XM];obtain⟨hN,hx⟩:=hx;unfold XB at hx;cases hb:(mb&&(ms||!vH o.op))<;>grind
  ·rw[XM];refine⟨?_,ik.vq hO⟩;cases(mb&&_)with
   | true=>exact bL.only hO
   | false=>exact trivial
 ·rw[if_neg (by grind)];exact⟨oK hj w,(iT _ _ _).2.2,β,_,mk,h1,(e1.trans (Ext.put _ _ _)).trans (Ext.uR _),rfl,(fJ.put o.dst .un).uR,.inl ⟨rfl,trivial⟩⟩
theorem LN{Q:Exit->Act->av->Prop}(hQ:∀c a w,¬Q (.panic c) a w)(hZ:∀p∈Z,∃o,fA ops p.z=some o/\rR P p.z o=some p)(hzo:Xy ops Z=true)(hnd:(ly Z).Nodup){s0:St}{K:List (Nat×Nat)->St->Prop}
  (hK:∀mk st β a w bz D m,K mk st->Ext s0 st->Rep β st a w->Late Z ws bz D mk a w->D.Perm (ly Z)->m+D.length=gm->fb P .any ops.toArray Q (EE P ops mb ms S) m (dQ uT D) a w):
  ∀(m g:Nat) {bD:Array Bool} {mk:List (Nat×Nat)} {st:St} {β:Nat->Nat} {a:Act} {w:av} {bz:Nat->Nat} {D Pd:List Nat},I8 P ops mb ms S ws Z uT gm K g bD mk st->Ext s0 st->st.mv=true->Rep β st a w->Late Z ws bz D mk a w->(D++Pd).Perm (ly Z)->m+D.length=g->
   fb P .any ops.toArray Q (EE P ops mb ms S) m (dQ bD D) a w:=by
 intro m;have hu:∀p∈Z,∀q∈Z,p.z=q.z->p=q:=fun p hp q hq e=>by
  obtain⟨o,h1,h2⟩:=hZ p hp;obtain⟨o',h3,h4⟩:=hZ q hq;rw[e,h3]at h1;injection h1 with h1;subst h1;rw[e,h4]at h2;injection h2 with h2;exact h2.symm
 have hdo:∀p∈Z,∀j o,fA ops j=some o->j≠p.z->o.dst≠some p.d:=fun p hp j o hj gL=>LJ (LK hzo p hp) hj (by rw[bJ];exact gL);have VM:∀p∈Z,∀q∈Z,p.z≠q.z->p.d≠q.d:=fun p hp q hq gL e=>by
  obtain⟨o',h3,h4⟩:=hZ q hq;exact hdo p hp q.z o' h3 (Ne.symm gL) (by rw[(j8 h4).2.2.1,e])
 induction m using Nat.strongRecOn with
 | ind m ih=>
 intro g bD mk st β a w bz D Pd h he hm hR hL hp hg;cases g with
 | zero=>exact h.elim
 | succ g=>
 have h0:=h;unfold I8 at h;obtain⟨hc,h⟩:=cX h;simp only[aR]at hc;obtain⟨XH,hfz⟩:=hc;have XH:=vf XH;have hDZ:∀x∈D,x∈ly Z:=hL.sub;have hPZ:∀x∈Pd,x∈ly Z:=fun x hx=>hp.subset (List.mem_append_right _ hx);have eH:D.length+Pd.length=(ly Z).length:=by have:=hp.length_eq;rwa[aO]at this
 have agA:(D++Pd).Nodup:=hp.nodup_iff.2 hnd;have hPD:∀x∈Pd,x∉D:=fun x hx hd=>(List.nodup_append.1 agA).2.2 x hd x hx rfl;have hrz:∀j∈Region.ready .any ops.toArray (dQ bD D),j∈ly Z->j∈Pd:=fun j hj sC=>by
  have h1:j∉D:=fun hd=>by
   have:=(mem_ready.1 hj).1;rw[lY.2 (.inr hd)]at this;cases this
  rcases cr.1 (hp.mem_iff.2 sC)with h2 | h2
  ·exact absurd h2 h1
  ·exact h2
 have aaz:∀j∈Region.ready .any ops.toArray bD,j∉ly Z->j∈Region.ready .any ops.toArray (dQ bD D):=fun j hj sC=>uA (l:=bD) (D:=[]) (E:=D) (by simp) hj fun k=>sC (hDZ j k);have hpr:∀z∈Pd,z∈Region.ready .any ops.toArray (dQ bD D):=fun z hz=>by
  obtain⟨p,FT,rfl⟩:=lz.1 (hPZ z hz);obtain⟨o,ho,bQ⟩:=hZ p FT;refine mem_ready.2 ⟨?_,o,by rw[iB]at ho;simpa using ho,fun e he=>?_⟩
  ·rw[dL];intro k;rcases lY.1 k with k | k
   ·rw[XH _ (hPZ _ hz)]at k;cases k
   ·exact hPD _ hz k
  ·rw[Array.mem_def,(j8 bQ).2.2.2.2.1]at he;cases he
 have AL:∀{m'},m=m'+1->∀j∈Pd,wpOp P ops.toArray Q j (fun a' w'=>EE P ops mb ms S j w w'/\fb P .any ops.toArray Q (EE P ops mb ms S) m' ((dQ bD D).setIfInBounds j true) a' w') a w:=by
  intro m' em j hj;obtain⟨p,FT,rfl⟩:=lz.1 (hPZ j hj);obtain⟨o,ho,bQ⟩:=hZ p FT;obtain⟨_,l2,l3,l4,l5,l6,l7⟩:=j8 bQ;obtain⟨fz1,fz2⟩:=CV hfz p FT;have KE:ops.toArray[p.z]? =some o:=by rw[iB]at ho;simpa using ho
  unfold wpOp;simp only[KE];rw[if_pos (wn l4)];left;obtain⟨dst,op,t',pp,af,g0⟩:=o;dsimp only at l2 l3 l4 l5;subst l2 l3 l4;obtain⟨z,z1,z2⟩:=Sh l6 w;refine Cp z1 (z2 β0) (fun _=>rfl) fun b w1 hb hO hB=>⟨?_,?_⟩
  ·unfold EE;rw[ho];dsimp only;rw[show gX P (.alloc p.t)=false from rfl,rk];cases(mb&&(ms||!vH (.alloc p.t)))with
   | true=>exact bL.only hO
   | false=>exact trivial
  ·rw[<-lX];exact ih m' (by omega) (g+1) (D:=p.z::D) (Pd:=Pd.erase p.z) h0 he hm (hR.late hm fz1 hO) (hL.alloc hu VM FT (hPD _ hj) hb hO hB (by rw[hR.ok.sz];exact fz2))
    ((List.perm_middle.symm.trans ((List.perm_cons_erase hj).symm.append_left D)).trans hp) (by rw[bf];omega)
 split at h
 ·rename_i N4;obtain⟨hc,h⟩:=cX h;simp only[aR]at hc;obtain⟨⟨⟨c1,c2⟩,c3⟩,c4⟩:=hc;have agD:bD=uT:=Kk.1 (LM c2);have egm:=bR c3;have c4:=ci c4;cases hPd:Pd with
  | nil=>
   rw[hPd,bN]at hp;rw[agD];exact hK mk st β a w bz D m h he hR hL hp (by omega)
  | cons z Pd'=>
   have hzm:z∈Pd:=by rw[hPd];exact dc
   have N5:Pd.length=Pd'.length+1:=by rw[hPd];rfl
   obtain⟨m',rfl⟩:∃m',m=m'+1:=⟨m-1,by omega⟩
   refine⟨fun h0=>?_,fun j hj=>AL rfl j ?_⟩
   ·have:=hpr z hzm;rw[h0]at this;cases this
   ·by_cases sC:j∈ly Z
    ·exact hrz j hj sC
    ·exfalso;have h1:j∈Region.ready .any ops.toArray (dQ bD ((ly Z).erase z)):=uA (fun x hx=>(List.mem_erase_of_ne (fun e=>hPD z hzm (by rw[<-e];exact hx))).2 (hDZ x hx)) hj (fun k=>sC (List.mem_of_mem_erase k));have:=GJ c1 z (hPZ z hzm) j h1;exact sC (this▸hPZ z hzm)
 ·rename_i i r N4;obtain⟨c0,h⟩:=cX h;simp only[aR,Um]at c0;have hrd:=CT c0.1;have c0:=ci c0.2;have hrm:∀j∈Region.ready .any ops.toArray (dQ bD D),j∉ly Z->j∈Region.ready .any ops.toArray bD:=fun j hj sC=>(hrd j (uA hDZ hj sC)).1;obtain⟨m',rfl⟩:∃m',m=m'+1:=⟨m-1,by omega⟩
  have hio:∀j∈i::r,j∈Region.ready .any ops.toArray bD/\j∉ly Z:=fun j hj=>nE.1 (by rw[N4];exact hj);have gL:Region.ready .any ops.toArray (dQ bD D)=[]->False:=fun h0=>by
   have:=aaz i (hio i dc).1 (hio i dc).2;rw[h0]at this;cases this
  have hdz:∀j o,fA ops j=some o->j∉ly Z->∀p∈Z,o.dst≠some p.d:=fun j o hj sC p hp=>hdo p hp j o hj fun e=>sC (lz.2 ⟨p,hp,e.symm⟩);have LL:∀{j:Nat} {o:Oper},fA ops j=some o->j∉ly Z->lL P ops mb ms S ws mk st o (fun mk st=>I8 P ops mb ms S ws Z uT gm K g (bD.setIfInBounds j true) mk st)->
    wpOp P ops.toArray Q j (fun a' w'=>EE P ops mb ms S j w w'/\fb P .any ops.toArray Q (EE P ops mb ms S) m' ((dQ bD D).setIfInBounds j true) a' w') a w:=by
   intro j o ho sC h;refine wpOp_mono (fun a' w' hh=>⟨hh.1,?_⟩) (YU ho h hR);obtain⟨k0,k1,β',cn,mk',k2,k3,k4,k5,k6⟩:=hh;rw[<-lX];have pL:∀p∈Z,a'.tmps[p.d]? =a.tmps[p.d]? :=fun p hp=>k1 _ (hdz j o ho sC p hp);have hL':Late Z ws bz D mk' a' w':=by
    rcases k6 with⟨rfl,rfl⟩ | ⟨rfl,k6⟩
    ·exact hL.act pL
    ·exact hL.loud k6 pL
   exact ih m' (by omega) g k2 (he.trans k3) k4 k5 hL' hp (by omega)
  split at h
  ·rename_i q hq;obtain⟨o,ho,h⟩:=ba h;obtain⟨hc,h⟩:=cX h;simp only[aR,okT]at hc;obtain⟨⟨⟨⟨⟨c1,c2⟩,c3⟩,c4⟩,c5⟩,c6⟩:=hc;obtain⟨hq1,hq2⟩:=hio q (by simpa using c6);have KE:ops.toArray[q]? =some o:=by rw[iB]at ho;simpa using ho
   have lq:ow .any ops.toArray (dQ bD D):=yO (za c3) fun z hz o hoz=>by
    obtain⟨p,FT,rfl⟩:=lz.1 (hDZ z hz);obtain⟨o2,VJ,bQ⟩:=hZ p FT;rw[iB]at VJ;have:o2=o:=by
     have e:ops.toArray[p.z]? =some o2:=by simpa using VJ
     rw[hoz]at e;injection e with e;exact e.symm
    rw[<-this];exact(j8 bQ).2.2.2.2.1
   have hN:∀k∈O2 bD 0 ops,(dQ bD D).getD k true=true:=fun k hk=>lY.2 (.inl (by simpa using(eb.1 c5) k hk));have Iy:=Region.free_spec KE c2;have BK:∀j oj,ops.toArray[j]? =some oj->j≠q->(dQ bD D).getD j true=false->(∀e∈oj.after,Region.binds .any e=true->e.on≠q)->o.apart ops.toArray oj=true:=fun j oj h1 h2 h3 h4=>Iy j oj h1 h2 (by
    rw[dL]at h3⊢;exact fun k=>h3 (lY.2 (.inl k))) h4
   have hqr:=aaz q hq1 hq2;obtain⟨s,e1,fJ,h1⟩:=xi h hR;have pL:∀v,∀p∈Z,(a.put o.dst v).tmps[p.d]? =a.tmps[p.d]? :=fun v p hp=>(iT _ _ _).2.2 _ (hdz q o ho hq2 p hp);rcases h1 with⟨hw,h1⟩ | ⟨hw,h1⟩
   ·obtain⟨v,s2,F,k1,k2,k3,k4,k5,k6,k7⟩:=Sn h1 fJ.uR;refine oy KE (Region.noSelect_spec c1) (fun c a w hp=>(hQ _ _ _ hp).elim) c4 (O2 bD 0 ops) k5 (fun w1 _=>oK ho w1) m' (dQ bD D) a w lq hN BK hqr (R6 hw k7) k4 ?_;rw[<-lX];exact ih m' (by omega) g k1 (((he.trans e1).trans (Ext.uR _)).trans (k2.trans (Ext.uR _))) rfl k3.uR (hL.act (pL v)) hp (by omega)
   ·refine oy (v:=undef) (F:=fun _=>True) KE (Region.noSelect_spec c1) (fun c a w hp=>(hQ _ _ _ hp).elim) c4 (O2 bD 0 ops) (fun _ _ _ _ _ _ _=>trivial) (fun w1 _=>oK ho w1) m' (dQ bD D) a w lq hN BK hqr (Yy hw) trivial ?_;rw[<-lX];exact ih m' (by omega) g h1 ((he.trans e1).trans ((Ext.put _ _ _).trans (Ext.uR _))) rfl (fJ.put o.dst .un).uR (hL.act (pL undef)) hp (by omega)
  ·split at h
   ·obtain⟨o,ho,h⟩:=ba h;refine⟨fun h0=>(gL h0).elim,fun j hj=>?_⟩;by_cases sC:j∈ly Z
    ·exact AL rfl j (hrz j hj sC)
    ·have:j∈yN (ly Z) (Region.ready .any ops.toArray bD):=nE.2 ⟨hrm j hj sC,sC⟩;rw[N4]at this;obtain rfl:j=i:=by simpa using this
     exact LL ho sC h
   ·rename_i i' _;obtain⟨o,ho,h⟩:=ba h;obtain⟨o',KE,h⟩:=ba h;refine⟨fun h0=>(gL h0).elim,fun j hj=>?_⟩;by_cases sC:j∈ly Z
    ·exact AL rfl j (hrz j hj sC)
    ·have:j∈yN (ly Z) (Region.ready .any ops.toArray bD):=nE.2 ⟨hrm j hj sC,sC⟩;rw[N4]at this;rcases aQ.1 this with rfl | this
     ·exact LL ho sC h.1
     ·have:=aN.1 this;subst this;exact LL KE sC h.2
   ·rename_i i' i'' _;obtain⟨o,ho,h⟩:=ba h;obtain⟨o',KE,h⟩:=ba h;obtain⟨o'',agI,h⟩:=ba h;refine⟨fun h0=>(gL h0).elim,fun j hj=>?_⟩;by_cases sC:j∈ly Z
    ·exact AL rfl j (hrz j hj sC)
    ·have:j∈yN (ly Z) (Region.ready .any ops.toArray bD):=nE.2 ⟨hrm j hj sC,sC⟩;rw[N4]at this;rcases aQ.1 this with rfl | this
     ·exact LL ho sC h.1
     ·rcases aQ.1 this with rfl | this
      ·exact LL KE sC h.2.1
      ·have:=aN.1 this;subst this;exact LL agI sC h.2.2
   ·exact h.elim
end
def St.BG(st:St)(d:Nat)(t:TypeId)(zs:List SV)(b:Nat):St:=
 St.put {st with bx:=st.bx++[⟨some b,t,zs,st.ct,true,false,false⟩],ct:=st.ct+1} (some d) (.box st.bx.length 0)
theorem Ext.BG st d t zs b:Ext st (st.BG d t zs b):=by
 refine Ext.trans (t:={st with bx:=st.bx++[_],ct:=st.ct+1}) ⟨rfl,fZ _,fun _ _ _ h _=>h,fun i b' hb ho hs=>?_,fun i b hb=>?_,B0⟩ (Ext.put _ _ _)
 ·rw[iU]at hb
  grind
 ·exact⟨b,by dsimp only;rw[iU,if_neg (by have:=oG hb;omega)];exact hb,rfl,rfl,fun _ h=>h⟩
section
variable {β:Nat->Nat} {st:St} {a:Act} {w:av}
theorem Rep.BG(hR:Rep β st a w){d}{t}{zs}{b}(h1:I1 st.bx.length st.fr=true)(h2:EY st.bx.length st.bx=true)(hdt:wW st.bx st.dt=true)(lq:fL (fun _=>false) zs=true)
  (hs:a.tmps[d]? =some (.pointer (some ⟨b,0,none⟩))) (hB:Blk w b t (cm β0 zs)) (gL:∀i c,cJ st.bx i=some c->c.ok=true->β i≠b):
  Rep (yz β st.bx.length b) (st.BG d t zs b) a w:=by
 have rF:yz β st.bx.length b st.bx.length=b:=by unfold yz;rw[if_pos rfl]
 have bQ:∀{i c},cJ st.bx i=some c->yz β st.bx.length b i=β i:=fun{i c} h=>by
  unfold yz;rw[if_neg];have:=oG h;omega
 have base:Rep (yz β st.bx.length b) {st with bx:=st.bx++[⟨some b,t,zs,st.ct,true,false,false⟩],ct:=st.ct+1} a w:=by
  refine⟨oC ⟨hR.ok.sz,hR.ok.df,fun i p hl hi=>?_⟩,fun i c hc ho=>?_,fun i j bi bj g1 g2 g3 g4 uk=>?_,?_,hR.still⟩
  ·rw[hR.ok.at_ i p hl hi];congr 1;exact ga (g:=fun j=>!Nat.beq j st.bx.length) wZ _ (Av h1 i p hl)
  ·rw[iU]at hc;split at hc
   ·rename_i he;simp at hc;subst hc;subst he;refine⟨?_,fun k hk=>?_,fun hk=>(by cases hk)⟩
    ·rw[rF];rw[ft (g:=fun _=>false) (β:=yz β st.bx.length b) (β':=β0) (fun i h=>(by cases h)) _ lq];exact hB
    ·simp_all
   ·have e:=bQ hc;obtain⟨k1,k2,k3⟩:=hR.bx i c hc ho;refine⟨?_,fun k hk=>by rw[e];exact k2 k hk,fun hk=>by rw[e];exact k3 hk⟩;rw[e,<-ft (g:=fun j=>!Nat.beq j st.bx.length) (β:=β) (β':=yz β st.bx.length b) wZ _ (Aw h2 i c hc ho)];exact k1
  ·rw[iU]at g1 g2;split at g1
   ·grind
   ·split at g2
    ·grind
    ·rw[bQ g1,bQ g2];exact hR.ne i j bi bj g1 g2 g3 g4 uk
  ·have e:=pI fun i hi=>by
    obtain⟨c,hc,_⟩:=qF hdt i hi;exact bQ hc
   rw[e];exact hR.only
 refine⟨oC ⟨base.ok.sz,base.ok.df,fun i p hl hi=>?_⟩,base.bx,base.ne,base.only,base.still⟩;simp[St.BG,St.put,dh]at hl;cases hb:Nat.beq d i with
 | true=>
  rw[hb]at hl;simp at hl;subst hl;have:=bR hb;subst this;rw[hs];show _=some (Value.pointer _);rw[rF]
 | false=>rw[hb]at hl;exact base.ok.at_ i p (by simpa using hl) hi
end
def neN(b:Nat):List Nat->Prop->Prop
 | [],p=>p
 | x::r,p=>x≠b->neN b r p
theorem LO{b}:∀{l:List Nat} {p:Prop},neN b l p->(∀x∈l,x≠b)->p
 | [],_,h,_=>h
 | x::r,p,h,hb=>LO (h (hb x dc)) fun y hy=>hb y (cP _ hy)
def Uo(ws:av)(mk:List (Nat×Nat)):List LZ->List Nat->St->(St->Prop)->Prop
 | [],_,st,K=>K st
 | p::r,seen,st,K=>bif Xv st p.zs then ∀b,ws.heap.size<=b->b<st.w0.heap.size->tq mk b->neN b seen (Uo ws mk r (b::seen) (st.BG p.d p.t p.zs b) K)else False
theorem GL{ws}{mk}{bz:Nat->Nat}{a}{w}:∀{r:List LZ} {seen:List Nat} {st:St} {K:St->Prop} {β:Nat->Nat},Uo ws mk r seen st K->Rep β st a w->st.mv=false->
  (∀p∈r,a.tmps[p.d]? =some (.pointer (some ⟨bz p.z,0,none⟩))/\Blk w (bz p.z) p.t (cm β0 p.zs)/\ws.heap.size<=bz p.z/\tq mk (bz p.z)/\fL (fun _=>false) p.zs=true/\(∀x∈seen,x≠bz p.z)/\∀i c,cJ st.bx i=some c->c.ok=true->β i≠bz p.z)->
  (ly r).Nodup->(∀p∈r,∀q∈r,p.z≠q.z->bz p.z≠bz q.z)->∃cn β',K cn/\Ext st cn/\Rep β' cn a w
 | [],_,st,K,β,h,hR,_,_,_,_=>⟨st,β,h,Ext.refl _,hR⟩
 | p::r,seen,st,K,β,h,hR,hm,hp,hn,hd=>by
  obtain⟨hc,h⟩:=cX h;simp[Xv,aR]at hc;obtain⟨h1,h2,h3,h4,h5,h6,h7⟩:=hp p dc;have h:=LO (h _ h3 (by rw[<-hR.still hm];exact h2.lt) h4) h6;simp[ly,List.nodup_cons]at hn;have hpq:∀q∈r,p.z≠q.z:=fun q hq e=>hn.1 (lz.2 ⟨q,hq,e.symm⟩);have bQ:∀{i c},cJ st.bx i=some c->yz β st.bx.length (bz p.z) i=β i:=fun{i c} h=>by
   unfold yz;rw[if_neg];have:=oG h;omega
  obtain⟨cn,β',k1,k2,k3⟩:=GL h (hR.BG hc.1.1.1 hc.1.1.2 hc.2 h5 h1 h2 h7) hm (fun q hq=>by
   obtain⟨g1,g2,g3,g4,g5,g6,g7⟩:=hp q (cP _ hq);have gL:=hd p dc q (cP _ hq) (hpq q hq);refine⟨g1,g2,g3,g4,g5,fun x hx=>?_,fun i c hc ho=>?_⟩
   ·rcases aQ.1 hx with rfl | hx
    ·exact gL
    ·exact g6 x hx
   ·simp[St.BG,St.put]at hc;rw[iU]at hc;split at hc
    ·rename_i e;subst e;unfold yz;simp_all
    ·rw[bQ hc];exact g7 i c hc ho) hn.2 fun x hx y hy=>hd x (cP _ hx) y (cP _ hy)
  exact⟨cn,β',k1,(Ext.BG _ _ _ _ _).trans k2,k3⟩
def ph2(P:Program)(ops:List Oper)(mb ms:Bool)(S:Nat->Prop)(ws:av)(Z:List LZ)(uT:Array Bool)(gm nb:Nat)(mk:List (Nat×Nat))(st:St)(K:St->Prop):Prop:=
 bif Nat.beq st.bx.length nb then dP st fun st=>Uo ws mk Z [] st fun st=>CN P ops mb ms S (gm-(ly Z).length) (dQ uT (ly Z)) st K else False
def GM(P:Program)(ops:List Oper)(jn:Bool)(kp:List Nat)(mi:List MI)(mb ms:Bool)(S:Nat->Prop)(Z:List LZ)(uT:Array Bool)(gm:Nat)(st:St)(K:St->Prop):Prop:=
 bif nB st.bx then
  (bif jn then ∃J:List _->JT _,(∀mk,CL _ (J mk) fun vs w=>ph2 P ops mb ms S st.w0 Z uT gm st.bx.length mk (j6 st kp mi vs w) K)/\
   I8 P ops mb ms S st.w0 Z uT gm (fun mk s=>dP s fun s=>I6 st kp mi (J mk) s) ops.length (Array.replicate ops.length false) [] (St.uR (st.ml (YS Z)))
  else I8 P ops mb ms S st.w0 Z uT gm (fun mk s=>ph2 P ops mb ms S st.w0 Z uT gm st.bx.length mk s K) ops.length (Array.replicate ops.length false) [] (St.uR (st.ml (YS Z))))else False
def LP(ops:List Oper)(Zi:List Nat):Nat->Array Bool->Array Bool
 | 0,l=>l
 | f+1,l=>match yN Zi (Region.ready .any ops.toArray l)with
  | []=>l
  | i::_=>LP ops Zi f (l.setIfInBounds i true)
def Qd:List Bool->Nat
 | []=>0
 | b::r=>bif b then Qd r else Qd r+1
theorem GN:∀{l:List iQ} {i:Nat},i<l.length->∃b,cJ l i=some b
 | b::r,0,_=>⟨b,rfl⟩
 | b::r,i+1,h=>GN (l:=r) (by simpa using h)
section
variable {P:Program} {ops:List Oper} {mb ms:Bool} {S:Nat->Prop} {β:Nat->Nat} {a:Act} {w:av} {uT:Array Bool} {gm:Nat} {jn:Bool} {kp:List Nat} {mi:List MI} {st:St} {K:St->Prop}
theorem LQ{Q}(hQ:∀c a w,¬Q (.panic c) a w)(hzo:Xy ops (jt P 0 ops)=true)(h:GM P ops jn kp mi mb ms S (jt P 0 ops) uT gm st K)(hR:Rep β st a w)(ot:st.mv=false)
  (hK:∀β' cn a' w',K cn->Ext st cn->Rep β' cn a' w'->Q .normal a' w'):fb P .any ops.toArray Q (EE P ops mb ms S) ops.length (Array.replicate ops.length false) a w:=by
 have hnd:(ly (jt P 0 ops)).Nodup:=xn;have hZ:∀p∈jt P 0 ops,∃o,fA ops p.z=some o/\rR P p.z o=some p:=fun p hp=>by
  obtain⟨j,o,h1,h2,h3⟩:=xj hp
  grind
 generalize jt P 0 ops=Z at*
 obtain⟨hbd,h⟩:=cX h;rw[<-hR.still ot]at h;have two:∀mk cn β' a' w' bz D m,ph2 P ops mb ms S w Z uT gm st.bx.length mk cn K->Ext st cn->Rep β' cn a' w'->Late Z w bz D mk a' w'->D.Perm (ly Z)->m+D.length=gm->fb P .any ops.toArray Q (EE P ops mb ms S) m (dQ uT D) a' w':=by
  intro mk cn β' a' w' bz D m h he Tp hL hp hg;obtain⟨eH,h⟩:=cX h;have eH:=bR eH;obtain⟨s1,h1,e1,fJ,Pm,_,_,_,hl1⟩:=dq h Tp;have hx:=he.trans e1;have hold:∀i c,cJ s1.bx i=some c->c.ok=true->β' i<w.heap.size:=fun i c hc ho=>by
   obtain⟨b,hb⟩:=GN (l:=st.bx) (i:=i) (by have:=oG hc;omega);obtain⟨c',k1,k2,k3,k4⟩:=hx.ps i b hb;rw[hc]at k1;injection k1 with k1;subst k1;have B6:b.ok=true:=by rw[<-k3];exact ho
   obtain⟨k,hk⟩:=eO.1 (ta hbd i b hb B6);rw[(fJ.bx i c hc ho).at_ k (k4 k hk),<-(hR.bx i b hb B6).at_ k hk];exact(hR.bx i b hb B6).blk.lt
  have hD:=fun p FT=>hp.mem_iff.2 (lz.2 ⟨p,FT,rfl⟩);obtain⟨s2,β2,k1,k2,k3⟩:=GL (bz:=bz) h1 fJ Pm (fun p FT=>by
   obtain⟨g1,g2,g3,g4⟩:=hL.at_ p FT (hD p FT);obtain⟨o,_,ho⟩:=hZ p FT;exact⟨g1,g2,g3,g4,(j8 ho).2.2.2.2.2.2,by simp,fun i c hc ho=>by grind⟩) hnd fun p FT q hqZ=>hL.ne _ (hD p FT) _ (hD q hqZ)
  have:=hp.length_eq;rw[CS hp,show m=gm-(ly Z).length by omega];exact pW hQ k1 k3 fun β3 s3 a3 w3 m1 m2 m3=>hK β3 s3 a3 w3 m1 ((hx.trans k2).trans m2) m3
 have Pn:Late Z w (fun _=>0) [] [] a w:=⟨fun p _ h=>(by cases h),fun _ h=>(by cases h),fun _ h=>(by simp),fun _ h=>(by cases h),aV _⟩
 have hR0:=Rep.uR (hR.frame (fr':=wS _ st.fr) fun i p hl=>by
  cases he:(YS Z).elem i with
  | true=>rw[(jg (l:=st.fr)).1 he]at hl;cases hl
  | false=>rw[(jg (l:=st.fr)).2 he]at hl;exact⟨p,hl,rfl⟩)
 have he0:Ext st (St.uR (st.ml (YS Z))):=(Ext.ml _ _).trans (Ext.uR _);rcases kK h with⟨_,h⟩ | ⟨_,h⟩
 ·obtain⟨J,hJ,h⟩:=h;refine LN hQ hZ hzo hnd (s0:=st) (fun mk s β' a' w' bz D m hk he Tp hL hp hg=>?_) ops.length ops.length (D:=[]) (Pd:=ly Z) h he0 rfl hR0 Pn (List.Perm.refl _) rfl;obtain⟨s3,h3,e3,VN,Ru,_⟩:=dq hk Tp;obtain⟨vs,k1,k2⟩:=pV h3 VN Ru (.inl (he.trans e3)) (hJ mk);exact two mk _ _ a' w' bz D m k1 Ext.NM k2 hL hp hg
 ·exact LN hQ hZ hzo hnd (s0:=st) (fun mk s β' a' w' bz D m hk he Tp hL hp hg=>two mk s β' a' w' bz D m hk he Tp hL hp hg) ops.length ops.length (D:=[]) (Pd:=ly Z) h he0 rfl hR0 Pn (List.Perm.refl _) rfl
end
end Go.Kt.V
