import Derived.Test.YtbkjcdocjfknfaaGreatDoorQp2
set_option linter.unusedSectionVars false
namespace Go.Kt.V
open Go renaming World->ay,Value->az
open Go Go.RowKit Go.Kt
set_option linter.unusedSimpArgs false
set_option linter.unusedVariables false
def qB(l:List az)(i:Nat):az:=match l,i with
 | [],_=>undef
 | v::_,0=>v
 | _::r,i+1=>qB r i
def zp:List Nat->List az->List (Nat×az)
 | i::r,v::s=>(i,v)::zp r s
 | _,_=>[]
def Tg:List (Nat×SV)->List Nat
 | []=>[]
 | p::r=>p.1::Tg r
def OB:List (Nat×SV)->List SV
 | []=>[]
 | p::r=>p.2::OB r
theorem VE β:∀l,zp (Tg l) (cu β (OB l))=Bm β l
 | []=>rfl
 | p::r=>by
  have:=VE β r;simp[cu]at this;simp[Tg,OB,cu,zp,Bm,this]
def acb(P:Program)(t:TypeId):Bool:=match P.underlying t with
 | some (.pointer _)=>true
 | _=>false
def acd:Operand->Bool
 | .const _=>true
 | _=>false
def ptS:SV->Bool
 | .ptr _=>true
 | .ad _=>true
 | _=>false
def jb(P:Program):Op->Bool
 | .move _=>true
 | .assign _=>true
 | .pick _ _ _=>true
 | .binOp _ t x y _=>!(acb P t)||acd x||acd y
 | .unOp _ _ _=>true
 | .extract _ _=>true
 | .build _ _=>true
 | .makeFunc _ _ _=>true
 | .makeInterface _ _=>true
 | .nilCheck _=>true
 | .fieldAddr _ _ _=>true
 | .field _ _ _=>true
 | .indexAddr _ _ _=>true
 | .load _ _=>true
 | .index _ _ _=>true
 | .slice _ _ _ _ _=>true
 | .convert s d _=>(match P.underlying s,P.underlying d with
  | some (.int _),some (.int _)=>true
  | some .string,some .string=>true
  | some (.slice e),some .string=>(match P.underlying e with
   | some (.int .u8)=>true
   | _=>false)
  | _,_=>false)
 | .call c=>(match c.callee with
  | .builtin .len=>(match c.argTypes.toList with
   | [t]=>(match P.underlying t with
    | some (.slice _)=>true
    | some .string=>true
    | _=>false)
   | _=>false)
  | .builtin .cap=>true
  | .builtin .min=>true
  | .builtin .max=>true
  | _=>false)
 | _=>false
def xD:Op->Bool
 | .store _ _ _=>true
 | _=>false
def ace(P:Program)(X:XT)(st:St)(o:Oper)(b:Builtin)(ts:Array TypeId)(vs:List SV)(K:St->Prop):Prop:=match b with
 | .append=>rf P X st o.dst (CX P o.type) vs (fun l=>Builtin.append_ ts o.type l.toArray) K
 | .copy=>rf P X st o.dst (CX P o.type) vs (fun l=>Builtin.copy_ ts o.type l.toArray) K
 | .delete=>rf P X st o.dst (CX P o.type) vs (fun l=>Builtin.delete_ ts o.type l.toArray) K
 | .clear=>rf P X st o.dst (CX P o.type) vs (fun l=>Builtin.clear_ ts o.type l.toArray) K
 | .len=>rf P X st o.dst (CX P o.type) vs (fun l=>Builtin.len_ ts o.type l.toArray) K
 | .unsafeSliceData=>rf P X st o.dst (CX P o.type) vs (fun l=>Builtin.unsafeSliceData_ ts o.type l.toArray) K
 | .unsafeString=>rf P X st o.dst (CX P o.type) vs (fun l=>Builtin.unsafeString_ ts o.type l.toArray) K
 | _=>False
def L7(f:FuncId)(args:Array az):Sem az:=do
 match <-callFunc f args with
 | .value v=>pure v
 | _=>stuck "extV"
theorem OC{P}{f}{args}{w w1}{v}(h:(L7 f args).run P w=.ok v w1):(callFunc f args).run P w=.ok (.value v) w1:=by
 unfold L7 at h;rw[Sem.run_bind]at h;cases hc:(callFunc f args).run P w with
 | ok n w2=>
  rw[hc,Result.andThen_ok]at h;cases n<;>first | (simp at h;done) | (simp at h;obtain⟨rfl,rfl⟩:=h;rfl) | (simp at h)
 | _=>rw[hc]at h;simp at h
theorem Xz{P}{a:Act}{w w1}{v}{dst}{x}{f}{first captured}{xs:List Operand}{ats}{t'}{p}{af}{g}{args}
  (hx:a.eval x=.func (.func f) first.toArray captured.toArray)
  (ha:first++xs.map a.eval++captured=args) (hc:(callFunc f args.toArray).run P w=.ok (.value v) w1):
  (execOp a.eval ⟨dst,.call ⟨.value x,xs.toArray,ats⟩,t',p,af,g⟩).run P w=.ok (.value v) w1:=by
 subst ha;simp only[execOp,resolve,hx,Deferred.ofValue,invoke]
 grind
def XA(P:Program)(X:XT)(st:St)(o:Oper)(fv:SV)(vs:List SV)(K:St->Prop):Prop:=match fv with
 | .fn g fs cs=>bif AR fs&&AR cs&&Ov P g then eN (st.esc (mg fs++vs++mg cs)) fun st=>Ow P X st o.dst (aca P g) g (mg fs++vs++mg cs) [] K
  else bif AR fs&&AR cs then eN (st.esc (mg fs++vs++mg cs)) fun st=>rf P X st o.dst (aca P g) (mg fs++vs++mg cs) (fun l=>L7 g l.toArray) K else False
 | .raw v=>eN (st.esc vs) fun st=>∃(g:FuncId) (fst cap:List az),v.v=.func (.func g) fst.toArray cap.toArray/\(∀args w,(callFunc g args).run P w=.ok (.enter g args) w)/\Oy P X st o.dst (CX P o.type) g fst vs cap K
 | _=>False
abbrev YT:=Option Nat->Prop->Prop
def acf(P:Program)(X:XT)(Y:YT)(st:St)(o:Oper)(p s:SV)(vs:List SV)(K:St->Prop):Prop:=match p with
 | .box i off=>cj (cV st.bx i) fun b=>bif b.ok&&Nat.ble (off+vs.length) b.cells.length then Y b.blk (K ((st.sE i b (spl b.cells off vs)).put o.dst .un))else False
 | .ad p=>eN (st.esc vs) fun st=>∃(bk off:Nat) (cells:List az) (ety:TypeId),p=(⟨bk,off,none⟩)/\Blk st.w0 bk ety cells/\off+vs.length<=cells.length/\
  bif gZ st.Ix vs&&pF st.bx then neB bk st.bx (∀w1,Only [bk] st.w0 w1->Blk w1 bk ety (cD cells off (cu st.bl vs))->X st.w0 w1 (K (St.put {st with w0:=w1} o.dst .un)))else False
 | _=>False
def acg(P:Program)(st:St)(o:Oper)(fv:SV)(vs:List SV)(K:St->Prop):Prop:=match fv with
 | .fn g fs cs=>bif AR fs&&AR cs&&Ov P g then eN (st.esc (mg fs++vs++mg cs)) fun st=>bif gZ st.Ix (mg fs++vs)&&gZ st.Ix (mg cs)then
  K (St.put {st with df:=(g,cu st.bl (mg fs++vs),cu st.bl (mg cs))::st.df} o.dst .un)else False else False
 | _=>False
def loud(P:Program)(X:XT)(Y:YT)(st:St)(o:Oper)(K:St->Prop):Prop:=match o.op with
 | .binOp op t x y _=>cj (st.ev x) fun a=>cj (st.ev y) fun b=>bif ptS a&&ptS b then eN (st.esc [a,b]) fun st=>rf P X st o.dst [o.type] [a,b] (fun vs=>Go.binOp op t (qB vs 0) (qB vs 1)) K else False
 | .alloc t=>cj (zc P t) fun zs=>bif chk st zs then K (st.DZ o.dst t zs)else False
 | .box t x=>cj (st.ev x) fun s=>cj (yK s) fun zs=>bif chk st zs then K (st.DZ o.dst t zs)else False
 | .store t x y=>cj (st.ev x) fun p=>cj (st.ev y) fun s=>cj (yK s) fun vs=>bif sz P t vs.length then acf P X Y st o p s vs K else False
 | .call c=>cj (st.Lp c.args.toList) fun vs=>(match c.callee with
  | .value f=>cj (st.ev f) fun fv=>XA P X st o fv vs K
  | .builtin b=>eN (st.esc vs) fun st=>ace P X st o b c.argTypes vs K
  | _=>False)
 | .defer c=>cj (st.Lp c.args.toList) fun vs=>(match c.callee with
  | .value f=>cj (st.ev f) fun fv=>acg P st o fv vs K
  | _=>False)
 | .buildSlice t n ps=>cj (st.Sq ps.toList) fun l=>eN (st.esc (OB l)) fun st=>rf P X st o.dst [t] (OB l) (fun vs=>Instr.buildSlice t n (zp (Tg l) vs).toArray) K
 | .makeSlice t x y=>cj (st.ev x) fun a=>cj (st.ev y) fun b=>eN st fun st=>rf P X st o.dst [t] [a,b] (fun vs=>Instr.makeSlice t (qB vs 0) (qB vs 1)) K
 | .makeMap t none=>eN st fun st=>rf P X st o.dst [t] [] (fun _=>Instr.makeMap t none) K
 | .makeMap t (some x)=>cj (st.ev x) fun a=>eN st fun st=>rf P X st o.dst [t] [a] (fun vs=>Instr.makeMap t (some (qB vs 0))) K
 | .lookup t x i ok=>cj (st.ev x) fun a=>cj (st.ev i) fun b=>eN st fun st=>rf P X st o.dst (CX P o.type) [a,b] (fun vs=>Instr.lookup t (qB vs 0) (qB vs 1) ok) K
 | .mapUpdate t x y z=>cj (st.ev x) fun a=>cj (st.ev y) fun b=>cj (st.ev z) fun c=>eN (st.esc [a,b,c]) fun st=>Te P X st o.dst [a,b,c] (fun vs=>Instr.mapUpdate t (qB vs 0) (qB vs 1) (qB vs 2)) K
 | .insert t x y z=>cj (st.ev x) fun a=>cj (st.ev y) fun b=>cj (st.ev z) fun c=>eN (st.esc [a,b,c]) fun st=>Te P X st o.dst [a,b,c] (fun vs=>Instr.mapUpdate t (qB vs 0) (qB vs 1) (qB vs 2)) K
 | .convert s d x=>cj (st.ev x) fun a=>eN (st.esc [a]) fun st=>rf P X st o.dst [d] [a] (fun vs=>convert s d (qB vs 0)) K
 | .range t x=>cj (st.ev x) fun a=>eN st fun st=>∃p,OA P X st o.dst [a] (fun vs=>Instr.range t (qB vs 0)) (.ptr p) K
 | .next x false=>cj (st.ev x) fun a=>eN st fun st=>OA P X st o.dst [a] (fun vs=>Instr.next (qB vs 0) false o.type) (.tup (mA [.bl false])) K∨
  S1 [.raw,.raw] fun rs=>OA P X st o.dst [a] (fun vs=>Instr.next (qB vs 0) false o.type) (.tup (mA (.bl true::rs))) K
 | .entry x=>cj (st.ev x) fun a=>eN st fun st=>S1 [.raw,.raw] fun rs=>OA P X st o.dst [a] (fun vs=>Instr.entry (qB vs 0)) (.tup (mA rs)) K
 | _=>False
section
variable {P:Program} {β:Nat->Nat} {st:St} {a:Act} {w w1:ay} {X:XT} {Y:YT} {E:ay->ay->Prop} {K:St->Prop} {Q:Exit->Act->ay->Prop}
abbrev VF(E:ay->ay->Prop)(st:St)(K:St->Prop)(w:ay)(a':Act)(w':ay):Prop:=∃β' cH,K cH/\Ext st cH/\E w w'/\Rep β' cH a' w'
theorem kE(hX:∀w0 w1 p,X w0 w1 p->p/\E w0 w1){o}{D9}{args l}{run}(h:eN (st.esc l) fun st=>rf P X st o.dst D9 args run K)(hR:Rep β st a w)
  (hx:∀v w1,(run (cu β args)).run P w=.ok v w1->(execOp a.eval o).run P w=.ok (.value v) w1):o.wp P a w (VF E st K w) Q:=by
 obtain⟨s1,h1,e1,gY,hm,_⟩:=dR h (hR.esc l);obtain⟨v,w',hr,cH,k1,k2,k3,k4⟩:=Jm hX h1 hm gY;exact wT v (hx v w' hr) rfl ⟨β,cH,k1,(Ext.esc st l).trans (e1.trans k2),k3,k4⟩
theorem uQ(hX:∀w0 w1 p,X w0 w1 p->p/\E w0 w1){o}{D9}{args}{run}(h:eN st fun st=>rf P X st o.dst D9 args run K)(hR:Rep β st a w)
  (hx:∀v w1,(run (cu β args)).run P w=.ok v w1->(execOp a.eval o).run P w=.ok (.value v) w1):o.wp P a w (VF E st K w) Q:=by
 obtain⟨s1,h1,e1,gY,hm,_⟩:=dR h hR;obtain⟨v,w',hr,cH,k1,k2,k3,k4⟩:=Jm hX h1 hm gY;exact wT v (hx v w' hr) rfl ⟨β,cH,k1,e1.trans k2,k3,k4⟩
theorem E8(hX:∀w0 w1 p,X w0 w1 p->p/\E w0 w1){o}{args l}{run}(h:eN (st.esc l) fun st=>Te P X st o.dst args run K)(hR:Rep β st a w)
  (hx:∀w1,(run (cu β args)).run P w=.ok () w1->(execOp a.eval o).run P w=.ok .skip w1):o.wp P a w (VF E st K w) Q:=by
 obtain⟨s1,h1,e1,gY,hm,_⟩:=dR h (hR.esc l);obtain⟨w',hr,cH,k1,k2,k3,k4⟩:=Tf hX h1 hm gY;exact N8 (hx w' hr) rfl ⟨β,cH,k1,(Ext.esc st l).trans (e1.trans k2),k3,k4⟩
theorem Jn(hE:∀w w1,Only [] w w1->E w w1){d}{t}{zs}(hc:chk st zs=true)(h:K (st.DZ d t zs))(hR:Rep β st a w){b}(hb:w.heap.size<=b)(hO:Only [] w w1)(hB:Blk w1 b t (cu β zs)):
  VF E st K w (a.put d (.pointer (some ⟨b,0,none⟩))) w1:=by
 simp[chk]at hc;exact⟨_,_,h,Ext.DZ _ _ _ _,hE _ _ hO,hR.DZ hc.1.1.1 hc.1.1.2 hc.1.2 hb hO hB hc.2⟩
theorem OD(hX:∀w0 w1 p,X w0 w1 p->p/\E w0 w1){o}{D9}{f}{args}{oc}{s1}(h:Ow P X s1 o.dst D9 f args oc K)(hm:s1.mv=false)(e1:Ext st s1)(hR:Rep β s1 a w)
  (hx:(execOp a.eval o).run P w=.ok (.enter f (cu β args++oc).toArray) w):o.wp P a w (VF E st K w) Q:=by
 refine Jd hx ((Ox hX h hm hR).mono ?_);rintro e w' ⟨v,rfl,cH,k1,k2,k3,k4⟩;exact⟨v,_,rfl,rfl,β,cH,k1,e1.trans k2,k3,k4⟩
theorem L8(hX:∀w0 w1 p,X w0 w1 p->p/\E w0 w1){o}{D9}{f}{fst}{args}{oc}{s1}(h:Oy P X s1 o.dst D9 f fst args oc K)(hm:s1.mv=false)(e1:Ext st s1)(hR:Rep β s1 a w)
  (hx:(execOp a.eval o).run P w=.ok (.enter f (vU (vU fst (cu β args)) oc).toArray) w):o.wp P a w (VF E st K w) Q:=by
 refine Jd hx ((Oz hX h hm hR).mono ?_);rintro e w' ⟨v,rfl,cH,k1,k2,k3,k4⟩;exact⟨v,_,rfl,rfl,β,cH,k1,e1.trans k2,k3,k4⟩
theorem OE{s}(h:ptS s=true) β:∃q,val β s=.pointer q:=by
 cases s<;>first | (cases h;done) | exact⟨_,rfl⟩
theorem Th{a:Act}{dst}{op}{t ty}{x y}{t'}{p}{af}{g}{u v r}(hu:∃q,u=.pointer q)(hv:∃q,v=.pointer q)(hx:a.eval x=u)(hy:a.eval y=v){w w1}
  (hr:(Go.binOp op t u v).run P w=.ok r w1):(execOp a.eval ⟨dst,.binOp op t x y ty,t',p,af,g⟩).run P w=.ok (.value r) w1:=by
 obtain⟨q,rfl⟩:=hu;obtain⟨q',rfl⟩:=hv;have hg:eqGuard op t x y (.pointer q) (.pointer q')=pure ():=by cases op<;>rfl
 simp[execOp,hx,hy,hg,hr]
theorem Ti{a:Act}{dst}{x}{fn}{first captured:List az}{xs:List Operand}{ats}{t'}{p}{af}{g}{args}{w}
  (hx:a.eval x=.func fn first.toArray captured.toArray) (ha:first++xs.map a.eval=args):
  (execOp a.eval ⟨dst,.defer ⟨.value x,xs.toArray,ats⟩,t',p,af,g⟩).run P w=.ok (.defer {target:=.fn fn captured.toArray,args:=args.toArray}) w:=by
 subst ha;simp only[execOp,resolve,hx,Deferred.ofValue];simp
theorem OG{a:Act}{dst}{t}{x}{t'}{p}{af}{g}{u v}{w w1}(hx:a.eval x=u)(hr:(Instr.range t u).run P w=.ok v w1):
  (execOp a.eval ⟨dst,.range t x,t',p,af,g⟩).run P w=.ok (.value v) w1:=by
 simp[execOp,hx,hr]
theorem Jo{a:Act}{dst}{x}{t'}{p}{af}{g}{u v}{w w1}(hx:a.eval x=u)(hr:(Instr.next u false t').run P w=.ok v w1):
  (execOp a.eval ⟨dst,.next x false,t',p,af,g⟩).run P w=.ok (.value v) w1:=by
 simp[execOp,hx,hr]
theorem OH{a:Act}{dst}{x}{t'}{p}{af}{g}{u v}{w w1}(hx:a.eval x=u)(hr:(Instr.entry u).run P w=.ok v w1):
  (execOp a.eval ⟨dst,.entry x,t',p,af,g⟩).run P w=.ok (.value v) w1:=by
 simp[execOp,hx,hr]
theorem kF β l m:cu β (l++m)=cu β l++cu β m:=by simp[cu]
theorem CY(hX:∀w0 w1 p,X w0 w1 p->p/\E w0 w1){o:Oper}(hE:∀w w1,Only [] w w1->E w w1)(hS:xD o.op=true->∀bk k w w1 p,Y bk p->(∀j,bk=some j->k=j)->Only [k] w w1->p/\E w w1)(h:loud P X Y st o K)(hR:Rep β st a w):o.wp P a w (VF E st K w) Q:=by
 obtain⟨dst,op,t',p,af,g⟩:=o;unfold loud at h;dsimp only at h;split at h
 ·obtain⟨x,hx,h⟩:=bB h;obtain⟨y,hy,h⟩:=bB h;obtain⟨hp,h⟩:=dw h;simp only[aQ]at hp;exact kE hX h hR fun v w1 hr=>Th (OE hp.1 β) (OE hp.2 β) (hR.ev hx) (hR.ev hy) hr
 ·obtain⟨zs,hz,h⟩:=bB h;obtain⟨hc,h⟩:=dw h;obtain⟨z,z1,z2⟩:=VD hz w;exact EP z1 (z2 β) (fun _=>rfl) fun b w1 hb hO hB=>Jn hE hc h hR hb hO hB
 ·obtain⟨s,hs,h⟩:=bB h;obtain⟨zs,hz,h⟩:=bB h;obtain⟨hc,h⟩:=dw h;exact Xh (by rw[hR.ev hs];exact(vP hz β).1) (fun _=>rfl) fun b w1 hb hO hB=>Jn hE hc h hR hb hO hB
 ·obtain⟨q,hx,h⟩:=bB h;obtain⟨s,hy,h⟩:=bB h;obtain⟨vs,hv,h⟩:=bB h;obtain⟨hsz,h⟩:=dw h;obtain⟨c1,c2⟩:=vP hv β;have hE':=hS rfl;cases q with
  | box i off=>
   obtain⟨b,hb,h⟩:=bB h;obtain⟨h1,h⟩:=dw h;simp only[aQ]at h1;have h2:=cP h1.2;refine EO (oT hsz w) (hR.ev hx) (by rw[hR.ev hy];exact c1) (fk β vs) c2 (hR.bx i b hb h1.1).blk (by rw[fk,fk];exact h2) rfl rfl fun w1 hO hB=>?_;rw[<-EZ]at hB;obtain⟨h,he⟩:=hE' _ (β i) _ w1 _ h (fun j hj=>(hR.bx i b hb h1.1).at_ j hj) hO;exact⟨β,_,h,(Ext.sE hb).trans (Ext.put _ _ _),he,(hR.sE hb h1.1 hO hB).put dst .un⟩
  | ad ad=>
   simp only[acf]at h;obtain⟨s1,h1,e1,gY,hm,_⟩:=dR h (hR.esc vs);obtain⟨bk,off,cells,ety,rfl,hB,IE,h2⟩:=h1;obtain⟨h3,h2⟩:=dw h2;simp only[aQ]at h3;obtain⟨h2,gz⟩:=HG h2;have hw:=gY.still hm;rw[<-hw,gY.sD h3.1]at h2;rw[<-hw]at hB;refine EO (oT hsz w) (hR.ev hx) (by rw[hR.ev hy];exact c1) (fk β vs) c2 hB (by rw[fk];exact IE) rfl rfl fun w1 hO vJ=>?_;obtain⟨h4,h5⟩:=hX _ _ _ (h2 w1 hO vJ);refine⟨β,_,h4,((Ext.esc st vs).trans e1).trans (Ext.trans (t:={s1 with w0:=w1}) ⟨rfl,aY _,fun _ _ _ h _=>h,fun i b' kc ho hs=>⟨b',kc,ho,rfl,rfl,rfl,fun _ h=>h⟩,Og,Et⟩ (Ext.put _ _ _)),h5,?_⟩;refine Rep.put (v:=.un) (Rep.next (ct':=s1.ct) gY hm h3.2 fun i b' kc ho=>⟨b',kc,ho,rfl,?_⟩) _;have eD:=gY.MZ h3.2 kc ho;have:=gz i b' kc ho;rw[eD]at this;exact hO.blk (gY.bx i b' kc ho).blk (by simpa using this)
  | _=>exact h.elim
 ·rename_i c;obtain⟨callee,⟨xs⟩,ts⟩:=c;obtain⟨vs,hv,h⟩:=bB h;have xw:=hR.Lp hv;dsimp only at h;cases callee with
  | value f=>
   obtain⟨fv,hf,h⟩:=bB h;cases fv with
   | fn g' fs cs=>
    have ef:AR fs=true->AR cs=true->a.eval f=.func (.func g') (cu β (mg fs)).toArray (cu β (mg cs)).toArray:=fun k1 k2=>by
     rw[hR.ev hf];show Value.func (.func g') (pB β fs).toArray (pB β cs).toArray=_;rw[lV β k1,lV β k2]
    have h':=h;unfold XA at h';rcases mh h' with⟨h0,h1⟩ | ⟨_,h1⟩
    ·simp only[aQ]at h0;obtain⟨s1,h1,e1,gY,hm,_⟩:=dR h1 (hR.esc _);refine OD hX h1 hm ((Ext.esc _ _).trans e1) gY ?_;exact EJ (ef h0.1.1 h0.1.2) (fF h0.2) (by rw[xw,kF,kF,bR])
    ·obtain⟨h0,h1⟩:=dw h1;simp only[aQ]at h0;exact kE hX h1 hR fun v w1 hr=>Xz (ef h0.1 h0.2) (by rw[xw,kF,kF]) (OC hr)
   | raw v=>
    simp only[XA]at h;obtain⟨s1,⟨g',fst,cap,h1,h2,h3⟩,e1,gY,hm,_⟩:=dR h (hR.esc vs);refine L8 hX h3 hm ((Ext.esc _ _).trans e1) gY ?_;have ef:a.eval f=.func (.func g') fst.toArray cap.toArray:=(hR.ev hf).trans h1;exact EJ ef h2 (by rw[xw];rfl)
   | _=>exact h.elim
  | builtin b=>
   unfold ace at h;cases b with
   | append=>exact kE hX h hR fun v w1 hr=>vM xw hr
   | copy=>exact kE hX h hR fun v w1 hr=>yE xw hr
   | delete=>exact kE hX h hR fun v w1 hr=>vN xw hr
   | clear=>exact kE hX h hR fun v w1 hr=>xA xw hr
   | len=>exact kE hX h hR fun v w1 hr=>AN xw hr
   | unsafeSliceData=>exact kE hX h hR fun v w1 hr=>(by rw[<-xw]at hr;exact lj (fun _=>rfl) hr)
   | unsafeString=>exact kE hX h hR fun v w1 hr=>(by rw[<-xw]at hr;exact lj (fun _=>rfl) hr)
   | _=>
    obtain⟨s1,h1,_⟩:=dR h (hR.esc vs);exact h1.elim
  | _=>exact h.elim
 ·rename_i c;obtain⟨callee,⟨xs⟩,ts⟩:=c;obtain⟨vs,hv,h⟩:=bB h;have xw:=hR.Lp hv;dsimp only at h;cases callee with
  | value f=>
   obtain⟨fv,hf,h⟩:=bB h;cases fv with
   | fn g' fs cs=>
    unfold acg at h;obtain⟨h0,h1⟩:=dw h;simp only[aQ]at h0;have ef:a.eval f=.func (.func g') (cu β (mg fs)).toArray (cu β (mg cs)).toArray:=by
     rw[hR.ev hf];show Value.func (.func g') (pB β fs).toArray (pB β cs).toArray=_;rw[lV β h0.1.1,lV β h0.1.2]
    obtain⟨s1,h1,e1,gY,hm,_⟩:=dR h1 (hR.esc _);obtain⟨hc,h1⟩:=dw h1;simp only[aQ]at hc;rw[gY.sD hc.1,gY.sD hc.2]at h1;have hr:=Ti (P:=P) (dst:=dst) (ats:=ts) (t':=t') (p:=p) (af:=af) (g:=g) (w:=w) ef (by rw[xw,<-kF]);unfold Oper.wp;rw[hr,Oper.upon_defer];have Rk:Rep β {s1 with df:=(g',cu β (mg fs++vs),cu β (mg cs))::s1.df} {a with defers:={target:=.fn (.func g') (cu β (mg cs)).toArray,args:=(cu β (mg fs++vs)).toArray}::a.defers} w:=by
     obtain⟨us,hu⟩:=gY.fr;exact⟨⟨us,by rw[hu];rfl⟩,gY.bx,gY.ne,gY.only,gY.still⟩
    exact⟨β,_,h1,((Ext.esc _ _).trans e1).trans (Ext.trans (t:={s1 with df:=(g',cu β (mg fs++vs),cu β (mg cs))::s1.df}) ⟨rfl,aY _,fun _ _ _ h _=>h,fun i b' kc ho hs=>⟨b',kc,ho,rfl,rfl,rfl,fun _ h=>h⟩,Og,⟨[_],rfl⟩⟩ (Ext.put _ _ _)),hE _ _ (Only.refl _ _),Rk.put dst .un⟩
   | _=>exact h.elim
  | _=>exact h.elim
 ·rename_i t n ps;obtain⟨l,hl,h1⟩:=bB h;clear h;obtain⟨ps⟩:=ps;refine kE hX h1 hR fun v w1 hr=>?_;rw[VE]at hr;exact Cx (hR.Sq hl) hr
 ·obtain⟨u,hx,h⟩:=bB h;obtain⟨v,hy,h⟩:=bB h;exact uQ hX h hR fun _ w1 hr=>EH (hR.ev hx) (hR.ev hy) hr
 ·exact uQ hX h hR fun _ w1 hr=>LS hr
 ·obtain⟨u,hx,h⟩:=bB h;exact uQ hX h hR fun _ w1 hr=>Hl (hR.ev hx) hr
 ·obtain⟨u,hx,h⟩:=bB h;obtain⟨v,hy,h⟩:=bB h;exact uQ hX h hR fun _ w1 hr=>N4 (hR.ev hx) (hR.ev hy) hr
 ·obtain⟨u,hx,h⟩:=bB h;obtain⟨v,hy,h⟩:=bB h;obtain⟨z,hz,h⟩:=bB h;exact E8 hX h hR fun w1 hr=>EI (hR.ev hx) (hR.ev hy) (hR.ev hz) hr
 ·obtain⟨u,hx,h⟩:=bB h;obtain⟨v,hy,h⟩:=bB h;obtain⟨z,hz,h⟩:=bB h;exact E8 hX h hR fun w1 hr=>N5 (hR.ev hx) (hR.ev hy) (hR.ev hz) hr
 ·obtain⟨u,hx,h⟩:=bB h;exact kE hX h hR fun _ w1 hr=>LU (hR.ev hx) hr
 ·obtain⟨u,hx,h⟩:=bB h;obtain⟨s1,⟨q,h1⟩,e1,gY,hm,_⟩:=dR h hR;obtain⟨v,w',hr,cH,k1,k2,k3,k4⟩:=ye hX h1 hm gY;exact wT v (OG (hR.ev hx) hr) rfl ⟨β,cH,k1,e1.trans k2,k3,k4⟩
 ·obtain⟨u,hx,h⟩:=bB h;obtain⟨s1,h1,e1,gY,hm,_⟩:=dR h hR;rcases h1 with h1 | h1
  ·obtain⟨v,w',hr,cH,k1,k2,k3,k4⟩:=ye hX h1 hm gY;exact wT v (Jo (hR.ev hx) hr) rfl ⟨β,cH,k1,e1.trans k2,k3,k4⟩
  ·obtain⟨_,h1,_⟩:=rD h1;obtain⟨v,w',hr,cH,k1,k2,k3,k4⟩:=ye hX h1 hm gY;exact wT v (Jo (hR.ev hx) hr) rfl ⟨β,cH,k1,e1.trans k2,k3,k4⟩
 ·obtain⟨u,hx,h⟩:=bB h;obtain⟨s1,h1,e1,gY,hm,_⟩:=dR h hR;obtain⟨_,h1,_⟩:=rD h1;obtain⟨v,w',hr,cH,k1,k2,k3,k4⟩:=ye hX h1 hm gY;exact wT v (OH (hR.ev hx) hr) rfl ⟨β,cH,k1,e1.trans k2,k3,k4⟩
 ·exact h.elim
end
def nd(P:Program)(st:St)(o:Op):Bool:=match o with
 | .load _ x=>(match st.ev x with
  | some (.ad _)=>true
  | _=>false)
 | .convert s _ _=>(match P.underlying s with
  | some (.slice _)=>true
  | _=>false)
 | _=>false
def XC(b:Bool)(st:St)(K:St->Prop):Prop:=bif b&&st.mv then eN st K else K st
theorem vV{b}{st}{K}(h:XC b st K){β}{a}{w}(hR:Rep β st a w):∃cH,K cH/\Ext st cH/\Rep β cH a w/\cH.fr=st.fr/\cH.n=st.n:=by
 rcases mh h with⟨_,h⟩ | ⟨_,h⟩
 ·obtain⟨s,h1,h2,h3,h4,h5,h6,_⟩:=dR h hR;exact⟨s,h1,h2,h3,h5,h6⟩
 ·exact⟨st,h,Ext.refl _,hR,rfl,rfl⟩
def CZ(P:Program):List Oper->Bool
 | []=>true
 | o::r=>jb P o.op&&CZ P r
def HH:List Oper->Bool
 | []=>false
 | o::r=>mem o.op||HH r
def X0:XT:=fun _ _ p=>p
def Y0:YT:=fun _ p=>p
def agT(P:Program)(t:TypeId):Bool:=match P.underlying t with
 | some d=>lq d
 | none=>false
def XD(P:Program)(o:Oper)(v:SV)(K:SV->Prop):Prop:=match o.op,v with
 | .extract _ _,.raw x=>(match Oh P 12 o.type with
  | []=>K (.raw x)
  | [.raw]=>K (.raw x)
  | ls=>S1 ls fun vs=>x.v=val β0 (L3 (agT P o.type) vs)/\K (L3 (agT P o.type) vs))
 | _,v=>K v
theorem Tj{P}{o}{v}{K:SV->Prop}(h:XD P o v K):∃u,K u/\∀β,val β u=val β v:=by
 unfold XD at h;split at h
 ·split at h
  ·exact⟨_,h,fun _=>rfl⟩
  ·exact⟨_,h,fun _=>rfl⟩
  ·obtain⟨vs,⟨e,h⟩,_,hc⟩:=rD h;refine⟨_,h,fun β=>Eq.trans ?_ e.symm⟩;exact(iz (g:=fun _=>false) (fun i h=>(by cases h)) _ (Jl _ _ (hc _))).symm
 ·exact⟨_,h,fun _=>rfl⟩
def Jp(P:Program)(st:St)(o:Oper)(K:St->Prop):Prop:=
 bif jb P o.op then XC (nd P st o.op) st fun st=>Xr P [] st o.op fun v=>XD P o v fun v=>K (st.put o.dst v)else loud P X0 Y0 st o K
def xE(P:Program)(ops:List Oper):Nat->List Oper->St->(St->Prop)->Prop
 | 0,_,_,_=>False
 | _+1,[],st,K=>K st
 | f+1,o::rest,st,K=>match o.guard with
  | none=>Jp P st o fun st=>xE P ops f rest st K
  | some (j,want)=>(match Xx st ops j with
   | some (_,.un)=>xE P ops f rest (st.put o.dst .un) K
   | some (_,.bl b)=>bif b==want then Jp P st o fun st=>xE P ops f rest st K else xE P ops f rest (st.put o.dst .un) K
   | some (d,.bt t)=>bif CZ P ((o::rest).take (xC ops j (o::rest)+1))
    then XC (HH ((o::rest).take (xC ops j (o::rest)+1))) st fun st=>vR P ops f [] ((o::rest).take (xC ops j (o::rest)+1)) st fun st=>xE P ops f ((o::rest).drop (xC ops j (o::rest)+1)) st K
    else((t=true->xE P ops f (o::rest) (st.put (some d) (.bl true)) K)/\(t=false->xE P ops f (o::rest) (st.put (some d) (.bl false)) K))
   | _=>False)
section
variable {P:Program} {ops:List Oper} {Q:Exit->Act->ay->Prop}
theorem OI{st}{o}{rest}{K}{β}{a}{w}(h:Jp P st o K)(hR:Rep β st a w)(hw:Region.wanted o (yielded ops.toArray a.tmps)=true)
  (hK:∀β' cH a' w',K cH->Ext st cH->Rep β' cH a' w'->wpList P ops.toArray Q rest a' w'):wpList P ops.toArray Q (o::rest) a w:=by
 rcases mh h with⟨_,h⟩ | ⟨_,h⟩
 ·obtain⟨s,h1,h2,h3,h4,h5⟩:=vV h hR;obtain⟨v,hv,hy⟩:=HC h1;obtain⟨u,hv,ev⟩:=Tj hv;exact Cv _ hw (hy trivial β a w h3 _ _ _ _ _ w fun _=>rfl) rfl (hK β _ _ w hv (h2.trans (Ext.put _ _ _)) (ev β▸h3.put o.dst u))
 ·refine Xg hw (Oper.wp_mono ?_ (CY (E:=fun _ _=>True) (fun _ _ _ h=>⟨h,trivial⟩) (fun _ _ _=>trivial) (fun _ _ _ _ _ _ h _ _=>⟨h,trivial⟩) h hR));rintro a' w' ⟨β',cH,k1,k2,_,k4⟩;exact hK β' cH a' w' k1 k2 k4
theorem sM:∀{f:Nat} {l:List Oper} {st:St} {K:St->Prop},xE P ops f l st K->∀{β:Nat->Nat} {a:Act} {w:ay},Rep β st a w->
  (∀β' cH a' w',K cH->Ext st cH->Rep β' cH a' w'->Q .normal a' w')->wpList P ops.toArray Q l a w
 | 0,_,_,_,h,_,_,_,_,_=>h.elim
 | _+1,[],st,K,h,β,a,w,hR,hK=>hK β st a w h (Ext.refl _) hR
 | f+1,o::rest,st,K,h,β,a,w,hR,hK=>by
  have no:xE P ops f rest _ K->Region.wanted o _=false->wpList P ops.toArray Q _ a w:=fun h hw=>
   Vu hw rfl (sM h (hR.put o.dst .un) fun β' cH a' w' k1 k2 k3=>hK β' cH a' w' k1 ((Ext.put _ _ _).trans k2) k3)
  have Sv:(Jp P st o fun st=>xE P ops f rest st K)->Region.wanted o _=true->wpList P ops.toArray Q _ a w:=fun h hw=>
   OI h hR hw fun β' cH a' w' k1 k2 k3=>sM k1 k3 fun β2 ul a2 w2 m1 m2 m3=>hK β2 ul a2 w2 m1 (k2.trans m2) m3
  unfold xE at h;split at h
  ·rename_i hg;exact Sv h (wn hg)
  ·rename_i j want hg;split at h
   ·rename_i d ht;exact no h (vQ hR hg ht)
   ·rename_i d b ht;have hw:=pD hR hg ht (b:=b) rfl;rcases mh h with⟨e,h⟩ | ⟨e,h⟩
    ·exact Sv h (hw.trans e)
    ·exact no h (hw.trans e)
   ·rename_i d t ht;obtain⟨oj,NG,WC,Su⟩:=yN ht;rcases mh h with⟨_,h⟩ | ⟨_,h⟩
    ·generalize xC ops j _+1=m at h;obtain⟨s,h1,h2,h3,h4,h5⟩:=vV h hR;obtain⟨s2,k1,k2,k3,k4⟩:=qz h1;obtain⟨a',g1,g2⟩:=k4 trivial β a w h3;have:=CN (Q:=Q) (rest:=(o::rest).drop m) g1 (sM k1 g2 fun β2 ul a2 w2 m1 m2 m3=>hK β2 ul a2 w2 m1 ((h2.trans k2).trans m2) m3);rwa[dv]at this
    ·cases t with
     | true=>exact sM (h.1 rfl) (hR.set Su rfl) fun β' cH a' w' k1 k2 k3=>hK β' cH a' w' k1 ((Ext.put _ _ _).trans k2) k3
     | false=>exact sM (h.2 rfl) (hR.set Su rfl) fun β' cH a' w' k1 k2 k3=>hK β' cH a' w' k1 ((Ext.put _ _ _).trans k2) k3
   ·exact h.elim
end
def JT:List Lf->Type
 | []=>ay->Prop
 | l::r=>l.T->JT r
def E9:(ls:List Lf)->JT ls->(List SV->ay->Prop)->Prop
 | [],J,K=>∀w,J w->K [] w
 | l::r,J,K=>∀x,E9 r (J x) fun vs w=>K (l.sv x::vs) w
def unI(k:IntKind)(s:SV):Option Int:=match pC s with
 | some (k',n)=>bif decide (k'=k)then some n else none
 | none=>none
def unP(bl:Nat->Nat)(s:SV):Option (Option Addr):=match s with
 | .box i o=>some (some ⟨bl i,o,none⟩)
 | s=>uv s
def unM(s:SV):Option (Option Nat):=match s with
 | .map m=>some m
 | _=>none
def unR(bl:Nat->Nat)(s:SV):Option OV:=match s with
 | .raw v=>some v
 | .fn f fs cs=>some ⟨.func (.func f) (pB bl fs).toArray (pB bl cs).toArray,rfl⟩
 | _=>none
def un(bl:Nat->Nat):(l:Lf)->SV->Option l.T
 | .int k=>unI k
 | .bool=>yJ
 | .str=>tY
 | .ptr=>unP bl
 | .sl=>Jf
 | .map=>unM
 | .raw=>unR bl
theorem ach{bl}{l}{s}{x}(h:un bl l s=some x) β:val β (l.sv x)=val bl s:=by
 cases l with
 | int k=>
  have h:unI k s=some x:=h;unfold unI at h;split at h
  ·rename_i k' n ho;obtain⟨e,rfl⟩:=CL h;have e:=aP e;subst e;rw[di ho];rfl
  ·cases h
 | bool=>rw[lr h];rfl
 | str=>rw[hY h];rfl
 | ptr=>
  have h:unP bl s=some x:=h;unfold unP at h;split at h
  ·injection h with h;subst h;rfl
  ·rw[S2 h];rfl
 | sl=>rw[jD h];rfl
 | map=>
  have h:unM s=some x:=h;unfold unM at h;split at h
  ·injection h with h;subst h;rfl
  ·cases h
 | raw=>
  have h:unR bl s=some x:=h;unfold unR at h;split at h
  ·injection h with h;subst h;rfl
  ·injection h with h;subst h;rfl
  ·cases h
def apJ:(ls:List Lf)->(Nat->Nat)->JT ls->List SV->ay->Prop
 | [],_,J,[],w=>J w
 | l::r,bl,J,s::ss,w=>(match un bl l s with
  | some x=>apJ r bl (J x) ss w
  | none=>False)
 | _,_,_,_,_=>False
theorem OJ{bl}{w}:∀{ls:List Lf} {J:JT ls} {ss:List SV} {K:List SV->ay->Prop},apJ ls bl J ss w->E9 ls J K->∃vs,K vs w/\vs.length=ls.length/\(∀β,cu β vs=cu bl ss)/\∀g,gZ g vs=true
 | [],J,[],K,h,k=>⟨[],k w h,rfl,fun _=>rfl,fun _=>rfl⟩
 | l::r,J,s::ss,K,h,k=>by
  unfold apJ at h;split at h
  ·rename_i x hx;obtain⟨vs,h1,h2,h3,h4⟩:=OJ h (k x);refine⟨_,h1,by simp[h2],fun β=>?_,fun g=>by simp[gZ,Lf.cln,h4 g,mO]⟩;have:=h3 β;simp only[cu,bF]at this⊢;rw[this,ach hx]
  ·exact h.elim
 | [],_,_::_,_,h,_=>h.elim
 | _::_,_,[],_,h,_=>h.elim
inductive MI where
 | s (slot:Nat) (l:Lf)
 | a (slot:Nat) (ls:List Lf)
 | b (slot:Nat) (ls:List Lf)
def mLs:List MI->List Lf
 | []=>[]
 | .s _ l::r=>l::mLs r
 | .a _ ls::r=>ls++mLs r
 | .b _ ls::r=>ls++mLs r
def bxi(st:St)(i:Nat):Option Nat:=match st.get i with
 | some (.box j _)=>some j
 | _=>none
def OK:List SV->List SV
 | []=>[]
 | .box j o::r=>.box j o::OK r
 | _::r=>OK r
def y0(st:St):List MI->List SV
 | []=>[]
 | .b i _::r=>(match bxi st i with
  | some j=>(match cV st.bx j with
   | some b=>OK b.cells++y0 st r
   | none=>y0 st r)
  | none=>y0 st r)
 | .s i _::r=>(match st.get i with
  | some (.box j o)=>.box j o::y0 st r
  | _=>y0 st r)
 | _::r=>y0 st r
def pG(st s:St):List MI->Option (List SV)
 | []=>some []
 | .s i _::r=>(match s.get i,pG st s r with
  | some v,some l=>some (v::l)
  | _,_=>none)
 | .a i ls::r=>(match s.get i,pG st s r with
  | some (.agg l),some m=>bif AR l&&Nat.beq (mg l).length ls.length then some (mg l++m)else none
  | _,_=>none)
 | .b i ls::r=>(match bxi st i with
  | some j=>(match cV s.bx j,pG st s r with
   | some b,some m=>bif Nat.beq b.cells.length ls.length then some (b.cells++m)else none
   | _,_=>none)
  | none=>none)
def HI(ct:Nat):List MI->List SV->List (Nat×Nat×SV)
 | .s i _::r,v::vs=>(i,ct,v)::HI ct r vs
 | .a i ls::r,vs=>(i,ct,.agg (mA (vs.take ls.length)))::HI ct r (vs.drop ls.length)
 | .b _ ls::r,vs=>HI ct r (vs.drop ls.length)
 | _,_=>[]
def HJ(st:St):List MI->List SV->List jN->List jN
 | .s _ _::r,_::vs,bx=>HJ st r vs bx
 | .a _ ls::r,vs,bx=>HJ st r (vs.drop ls.length) bx
 | .b i ls::r,vs,bx=>(match bxi st i with
  | some j=>(match cV bx j with
   | some b=>HJ st r (vs.drop ls.length) (L2 bx j {b with cells:=vs.take ls.length,stp:=st.ct})
   | none=>HJ st r (vs.drop ls.length) bx)
  | none=>HJ st r (vs.drop ls.length) bx)
 | _,_,bx=>bx
def VG:List MI->List Nat
 | []=>[]
 | .s i _::r=>i::VG r
 | .a i _::r=>i::VG r
 | .b _ _::r=>VG r
def OL(st:St):List MI->List Nat
 | []=>[]
 | .b i _::r=>(match bxi st i with
  | some j=>j::OL st r
  | none=>OL st r)
 | _::r=>OL st r
def XE(fr:List (Nat×Nat×SV)):List Nat->List (Nat×Nat×SV)
 | []=>[]
 | i::r=>match dK fr i with
  | some p=>(i,p)::XE fr r
  | none=>XE fr r
def lw(st:St)(kp:List Nat)(ms:List MI)(vs:List SV)(w:ay):St:=
 {n:=st.n,fr:=HI st.ct ms vs++XE st.fr kp,bx:=HJ st ms vs st.bx,w0:=w,mv:=false,dt:=[],ct:=st.ct+1,df:=st.df}
def Tl(st s:St)(sl:List Nat):List Nat->Bool
 | []=>true
 | i::r=>(match dK st.fr i with
  | some (k,v)=>(match dK s.fr i with
   | some (k',_)=>Nat.beq k k'&&Nat.blt k st.ct&&!sl.elem i&&cln (E4 st.bx) v
   | none=>false)
  | none=>true)&&Tl st s sl r
def L9(st:St)(Hf:List Nat):Nat->List jN->List jN->Bool
 | _,[],_=>true
 | i,b::r,c::q=>(!b.ok||(b.blk.isSome&&(Hf.elem i||(Nat.blt c.stp st.ct&&gZ (E4 st.bx) b.cells))))&&L9 st Hf (i+1) r q
 | _,_::_,[]=>false
def Mb(st:St)(kp:List Nat) ms (J:JT (mLs ms)) (s:St):Prop:=
 bif Tl st s (VG ms) kp&&L9 st (OL st ms) 0 st.bx s.bx&&Nat.beq s.df.length st.df.length then
  cj (pG st s ms) fun vs=>bif gZ (E4 s.bx) vs then apJ _ (G8 s.bx) J vs s.w0 else False
 else False
theorem sO:∀l m i,dK (l++m) i=match dK l i with
  | some p=>some p
  | none=>dK m i
 | [],_,_=>rfl
 | (k,p)::r,m,i=>by
  simp[ck,dK];cases Nat.beq k i with
  | true=>rfl
  | false=>exact sO r m i
theorem yf{fr}:∀{kp:List Nat} {i:Nat} {p:Nat×SV},dK (XE fr kp) i=some p->i∈kp/\dK fr i=some p
 | j::r,i,p,h=>by
  unfold XE at h;split at h
  ·rename_i q hq;simp[dK]at h;cases hb:Nat.beq j i with
   | true=>
    rw[hb]at h;simp at h;subst h;have:=bW hb;subst this;exact⟨by simp,hq⟩
   | false=>
    rw[hb]at h;obtain⟨h1,h2⟩:=yf (by simpa using h);exact⟨by simp[h1],h2⟩
  ·obtain⟨h1,h2⟩:=yf h;exact⟨by simp[h1],h2⟩
theorem Fa{fr}{p}:∀{kp:List Nat} {i:Nat},i∈kp->dK fr i=some p->dK (XE fr kp) i=some p
 | j::r,i,hi,h=>by
  unfold XE;cases hb:Nat.beq j i with
  | true=>
   have:=bW hb;subst this;rw[h];simp[dK,Nat.beq_refl,nI]
  | false=>
   have Au:i∈r:=by
    rcases aR.1 hi with e | e
    ·subst e;simp at hb
    ·exact e
   have ih:=Fa (p:=p) Au h;split
   ·simp[dK,hb,tH];exact ih
   ·exact ih
theorem sP{ct}:∀{ms:List MI} {vs:List SV} {i:Nat},(VG ms).elem i=false->dK (HI ct ms vs) i=none
 | [],vs,i,_=>rfl
 | .s j l::r,[],i,_=>rfl
 | .s j l::r,v::vs,i,h=>by
  simp only[VG,kY]at h;split at h
  ·cases h
  ·rename_i gz;simp[HI,dK];have:Nat.beq j i=false:=by
    cases hb:Nat.beq j i with
    | false=>rfl
    | true=>have:=bW hb;subst this;simp at gz
   rw[this,tH];exact sP h
 | .a j ls::r,vs,i,h=>by
  simp only[VG,kY]at h;split at h
  ·cases h
  ·rename_i gz;simp[HI,dK];have:Nat.beq j i=false:=by
    cases hb:Nat.beq j i with
    | false=>rfl
    | true=>have:=bW hb;subst this;simp at gz
   rw[this,tH];exact sP h
 | .b j ls::r,vs,i,h=>by
  simp[HI];exact sP h
theorem sQ{ct}:∀{ms:List MI} {vs:List SV} {i:Nat} {p:Nat×SV},dK (HI ct ms vs) i=some p->p.1=ct
 | [],vs,i,p,h=>by cases vs<;>cases h
 | .s j l::r,[],i,p,h=>by cases h
 | .s j l::r,v::vs,i,p,h=>by
  simp[HI,dK]at h;cases hb:Nat.beq j i with
  | true=>rw[hb]at h;simp at h;subst h;rfl
  | false=>rw[hb]at h;exact sQ (by simpa using h)
 | .a j ls::r,vs,i,p,h=>by
  simp[HI,dK]at h;cases hb:Nat.beq j i with
  | true=>rw[hb]at h;simp at h;subst h;rfl
  | false=>rw[hb]at h;exact sQ (by simpa using h)
 | .b j ls::r,vs,i,p,h=>by
  simp[HI]at h;exact sQ h
theorem iA{st}:∀ms vs bx i b,cV bx i=some b->∃b',cV (HJ st ms vs bx) i=some b'/\b'.ty=b.ty/\b'.ok=b.ok/\b'.blk=b.blk/\((OL st ms).elem i=false->b'=b)/\(b'=b∨b'.stp=st.ct)
 | [],vs,bx,i,b,h=>⟨b,by cases vs<;>exact h,rfl,rfl,rfl,fun _=>rfl,.inl rfl⟩
 | .s j l::r,[],bx,i,b,h=>⟨b,h,rfl,rfl,rfl,fun _=>rfl,.inl rfl⟩
 | .s j l::r,v::vs,bx,i,b,h=>iA r vs bx i b h
 | .a j ls::r,vs,bx,i,b,h=>iA r _ bx i b h
 | .b s ls::r,vs,bx,i,b,h=>by
  simp only[HJ,OL];cases hj:bxi st s with
  | none=>exact iA r _ bx i b h
  | some j=>
   dsimp only;cases hc:cV bx j with
   | none=>
    obtain⟨b',h1,h2,h3,h4,h5,h6⟩:=iA (st:=st) r _ bx i b h;refine⟨b',h1,h2,h3,h4,fun he=>h5 ?_,h6⟩;simp only[kY]at he;split at he
    ·cases he
    ·exact he
   | some c=>
    by_cases rk:i=j
    ·subst rk;rw[hc]at h;injection h with h;subst h;obtain⟨b',h1,h2,h3,h4,h5,h6⟩:=iA (st:=st) r _ _ i _ (by rw[iU hc,if_pos rfl]);refine⟨b',h1,h2,h3,h4,fun he=>?_,?_⟩
     ·simp at he
     ·rcases h6 with rfl | h6
      ·exact .inr rfl
      ·exact .inr h6
    ·obtain⟨b',h1,h2,h3,h4,h5,h6⟩:=iA (st:=st) r _ (L2 bx j {c with cells:=vs.take ls.length,stp:=st.ct}) i b (by rw[iU hc,if_neg rk];exact h);refine⟨b',h1,h2,h3,h4,fun he=>h5 ?_,h6⟩;simp only[kY]at he;split at he
     ·cases he
     ·exact he
theorem nL{st}:∀ms vs bx i,cV bx i=none->cV (HJ st ms vs bx) i=none
 | [],vs,bx,i,h=>by cases vs<;>exact h
 | .s j l::r,[],bx,i,h=>h
 | .s j l::r,v::vs,bx,i,h=>nL r vs bx i h
 | .a j ls::r,vs,bx,i,h=>nL r _ bx i h
 | .b s ls::r,vs,bx,i,h=>by
  simp[HJ];cases hj:bxi st s with
  | none=>exact nL r _ bx i h
  | some j=>
   dsimp only;cases hc:cV bx j with
   | none=>exact nL r _ bx i h
   | some c=>
    refine nL r _ _ i ?_;rw[iU hc,if_neg]
    ·exact h
    ·rintro rfl;rw[h]at hc;cases hc
theorem Ext.Q1{st}{kp}{ms}{vs}{w}:Ext st (lw st kp ms vs w):=by
 refine⟨rfl,iy _,fun i k v hl bX=>?_,fun i b' hb ho hs=>?_,fun i b hb=>?_,Et⟩
 ·simp[lw]at hl;rw[sO]at hl;split at hl
  ·rename_i p hp;have:=sQ hp;simp at hl;subst hl;omega
  ·exact(yf hl).2
 ·simp[lw]at hb;cases hn:cV st.bx i with
  | none=>rw[nL _ _ _ _ hn]at hb;cases hb
  | some b=>
   obtain⟨b2,h1,h2,h3,h4,h5,h6⟩:=iA (st:=st) ms vs st.bx i b hn;rw[h1]at hb;injection hb with hb;subst hb;rcases h6 with rfl | h6
   ·exact⟨b2,rfl,ho,rfl,rfl,rfl,fun _ h=>h⟩
   ·omega
 ·obtain⟨b2,h1,h2,h3,h4,_⟩:=iA (st:=st) ms vs st.bx i b hb;exact⟨b2,h1,h2,h3,fun k hk=>by rw[h4];exact hk⟩
def OM(st:St)(kp:List Nat)(ms:List MI)(s:St):Prop:=Ext st s∨∃vs w,Ext (lw st kp ms vs w) s
section
variable {st s:St} {kp:List Nat} {ms:List MI} {β:Nat->Nat} {a:Act} {w:ay}
theorem OM.n(h:OM st kp ms s):s.n=st.n:=by
 rcases h with h | ⟨vs,w,h⟩
 ·exact h.n
 ·exact h.n
theorem OM.df(h:OM st kp ms s):∃l,s.df=l++st.df:=by
 rcases h with h | ⟨vs,w,h⟩
 ·exact h.df
 ·exact h.df
theorem OM.slot(h:OM st kp ms s){i k}{v v'}(hi:i∈kp)(h1:dK st.fr i=some (k,v))(h2:dK s.fr i=some (k,v'))(hk:k<st.ct)(hs:(VG ms).elem i=false):v'=v:=by
 rcases h with h | ⟨vs,w,h⟩
 ·have:=h.fr i k v' h2 hk;rw[h1]at this;simpa using this.symm
 ·have:=h.fr i k v' h2 (Nat.lt_succ_of_lt hk);simp[lw]at this;rw[sO,sP hs]at this;rw[Fa hi h1]at this;simpa using this.symm
theorem OM.ps(h:OM st kp ms s){i}{b}(hb:cV st.bx i=some b):∃c,cV s.bx i=some c/\c.ty=b.ty/\c.ok=b.ok/\∀k,b.blk=some k->c.blk=some k:=by
 rcases h with h | ⟨vs,w,h⟩
 ·exact h.ps i b hb
 ·obtain⟨b2,h1,h2,h3,h4,_⟩:=iA (st:=st) ms vs st.bx i b hb;obtain⟨c,k1,k2,k3,k4⟩:=h.ps i b2 h1;exact⟨c,k1,k2.trans h2,k3.trans h3,fun k hk=>k4 k (by rw[h4];exact hk)⟩
theorem OM.cells(h:OM st kp ms s){i}{b c}(hb:cV st.bx i=some b)(hc:cV s.bx i=some c)(ho:b.ok=true)(hl:(OL st ms).elem i=false)(hs:c.stp<st.ct):c.cells=b.cells:=by
 rcases h with h | ⟨vs,w,h⟩
 ·obtain⟨c',k1,k2,k3,k4⟩:=h.ps i b hb;rw[hc]at k1;injection k1 with k1;subst k1;obtain⟨b3,m1,m2,m3,_⟩:=h.bx i c hc (k3.trans ho) hs;rw[hb]at m1;injection m1 with m1;rw[m1,m3]
 ·obtain⟨b2,h1,h2,h3,h4,h5,_⟩:=iA (st:=st) ms vs st.bx i b hb;obtain⟨c',k1,k2,k3,k4⟩:=h.ps i b2 h1;rw[hc]at k1;injection k1 with k1;subst k1;obtain⟨b3,m1,m2,m3,m4,m5,m6⟩:=h.bx i c hc (k3.trans (h3.trans ho)) (Nat.lt_succ_of_lt hs);rw[show cV (lw st kp ms vs w).bx i=cV (HJ st ms vs st.bx) i from rfl,h1]at m1;injection m1 with m1;subst m1;rw[<-m3,h5 hl]
theorem Jq{sl}:∀{kp:List Nat},Tl st s sl kp=true->∀i∈kp,∀k v,dK st.fr i=some (k,v)->∃v',dK s.fr i=some (k,v')/\k<st.ct/\sl.elem i=false/\cln (E4 st.bx) v=true
 | j::r,h,i,hi,k,v,hl=>by
  simp only[Tl,aQ]at h;rcases aR.1 hi with rfl | hi
  ·have h1:=h.1;rw[hl]at h1;dsimp only at h1;split at h1
   ·rename_i k' v' hs;simp only[aQ,dy]at h1;have e:=bW h1.1.1.1;subst e;exact⟨v',hs,cP h1.1.1.2,h1.1.2,h1.2⟩
   ·cases h1
  ·exact Jq h.2 i hi k v hl
theorem C0{Hf}:∀{l m:List jN} {n:Nat},L9 st Hf n l m=true->∀i b,cV l i=some b->b.ok=true->b.blk.isSome=true/\(Hf.elem (n+i)=true∨∃c,cV m i=some c/\c.stp<st.ct/\gZ (E4 st.bx) b.cells=true)
 | b::r,[],n,h,_,_,_,_=>by simp[L9]at h
 | b::r,c::q,n,h,0,b',hb,ho=>by
  simp only[L9,aQ,cp,dy]at h;simp[cV,ba]at hb;subst hb;rcases h.1 with h1 | ⟨h1,h2⟩
  ·rw[ho]at h1;cases h1
  ·refine⟨h1,?_⟩;rcases h2 with h2 | h2
   ·exact .inl h2
   ·exact .inr ⟨c,rfl,cP h2.1,h2.2⟩
 | b::r,c::q,n,h,i+1,b',hb,ho=>by
  simp[L9,aQ]at h;have:=C0 h.2 i b' hb ho;rwa[show n+1+i=n+(i+1) by omega]at this
theorem Rep.at(hR:Rep β s a w){i}{v}(h:s.get i=some v):i<s.n/\a.tmps[i]? =some (V.val β v):=by
 unfold St.get at h;cases hb:Nat.blt i s.n with
 | false=>rw[hb]at h;cases h
 | true=>
  rw[hb,nI]at h;cases hl:dK s.fr i with
  | none=>rw[hl]at h;cases h
  | some p=>
   rw[hl]at h;simp at h;subst h;exact⟨cP hb,hR.ok.at_ i p hl (cP hb)⟩
theorem rI{g}:∀{l m:List SV},gZ g (l++m)=true->gZ g l=true/\gZ g m=true
 | [],m,h=>⟨rfl,h⟩
 | s::r,m,h=>by
  simp[ck,gZ,aQ]at h⊢;obtain⟨h1,h2⟩:=rI h.2;exact⟨⟨h.1,h1⟩,h2⟩
theorem qC{γ b}{vs l m}{n}(hv:V.cu γ vs=V.cu b l++V.cu b m)(hl:l.length=n):V.cu γ (vs.take n)=V.cu b l/\V.cu γ (vs.drop n)=V.cu b m:=by
 have h1:(V.cu γ vs).take n=V.cu γ (vs.take n):=by simp[V.cu,mP]
 have h2:(V.cu γ vs).drop n=V.cu γ (vs.drop n):=by simp[V.cu,qt]
 have hn:(V.cu b l).length=n:=by rw[fk,hl]
 rw[<-h1,<-h2,hv,<-hn];exact⟨List.take_left,List.drop_left⟩
theorem C1(hR:Rep β s a w){ct}{γ}:∀{ms:List MI} {ss vs:List SV},pG st s ms=some ss->gZ (E4 s.bx) ss=true->V.cu γ vs=V.cu (G8 s.bx) ss->∀i p,dK (HI ct ms vs) i=some p->a.tmps[i]? =some (V.val γ p.2)
 | [],ss,vs,_,_,_,i,p,h=>by cases vs<;>cases h
 | .s j l::r,ss,[],_,_,_,i,p,h=>by cases h
 | .s j l::r,ss,v::vs,ha,hc,hv,i,p,h=>by
  simp[pG]at ha;split at ha
  ·rename_i v0 l0 h1 h2;simp at ha;subst ha;simp[gZ,aQ]at hc;simp[V.cu,bF,rr]at hv;simp[HI,dK]at h;cases hb:Nat.beq j i with
   | true=>
    rw[hb]at h;simp at h;subst h;have:=bW hb;subst this;rw[(hR.at h1).2,hv.1,hR.aei hc.1]
   | false=>
    rw[hb]at h;exact C1 hR h2 hc.2 hv.2 i p (by simpa using h)
  ·cases ha
 | .a j ls::r,ss,vs,ha,hc,hv,i,p,h=>by
  simp[pG]at ha;split at ha
  ·rename_i l0 m0 h1 h2;obtain⟨h3,rfl⟩:=CL ha;simp only[aQ]at h3;obtain⟨c1,c2⟩:=rI hc;rw[kF]at hv;obtain⟨e1,e2⟩:=qC hv (bW h3.2);simp[HI,dK]at h;cases hb:Nat.beq j i with
   | true=>
    rw[hb]at h;simp at h;subst h;have:=bW hb;subst this;rw[(hR.at h1).2];show some (Value.agg (pB β l0).toArray)=some (Value.agg (pB γ _).toArray);rw[qx,e1,lV β h3.1,hR.sD c1]
   | false=>
    rw[hb]at h;exact C1 hR h2 c2 e2 i p (by simpa using h)
  ·cases ha
 | .b j ls::r,ss,vs,ha,hc,hv,i,p,h=>by
  simp[pG]at ha;split at ha
  ·split at ha
   ·rename_i b m0 h1 h2;obtain⟨h3,rfl⟩:=CL ha;obtain⟨c1,c2⟩:=rI hc;rw[kF]at hv;obtain⟨e1,e2⟩:=qC hv (bW h3);exact C1 hR h2 c2 e2 i p h
   ·cases ha
  ·cases ha
theorem y9(hR:Rep β s a w){γ:Nat->Nat}(He:∀i b,cV st.bx i=some b->∃c,cV s.bx i=some c/\c.ty=b.ty/\c.ok=b.ok)(hγ:∀i b,cV st.bx i=some b->b.ok=true->γ i=β i):∀{ms:List MI} {ss vs:List SV} {bx:List jN},pG st s ms=some ss->gZ (E4 s.bx) ss=true->V.cu γ vs=V.cu (G8 s.bx) ss->
  (∀j b',cV bx j=some b'->∃b,cV st.bx j=some b/\b'.ty=b.ty/\b'.ok=b.ok)->(∀j b',cV bx j=some b'->b'.ok=true->Blk w (γ j) b'.ty (V.cu γ b'.cells)∨(OL st ms).elem j=true)->
  ∀j b',cV (HJ st ms vs bx) j=some b'->b'.ok=true->Blk w (γ j) b'.ty (V.cu γ b'.cells)
 | [],ss,vs,bx,_,_,_,_,hi,j,b',hb,ho=>by
  have:HJ st [] vs bx=bx:=by cases vs<;>rfl
  rw[this]at hb;rcases hi j b' hb ho with h | h
  ·exact h
  ·cases h
 | .s k l::r,ss,[],bx,ha,hc,hv,h0,hi,j,b',hb,ho=>by
  simp only[pG]at ha;split at ha
  ·simp only[ba]at ha;subst ha;simp[V.cu]at hv
  ·cases ha
 | .s k l::r,ss,v::vs,bx,ha,hc,hv,h0,hi,j,b',hb,ho=>by
  simp only[pG]at ha;split at ha
  ·rename_i v0 l0 h1 h2;simp only[ba]at ha;subst ha;simp only[gZ,aQ]at hc;simp only[V.cu,bF,rr]at hv;exact y9 hR He hγ h2 hc.2 hv.2 h0 hi j b' hb ho
  ·cases ha
 | .a k ls::r,ss,vs,bx,ha,hc,hv,h0,hi,j,b',hb,ho=>by
  simp only[pG]at ha;split at ha
  ·rename_i l0 m0 h1 h2;obtain⟨h3,rfl⟩:=CL ha;simp only[aQ]at h3;have fu:=bW h3.2;obtain⟨c1,c2⟩:=rI hc;rw[kF]at hv;obtain⟨e1,e2⟩:=qC hv fu;exact y9 hR He hγ h2 c2 e2 h0 hi j b' hb ho
  ·cases ha
 | .b k ls::r,ss,vs,bx,ha,hc,hv,h0,hi,j,b',hb,ho=>by
  simp[pG]at ha;split at ha
  ·rename_i q hq;split at ha
   ·rename_i c m0 h1 h2;obtain⟨h3,rfl⟩:=CL ha;have fu:=bW h3;obtain⟨c1,c2⟩:=rI hc;rw[kF]at hv;obtain⟨e1,e2⟩:=qC hv fu;simp only[HJ,hq]at hb;cases hn:cV bx q with
    | none=>
     rw[hn]at hb;refine y9 hR He hγ h2 c2 e2 h0 (fun i b LD ho5=>?_) j b' hb ho;rcases hi i b LD ho5 with h | h
     ·exact .inl h
     ·simp only[OL,hq,kY]at h;split at h
      ·rename_i e;have e:=by simpa using e
       rw[e,hn]at LD;cases LD
      ·exact .inr h
    | some b=>
     rw[hn]at hb;obtain⟨bs,g1,g2,g3⟩:=h0 q b hn;refine y9 hR He hγ h2 c2 e2 (fun i b2 xx=>?_) (fun i b2 xx Zp=>?_) j b' hb ho
     ·rw[iU hn]at xx;split at xx
      ·rename_i e;subst e;injection xx with xx;subst xx;exact⟨bs,g1,g2,g3⟩
      ·exact h0 i b2 xx
     ·rw[iU hn]at xx;split at xx
      ·rename_i e;subst e;injection xx with xx;subst xx;left;have EB:bs.ok=true:=by rw[<-g3];exact Zp
       obtain⟨c',k1,k2,k3⟩:=He i bs g1;rw[h1]at k1;injection k1 with k1;subst k1;have hB:=(hR.bx i c h1 (k3.trans EB)).blk;rw[hγ i bs g1 EB,g2,<-k2,e1,hR.sD c1];exact hB
      ·rename_i gz;rcases hi i b2 xx Zp with h | h
       ·exact .inl h
       ·simp only[OL,hq,kY]at h;split at h
        ·rename_i e;exact absurd (by simpa using e) gz
        ·exact .inr h
   ·cases ha
  ·cases ha
theorem rJ{J}(h:Mb st kp ms J s)(hR:Rep β s a w)(hm:s.mv=false)(IH:OM st kp ms s){K}(hK:E9 _ J K):
  ∃vs,K vs w/\Rep (G8 st.bx) (lw st kp ms vs w) a w:=by
 obtain⟨h0,h⟩:=dw h;obtain⟨ss,hss,h⟩:=bB h;obtain⟨hc,h⟩:=dw h;simp only[aQ]at h0;obtain⟨h0,xP⟩:=h0;have hdf:s.df=st.df:=by
  obtain⟨l,hl⟩:=IH.df;have:=bW xP;rw[hl,aU]at this;have:l=[]:=nK.1 (by omega);rw[hl,this,cr]
 rw[<-hR.still hm]at h;obtain⟨vs,k1,k2,k3,k4⟩:=OJ h hK;have He:∀i b,cV st.bx i=some b->∃c,cV s.bx i=some c/\c.ty=b.ty/\c.ok=b.ok:=fun i b hb=>by
  obtain⟨c,h1,h2,h3,_⟩:=IH.ps hb;exact⟨c,h1,h2,h3⟩
 have Ck:∀i b,cV st.bx i=some b->b.ok=true->b.blk=some (β i):=fun i b hb ho=>by
  obtain⟨hs,_⟩:=C0 h0.2 i b hb ho;obtain⟨c,h1,h2,h3,h4⟩:=IH.ps hb;cases hk:b.blk with
  | none=>rw[hk]at hs;cases hs
  | some k=>rw[(hR.bx i c h1 (h3.trans ho)).at_ k (h4 k hk)]
 have hγ:∀i b,cV st.bx i=some b->b.ok=true->G8 st.bx i=β i:=fun i b hb ho=>by
  unfold G8;rw[hb];dsimp only;rw[Ck i b hb ho];rfl
 have qf:∀i,E4 st.bx i=true->G8 st.bx i=β i:=fun i hi=>by
  unfold E4 at hi;cases hb:cV st.bx i with
  | none=>rw[hb]at hi;cases hi
  | some b=>
   rw[hb]at hi;simp at hi;exact hγ i b hb hi.1
 have II:∀i b',cV (HJ st ms vs st.bx) i=some b'->b'.ok=true->∃b,cV st.bx i=some b/\b.ok=true/\b'.blk=b.blk:=fun i b' hb ho=>by
  cases hn:cV st.bx i with
  | none=>rw[nL _ _ _ _ hn]at hb;cases hb
  | some b=>
   obtain⟨b2,h1,h2,h3,h4,_⟩:=iA (st:=st) ms vs st.bx i b hn;rw[h1]at hb;injection hb with hb;subst hb;exact⟨b,rfl,by rw[<-h3];exact ho,h4⟩
 refine⟨vs,k1,qy ⟨hR.ok.sz.trans IH.n,hR.ok.df.trans (bm Vx hdf),fun i p hl hi=>?_⟩,fun i b' hb ho=>?_,fun i j bi bj g1 g2 g3 g4 rk=>?_,Only.refl _ _,fun _=>rfl⟩
 ·simp[lw]at hl;rw[sO]at hl;split at hl
  ·rename_i q hq;simp at hl;subst hl;exact C1 hR hss hc (k3 _) i q hq
  ·obtain⟨m1,m2⟩:=yf hl;obtain⟨k,v⟩:=p;obtain⟨v',n1,n2,n3,n4⟩:=Jq h0.1 i m1 k v m2;have:=IH.slot m1 m2 n1 n2 n3;subst this;rw[hR.ok.at_ i _ n1 (by rw[IH.n];exact hi)];congr 1;exact(iz (g:=E4 st.bx) qf _ n4).symm
 ·have hB:=y9 hR He hγ hss hc (k3 _) (bx:=st.bx) (fun j b hb=>⟨b,hb,rfl,rfl⟩) (fun j b hb ho=>by
   obtain⟨_,h1⟩:=C0 h0.2 j b hb ho;rw[bM]at h1;rcases h1 with h1 | ⟨c,h1,h2,h3⟩
   ·exact .inr h1
   ·cases hl:(OL st ms).elem j with
    | true=>exact .inr rfl
    | false=>
     left;obtain⟨c',e1,e2,e3⟩:=He j b hb;rw[h1]at e1;injection e1 with e1;subst e1;have:=(hR.bx j c h1 (e3.trans ho)).blk;rw[hγ j b hb ho,<-e2,gH (g:=E4 st.bx) qf _ h3,<-IH.cells hb h1 ho hl h2];exact this) i b' hb ho
  obtain⟨b,g1,g2,g3⟩:=II i b' hb ho;refine⟨hB,fun k hk=>?_,fun hk=>?_⟩
  ·rw[hγ i b g1 g2];rw[g3,Ck i b g1 g2]at hk;simpa using hk
  ·rw[g3,Ck i b g1 g2]at hk;cases hk
 ·obtain⟨b,e1,e2,_⟩:=II i bi g1 g3;obtain⟨c,f1,f2,_⟩:=II j bj g2 g4;obtain⟨b',p1,_,p3⟩:=He i b e1;obtain⟨c',q1,_,q3⟩:=He j c f1;rw[hγ i b e1 e2,hγ j c f1 f2];exact hR.ne i j b' c' p1 q1 (p3.trans e2) (q3.trans f2) rk
end
def bS(S:Nat->Prop)(w w':ay):Prop:=∀k,S k->k<w.heap.size->w'.heap[k]? =w.heap[k]?
theorem bS.refl S w:bS S w w:=fun _ _ _=>rfl
theorem bS.only{S}{w w'}(h:Only [] w w'):bS S w w':=fun k _ hk=>h.block k hk (by simp)
def vW(S:Nat->Prop)(k:Nat):Prop:=¬S k
def EE(P:Program)(ops:List Oper)(mb ms:Bool)(S:Nat->Prop)(j:Nat)(w w':ay):Prop:=match gM ops j with
 | some o=>bif jb P o.op then w'.heap=w.heap else bif mb&&(ms||!xD o.op)then bS S w w' else True
 | none=>False
def XB(mb ms:Bool)(S:Nat->Prop)(o:Op):XT:=fun w0 w1 p=>bif mb&&(ms||!xD o)then bS S w0 w1/\p else p
def YB(mb ms:Bool)(S:Nat->Prop):YT:=fun bk p=>bif mb&&ms then(match bk with
 | some k=>vW S k/\p
 | none=>False)else p
def qD(P:Program):Nat->List Oper->List Nat
 | _,[]=>[]
 | i,o::r=>bif jb P o.op then qD P (i+1) r else i::qD P (i+1) r
def VH(q:Nat)(seen:List Nat):List Edge->Bool
 | []=>false
 | e::r=>(Region.binds .any e&&(Nat.beq e.on q||seen.elem e.on))||VH q seen r
def OO(q:Nat):Nat->List Nat->List Oper->List Nat
 | _,seen,[]=>seen
 | i,seen,o::r=>bif VH q seen o.after.toList then OO q (i+1) (i::seen) r else OO q (i+1) seen r
def Sf(bH:Array Bool):Nat->List Oper->List Nat
 | _,[]=>[]
 | i,_::r=>bif bH.getD i true then i::Sf bH (i+1) r else Sf bH (i+1) r
def Mc(D N:List Nat):List Nat->List Nat
 | []=>[]
 | j::r=>bif D.elem j||N.elem j then Mc D N r else j::Mc D N r
def Jr(ops:List Oper):List Nat->Bool
 | []=>true
 | j::r=>(match gM ops j with
  | some o=>!xD o.op
  | none=>false)&&Jr ops r
def Dq(ops:List Oper)(q:Nat):List Nat:=(OO q 0 [] ops).reverse
def XF(P:Program)(ops:List Oper)(bH:Array Bool)(q:Nat):List Nat:=Mc (Dq ops q) (Sf bH 0 ops) (qD P 0 ops)
def XG{α:Type}:List α->Bool
 | []=>true
 | _=>false
def okT(ops:List Oper)(bH:Array Bool)(q:Nat):Bool:=
 Region.noSelect ops.toArray&&Region.free .any ops.toArray bH q&&CH .any ops.toArray bH&&vO .any ops.toArray q [] (Dq ops q)&&(Sf bH 0 ops).all (fun k=>bH.getD k true)
def Tm(st:St)(ops:List Oper)(o:Oper)(Sv no:St->Prop):Prop:=match o.guard with
 | none=>Sv st
 | some (j,want)=>(match Xx st ops j with
  | some (_,.un)=>no st
  | some (_,.bl b)=>bif b==want then Sv st else no st
  | some (d,.bt t)=>((t=true->bif true==want then Sv (st.put (some d) (.bl true))else no (st.put (some d) (.bl true)))/\
   (t=false->bif false==want then Sv (st.put (some d) (.bl false))else no (st.put (some d) (.bl false))))
  | _=>False)
def ldB(P:Program)(S:Nat->Prop)(st:St)(t:TypeId)(a:SV)(K:SV->Prop):Prop:=match P.underlying t with
 | none=>False
 | some d=>(match a with
  | .box i o=>cj (cV st.bx i) fun b=>bif b.ok&&b.blk.isSome&&sz P t ((b.cells.drop o).take (mQ P t)).length&&(lq d||Nat.beq ((b.cells.drop o).take (mQ P t)).length 1)then S (b.blk.getD 0)/\K (L3 (lq d) ((b.cells.drop o).take (mQ P t)))else False
  | .ad p=>bif !st.mv&&sz P t (Oh P 12 t).length&&(lq d||Nat.beq (Oh P 12 t).length 1)then S p.block/\S1 (Oh P 12 t) fun vs=>Cells st.w0 p (cu β0 vs)/\K (L3 (lq d) vs)else False
  | _=>False)
def cvB(P:Program)(S:Nat->Prop)(st:St)(s d:TypeId)(a:SV)(K:SV->Prop):Prop:=match P.underlying s,P.underlying d with
 | some (.slice e),some .string=>(match P.underlying e with
  | some (.int .u8)=>cj (Jf a) fun u=>bif st.mv then False else ∃l,(∀ad,u.a=some ad->S ad.block)/\yD st.w0 u l/\K (.str ⟨l.toArray⟩)
  | _=>False)
 | _,_=>False
def aci(P:Program):Op->Bool
 | .load _ _=>true
 | .convert s d _=>(match P.underlying s,P.underlying d with
  | some (.slice _),some .string=>true
  | _,_=>false)
 | _=>false
def cvI(P:Program):Op->Bool
 | .convert s d _=>(match P.underlying s,P.underlying d with
  | some (.int _),some (.int _)=>true
  | some .string,some .string=>true
  | _,_=>false)
 | _=>false
def cvZ(P:Program)(s d:TypeId)(a:SV)(K:SV->Prop):Prop:=match P.underlying s,P.underlying d with
 | some (.int _),some (.int kd)=>cj (pC a) fun p=>K (.int kd (kd.wrap p.2))
 | some .string,some .string=>cj (tY a) fun u=>K (.str u)
 | _,_=>False
def qP(P:Program)(ops:List Oper)(mb ms:Bool)(S:Nat->Prop)(bH:Array Bool)(q:Nat)(o:Oper)(st:St)(K:St->Prop):Prop:=
 bif jb P o.op then
  bif cvI P o.op then(match o.op with
   | .convert s d x=>cj (st.ev x) fun a=>cvZ P s d a fun v=>K (st.put o.dst v)
   | _=>False)
  else bif !mem o.op||XG (XF P ops bH q)then XC (nd P st o.op) st fun st=>Xr P [] st o.op fun v=>K (st.put o.dst v)
  else bif mb&&(ms||Jr ops (XF P ops bH q))then(match o.op with
   | .load t x=>XC (nd P st o.op) st fun st=>cj (st.ev x) fun a=>ldB P S st t a fun v=>K (st.put o.dst v)
   | .convert s d x=>XC (nd P st o.op) st fun st=>cj (st.ev x) fun a=>cvB P S st s d a fun v=>K (st.put o.dst v)
   | _=>False)else False
 else False
def fq(P:Program)(ops:List Oper):List Nat->Option Nat
 | []=>none
 | i::r=>match gM ops i with
  | some o=>bif jb P o.op then some i else fq P ops r
  | none=>none
def Fb(P:Program)(ops:List Oper)(mb ms:Bool)(S:Nat->Prop):Nat->Array Bool->St->(St->Prop)->Prop
 | 0,bH,st,K=>(match Region.ready .any ops.toArray bH with
  | []=>K st
  | _=>False)
 | g+1,bH,st,K=>(match Region.ready .any ops.toArray bH with
  | []=>K st
  | i::r=>(match fq P ops (i::r)with
   | some q=>cj (gM ops q) fun o=>bif okT ops bH q&&(i::r).contains q then
    Tm st ops o (fun st=>qP P ops mb ms S bH q o st fun st=>Fb P ops mb ms S g (bH.setIfInBounds q true) st K) (fun st=>Fb P ops mb ms S g (bH.setIfInBounds q true) (st.put o.dst .un) K)else False
   | none=>(match r with
    | []=>cj (gM ops i) fun o=>bif jb P o.op then False else
     Tm st ops o (fun st=>loud P (XB mb ms S o.op) (YB mb ms S) st o fun st=>Fb P ops mb ms S g (bH.setIfInBounds i true) st K) (fun st=>Fb P ops mb ms S g (bH.setIfInBounds i true) (st.put o.dst .un) K)
    | [j]=>cj (gM ops i) fun o=>cj (gM ops j) fun o'=>bif jb P o.op||jb P o'.op then False else
     Tm st ops o (fun st=>loud P (XB mb ms S o.op) (YB mb ms S) st o fun st=>Fb P ops mb ms S g (bH.setIfInBounds i true) st K) (fun st=>Fb P ops mb ms S g (bH.setIfInBounds i true) (st.put o.dst .un) K)/\
     Tm st ops o' (fun st=>loud P (XB mb ms S o'.op) (YB mb ms S) st o' fun st=>Fb P ops mb ms S g (bH.setIfInBounds j true) st K) (fun st=>Fb P ops mb ms S g (bH.setIfInBounds j true) (st.put o'.dst .un) K)
    | _=>False)))
def mbN(P:Program)(ops:List Oper):Nat->List Oper->Bool
 | _,[]=>false
 | i,o::r=>(bif aci P o.op then(qD P 0 ops).any fun j=>!(Dq ops i).elem j&&!(Dq ops j).elem i
  else false)||mbN P ops (i+1) r
def XH(P:Program)(ops:List Oper):Nat->List Oper->Bool
 | _,[]=>false
 | i,o::r=>(bif aci P o.op then(qD P 0 ops).any fun j=>!(Dq ops i).elem j&&!(Dq ops j).elem i&&(match gM ops j with
   | some o'=>xD o'.op
   | none=>false)
  else false)||XH P ops (i+1) r
section
variable {P:Program} {ops:List Oper} {mb ms:Bool} {S:Nat->Prop} {β:Nat->Nat} {a:Act} {w:ay}
theorem za{st}{o}{Sv no}(h:Tm st ops o Sv no)(hR:Rep β st a w):
  ∃s,Ext st s/\Rep β s a w/\((Region.wanted o (yielded ops.toArray a.tmps)=true/\Sv s)∨(Region.wanted o (yielded ops.toArray a.tmps)=false/\no s)):=by
 unfold Tm at h;split at h
 ·rename_i hg;exact⟨st,Ext.refl _,hR,.inl ⟨wn hg,h⟩⟩
 ·rename_i j want hg;split at h
  ·rename_i d ht;exact⟨st,Ext.refl _,hR,.inr ⟨vQ hR hg ht,h⟩⟩
  ·rename_i d b ht;have hw:=pD hR hg ht (b:=b) rfl;rcases mh h with⟨e,h⟩ | ⟨e,h⟩
   ·exact⟨st,Ext.refl _,hR,.inl ⟨hw.trans e,h⟩⟩
   ·exact⟨st,Ext.refl _,hR,.inr ⟨hw.trans e,h⟩⟩
  ·rename_i d t ht;obtain⟨oj,NG,WC,Su⟩:=yN ht;have hw:=pD hR hg ht (b:=t) rfl;cases t with
   | true=>
    refine⟨_,Ext.put _ _ (.bl true),hR.set Su rfl,?_⟩;rcases mh (h.1 rfl)with⟨e,h⟩ | ⟨e,h⟩
    ·exact .inl ⟨hw.trans e,h⟩
    ·exact .inr ⟨hw.trans e,h⟩
   | false=>
    refine⟨_,Ext.put _ _ (.bl false),hR.set Su rfl,?_⟩;rcases mh (h.2 rfl)with⟨e,h⟩ | ⟨e,h⟩
    ·exact .inl ⟨hw.trans e,h⟩
    ·exact .inr ⟨hw.trans e,h⟩
  ·exact h.elim
theorem HK{st:St}{d}{t}{x}{l}{ad}{w'}(hu:P.underlying t=some d)(hsz:sz P t l.length=true)(kr:lq d=true∨Nat.beq l.length 1=true)
  (LC:a.eval x=.pointer (some ad)) (hC:Cells w' ad (cu β l)) dst t' p af g:
  (execOp a.eval ⟨dst,.load t x,t',p,af,g⟩).run P w'=.ok (.value (val β (L3 (lq d) l))) w':=by
 rcases kr with ra | kr
 ·rw[oH ra];have:=j9 (P:=P) hu w';rw[ra]at this;exact sJ this (oT hsz w') (fk β l) LC hC
 ·cases ra:lq d with
  | true=>
   have e:=oH ra β l;rw[ra]at e;rw[e];have:=j9 (P:=P) hu w';rw[ra]at this;exact sJ this (oT hsz w') (fk β l) LC hC
  | false=>
   obtain⟨s,rfl⟩:=yM kr;have:=j9 (P:=P) hu w';rw[ra]at this;exact Cw this LC (Cells.one hC)
theorem tZ:∀{l:List Oper} {i j:Nat} {o:Oper},gM l j=some o->jb P o.op=false->i+j∈qD P i l
 | [],_,_,_,h,_=>by cases h
 | c::r,i,0,o,h,hp=>by
  simp[gM,ba]at h;subst h;simp[qD,hp]
 | c::r,i,j+1,o,h,hp=>by
  have:=tZ (l:=r) (i:=i+1) (j:=j) h hp;rw[show i+1+j=i+(j+1) by omega]at this;simp[qD];cases jb P c.op with
  | true=>exact this
  | false=>exact dc _ this
theorem uR{D N}:∀{l:List Nat} {j:Nat},j∈l->j∉D->j∉N->j∈Mc D N l
 | c::r,j,h,h1,h2=>by
  simp only[Mc];rcases aR.1 h with rfl | h
  ·have e1:D.elem j=false:=by simpa using h1
   have e2:N.elem j=false:=by simpa using h2
   rw[e1,e2];simp
  ·cases(D.elem c||N.elem c)with
   | true=>exact uR h h1 h2
   | false=>exact dc _ (uR h h1 h2)
theorem Fc:∀{l:List Nat} {j:Nat} {o:Oper},Jr ops l=true->j∈l->gM ops j=some o->xD o.op=false
 | [],j,o,_,hj,_=>by cases hj
 | c::r,j,o,h,hj,ho=>by
  simp[Jr,aQ]at h;rcases aR.1 hj with hc | hj
  ·have h1:=h.1;rw[<-hc,ho]at h1;cases he:xD o.op with
   | false=>rfl
   | true=>dsimp only at h1;rw[he]at h1;cases h1
  ·exact Fc h.2 hj ho
def Sta(P:Program)(ops:List Oper)(mb ms:Bool)(S:Nat->Prop)(D N:List Nat)(F:ay->Prop):Prop:=∀j w w',j∉D->j∉N->F w->EE P ops mb ms S j w w'->F w'
theorem VI{bH}{q}{o}{st}{K}(h:qP P ops mb ms S bH q o st K)(hR:Rep β st a w):
  ∃(v:az) (s':St) (F:ay->Prop),K s'/\Ext st s'/\Rep β s' (a.put o.dst v) w/\F w/\Sta P ops mb ms S (Dq ops q) (Sf bH 0 ops) F/\jb P o.op=true/\∀w',F w'->(execOp a.eval o).run P w'=.ok (.value v) w':=by
 rcases mh h with⟨hp,h⟩ | ⟨_,h⟩
 case inr=>exact h.elim
 rcases mh h with⟨_,h⟩ | ⟨_,h⟩
 ·obtain⟨dst,op,t',p,af,g⟩:=o;cases op with
  | convert s d x=>
   dsimp only at h;obtain⟨ax,hx,h1⟩:=bB h;unfold cvZ at h1;split at h1
   ·rename_i ks kd h2 h3;obtain⟨⟨k,n⟩,IJ,h1⟩:=bB h1;exact⟨_,_,fun _=>True,h1,Ext.put _ _ _,hR.put _ _,trivial,fun _ _ _ _ _ _ _=>trivial,hp,fun w' _=>Bg (run_underlying h2 w') (run_underlying h3 w') ((hR.ev hx).trans (di IJ β))⟩
   ·rename_i h2 h3;obtain⟨u,IJ,h1⟩:=bB h1;exact⟨_,_,fun _=>True,h1,Ext.put _ _ _,hR.put _ _,trivial,fun _ _ _ _ _ _ _=>trivial,hp,fun w' _=>Bh (run_underlying h2 w') (run_underlying h3 w') ((hR.ev hx).trans (hY IJ β))⟩
   ·exact h1.elim
  | _=>exact h.elim
 rcases mh h with⟨hb,h⟩ | ⟨hb,h⟩
 ·obtain⟨s1,h1,e1,gY,_⟩:=vV h hR;obtain⟨v,hv,hy⟩:=HC h1;have hy:=hy trivial β a w gY;obtain⟨dst,op,t',p,af,g⟩:=o;cases hm:mem op with
  | false=>
   exact⟨val β v,_,fun _=>True,hv,e1.trans (Ext.put _ _ _),gY.put _ v,trivial,fun _ _ _ _ _ _ _=>trivial,hp,fun w' _=>hy _ _ _ _ _ w' fun e=>by rw[hm]at e;cases e⟩
  | true=>
   have hn:=by simpa[hm]using hb
   refine⟨val β v,_,fun w'=>w'.heap=w.heap,hv,e1.trans (Ext.put _ _ _),gY.put _ v,rfl,fun j w1 w2 hD hN hF hE=>?_,hp,fun w' hF=>hy _ _ _ _ _ w' fun _=>hF⟩;unfold EE at hE;split at hE
   ·rename_i oj hj;rcases mh hE with⟨_,e⟩ | ⟨e,_⟩
    ·exact e.trans hF
    ·have:=uR (by have:=tZ (i:=0) hj e;rwa[bM]at this) hD hN;unfold XF at hn;revert hn this;generalize Mc (Dq ops q) (Sf bH 0 ops) (qD P 0 ops)=m;intro hn this;cases m with
     | nil=>cases this
     | cons=>cases hn
   ·exact hE.elim
 ·obtain⟨h0,h⟩:=dw h;simp only[aQ]at h0;obtain⟨dst,op,t',p,af,g⟩:=o;have nA:∀F:ay->Prop,∀k:Nat,S k->(∀w1 w2:ay,F w1->w2.heap[k]? =w1.heap[k]? ->F w2)->(∀w1,F w1->k<w1.heap.size)->Sta P ops mb ms S (Dq ops q) (Sf bH 0 ops) F:=by
   intro F k hk NI hF2 j w1 w2 hD hN hF hE;unfold EE at hE;split at hE
   ·rename_i oj hj;rcases mh hE with⟨_,e⟩ | ⟨e,hE⟩
    ·exact NI w1 w2 hF (by rw[e])
    ·have:=uR (by have:=tZ (i:=0) hj e;rwa[bM]at this) hD hN;have hs:(ms||!xD oj.op)=true:=by
      rcases cp _ _▸h0.2 with h2 | h2
      ·rw[h2];rfl
      ·rw[Fc h2 this hj,Bool.not_false,xY]
     rw[h0.1,hs]at hE;exact NI w1 w2 hF (hE k hk (hF2 _ hF))
   ·exact hE.elim
  cases op with
  | load t x=>
   dsimp only at h;obtain⟨s1,h1,e1,gY,_⟩:=vV h hR;obtain⟨ax,hx,h1⟩:=bB h1;unfold ldB at h1;split at h1
   ·exact h1.elim
   ·rename_i d hu;split at h1
    ·rename_i i off;obtain⟨b,tB,h1⟩:=bB h1;obtain⟨hc,hS,hK⟩:=dw h1;simp only[aQ,cp]at hc;obtain⟨⟨⟨nE,NH⟩,hsz⟩,kr⟩:=hc;have hBO:=gY.bx i b tB nE;have hB:=hBO.blk;have hbe:b.blk.getD 0=β i:=by
      cases hk:b.blk with
      | none=>rw[hk]at NH;cases NH
      | some k=>rw[hBO.at_ k hk];rfl
     rw[hbe]at hS;have LC:=gY.ev hx;refine⟨_,_,fun w'=>Blk w' _ b.ty _,hK,e1.trans (Ext.put _ _ _),gY.put _ _,hB,nA _ _ hS (fun w1 w2 hF e=>by unfold Blk at hF⊢;rw[e];exact hF) (fun w1 hF=>hF.lt),hp,fun w' hF=>?_⟩;generalize hl:(b.cells.drop off).take (mQ P t)=l at*
     have hC:Cells w' ⟨β i,off,none⟩ (cu β l):=hF.DY off _ (by
      rw[fk,<-hl];simp only[cu,mP,qt];rw[dd,pv];simp only[cG,bq];omega)
     exact HK (st:=st) hu hsz kr LC hC _ _ _ _ _
    ·rename_i ad;obtain⟨hc,hS,h2⟩:=dw h1;simp only[aQ,cp,dy]at hc;obtain⟨⟨rB,hsz⟩,kr⟩:=hc;obtain⟨vs,⟨hF,hK⟩,fu,qf⟩:=rD h2;rw[<-gY.still rB]at hF;have hv:∀w',Cells w' ad _->Cells w' ad (cu β vs):=fun w' h=>by
      rw[gH (β:=β) (β':=β0) (g:=fun _=>false) (fun i h=>(by cases h)) vs (qf _)];exact h
     rw[<-fu]at hsz kr;by_cases UQ:cu β0 vs=[]
     ·refine⟨_,_,fun _=>True,hK,e1.trans (Ext.put _ _ _),gY.put _ _,trivial,fun _ _ _ _ _ _ _=>trivial,hp,fun w' _=>?_⟩;exact HK (st:=st) hu hsz kr (gY.ev hx) (hv w' (by rw[UQ];intro j v hj;simp at hj)) _ _ _ _ _
     ·exact⟨_,_,fun w'=>Cells w' ad _,hK,e1.trans (Ext.put _ _ _),gY.put _ _,hF,nA _ ad.block hS (fun w1 w2 hF e=>hF.keep e) (fun w1 hF=>hF.lt' UQ),hp,fun w' hF=>HK (st:=st) hu hsz kr (gY.ev hx) (hv w' hF) _ _ _ _ _⟩
    ·exact h1.elim
  | convert s d x=>
   dsimp only at h;obtain⟨s1,h1,e1,gY,_⟩:=vV h hR;obtain⟨ax,hx,h1⟩:=bB h1;unfold cvB at h1;split at h1
   ·rename_i e hu1 Zr;split at h1
    ·rename_i hu3;obtain⟨u,IJ,h1⟩:=bB h1;cases hm:s1.mv with
     | true=>rw[hm]at h1;exact h1.elim
     | false=>
      rw[hm]at h1;obtain⟨l,hS,hF,hK⟩:=h1;rw[<-(gY.still hm)]at hF;refine⟨_,_,fun w'=>yD w' u l,hK,e1.trans (Ext.put _ _ _),gY.put _ _,hF,?_,hp,fun w' hF'=>yF hu1 hu3 Zr ((gY.ev hx).trans (jD IJ β)) hF'⟩;by_cases hl:l=[]
      ·subst hl;exact fun j w1 w2 _ _ NI _=>⟨NI.1,fun hh=>absurd rfl hh⟩
      ·obtain⟨ad,ha,_⟩:=hF.2 hl;refine nA _ ad.block (hS ad ha) (fun w1 w2 NI e=>⟨NI.1,fun hh=>?_⟩) (fun w1 NI=>?_)
       ·obtain⟨M4,GV,hC⟩:=NI.2 hh;rw[ha]at GV;injection GV with GV;subst GV;exact⟨ad,ha,hC.keep e⟩
       ·obtain⟨M4,GV,hC⟩:=NI.2 hl;rw[ha]at GV;injection GV with GV;subst GV;exact hC.lt' (by cases l with
         | nil=>exact absurd rfl hl
         | cons c l=>simp)
    ·exact h1.elim
   ·exact h1.elim
  | _=>exact h.elim
theorem qE{j}{o}(hj:gM ops j=some o) w:EE P ops mb ms S j w w:=by
 unfold EE;rw[hj];dsimp only;cases jb P o.op with
 | true=>rfl
 | false=>
  cases(mb&&_)with
  | true=>exact bS.refl _ _
  | false=>exact trivial
theorem Fe{Q}{j}{o}{st}{K}(hj:gM ops j=some o)(hp:jb P o.op=false)(h:loud P (XB mb ms S o.op) (YB mb ms S) st o K)(hR:Rep β st a w):o.wp P a w (VF (EE P ops mb ms S j) st K w) Q:=by
 have hEE:EE P ops mb ms S j=fun w w'=>bif mb&&(ms||!xD o.op)then bS S w w' else True:=by
  unfold EE;rw[hj];dsimp only;rw[hp];rfl
 refine CY (fun w0 w1 p hx=>?_) (fun w w1 hO=>?_) (fun hs bk k w w1 p hy hk hO=>?_) h hR
 ·rw[hEE];unfold XB at hx;cases hb:(mb&&_)with
  | true=>rw[hb]at hx;exact⟨hx.2,hx.1⟩
  | false=>rw[hb]at hx;exact⟨hx,trivial⟩
 ·rw[hEE];cases(mb&&_)with
  | true=>exact bS.only hO
  | false=>exact trivial
 ·rw[hEE];rw[hs,Bool.not_true,Bool.or_false];unfold YB at hy;cases hb:(mb&&ms)with
  | true=>
   rw[hb]at hy;cases bk with
   | none=>exact hy.elim
   | some j=>
    refine⟨hy.2,fun q hq bX=>hO.block q bX ?_⟩;have:=hk j rfl;subst this;simp;rintro rfl;exact hy.1 hq
  | false=>rw[hb]at hy;exact⟨hy,trivial⟩
theorem rK{Q}(hQ:∀c a w,¬Q (.panic c) a w):∀{g:Nat} {bH:Array Bool} {st:St} {K:St->Prop} {β:Nat->Nat} {a:Act} {w:ay},Fb P ops mb ms S g bH st K->Rep β st a w->
  (∀β' cH a' w',K cH->Ext st cH->Rep β' cH a' w'->Q .normal a' w')->fU P .any ops.toArray Q (EE P ops mb ms S) g bH a w
 | 0,bH,st,K,β,a,w,h,hR,hK=>by
  unfold Fb at h;split at h
  ·rename_i hr;exact⟨hr,hK β st a w h (Ext.refl _) hR⟩
  ·exact h.elim
 | g+1,bH,st,K,β,a,w,h,hR,hK=>by
  have L:∀{j:Nat} {o:Oper},gM ops j=some o->jb P o.op=false->
    Tm st ops o (fun st=>loud P (XB mb ms S o.op) (YB mb ms S) st o fun st=>Fb P ops mb ms S g (bH.setIfInBounds j true) st K) (fun st=>Fb P ops mb ms S g (bH.setIfInBounds j true) (st.put o.dst .un) K)->
    if Region.wanted o (yielded ops.toArray a.tmps)then o.wp P a w (fun a' w'=>EE P ops mb ms S j w w'/\fU P .any ops.toArray Q (EE P ops mb ms S) g (bH.setIfInBounds j true) a' w') Q∨(o.asks P a w/\LetsOut Q)
    else(fun a' w'=>EE P ops mb ms S j w w'/\fU P .any ops.toArray Q (EE P ops mb ms S) g (bH.setIfInBounds j true) a' w') (a.put o.dst undef) w:=by
   intro j o ho hp h;obtain⟨s,e1,gY,h1⟩:=za h hR;rcases h1 with⟨hw,h1⟩ | ⟨hw,h1⟩
   ·rw[if_pos hw];refine .inl (Oper.wp_mono ?_ (Fe ho hp h1 gY));rintro a' w' ⟨β',cH,k1,k2,k3,k4⟩;exact⟨k3,rK hQ k1 k4 fun β2 ul a2 w2 m1 m2 m3=>hK β2 ul a2 w2 m1 ((e1.trans k2).trans m2) m3⟩
   ·rw[if_neg (by simp[hw])];exact⟨qE ho w,rK hQ h1 (gY.put o.dst .un) fun β2 ul a2 w2 m1 m2 m3=>hK β2 ul a2 w2 m1 ((e1.trans (Ext.put _ _ _)).trans m2) m3⟩
  unfold Fb at h;split at h
  ·rename_i hr;exact Xj hr (hK β st a w h (Ext.refl _) hR)
  ·rename_i i r hr;split at h
   ·rename_i q hq;obtain⟨o,ho,h⟩:=bB h;obtain⟨hc,h⟩:=dw h;simp only[aQ,okT]at hc;obtain⟨⟨⟨⟨⟨c1,c2⟩,c3⟩,c4⟩,c5⟩,c6⟩:=hc;obtain⟨s,e1,gY,h1⟩:=za h hR;rcases h1 with⟨hw,h1⟩ | ⟨hw,h1⟩
    ·obtain⟨v,s2,F,k1,k2,k3,k4,k5,k6,k7⟩:=VI h1 gY;have hE:∀w1,F w1->EE P ops mb ms S q w1 w1:=fun w1 _=>qE ho w1;exact Oa q _ _ v F ho c1 c2 (by rw[hr];exact c6) c3 c4 c5 (fun c a w hp=>(hQ _ _ _ hp).elim) k5 hE k4 (Vv hw k7) rfl
      (rK hQ k1 k3 fun β2 ul a2 w2 m1 m2 m3=>hK β2 ul a2 w2 m1 ((e1.trans k2).trans m2) m3)
    ·exact Oa q _ _ undef _ ho c1 c2 (by rw[hr];exact c6) c3 c4 c5 (fun c a w hp=>(hQ _ _ _ hp).elim) (fun _ _ _ _ _ _ _=>trivial) (fun w1 _=>qE ho w1) trivial (ab0 hw) rfl
      (rK hQ h1 (gY.put o.dst .un) fun β2 ul a2 w2 m1 m2 m3=>hK β2 ul a2 w2 m1 ((e1.trans (Ext.put _ _ _)).trans m2) m3)
   ·split at h
    ·obtain⟨o,ho,h⟩:=bB h;rcases mh h with⟨_,h⟩ | ⟨hp,h⟩
     ·exact h.elim
     obtain⟨s,e1,gY,h1⟩:=za h hR;rcases h1 with⟨hw,h1⟩ | ⟨hw,h1⟩
     ·refine abY i ho hr hw (Oper.wp_mono ?_ (Fe ho hp h1 gY));rintro a' w' ⟨β',cH,k1,k2,k3,k4⟩;exact⟨k3,rK hQ k1 k4 fun β2 ul a2 w2 m1 m2 m3=>hK β2 ul a2 w2 m1 ((e1.trans k2).trans m2) m3⟩
     ·exact SY i ho hr hw (qE ho w) rfl (rK hQ h1 (gY.put o.dst .un) fun β2 ul a2 w2 m1 m2 m3=>hK β2 ul a2 w2 m1 ((e1.trans (Ext.put _ _ _)).trans m2) m3)
    ·rename_i j _;obtain⟨o,ho,h⟩:=bB h;obtain⟨o',NJ,h⟩:=bB h;rcases mh h with⟨_,h⟩ | ⟨hp,h⟩
     ·exact h.elim
     simp at hp;exact abZ i j ho NJ hr (L ho hp.1 h.1) (L NJ hp.2 h.2)
    ·exact h.elim
end
def mR(ws w w':ay):Prop:=w.heap.size<=w'.heap.size/\∀k,ws.heap.size<=k->k<w.heap.size->w'.heap[k]? =w.heap[k]?
def zd(mk:List (Nat×Nat))(b:Nat):Prop:=∀p∈mk,b<p.1∨p.2<=b
theorem mR.only{bs}{ws w w'}(h:Only bs w w')(hb:∀b∈bs,b<ws.heap.size∨w.heap.size<=b):mR ws w w':=
 ⟨h.size,fun k h1 h2=>h.block k h2 fun hk=>by grind⟩
theorem mR.Lq{ws w w'}(h:Only [] w w'):mR ws w w':=mR.only h (by simp)
theorem zd.one{m n b}{r}(h:zd ((m,n)::r) b):b<m∨n<=b:=h _ dV
structure LZ where
 z:Nat
 d:Nat
 t:TypeId
 zs:List SV
def ua(P:Program)(z:Nat)(o:Oper):Option LZ:=match o.op,o.dst,o.guard with
 | .alloc t,some d,none=>(match zc P t with
  | some zs=>bif XG o.after.toList&&gZ (fun _=>false) zs then some ⟨z,d,t,zs⟩else none
  | none=>none)
 | _,_,_=>none
def ky(P:Program):Nat->List Oper->List LZ
 | _,[]=>[]
 | i,o::r=>match ua P i o with
  | some p=>p::ky P (i+1) r
  | none=>ky P (i+1) r
def nf:List LZ->List Nat
 | []=>[]
 | p::r=>p.z::nf r
def zSl:List LZ->List Nat
 | []=>[]
 | p::r=>p.d::zSl r
def Ff(z d:Nat):Nat->List Oper->Bool
 | _,[]=>true
 | i,o::r=>(Nat.beq i z||(match o.dst with
  | some e=>!Nat.beq e d
  | none=>true))&&Ff z d (i+1) r
def zOk(ops:List Oper):List LZ->Bool
 | []=>true
 | p::r=>Ff p.z p.d 0 ops&&zOk ops r
theorem OP{α}:∀{l:List α},XG l=true->l=[]
 | [],_=>rfl
theorem lz{P}{z}{o}{p}(h:ua P z o=some p):p.z=z/\o.op=.alloc p.t/\o.dst=some p.d/\o.guard=none/\o.after.toList=[]/\zc P p.t=some p.zs/\gZ (fun _=>false) p.zs=true:=by
 unfold ua at h;split at h
 ·rename_i t d h1 h2 h3;split at h
  ·rename_i zs hz;obtain⟨h4,rfl⟩:=CL h;simp at h4;exact⟨rfl,h1,h2,h3,OP h4.1,hz,h4.2⟩
  ·cases h
 ·cases h
theorem ni{Z}{z}:z∈nf Z↔∃p∈Z,p.z=z:=by
 induction Z with
 | nil=>simp[nf]
 | cons p r ih=>simp[nf,ih,eq_comm (a:=z)]
theorem ze{P}:∀{l:List Oper} {i:Nat} {p:LZ},p∈ky P i l->∃j o,p.z=i+j/\gM l j=some o/\ua P p.z o=some p
 | [],i,p,h=>by cases h
 | o::r,i,p,h=>by
  have tl:p∈ky P (i+1) r->∃j o',p.z=i+j/\gM (o::r) j=some o'/\ua P p.z o'=some p:=fun h=>by
   obtain⟨j,o',h1,h2,h3⟩:=ze h;exact⟨j+1,o',by omega,h2,h3⟩
  unfold ky at h;split at h
  ·rename_i q hq;rcases aR.1 h with rfl | h
   ·have:=(lz hq).1;exact⟨0,o,this,rfl,by rw[this];exact hq⟩
   ·exact tl h
  ·exact tl h
theorem zf{P}:∀{l:List Oper} {i:Nat},(nf (ky P i l)).Nodup
 | [],i=>by simp[ky,nf]
 | o::r,i=>by
  unfold ky;split
  ·rename_i q hq;have e:=(lz hq).1;simp[nf];refine⟨fun hm=>?_,zf⟩;obtain⟨p,h1,h2⟩:=ni.1 hm;obtain _:=ze h1;omega
  ·exact zf
theorem OQ{z d}:∀{l:List Oper} {i j:Nat} {o:Oper},Ff z d i l=true->gM l j=some o->i+j≠z->o.dst≠some d:=by
 intro l
 induction l with
 | nil=>intro i j o _ h;cases h
 | cons c r ih=>
  intro i j o h hj hz;simp only[Ff,aQ,cp]at h;cases j with
  | zero=>
   simp[gM]at hj;intro e;simp_all
  | succ j=>exact ih (i:=i+1) (j:=j) h.2 hj (by omega)
theorem OS{ops}:∀{Z:List LZ},zOk ops Z=true->∀p∈Z,Ff p.z p.d 0 ops=true
 | q::r,h,p,hp=>by
  simp[zOk]at h;rcases aR.1 hp with rfl | hp
  ·exact h.1
  ·exact OS h.2 p hp
def eO(l:Array Bool):List Nat->Array Bool
 | []=>l
 | z::r=>eO (l.setIfInBounds z true) r
theorem Fg(l:Array Bool) i j:(l.setIfInBounds i true).setIfInBounds j true=(l.setIfInBounds j true).setIfInBounds i true:=by
 by_cases h:i=j
 ·subst h;rfl
 ·exact Array.setIfInBounds_comm _ _ h
theorem nM:∀{D:List Nat} {l:Array Bool} {z:Nat},eO (l.setIfInBounds z true) D=(eO l D).setIfInBounds z true
 | [],_,_=>rfl
 | d::r,l,z=>by simp[eO,Fg,nM]
theorem Fh{D E}(h:D.Perm E):∀l,eO l D=eO l E:=by
 induction h with
 | nil=>intro l;rfl
 | cons x _ ih=>intro l;exact ih _
 | swap x y r=>intro l;simp[eO];rw[Fg]
 | trans _ _ h1 h2=>intro l;exact(h1 l).trans (h2 l)
theorem pH:∀{D:List Nat} {l:Array Bool} {k:Nat},(eO l D).getD k false=true↔l.getD k false=true∨(k∈D/\k<l.size)
 | [],l,k=>by simp[eO]
 | d::r,l,k=>by
  simp only[eO];rw[pH];by_cases h:d=k
  ·subst h;by_cases hs:d<l.size
   ·simp[hs]
   ·simp[hs]
  ·simp[gu h,Ne.symm h]
theorem nN:∀{D:List Nat} {l:Array Bool} {k:Nat},(eO l D).getD k true=true↔l.getD k true=true∨k∈D
 | [],l,k=>by simp[eO]
 | d::r,l,k=>by
  simp only[eO];rw[nN];by_cases h:d=k
  ·simp_all
  ·simp[gu h,Ne.symm h]
def AV(Zi:List Nat):List Nat->List Nat
 | []=>[]
 | j::r=>bif Zi.elem j then AV Zi r else j::AV Zi r
theorem pI{Zi}:∀{l:List Nat} {j:Nat},j∈AV Zi l↔j∈l/\j∉Zi
 | [],j=>by simp[AV]
 | c::r,j=>by
  simp only[AV];cases h:Zi.elem c with
  | true=>
   simp only[nI,pI,aR]
   grind
  | false=>
   simp[pI]
   grind
def Js(Zi R:List Nat):List Nat->Bool
 | []=>true
 | j::r=>(R.elem j&&!Zi.elem j)&&Js Zi R r
theorem Fi{Zi R}:∀{l:List Nat},Js Zi R l=true->∀j∈l,j∈R/\j∉Zi
 | c::r,h,j,hj=>by
  simp[Js]at h;rcases aR.1 hj with rfl | hj
  ·grind
  ·exact Fi h.2 j hj
def uS(l:Array Bool):List Nat->Bool
 | []=>true
 | z::r=>!l.getD z true&&uS l r
theorem wX{l}:∀{Zi:List Nat},uS l Zi=true->∀z∈Zi,l.getD z true=false
 | c::r,h,z,hz=>by
  simp only[uS,aQ,dy]at h;rcases aR.1 hz with rfl | hz
  ·exact h.1
  ·exact wX h.2 z hz
def XI(ops:List Oper)(Zi:List Nat)(l:Array Bool):Bool:=Js Zi (Region.ready .any ops.toArray l) (Region.ready .any ops.toArray (eO l Zi))
def Jt(z:Nat):List Nat->Bool
 | []=>true
 | j::r=>Nat.beq j z&&Jt z r
theorem Fj{z}:∀{l:List Nat},Jt z l=true->∀j∈l,j=z
 | c::r,h,j,hj=>by
  simp only[Jt,aQ]at h;rcases aR.1 hj with rfl | hj
  ·simp_all
  ·exact Fj h.2 j hj
def Tn(ops:List Oper)(l:Array Bool)(Zi:List Nat):List Nat->Bool
 | []=>true
 | z::r=>Jt z (Region.ready .any ops.toArray (eO l (Zi.erase z)))&&Tn ops l Zi r
theorem Ju{ops}{l}{Zi}:∀{r:List Nat},Tn ops l Zi r=true->∀z∈r,∀j∈Region.ready .any ops.toArray (eO l (Zi.erase z)),j=z
 | c::r,h,z,hz=>by
  simp[Tn]at h;rcases aR.1 hz with rfl | hz
  ·exact Fj h.1
  ·exact Ju h.2 z hz
section
variable {md:Region.Mode} {ops:Array Oper}
theorem vX{l}{D E}(hs:∀x∈D,x∈E){j}(h:j∈Region.ready md ops (eO l D))(hj:j∉E):j∈Region.ready md ops (eO l E):=by
 rw[mem_ready]at h⊢;obtain⟨h0,o,ho,jw⟩:=h;refine⟨?_,o,ho,fun e he hb=>?_⟩
 ·rw[fh]at h0⊢;intro h1;rcases nN.1 h1 with h1 | h1
  ·exact h0 (nN.2 (.inl h1))
  ·exact hj h1
 ·rcases pH.1 (jw e he hb)with h1 | h1
  ·exact pH.2 (.inl h1)
  ·exact pH.2 (.inr ⟨hs _ h1.1,h1.2⟩)
theorem AW{l}(h:qu md ops l){D}(hD:∀z∈D,∀o,ops[z]? =some o->o.after.toList=[]):qu md ops (eO l D):=by
 intro k o hk hl e he hb;rcases pH.1 hl with h1 | h1
 ·exact pH.2 (.inl (h k o hk h1 e he hb))
 ·have:=hD k h1.1 o hk;simp_all
end
theorem XJ{P}{o:Oper}{a}{w}{K}{Q}(hh:o.wp P a w K Q):
  o.wp P a w (fun a' w'=>K a' w'/\∀i,o.dst≠some i->a'.tmps[i]? =a.tmps[i]?) Q:=by
 unfold Oper.wp at*
 generalize (execOp a.eval o).run P w=r at*
 cases r with
 | ok n w'=>
  cases n
  case value v=>exact⟨hh,(jQ _ _ _).2.2⟩
  case skip=>exact⟨hh,(jQ _ _ _).2.2⟩
  case defer d=>exact⟨hh,(jQ _ _ _).2.2⟩
  case enter f args=>
   refine Calls.mono hh (fun e th he=>?_);cases e with
   | returned v=>exact⟨he,(jQ _ _ _).2.2⟩
   | _=>exact he
  case row n args=>exact Rows.mono hh (fun v th he=>⟨he,(jQ _ _ _).2.2⟩)
  all_goals exact hh
 | halt x w'=>cases x<;>simp[Oper.upon]at hh⊢ <;>exact hh
structure Late (Z:List LZ) (ws:ay) (bz:Nat->Nat) (D:List Nat) (mk:List (Nat×Nat)) (a:Act) (w:ay):Prop where
 at_:∀p∈Z,p.z∈D->a.tmps[p.d]? =some (.pointer (some ⟨bz p.z,0,none⟩))/\Blk w (bz p.z) p.t (cu β0 p.zs)/\ws.heap.size<=bz p.z/\zd mk (bz p.z)
 sub:∀z∈D,z∈nf Z
 ne:∀z∈D,∀z'∈D,z≠z'->bz z≠bz z'
 top:∀p∈mk,p.2<=w.heap.size
 le:ws.heap.size<=w.heap.size
section
variable {Z:List LZ} {ws:ay} {bz:Nat->Nat} {D:List Nat} {mk:List (Nat×Nat)} {a a':Act} {w w1:ay}
theorem Late.act(h:Late Z ws bz D mk a w)(ha:∀p∈Z,a'.tmps[p.d]? =a.tmps[p.d]?):Late Z ws bz D mk a' w:=
 ⟨fun p hp hd=>by rw[ha p hp];exact h.at_ p hp hd,h.sub,h.ne,h.top,h.le⟩
theorem Late.loud(h:Late Z ws bz D mk a w)(hN:mR ws w w1)(ha:∀p∈Z,a'.tmps[p.d]? =a.tmps[p.d]?):Late Z ws bz D ((w.heap.size,w1.heap.size)::mk) a' w1:=by
 refine⟨fun p hp hd=>?_,h.sub,h.ne,fun p hp=>?_,bh h.le hN.1⟩
 ·obtain⟨h1,h2,h3,h4⟩:=h.at_ p hp hd;have h5:=h2.lt;refine⟨by rw[ha p hp];exact h1,?_,h3,fun q hq=>?_⟩
  ·unfold Blk at h2⊢;rw[hN.2 _ h3 h5];exact h2
  ·rcases aR.1 hq with rfl | hq
   ·exact .inl h5
   ·exact h4 q hq
 ·rcases aR.1 hp with rfl | hp
  ·exact aY _
  ·exact bh (h.top p hp) hN.1
theorem Late.alloc(h:Late Z ws bz D mk a w)(hu:∀p∈Z,∀q∈Z,p.z=q.z->p=q)(hd:∀p∈Z,∀q∈Z,p.z≠q.z->p.d≠q.d){p}(hp:p∈Z)(hn:p.z∉D){b}(hb:w.heap.size<=b)(hO:Only [] w w1)(hB:Blk w1 b p.t (cu β0 p.zs))(hs:p.d<a.tmps.size):
  Late Z ws (fun z=>if z=p.z then b else bz z) (p.z::D) mk (a.put (some p.d) (.pointer (some ⟨b,0,none⟩))) w1:=by
 refine⟨fun q hq hqd=>?_,fun z hz=>?_,fun z hz z' Sw gz=>?_,fun q hq=>bh (h.top q hq) hO.size,bh h.le hO.size⟩
 ·by_cases e:q.z=p.z
  ·have:=hu q hq p hp e;subst this;rw[if_pos rfl];refine⟨by simp[Act.put,hs],hB,bh h.le hb,fun x hx=>.inr (bh (h.top x hx) hb)⟩
  ·rw[if_neg e];obtain⟨h1,h2,h3,h4⟩:=h.at_ q hq (by grind);refine⟨?_,hO.blk h2 (by simp),h3,h4⟩;rw[(jQ a _ _).2.2 q.d (by
    intro k;injection k with k;exact hd p hp q hq (Ne.symm e) k)]
   exact h1
 ·rcases aR.1 hz with rfl | hz
  ·exact ni.2 ⟨p,hp,rfl⟩
  ·exact h.sub z hz
 ·have NF:∀z∈D,bz z<w.heap.size:=fun z hz=>by
   obtain⟨q,hq,rfl⟩:=ni.1 (h.sub z hz);exact(h.at_ q hq hz).2.1.lt
  rcases aR.1 hz with rfl | hz<;>rcases aR.1 Sw with rfl | Sw
  ·exact absurd rfl gz
  ·grind
  ·rw[if_neg gz,if_pos rfl];have:=NF _ hz;omega
  ·rw[if_neg (fun e=>hn (by rw[<-e];exact hz)),if_neg (fun e=>hn (by rw[<-e];exact Sw))];exact h.ne _ hz _ Sw gz
end
def YF:YT:=fun _ _=>False
def XL(mb ms:Bool)(S:Nat->Prop)(ws:ay)(o:Op):XT:=fun w0 w1 p=>mR ws w0 w1/\XB mb ms S o w0 w1 p
def Jv(st:St):List LZ->Bool
 | []=>true
 | p::r=>(dK st.fr p.d).isNone&&Nat.blt p.d st.n&&Jv st r
theorem Fk{st}:∀{Z:List LZ},Jv st Z=true->∀p∈Z,dK st.fr p.d=none/\p.d<st.n
 | q::r,h,p,hp=>by
  simp only[Jv,aQ,Option.isNone_iff_eq_none]at h;rcases aR.1 hp with rfl | hp
  ·simp_all
  ·exact Fk h.2 p hp
def St.wD(st:St):St:={st with mv:=true}
def eqA:List Bool->List Bool->Bool
 | [],[]=>true
 | a::r,b::s=>(a==b)&&eqA r s
 | _,_=>false
theorem OT:∀{l m:List Bool},eqA l m=true->l=m
 | [],[],_=>rfl
 | a::r,b::s,h=>by
  simp[eqA]at h;rw[h.1,OT h.2]
def lL(P:Program)(ops:List Oper)(mb ms:Bool)(S:Nat->Prop)(ws:ay)(mk:List (Nat×Nat))(st:St)(o:Oper)(D:List (Nat×Nat)->St->Prop):Prop:=
 bif jb P o.op then False else Tm st ops o (fun st=>eN st fun st=>loud P (XL mb ms S ws o.op) YF st o fun s=>bif s.mv then False else D ((st.w0.heap.size,s.w0.heap.size)::mk) s.wD) (fun st=>D mk (St.wD (st.put o.dst .un)))
def fqG(P:Program)(ops:List Oper)(Zi:List Nat)(bH:Array Bool):List Nat->Option Nat
 | []=>none
 | i::r=>(match gM ops i with
  | some o=>bif jb P o.op&&XI ops Zi (bH.setIfInBounds i true)then some i else fqG P ops Zi bH r
  | none=>fqG P ops Zi bH r)
def fqZ(P:Program)(ops:List Oper)(Zi:List Nat)(bH:Array Bool)(l:List Nat):Option Nat:=
 match fqG P ops Zi bH l with
 | some q=>some q
 | none=>fq P ops l
def Md(P:Program)(ops:List Oper)(mb ms:Bool)(S:Nat->Prop)(ws:ay)(Z:List LZ)(wI:Array Bool)(gm:Nat)(K:List (Nat×Nat)->St->Prop):Nat->Array Bool->List (Nat×Nat)->St->Prop
 | 0,_,_,_=>False
 | g+1,bH,mk,st=>bif uS bH (nf Z)&&Jv st Z then(match AV (nf Z) (Region.ready .any ops.toArray bH)with
  | []=>bif Tn ops bH (nf Z) (nf Z)&&eqA bH.toList wI.toList&&Nat.beq (g+1) gm&&Nat.ble (nf Z).length (g+1)then K mk st else False
  | i::r=>bif XI ops (nf Z) bH&&Nat.ble (nf Z).length g then(match fqZ P ops (nf Z) bH (i::r)with
   | some q=>cj (gM ops q) fun o=>bif okT ops bH q&&(i::r).contains q then
    Tm st ops o (fun st=>qP P ops mb ms S bH q o st.wD fun st=>Md P ops mb ms S ws Z wI gm K g (bH.setIfInBounds q true) mk st.wD) (fun st=>Md P ops mb ms S ws Z wI gm K g (bH.setIfInBounds q true) mk (St.wD (st.put o.dst .un)))else False
   | none=>(match r with
    | []=>cj (gM ops i) fun o=>lL P ops mb ms S ws mk st o fun mk st=>Md P ops mb ms S ws Z wI gm K g (bH.setIfInBounds i true) mk st
    | [j]=>cj (gM ops i) fun o=>cj (gM ops j) fun o'=>
     lL P ops mb ms S ws mk st o (fun mk st=>Md P ops mb ms S ws Z wI gm K g (bH.setIfInBounds i true) mk st)/\
     lL P ops mb ms S ws mk st o' (fun mk st=>Md P ops mb ms S ws Z wI gm K g (bH.setIfInBounds j true) mk st)
    | [j,k]=>cj (gM ops i) fun o=>cj (gM ops j) fun o'=>cj (gM ops k) fun o''=>
     lL P ops mb ms S ws mk st o (fun mk st=>Md P ops mb ms S ws Z wI gm K g (bH.setIfInBounds i true) mk st)/\
     lL P ops mb ms S ws mk st o' (fun mk st=>Md P ops mb ms S ws Z wI gm K g (bH.setIfInBounds j true) mk st)/\
     lL P ops mb ms S ws mk st o'' (fun mk st=>Md P ops mb ms S ws Z wI gm K g (bH.setIfInBounds k true) mk st)
    | _=>False))else False)else False
section
variable {P:Program} {ops:List Oper} {mb ms:Bool} {S:Nat->Prop} {β:Nat->Nat} {a:Act} {w:ay} {ws:ay} {Z:List LZ} {wI:Array Bool} {gm:Nat}
theorem Rep.late{st}(hR:Rep β st a w)(hm:st.mv=true){d}{v}(hd:dK st.fr d=none){w1}(hO:Only [] w w1):Rep β st (a.put (some d) v) w1:=by
 obtain⟨p1,p2,p3⟩:=jQ a _ v;refine⟨qy ⟨p1.trans hR.ok.sz,p2.trans hR.ok.df,fun i p hl hi=>?_⟩,fun i b hb ho=>?_,hR.ne,hR.only.cz hO,fun h=>by rw[hm]at h;cases h⟩
 ·rw[p3 i (by grind)];exact hR.ok.at_ i p hl hi
 ·obtain⟨k1,k2,k3⟩:=hR.bx i b hb ho;exact⟨hO.blk k1 (by simp),k2,k3⟩
theorem Rep.wD{st}(hR:Rep β st a w):Rep β st.wD a w:=⟨hR.fr,hR.bx,hR.ne,hR.only,fun h=>by cases h⟩
theorem Ext.wD st:Ext st st.wD:=⟨rfl,aY _,fun _ _ _ h _=>h,fun i b h ho _=>⟨b,h,ho,rfl,rfl,rfl,fun _ h=>h⟩,Og,Et⟩
theorem ack{Q}{j}{o}{st}{mk}{D}(hj:gM ops j=some o)(h:lL P ops mb ms S ws mk st o D)(hR:Rep β st a w):
  wpOp P ops.toArray Q j (fun a' w'=>EE P ops mb ms S j w w'/\(∀i,o.dst≠some i->a'.tmps[i]? =a.tmps[i]?)/\∃β' cH mk',D mk' cH/\Ext st cH/\cH.mv=true/\Rep β' cH a' w'/\((mk'=mk/\w'=w)∨(mk'=(w.heap.size,w'.heap.size)::mk/\mR ws w w'))) a w:=by
 rcases mh h with⟨_,h⟩ | ⟨hp,h⟩
 ·exact h.elim
 have NE:ops.toArray[j]? =some o:=by rw[jC]at hj;simpa using hj
 unfold wpOp;simp only[NE];obtain⟨s,e1,gY,h1⟩:=za h hR;rcases h1 with⟨hw,h1⟩ | ⟨hw,h1⟩
 ·rw[if_pos hw];left;obtain⟨s1,h2,e2,WD,NK,_⟩:=dR h1 gY;have hEE:EE P ops mb ms S j=fun w w'=>bif mb&&(ms||!xD o.op)then bS S w w' else True:=by
   unfold EE;simp_all
  have:=XJ (CY (E:=fun w w'=>EE P ops mb ms S j w w'/\mR ws w w') (Q:=Q) (fun w0 w1 p hx=>?_) (fun w w1 hO=>?_) (fun hs bk k w w1 p hy hk hO=>hy.elim) h2 WD)
  ·refine Oper.wp_mono ?_ this;rintro a' w' ⟨⟨β',cH,k1,k2,k3,k4⟩,k5⟩;rcases mh k1 with⟨_,k1⟩ | ⟨km,k1⟩
   ·exact k1.elim
   refine⟨k3.1,k5,β',cH.wD,_,k1,((e1.trans e2).trans k2).trans (Ext.wD _),rfl,k4.wD,.inr ⟨?_,k3.2⟩⟩;rw[<-k4.still km,<-WD.still NK]
  ·rw[hEE];obtain⟨hN,hx⟩:=hx;unfold XB at hx;cases hb:(mb&&(ms||!xD o.op))<;>grind
  ·rw[hEE];refine⟨?_,mR.Lq hO⟩;cases(mb&&_)with
   | true=>exact bS.only hO
   | false=>exact trivial
 ·rw[if_neg (by grind)];exact⟨qE hj w,(jQ _ _ _).2.2,β,_,mk,h1,(e1.trans (Ext.put _ _ _)).trans (Ext.wD _),rfl,(gY.put o.dst .un).wD,.inl ⟨rfl,trivial⟩⟩
theorem OU{Q:Exit->Act->ay->Prop}(hQ:∀c a w,¬Q (.panic c) a w)(hZ:∀p∈Z,∃o,gM ops p.z=some o/\ua P p.z o=some p)(hzo:zOk ops Z=true)(hnd:(nf Z).Nodup){s0:St}{K:List (Nat×Nat)->St->Prop}
  (hK:∀mk st β a w bz D m,K mk st->Ext s0 st->Rep β st a w->Late Z ws bz D mk a w->D.Perm (nf Z)->m+D.length=gm->fU P .any ops.toArray Q (EE P ops mb ms S) m (eO wI D) a w):
  ∀(m g:Nat) {bH:Array Bool} {mk:List (Nat×Nat)} {st:St} {β:Nat->Nat} {a:Act} {w:ay} {bz:Nat->Nat} {D Pd:List Nat},Md P ops mb ms S ws Z wI gm K g bH mk st->Ext s0 st->st.mv=true->Rep β st a w->Late Z ws bz D mk a w->(D++Pd).Perm (nf Z)->m+D.length=g->
   fU P .any ops.toArray Q (EE P ops mb ms S) m (eO bH D) a w:=by
 intro m;have hu:∀p∈Z,∀q∈Z,p.z=q.z->p=q:=fun p hp q hq e=>by
  obtain⟨o,h1,h2⟩:=hZ p hp;obtain⟨o',h3,h4⟩:=hZ q hq;rw[e,h3]at h1;injection h1 with h1;subst h1;rw[e,h4]at h2;injection h2 with h2;exact h2.symm
 have hdo:∀p∈Z,∀j o,gM ops j=some o->j≠p.z->o.dst≠some p.d:=fun p hp j o hj gz=>OQ (OS hzo p hp) hj (by rw[bM];exact gz);have Sy:∀p∈Z,∀q∈Z,p.z≠q.z->p.d≠q.d:=fun p hp q hq gz e=>by
  obtain⟨o',h3,h4⟩:=hZ q hq;exact hdo p hp q.z o' h3 (Ne.symm gz) (by rw[(lz h4).2.2.1,e])
 induction m using Nat.strongRecOn with
 | ind m ih=>
 intro g bH mk st β a w bz D Pd h he hm hR hL hp hg;cases g with
 | zero=>exact h.elim
 | succ g=>
 have h0:=h;unfold Md at h;obtain⟨hc,h⟩:=dw h;simp only[aQ]at hc;obtain⟨hun,hfz⟩:=hc;have hun:=wX hun;have hDZ:∀x∈D,x∈nf Z:=hL.sub;have hPZ:∀x∈Pd,x∈nf Z:=fun x hx=>hp.subset (List.mem_append_right _ hx);have fu:D.length+Pd.length=(nf Z).length:=by have:=hp.length_eq;rwa[aU]at this
 have akT:(D++Pd).Nodup:=hp.nodup_iff.2 hnd;have hPD:∀x∈Pd,x∉D:=fun x hx hd=>(List.nodup_append.1 akT).2.2 x hd x hx rfl;have hrz:∀j∈Region.ready .any ops.toArray (eO bH D),j∈nf Z->j∈Pd:=fun j hj uq=>by
  have h1:j∉D:=fun hd=>by
   have:=(mem_ready.1 hj).1;rw[nN.2 (.inr hd)]at this;cases this
  rcases ch.1 (hp.mem_iff.2 uq)with h2 | h2
  ·exact absurd h2 h1
  ·exact h2
 have aeD:∀j∈Region.ready .any ops.toArray bH,j∉nf Z->j∈Region.ready .any ops.toArray (eO bH D):=fun j hj uq=>vX (l:=bH) (D:=[]) (E:=D) (by simp) hj fun k=>uq (hDZ j k);have hpr:∀z∈Pd,z∈Region.ready .any ops.toArray (eO bH D):=fun z hz=>by
  obtain⟨p,IK,rfl⟩:=ni.1 (hPZ z hz);obtain⟨o,ho,bX⟩:=hZ p IK;refine mem_ready.2 ⟨?_,o,by rw[jC]at ho;simpa using ho,fun e he=>?_⟩
  ·rw[fh];intro k;rcases nN.1 k with k | k
   ·rw[hun _ (hPZ _ hz)]at k;cases k
   ·exact hPD _ hz k
  ·rw[Array.mem_def,(lz bX).2.2.2.2.1]at he;cases he
 have AL:∀{m'},m=m'+1->∀j∈Pd,wpOp P ops.toArray Q j (fun a' w'=>EE P ops mb ms S j w w'/\fU P .any ops.toArray Q (EE P ops mb ms S) m' ((eO bH D).setIfInBounds j true) a' w') a w:=by
  intro m' em j hj;obtain⟨p,IK,rfl⟩:=ni.1 (hPZ j hj);obtain⟨o,ho,bX⟩:=hZ p IK;obtain⟨_,l2,l3,l4,l5,l6,l7⟩:=lz bX;obtain⟨fz1,fz2⟩:=Fk hfz p IK;have NJ:ops.toArray[p.z]? =some o:=by rw[jC]at ho;simpa using ho
  unfold wpOp;simp only[NJ];rw[if_pos (wn l4)];left;obtain⟨dst,op,t',pp,af,g0⟩:=o;dsimp only at l2 l3 l4 l5;subst l2 l3 l4;obtain⟨z,z1,z2⟩:=VD l6 w;refine EP z1 (z2 β0) (fun _=>rfl) fun b w1 hb hO hB=>⟨?_,?_⟩
  ·unfold EE;rw[ho];dsimp only;rw[show jb P (.alloc p.t)=false from rfl,tH];cases(mb&&(ms||!xD (.alloc p.t)))with
   | true=>exact bS.only hO
   | false=>exact trivial
  ·rw[<-nM];exact ih m' (by omega) (g+1) (D:=p.z::D) (Pd:=Pd.erase p.z) h0 he hm (hR.late hm fz1 hO) (hL.alloc hu Sy IK (hPD _ hj) hb hO hB (by rw[hR.ok.sz];exact fz2))
    ((List.perm_middle.symm.trans ((List.perm_cons_erase hj).symm.append_left D)).trans hp) (by rw[bp];omega)
 split at h
 ·rename_i Rl;obtain⟨hc,h⟩:=dw h;simp only[aQ]at hc;obtain⟨⟨⟨c1,c2⟩,c3⟩,c4⟩:=hc;have akV:bH=wI:=Nl.1 (OT c2);have egm:=bW c3;have c4:=cP c4;cases hPd:Pd with
  | nil=>
   rw[hPd,bR]at hp;rw[akV];exact hK mk st β a w bz D m h he hR hL hp (by omega)
  | cons z Pd'=>
   have hzm:z∈Pd:=by rw[hPd];exact dV
   have Rm:Pd.length=Pd'.length+1:=by rw[hPd];rfl
   obtain⟨m',rfl⟩:∃m',m=m'+1:=⟨m-1,by omega⟩
   refine⟨fun h0=>?_,fun j hj=>AL rfl j ?_⟩
   ·have:=hpr z hzm;rw[h0]at this;cases this
   ·by_cases uq:j∈nf Z
    ·exact hrz j hj uq
    ·exfalso;have h1:j∈Region.ready .any ops.toArray (eO bH ((nf Z).erase z)):=vX (fun x hx=>(List.mem_erase_of_ne (fun e=>hPD z hzm (by rw[<-e];exact hx))).2 (hDZ x hx)) hj (fun k=>uq (List.mem_of_mem_erase k));have:=Ju c1 z (hPZ z hzm) j h1;exact uq (this▸hPZ z hzm)
 ·rename_i i r Rl;obtain⟨c0,h⟩:=dw h;simp only[aQ,XI]at c0;have Zs:=Fi c0.1;have c0:=cP c0.2;have Zu:∀j∈Region.ready .any ops.toArray (eO bH D),j∉nf Z->j∈Region.ready .any ops.toArray bH:=fun j hj uq=>(Zs j (vX hDZ hj uq)).1;obtain⟨m',rfl⟩:∃m',m=m'+1:=⟨m-1,by omega⟩
  have hio:∀j∈i::r,j∈Region.ready .any ops.toArray bH/\j∉nf Z:=fun j hj=>pI.1 (by rw[Rl];exact hj);have gz:Region.ready .any ops.toArray (eO bH D)=[]->False:=fun h0=>by
   have:=aeD i (hio i dV).1 (hio i dV).2;rw[h0]at this;cases this
  have hdz:∀j o,gM ops j=some o->j∉nf Z->∀p∈Z,o.dst≠some p.d:=fun j o hj uq p hp=>hdo p hp j o hj fun e=>uq (ni.2 ⟨p,hp,e.symm⟩);have LL:∀{j:Nat} {o:Oper},gM ops j=some o->j∉nf Z->lL P ops mb ms S ws mk st o (fun mk st=>Md P ops mb ms S ws Z wI gm K g (bH.setIfInBounds j true) mk st)->
    wpOp P ops.toArray Q j (fun a' w'=>EE P ops mb ms S j w w'/\fU P .any ops.toArray Q (EE P ops mb ms S) m' ((eO bH D).setIfInBounds j true) a' w') a w:=by
   intro j o ho uq h;refine wpOp_mono (fun a' w' hh=>⟨hh.1,?_⟩) (ack ho h hR);obtain⟨k0,k1,β',cH,mk',k2,k3,k4,k5,k6⟩:=hh;rw[<-nM];have rA:∀p∈Z,a'.tmps[p.d]? =a.tmps[p.d]? :=fun p hp=>k1 _ (hdz j o ho uq p hp);have hL':Late Z ws bz D mk' a' w':=by
    rcases k6 with⟨rfl,rfl⟩ | ⟨rfl,k6⟩
    ·exact hL.act rA
    ·exact hL.loud k6 rA
   exact ih m' (by omega) g k2 (he.trans k3) k4 k5 hL' hp (by omega)
  split at h
  ·rename_i q hq;obtain⟨o,ho,h⟩:=bB h;obtain⟨hc,h⟩:=dw h;simp only[aQ,okT]at hc;obtain⟨⟨⟨⟨⟨c1,c2⟩,c3⟩,c4⟩,c5⟩,c6⟩:=hc;obtain⟨hq1,hq2⟩:=hio q (by simpa using c6);have NJ:ops.toArray[q]? =some o:=by rw[jC]at ho;simpa using ho
   have qf:qu .any ops.toArray (eO bH D):=AW (Bj c3) fun z hz o hoz=>by
    obtain⟨p,IK,rfl⟩:=ni.1 (hDZ z hz);obtain⟨o2,Zp,bX⟩:=hZ p IK;rw[jC]at Zp;have:o2=o:=by
     have e:ops.toArray[p.z]? =some o2:=by simpa using Zp
     rw[hoz]at e;injection e with e;exact e.symm
    rw[<-this];exact(lz bX).2.2.2.2.1
   have hN:∀k∈Sf bH 0 ops,(eO bH D).getD k true=true:=fun k hk=>nN.2 (.inl (by simpa using(dS.1 c5) k hk));have LA:=Region.free_spec NJ c2;have D8:∀j oj,ops.toArray[j]? =some oj->j≠q->(eO bH D).getD j true=false->(∀e∈oj.after,Region.binds .any e=true->e.on≠q)->o.apart ops.toArray oj=true:=fun j oj h1 h2 h3 h4=>LA j oj h1 h2 (by
    rw[fh]at h3⊢;exact fun k=>h3 (nN.2 (.inl k))) h4
   have hqr:=aeD q hq1 hq2;obtain⟨s,e1,gY,h1⟩:=za h hR;have rA:∀v,∀p∈Z,(a.put o.dst v).tmps[p.d]? =a.tmps[p.d]? :=fun v p hp=>(jQ _ _ _).2.2 _ (hdz q o ho hq2 p hp);rcases h1 with⟨hw,h1⟩ | ⟨hw,h1⟩
   ·obtain⟨v,s2,F,k1,k2,k3,k4,k5,k6,k7⟩:=VI h1 gY.wD;refine qv NJ (Region.noSelect_spec c1) (fun c a w hp=>(hQ _ _ _ hp).elim) c4 (Sf bH 0 ops) k5 (fun w1 _=>qE ho w1) m' (eO bH D) a w qf hN D8 hqr (Vv hw k7) k4 ?_;rw[<-nM];exact ih m' (by omega) g k1 (((he.trans e1).trans (Ext.wD _)).trans (k2.trans (Ext.wD _))) rfl k3.wD (hL.act (rA v)) hp (by omega)
   ·refine qv (v:=undef) (F:=fun _=>True) NJ (Region.noSelect_spec c1) (fun c a w hp=>(hQ _ _ _ hp).elim) c4 (Sf bH 0 ops) (fun _ _ _ _ _ _ _=>trivial) (fun w1 _=>qE ho w1) m' (eO bH D) a w qf hN D8 hqr (ab0 hw) trivial ?_;rw[<-nM];exact ih m' (by omega) g h1 ((he.trans e1).trans ((Ext.put _ _ _).trans (Ext.wD _))) rfl (gY.put o.dst .un).wD (hL.act (rA undef)) hp (by omega)
  ·split at h
   ·obtain⟨o,ho,h⟩:=bB h;refine⟨fun h0=>(gz h0).elim,fun j hj=>?_⟩;by_cases uq:j∈nf Z
    ·exact AL rfl j (hrz j hj uq)
    ·have:j∈AV (nf Z) (Region.ready .any ops.toArray bH):=pI.2 ⟨Zu j hj uq,uq⟩;rw[Rl]at this;obtain rfl:j=i:=by simpa using this
     exact LL ho uq h
   ·rename_i i' _;obtain⟨o,ho,h⟩:=bB h;obtain⟨o',NJ,h⟩:=bB h;refine⟨fun h0=>(gz h0).elim,fun j hj=>?_⟩;by_cases uq:j∈nf Z
    ·exact AL rfl j (hrz j hj uq)
    ·have:j∈AV (nf Z) (Region.ready .any ops.toArray bH):=pI.2 ⟨Zu j hj uq,uq⟩;rw[Rl]at this;rcases aR.1 this with rfl | this
     ·exact LL ho uq h.1
     ·have:=aO.1 this;subst this;exact LL NJ uq h.2
   ·rename_i i' i'' _;obtain⟨o,ho,h⟩:=bB h;obtain⟨o',NJ,h⟩:=bB h;obtain⟨o'',ak0,h⟩:=bB h;refine⟨fun h0=>(gz h0).elim,fun j hj=>?_⟩;by_cases uq:j∈nf Z
    ·exact AL rfl j (hrz j hj uq)
    ·have:j∈AV (nf Z) (Region.ready .any ops.toArray bH):=pI.2 ⟨Zu j hj uq,uq⟩;rw[Rl]at this;rcases aR.1 this with rfl | this
     ·exact LL ho uq h.1
     ·rcases aR.1 this with rfl | this
      ·exact LL NJ uq h.2.1
      ·have:=aO.1 this;subst this;exact LL ak0 uq h.2.2
   ·exact h.elim
end
def St.D1(st:St)(d:Nat)(t:TypeId)(zs:List SV)(b:Nat):St:=
 St.put {st with bx:=st.bx++[⟨some b,t,zs,st.ct,true,false,false⟩],ct:=st.ct+1} (some d) (.box st.bx.length 0)
theorem Ext.D1 st d t zs b:Ext st (st.D1 d t zs b):=by
 refine Ext.trans (t:={st with bx:=st.bx++[_],ct:=st.ct+1}) ⟨rfl,iy _,fun _ _ _ h _=>h,fun i b' hb ho hs=>?_,fun i b hb=>?_,Et⟩ (Ext.put _ _ _)
 ·rw[jR]at hb
  grind
 ·exact⟨b,by dsimp only;rw[jR,if_neg (by have:=qA hb;omega)];exact hb,rfl,rfl,fun _ h=>h⟩
section
variable {β:Nat->Nat} {st:St} {a:Act} {w:ay}
theorem Rep.D1(hR:Rep β st a w){d}{t}{zs}{b}(h1:L5 st.bx.length st.fr=true)(h2:HF st.bx.length st.bx=true)(hdt:yU st.bx st.dt=true)(qf:gZ (fun _=>false) zs=true)
  (hs:a.tmps[d]? =some (.pointer (some ⟨b,0,none⟩))) (hB:Blk w b t (cu β0 zs)) (gz:∀i c,cV st.bx i=some c->c.ok=true->β i≠b):
  Rep (AG β st.bx.length b) (st.D1 d t zs b) a w:=by
 have tR:AG β st.bx.length b st.bx.length=b:=by unfold AG;rw[if_pos rfl]
 have bX:∀{i c},cV st.bx i=some c->AG β st.bx.length b i=β i:=fun{i c} h=>by
  unfold AG;rw[if_neg];have:=qA h;omega
 have base:Rep (AG β st.bx.length b) {st with bx:=st.bx++[⟨some b,t,zs,st.ct,true,false,false⟩],ct:=st.ct+1} a w:=by
  refine⟨qy ⟨hR.ok.sz,hR.ok.df,fun i p hl hi=>?_⟩,fun i c hc ho=>?_,fun i j bi bj g1 g2 g3 g4 rk=>?_,?_,hR.still⟩
  ·rw[hR.ok.at_ i p hl hi];congr 1;exact iz (g:=fun j=>!Nat.beq j st.bx.length) yX _ (CT h1 i p hl)
  ·rw[jR]at hc;split at hc
   ·rename_i he;simp at hc;subst hc;subst he;refine⟨?_,fun k hk=>?_,fun hk=>(by cases hk)⟩
    ·rw[tR];rw[gH (g:=fun _=>false) (β:=AG β st.bx.length b) (β':=β0) (fun i h=>(by cases h)) _ qf];exact hB
    ·simp_all
   ·have e:=bX hc;obtain⟨k1,k2,k3⟩:=hR.bx i c hc ho;refine⟨?_,fun k hk=>by rw[e];exact k2 k hk,fun hk=>by rw[e];exact k3 hk⟩;rw[e,<-gH (g:=fun j=>!Nat.beq j st.bx.length) (β:=β) (β':=AG β st.bx.length b) yX _ (CU h2 i c hc ho)];exact k1
  ·rw[jR]at g1 g2;split at g1
   ·grind
   ·split at g2
    ·grind
    ·rw[bX g1,bX g2];exact hR.ne i j bi bj g1 g2 g3 g4 rk
  ·have e:=ru fun i hi=>by
    obtain⟨c,hc,_⟩:=sL hdt i hi;exact bX hc
   rw[e];exact hR.only
 refine⟨qy ⟨base.ok.sz,base.ok.df,fun i p hl hi=>?_⟩,base.bx,base.ne,base.only,base.still⟩;simp[St.D1,St.put,dK]at hl;cases hb:Nat.beq d i with
 | true=>
  rw[hb]at hl;simp at hl;subst hl;have:=bW hb;subst this;rw[hs];show _=some (Value.pointer _);rw[tR]
 | false=>rw[hb]at hl;exact base.ok.at_ i p (by simpa using hl) hi
end
def neN(b:Nat):List Nat->Prop->Prop
 | [],p=>p
 | x::r,p=>x≠b->neN b r p
theorem OW{b}:∀{l:List Nat} {p:Prop},neN b l p->(∀x∈l,x≠b)->p
 | [],_,h,_=>h
 | x::r,p,h,hb=>OW (h (hb x dV)) fun y hy=>hb y (dc _ hy)
def XK(ws:ay)(mk:List (Nat×Nat)):List LZ->List Nat->St->(St->Prop)->Prop
 | [],_,st,K=>K st
 | p::r,seen,st,K=>bif chk st p.zs then ∀b,ws.heap.size<=b->b<st.w0.heap.size->zd mk b->neN b seen (XK ws mk r (b::seen) (st.D1 p.d p.t p.zs b) K)else False
theorem Jw{ws}{mk}{bz:Nat->Nat}{a}{w}:∀{r:List LZ} {seen:List Nat} {st:St} {K:St->Prop} {β:Nat->Nat},XK ws mk r seen st K->Rep β st a w->st.mv=false->
  (∀p∈r,a.tmps[p.d]? =some (.pointer (some ⟨bz p.z,0,none⟩))/\Blk w (bz p.z) p.t (cu β0 p.zs)/\ws.heap.size<=bz p.z/\zd mk (bz p.z)/\gZ (fun _=>false) p.zs=true/\(∀x∈seen,x≠bz p.z)/\∀i c,cV st.bx i=some c->c.ok=true->β i≠bz p.z)->
  (nf r).Nodup->(∀p∈r,∀q∈r,p.z≠q.z->bz p.z≠bz q.z)->∃cH β',K cH/\Ext st cH/\Rep β' cH a w
 | [],_,st,K,β,h,hR,_,_,_,_=>⟨st,β,h,Ext.refl _,hR⟩
 | p::r,seen,st,K,β,h,hR,hm,hp,hn,hd=>by
  obtain⟨hc,h⟩:=dw h;simp[chk,aQ]at hc;obtain⟨h1,h2,h3,h4,h5,h6,h7⟩:=hp p dV;have h:=OW (h _ h3 (by rw[<-hR.still hm];exact h2.lt) h4) h6;simp[nf,kw]at hn;have hpq:∀q∈r,p.z≠q.z:=fun q hq e=>hn.1 (ni.2 ⟨q,hq,e.symm⟩);have bX:∀{i c},cV st.bx i=some c->AG β st.bx.length (bz p.z) i=β i:=fun{i c} h=>by
   unfold AG;rw[if_neg];have:=qA h;omega
  obtain⟨cH,β',k1,k2,k3⟩:=Jw h (hR.D1 hc.1.1.1 hc.1.1.2 hc.2 h5 h1 h2 h7) hm (fun q hq=>by
   obtain⟨g1,g2,g3,g4,g5,g6,g7⟩:=hp q (dc _ hq);have gz:=hd p dV q (dc _ hq) (hpq q hq);refine⟨g1,g2,g3,g4,g5,fun x hx=>?_,fun i c hc ho=>?_⟩
   ·rcases aR.1 hx with rfl | hx
    ·exact gz
    ·exact g6 x hx
   ·simp[St.D1,St.put]at hc;rw[jR]at hc;split at hc
    ·rename_i e;subst e;unfold AG;simp_all
    ·rw[bX hc];exact g7 i c hc ho) hn.2 fun x hx y hy=>hd x (dc _ hx) y (dc _ hy)
  exact⟨cH,β',k1,(Ext.D1 _ _ _ _ _).trans k2,k3⟩
def ph2(P:Program)(ops:List Oper)(mb ms:Bool)(S:Nat->Prop)(ws:ay)(Z:List LZ)(wI:Array Bool)(gm nb:Nat)(mk:List (Nat×Nat))(st:St)(K:St->Prop):Prop:=
 bif Nat.beq st.bx.length nb then eN st fun st=>XK ws mk Z [] st fun st=>Fb P ops mb ms S (gm-(nf Z).length) (eO wI (nf Z)) st K else False
def Jx(P:Program)(ops:List Oper)(jn:Bool)(kp:List Nat)(mi:List MI)(mb ms:Bool)(S:Nat->Prop)(Z:List LZ)(wI:Array Bool)(gm:Nat)(st:St)(K:St->Prop):Prop:=
 bif pF st.bx then
  (bif jn then ∃J:List _->JT _,(∀mk,E9 _ (J mk) fun vs w=>ph2 P ops mb ms S st.w0 Z wI gm st.bx.length mk (lw st kp mi vs w) K)/\
   Md P ops mb ms S st.w0 Z wI gm (fun mk s=>eN s fun s=>Mb st kp mi (J mk) s) ops.length (Array.replicate ops.length false) [] (St.wD (st.ob (zSl Z)))
  else Md P ops mb ms S st.w0 Z wI gm (fun mk s=>ph2 P ops mb ms S st.w0 Z wI gm st.bx.length mk s K) ops.length (Array.replicate ops.length false) [] (St.wD (st.ob (zSl Z))))else False
def OX(ops:List Oper)(Zi:List Nat):Nat->Array Bool->Array Bool
 | 0,l=>l
 | f+1,l=>match AV Zi (Region.ready .any ops.toArray l)with
  | []=>l
  | i::_=>OX ops Zi f (l.setIfInBounds i true)
def Tp:List Bool->Nat
 | []=>0
 | b::r=>bif b then Tp r else Tp r+1
theorem Jy:∀{l:List jN} {i:Nat},i<l.length->∃b,cV l i=some b
 | b::r,0,_=>⟨b,rfl⟩
 | b::r,i+1,h=>Jy (l:=r) (by simpa using h)
section
variable {P:Program} {ops:List Oper} {mb ms:Bool} {S:Nat->Prop} {β:Nat->Nat} {a:Act} {w:ay} {wI:Array Bool} {gm:Nat} {jn:Bool} {kp:List Nat} {mi:List MI} {st:St} {K:St->Prop}
theorem OY{Q}(hQ:∀c a w,¬Q (.panic c) a w)(hzo:zOk ops (ky P 0 ops)=true)(h:Jx P ops jn kp mi mb ms S (ky P 0 ops) wI gm st K)(hR:Rep β st a w)(rB:st.mv=false)
  (hK:∀β' cH a' w',K cH->Ext st cH->Rep β' cH a' w'->Q .normal a' w'):fU P .any ops.toArray Q (EE P ops mb ms S) ops.length (Array.replicate ops.length false) a w:=by
 have hnd:(nf (ky P 0 ops)).Nodup:=zf;have hZ:∀p∈ky P 0 ops,∃o,gM ops p.z=some o/\ua P p.z o=some p:=fun p hp=>by
  obtain⟨j,o,h1,h2,h3⟩:=ze hp
  grind
 generalize ky P 0 ops=Z at*
 obtain⟨hbd,h⟩:=dw h;rw[<-hR.still rB]at h;have two:∀mk cH β' a' w' bz D m,ph2 P ops mb ms S w Z wI gm st.bx.length mk cH K->Ext st cH->Rep β' cH a' w'->Late Z w bz D mk a' w'->D.Perm (nf Z)->m+D.length=gm->fU P .any ops.toArray Q (EE P ops mb ms S) m (eO wI D) a' w':=by
  intro mk cH β' a' w' bz D m h he WE hL hp hg;obtain⟨fu,h⟩:=dw h;have fu:=bW fu;obtain⟨s1,h1,e1,gY,NL,_,_,_,hl1⟩:=dR h WE;have hx:=he.trans e1;have hold:∀i c,cV s1.bx i=some c->c.ok=true->β' i<w.heap.size:=fun i c hc ho=>by
   obtain⟨b,hb⟩:=Jy (l:=st.bx) (i:=i) (by have:=qA hc;omega);obtain⟨c',k1,k2,k3,k4⟩:=hx.ps i b hb;rw[hc]at k1;injection k1 with k1;subst k1;have EB:b.ok=true:=by rw[<-k3];exact ho
   obtain⟨k,hk⟩:=dQ.1 (uN hbd i b hb EB);rw[(gY.bx i c hc ho).at_ k (k4 k hk),<-(hR.bx i b hb EB).at_ k hk];exact(hR.bx i b hb EB).blk.lt
  have hD:=fun p IK=>hp.mem_iff.2 (ni.2 ⟨p,IK,rfl⟩);obtain⟨s2,β2,k1,k2,k3⟩:=Jw (bz:=bz) h1 gY NL (fun p IK=>by
   obtain⟨g1,g2,g3,g4⟩:=hL.at_ p IK (hD p IK);obtain⟨o,_,ho⟩:=hZ p IK;exact⟨g1,g2,g3,g4,(lz ho).2.2.2.2.2.2,by simp,fun i c hc ho=>by grind⟩) hnd fun p IK q hqZ=>hL.ne _ (hD p IK) _ (hD q hqZ)
  have:=hp.length_eq;rw[Fh hp,show m=gm-(nf Z).length by omega];exact rK hQ k1 k3 fun β3 s3 a3 w3 m1 m2 m3=>hK β3 s3 a3 w3 m1 ((hx.trans k2).trans m2) m3
 have Sz:Late Z w (fun _=>0) [] [] a w:=⟨fun p _ h=>(by cases h),fun _ h=>(by cases h),fun _ h=>(by simp),fun _ h=>(by cases h),aY _⟩
 have hR0:=Rep.wD (hR.frame (fr':=yQ _ st.fr) fun i p hl=>by
  cases he:(zSl Z).elem i with
  | true=>rw[(kf (l:=st.fr)).1 he]at hl;cases hl
  | false=>rw[(kf (l:=st.fr)).2 he]at hl;exact⟨p,hl,rfl⟩)
 have he0:Ext st (St.wD (st.ob (zSl Z))):=(Ext.ob _ _).trans (Ext.wD _);rcases mh h with⟨_,h⟩ | ⟨_,h⟩
 ·obtain⟨J,hJ,h⟩:=h;refine OU hQ hZ hzo hnd (s0:=st) (fun mk s β' a' w' bz D m hk he WE hL hp hg=>?_) ops.length ops.length (D:=[]) (Pd:=nf Z) h he0 rfl hR0 Sz (List.Perm.refl _) rfl;obtain⟨s3,h3,e3,Zv,UR,_⟩:=dR hk WE;obtain⟨vs,k1,k2⟩:=rJ h3 Zv UR (.inl (he.trans e3)) (hJ mk);exact two mk _ _ a' w' bz D m k1 Ext.Q1 k2 hL hp hg
 ·exact OU hQ hZ hzo hnd (s0:=st) (fun mk s β' a' w' bz D m hk he WE hL hp hg=>two mk s β' a' w' bz D m hk he WE hL hp hg) ops.length ops.length (D:=[]) (Pd:=nf Z) h he0 rfl hR0 Sz (List.Perm.refl _) rfl
end
end Go.Kt.V
