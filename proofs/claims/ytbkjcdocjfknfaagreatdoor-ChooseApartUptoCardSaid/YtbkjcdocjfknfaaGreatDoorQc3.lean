import Derived.Test.YtbkjcdocjfknfaaGreatDoorQc2
set_option linter.unusedSectionVars false
namespace Go.Kt.V
open Go renaming World->av,Value->aw
open Go Go.RowKit Go.Kt
set_option linter.unusedSimpArgs false
set_option linter.unusedVariables false
def qJ(l:List aw)(i:Nat):aw:=match l,i with
 | [],_=>undef
 | v::_,0=>v
 | _::r,i+1=>qJ r i
def zp:List Nat->List aw->List (Nat×aw)
 | i::r,v::s=>(i,v)::zp r s
 | _,_=>[]
def Vk:List (Nat×SV)->List Nat
 | []=>[]
 | p::r=>p.1::Vk r
def Qi:List (Nat×SV)->List SV
 | []=>[]
 | p::r=>p.2::Qi r
theorem XF β:∀l,zp (Vk l) (cw β (Qi l))=B7 β l
 | []=>rfl
 | p::r=>by
  have:=XF β r;simp[cw]at this;simp[Vk,Qi,cw,zp,B7,this]
def aeB(P:Program)(t:TypeId):Bool:=match P.underlying t with
 | some (.pointer _)=>true
 | _=>false
def aeC:Operand->Bool
 | .const _=>true
 | _=>false
def ptS:SV->Bool
 | .ptr _=>true
 | .ad _=>true
 | _=>false
def jg(P:Program):Op->Bool
 | .move _=>true
 | .assign _=>true
 | .pick _ _ _=>true
 | .binOp _ t x y _=>!(aeB P t)||aeC x||aeC y
 | .unOp _ _ _=>true
 | .extract _ _=>true
 | .build _ _=>true
 | .makeFunc _ _ _=>true
 | .makeInterface _ _=>true
 | .nilCheck _=>true
 | .fieldAddr _ _ _=>true
 | .field _ _ _=>true
 | .indexAddr _ _ _=>true
 | .load _ _=>true
 | .index _ _ _=>true
 | .slice _ _ _ _ _=>true
 | .convert s d _=>(match P.underlying s,P.underlying d with
  | some (.int _),some (.int _)=>true
  | some .string,some .string=>true
  | some (.slice e),some .string=>(match P.underlying e with
   | some (.int .u8)=>true
   | _=>false)
  | _,_=>false)
 | .call c=>(match c.callee with
  | .builtin .len=>(match c.argTypes.toList with
   | [t]=>(match P.underlying t with
    | some (.slice _)=>true
    | some .string=>true
    | _=>false)
   | _=>false)
  | .builtin .cap=>true
  | .builtin .min=>true
  | .builtin .max=>true
  | _=>false)
 | _=>false
def yw:Op->Bool
 | .store _ _ _=>true
 | _=>false
def aeD(P:Program)(X:XT)(st:St)(o:Oper)(b:Builtin)(ts:Array TypeId)(vs:List SV)(K:St->Prop):Prop:=match b with
 | .append=>rD P X st o.dst (BG P o.type) vs (fun l=>Builtin.append_ ts o.type l.toArray) K
 | .copy=>rD P X st o.dst (BG P o.type) vs (fun l=>Builtin.copy_ ts o.type l.toArray) K
 | .delete=>rD P X st o.dst (BG P o.type) vs (fun l=>Builtin.delete_ ts o.type l.toArray) K
 | .clear=>rD P X st o.dst (BG P o.type) vs (fun l=>Builtin.clear_ ts o.type l.toArray) K
 | .len=>rD P X st o.dst (BG P o.type) vs (fun l=>Builtin.len_ ts o.type l.toArray) K
 | .unsafeSliceData=>rD P X st o.dst (BG P o.type) vs (fun l=>Builtin.unsafeSliceData_ ts o.type l.toArray) K
 | .unsafeString=>rD P X st o.dst (BG P o.type) vs (fun l=>Builtin.unsafeString_ ts o.type l.toArray) K
 | _=>False
def NG(f:FuncId)(args:Array aw):Sem aw:=do
 match <-callFunc f args with
 | .value v=>pure v
 | _=>stuck "extV"
theorem Qj{P}{f}{args}{w w1}{v}(h:(NG f args).run P w=.ok v w1):(callFunc f args).run P w=.ok (.value v) w1:=by
 unfold NG at h;rw[Sem.run_bind]at h;cases hc:(callFunc f args).run P w with
 | ok n w2=>
  rw[hc,Result.andThen_ok]at h;cases n<;>first | (simp at h;done) | (simp at h;obtain⟨rfl,rfl⟩:=h;rfl) | (simp at h)
 | _=>rw[hc]at h;simp at h
theorem ZK{P}{a:Act}{w w1}{v}{dst}{x}{f}{first captured}{xs:List Operand}{ats}{t'}{p}{af}{g}{args}
  (hx:a.eval x=.func (.func f) first.toArray captured.toArray)
  (ha:first++xs.map a.eval++captured=args) (hc:(callFunc f args.toArray).run P w=.ok (.value v) w1):
  (execOp a.eval ⟨dst,.call ⟨.value x,xs.toArray,ats⟩,t',p,af,g⟩).run P w=.ok (.value v) w1:=by
 subst ha;simp only[execOp,resolve,hx,Deferred.ofValue,invoke]
 grind
def ZL(P:Program)(X:XT)(st:St)(o:Oper)(fv:SV)(vs:List SV)(K:St->Prop):Prop:=match fv with
 | .fn g fs cs=>bif BE fs&&BE cs&&Qc P g then eN (st.esc (mB fs++vs++mB cs)) fun st=>Qd P X st o.dst (aeA P g) g (mB fs++vs++mB cs) [] K
  else bif BE fs&&BE cs then eN (st.esc (mB fs++vs++mB cs)) fun st=>rD P X st o.dst (aeA P g) (mB fs++vs++mB cs) (fun l=>NG g l.toArray) K else False
 | .raw v=>eN (st.esc vs) fun st=>∃(g:FuncId) (fst cap:List aw),v.v=.func (.func g) fst.toArray cap.toArray/\(∀args w,(callFunc g args).run P w=.ok (.enter g args) w)/\Qf P X st o.dst (BG P o.type) g fst vs cap K
 | _=>False
abbrev YT:=Option Nat->Prop->Prop
def aeE(P:Program)(X:XT)(Y:YT)(st:St)(o:Oper)(p s:SV)(vs:List SV)(K:St->Prop):Prop:=match p with
 | .box i off=>cd (cV st.bx i) fun b=>bif b.ok&&Nat.ble (off+vs.length) b.cells.length then Y b.blk (K ((st.ta i b (spl b.cells off vs)).put o.dst .un))else False
 | .ad p=>eN (st.esc vs) fun st=>∃(bk off:Nat) (cells:List aw) (ety:TypeId),p=(⟨bk,off,none⟩)/\Blk st.w0 bk ety cells/\off+vs.length<=cells.length/\
  bif ia st.JQ vs&&pG st.bx then neB bk st.bx (∀w1,Only [bk] st.w0 w1->Blk w1 bk ety (cj cells off (cw st.bl vs))->X st.w0 w1 (K (St.put {st with w0:=w1} o.dst .un)))else False
 | _=>False
def aeF(P:Program)(st:St)(o:Oper)(fv:SV)(vs:List SV)(K:St->Prop):Prop:=match fv with
 | .fn g fs cs=>bif BE fs&&BE cs&&Qc P g then eN (st.esc (mB fs++vs++mB cs)) fun st=>bif ia st.JQ (mB fs++vs)&&ia st.JQ (mB cs)then
  K (St.put {st with df:=(g,cw st.bl (mB fs++vs),cw st.bl (mB cs))::st.df} o.dst .un)else False else False
 | _=>False
def aeG:List TypeId->List TypeId
 | []=>[]
 | _::r=>r
def loud(P:Program)(X:XT)(Y:YT)(st:St)(o:Oper)(K:St->Prop):Prop:=match o.op with
 | .binOp op t x y _=>cd (st.ev x) fun a=>cd (st.ev y) fun b=>bif ptS a&&ptS b then eN (st.esc [a,b]) fun st=>rD P X st o.dst [o.type] [a,b] (fun vs=>Go.binOp op t (qJ vs 0) (qJ vs 1)) K else False
 | .alloc t=>cd (zc P t) fun zs=>bif chk st zs then K (st.ER o.dst t zs)else False
 | .box t x=>cd (st.ev x) fun s=>cd (zA s) fun zs=>bif chk st zs then K (st.ER o.dst t zs)else False
 | .store t x y=>cd (st.ev x) fun p=>cd (st.ev y) fun s=>cd (zA s) fun vs=>bif sz P t vs.length then aeE P X Y st o p s vs K else False
 | .call c=>cd (st.M5 c.args.toList) fun vs=>(match c.callee with
  | .value f=>cd (st.ev f) fun fv=>ZL P X st o fv vs K
  | .builtin b=>eN (st.esc vs) fun st=>aeD P X st o b c.argTypes vs K
  | _=>False)
 | .defer c=>cd (st.M5 c.args.toList) fun vs=>(match c.callee with
  | .value f=>cd (st.ev f) fun fv=>aeF P st o fv vs K
  | _=>False)
 | .buildSlice t n ps=>cd (st.Un ps.toList) fun l=>eN (st.esc (Qi l)) fun st=>rD P X st o.dst [t] (Qi l) (fun vs=>Instr.buildSlice t n (zp (Vk l) vs).toArray) K
 | .makeSlice t x y=>cd (st.ev x) fun a=>cd (st.ev y) fun b=>eN st fun st=>rD P X st o.dst [t] [a,b] (fun vs=>Instr.makeSlice t (qJ vs 0) (qJ vs 1)) K
 | .makeMap t none=>eN st fun st=>rD P X st o.dst [t] [] (fun _=>Instr.makeMap t none) K
 | .makeMap t (some x)=>cd (st.ev x) fun a=>eN st fun st=>rD P X st o.dst [t] [a] (fun vs=>Instr.makeMap t (some (qJ vs 0))) K
 | .lookup t x i ok=>cd (st.ev x) fun a=>cd (st.ev i) fun b=>eN st fun st=>rD P X st o.dst (BG P o.type) [a,b] (fun vs=>Instr.lookup t (qJ vs 0) (qJ vs 1) ok) K
 | .mapUpdate t x y z=>cd (st.ev x) fun a=>cd (st.ev y) fun b=>cd (st.ev z) fun c=>eN (st.esc [a,b,c]) fun st=>Vi P X st o.dst [a,b,c] (fun vs=>Instr.mapUpdate t (qJ vs 0) (qJ vs 1) (qJ vs 2)) K
 | .insert t x y z=>cd (st.ev x) fun a=>cd (st.ev y) fun b=>cd (st.ev z) fun c=>eN (st.esc [a,b,c]) fun st=>Vi P X st o.dst [a,b,c] (fun vs=>Instr.mapUpdate t (qJ vs 0) (qJ vs 1) (qJ vs 2)) K
 | .convert s d x=>cd (st.ev x) fun a=>eN (st.esc [a]) fun st=>rD P X st o.dst [d] [a] (fun vs=>convert s d (qJ vs 0)) K
 | .range t x=>cd (st.ev x) fun a=>eN st fun st=>∃p,Qh P X st o.dst [a] (fun vs=>Instr.range t (qJ vs 0)) (.ptr p) K
 | .next x false=>cd (st.ev x) fun a=>eN st fun st=>Qh P X st o.dst [a] (fun vs=>Instr.next (qJ vs 0) false o.type) (.tup (lJ [.bl false])) K∨
  exR P (aeG (BG P o.type)) fun rs=>Qh P X st o.dst [a] (fun vs=>Instr.next (qJ vs 0) false o.type) (.tup (lJ (.bl true::rs))) K
 | .entry x=>cd (st.ev x) fun a=>eN st fun st=>Xx [.raw,.raw] fun rs=>Qh P X st o.dst [a] (fun vs=>Instr.entry (qJ vs 0)) (.tup (lJ rs)) K
 | _=>False
section
variable {P:Program} {β:Nat->Nat} {st:St} {a:Act} {w w1:av} {X:XT} {Y:YT} {E:av->av->Prop} {K:St->Prop} {Q:Exit->Act->av->Prop}
abbrev XG(E:av->av->Prop)(st:St)(K:St->Prop)(w:av)(a':Act)(w':av):Prop:=∃β' cE,K cE/\Ext st cE/\E w w'/\Rep β' cE a' w'
theorem kT(hX:∀w0 w1 p,X w0 w1 p->p/\E w0 w1){o}{E2}{args l}{run}(h:eN (st.esc l) fun st=>rD P X st o.dst E2 args run K)(hR:Rep β st a w)
  (hx:∀v w1,(run (cw β args)).run P w=.ok v w1->(execOp a.eval o).run P w=.ok (.value v) w1):o.wp P a w (XG E st K w) Q:=by
 obtain⟨s1,h1,e1,gX,hm,_⟩:=dP h (hR.esc l);obtain⟨v,w',hr,cE,k1,k2,k3,k4⟩:=KU hX h1 hm gX;exact xM v (hx v w' hr) rfl ⟨β,cE,k1,(Ext.esc st l).trans (e1.trans k2),k3,k4⟩
theorem vP(hX:∀w0 w1 p,X w0 w1 p->p/\E w0 w1){o}{E2}{args}{run}(h:eN st fun st=>rD P X st o.dst E2 args run K)(hR:Rep β st a w)
  (hx:∀v w1,(run (cw β args)).run P w=.ok v w1->(execOp a.eval o).run P w=.ok (.value v) w1):o.wp P a w (XG E st K w) Q:=by
 obtain⟨s1,h1,e1,gX,hm,_⟩:=dP h hR;obtain⟨v,w',hr,cE,k1,k2,k3,k4⟩:=KU hX h1 hm gX;exact xM v (hx v w' hr) rfl ⟨β,cE,k1,e1.trans k2,k3,k4⟩
theorem F6(hX:∀w0 w1 p,X w0 w1 p->p/\E w0 w1){o}{args l}{run}(h:eN (st.esc l) fun st=>Vi P X st o.dst args run K)(hR:Rep β st a w)
  (hx:∀w1,(run (cw β args)).run P w=.ok () w1->(execOp a.eval o).run P w=.ok .skip w1):o.wp P a w (XG E st K w) Q:=by
 obtain⟨s1,h1,e1,gX,hm,_⟩:=dP h (hR.esc l);obtain⟨w',hr,cE,k1,k2,k3,k4⟩:=Vj hX h1 hm gX;exact PV (hx w' hr) rfl ⟨β,cE,k1,(Ext.esc st l).trans (e1.trans k2),k3,k4⟩
theorem KV(hE:∀w w1,Only [] w w1->E w w1){d}{t}{zs}(hc:chk st zs=true)(h:K (st.ER d t zs))(hR:Rep β st a w){b}(hb:w.heap.size<=b)(hO:Only [] w w1)(hB:Blk w1 b t (cw β zs)):
  XG E st K w (a.put d (.pointer (some ⟨b,0,none⟩))) w1:=by
 simp[chk]at hc;exact⟨_,_,h,Ext.ER _ _ _ _,hE _ _ hO,hR.ER hc.1.1.1 hc.1.1.2 hc.1.2 hb hO hB hc.2⟩
theorem Qk(hX:∀w0 w1 p,X w0 w1 p->p/\E w0 w1){o}{E2}{f}{args}{og}{s1}(h:Qd P X s1 o.dst E2 f args og K)(hm:s1.mv=false)(e1:Ext st s1)(hR:Rep β s1 a w)
  (hx:(execOp a.eval o).run P w=.ok (.enter f (cw β args++og).toArray) w):o.wp P a w (XG E st K w) Q:=by
 refine KL hx ((Qe hX h hm hR).mono ?_);rintro e w' ⟨v,rfl,cE,k1,k2,k3,k4⟩;exact⟨v,_,rfl,rfl,β,cE,k1,e1.trans k2,k3,k4⟩
theorem NH(hX:∀w0 w1 p,X w0 w1 p->p/\E w0 w1){o}{E2}{f}{fst}{args}{og}{s1}(h:Qf P X s1 o.dst E2 f fst args og K)(hm:s1.mv=false)(e1:Ext st s1)(hR:Rep β s1 a w)
  (hx:(execOp a.eval o).run P w=.ok (.enter f (uJ (uJ fst (cw β args)) og).toArray) w):o.wp P a w (XG E st K w) Q:=by
 refine KL hx ((Qg hX h hm hR).mono ?_);rintro e w' ⟨v,rfl,cE,k1,k2,k3,k4⟩;exact⟨v,_,rfl,rfl,β,cE,k1,e1.trans k2,k3,k4⟩
theorem Ql{s}(h:ptS s=true) β:∃q,val β s=.pointer q:=by
 cases s<;>first | (cases h;done) | exact⟨_,rfl⟩
theorem Vl{a:Act}{dst}{op}{t ty}{x y}{t'}{p}{af}{g}{u v r}(hu:∃q,u=.pointer q)(hv:∃q,v=.pointer q)(hx:a.eval x=u)(hy:a.eval y=v){w w1}
  (hr:(Go.binOp op t u v).run P w=.ok r w1):(execOp a.eval ⟨dst,.binOp op t x y ty,t',p,af,g⟩).run P w=.ok (.value r) w1:=by
 obtain⟨q,rfl⟩:=hu;obtain⟨q',rfl⟩:=hv;have hg:eqGuard op t x y (.pointer q) (.pointer q')=pure ():=by cases op<;>rfl
 simp[execOp,hx,hy,hg,hr]
theorem Vm{a:Act}{dst}{x}{fn}{first captured:List aw}{xs:List Operand}{ats}{t'}{p}{af}{g}{args}{w}
  (hx:a.eval x=.func fn first.toArray captured.toArray) (ha:first++xs.map a.eval=args):
  (execOp a.eval ⟨dst,.defer ⟨.value x,xs.toArray,ats⟩,t',p,af,g⟩).run P w=.ok (.defer {target:=.fn fn captured.toArray,args:=args.toArray}) w:=by
 subst ha;simp only[execOp,resolve,hx,Deferred.ofValue];simp
theorem Qm{a:Act}{dst}{t}{x}{t'}{p}{af}{g}{u v}{w w1}(hx:a.eval x=u)(hr:(Instr.range t u).run P w=.ok v w1):
  (execOp a.eval ⟨dst,.range t x,t',p,af,g⟩).run P w=.ok (.value v) w1:=by
 simp[execOp,hx,hr]
theorem KW{a:Act}{dst}{x}{t'}{p}{af}{g}{u v}{w w1}(hx:a.eval x=u)(hr:(Instr.next u false t').run P w=.ok v w1):
  (execOp a.eval ⟨dst,.next x false,t',p,af,g⟩).run P w=.ok (.value v) w1:=by
 simp[execOp,hx,hr]
theorem Qn{a:Act}{dst}{x}{t'}{p}{af}{g}{u v}{w w1}(hx:a.eval x=u)(hr:(Instr.entry u).run P w=.ok v w1):
  (execOp a.eval ⟨dst,.entry x,t',p,af,g⟩).run P w=.ok (.value v) w1:=by
 simp[execOp,hx,hr]
theorem kU β l m:cw β (l++m)=cw β l++cw β m:=by simp[cw]
theorem DE(hX:∀w0 w1 p,X w0 w1 p->p/\E w0 w1){o:Oper}(hE:∀w w1,Only [] w w1->E w w1)(hS:yw o.op=true->∀bk k w w1 p,Y bk p->(∀j,bk=some j->k=j)->Only [k] w w1->p/\E w w1)(h:loud P X Y st o K)(hR:Rep β st a w):o.wp P a w (XG E st K w) Q:=by
 obtain⟨dst,op,t',p,af,g⟩:=o;unfold loud at h;dsimp only at h;split at h
 ·obtain⟨x,hx,h⟩:=bB h;obtain⟨y,hy,h⟩:=bB h;obtain⟨hp,h⟩:=dw h;simp only[aQ]at hp;exact kT hX h hR fun v w1 hr=>Vl (Ql hp.1 β) (Ql hp.2 β) (hR.ev hx) (hR.ev hy) hr
 ·obtain⟨zs,hz,h⟩:=bB h;obtain⟨hc,h⟩:=dw h;obtain⟨z,z1,z2⟩:=XE hz w;exact FM z1 (z2 β) (fun _=>rfl) fun b w1 hb hO hB=>KV hE hc h hR hb hO hB
 ·obtain⟨s,hs,h⟩:=bB h;obtain⟨zs,hz,h⟩:=bB h;obtain⟨hc,h⟩:=dw h;exact Zr (by rw[hR.ev hs];exact(wR hz β).1) (fun _=>rfl) fun b w1 hb hO hB=>KV hE hc h hR hb hO hB
 ·obtain⟨q,hx,h⟩:=bB h;obtain⟨s,hy,h⟩:=bB h;obtain⟨vs,hv,h⟩:=bB h;obtain⟨hsz,h⟩:=dw h;obtain⟨c1,c2⟩:=wR hv β;have hE':=hS rfl;cases q with
  | box i off=>
   obtain⟨b,hb,h⟩:=bB h;obtain⟨h1,h⟩:=dw h;simp only[aQ]at h1;have h2:=cy h1.2;refine FL (oV hsz w) (hR.ev hx) (by rw[hR.ev hy];exact c1) (fh β vs) c2 (hR.bx i b hb h1.1).blk (by rw[fh,fh];exact h2) rfl rfl fun w1 hO hB=>?_;rw[<-FX]at hB;obtain⟨h,he⟩:=hE' _ (β i) _ w1 _ h (fun j hj=>(hR.bx i b hb h1.1).at_ j hj) hO;exact⟨β,_,h,(Ext.ta hb).trans (Ext.put _ _ _),he,(hR.ta hb h1.1 hO hB).put dst .un⟩
  | ad ad=>
   simp only[aeE]at h;obtain⟨s1,h1,e1,gX,hm,_⟩:=dP h (hR.esc vs);obtain⟨bk,off,cells,ety,rfl,hB,JU,h2⟩:=h1;obtain⟨h3,h2⟩:=dw h2;simp only[aQ]at h3;obtain⟨h2,ik⟩:=IZ h2;have hw:=gX.still hm;rw[<-hw,gX.sZ h3.1]at h2;rw[<-hw]at hB;refine FL (oV hsz w) (hR.ev hx) (by rw[hR.ev hy];exact c1) (fh β vs) c2 hB (by rw[fh];exact JU) rfl rfl fun w1 hO wD=>?_;obtain⟨h4,h5⟩:=hX _ _ _ (h2 w1 hO wD);refine⟨β,_,h4,((Ext.esc st vs).trans e1).trans (Ext.trans (t:={s1 with w0:=w1}) ⟨rfl,aX _,fun _ _ _ h _=>h,fun i b' j9 ho hs=>⟨b',j9,ho,rfl,rfl,rfl,fun _ h=>h⟩,P2,Fs⟩ (Ext.put _ _ _)),h5,?_⟩;refine Rep.put (v:=.un) (Rep.next (ct':=s1.ct) gX hm h3.2 fun i b' j9 ho=>⟨b',j9,ho,rfl,?_⟩) _;have eD:=gX.Oy h3.2 j9 ho;have:=ik i b' j9 ho;rw[eD]at this;exact hO.blk (gX.bx i b' j9 ho).blk (by simpa using this)
  | _=>exact h.elim
 ·rename_i c;obtain⟨callee,⟨xs⟩,ts⟩:=c;obtain⟨vs,hv,h⟩:=bB h;have yj:=hR.M5 hv;dsimp only at h;cases callee with
  | value f=>
   obtain⟨fv,hf,h⟩:=bB h;cases fv with
   | fn g' fs cs=>
    have ef:BE fs=true->BE cs=true->a.eval f=.func (.func g') (cw β (mB fs)).toArray (cw β (mB cs)).toArray:=fun k1 k2=>by
     rw[hR.ev hf];show Value.func (.func g') (pC β fs).toArray (pC β cs).toArray=_;rw[mh β k1,mh β k2]
    have h':=h;unfold ZL at h';rcases mC h' with⟨h0,h1⟩ | ⟨_,h1⟩
    ·simp only[aQ]at h0;obtain⟨s1,h1,e1,gX,hm,_⟩:=dP h1 (hR.esc _);refine Qk hX h1 hm ((Ext.esc _ _).trans e1) gX ?_;exact FG (ef h0.1.1 h0.1.2) (fu h0.2) (by rw[yj,kU,kU,bQ])
    ·obtain⟨h0,h1⟩:=dw h1;simp only[aQ]at h0;exact kT hX h1 hR fun v w1 hr=>ZK (ef h0.1 h0.2) (by rw[yj,kU,kU]) (Qj hr)
   | raw v=>
    simp only[ZL]at h;obtain⟨s1,⟨g',fst,cap,h1,h2,h3⟩,e1,gX,hm,_⟩:=dP h (hR.esc vs);refine NH hX h3 hm ((Ext.esc _ _).trans e1) gX ?_;have ef:a.eval f=.func (.func g') fst.toArray cap.toArray:=(hR.ev hf).trans h1;exact FG ef h2 (by rw[yj];rfl)
   | _=>exact h.elim
  | builtin b=>
   unfold aeD at h;cases b with
   | append=>exact kT hX h hR fun v w1 hr=>wP yj hr
   | copy=>exact kT hX h hR fun v w1 hr=>zq yj hr
   | delete=>exact kT hX h hR fun v w1 hr=>wQ yj hr
   | clear=>exact kT hX h hR fun v w1 hr=>yt yj hr
   | len=>exact kT hX h hR fun v w1 hr=>BA yj hr
   | unsafeSliceData=>exact kT hX h hR fun v w1 hr=>(by rw[<-yj]at hr;exact lH (fun _=>rfl) hr)
   | unsafeString=>exact kT hX h hR fun v w1 hr=>(by rw[<-yj]at hr;exact lH (fun _=>rfl) hr)
   | _=>
    obtain⟨s1,h1,_⟩:=dP h (hR.esc vs);exact h1.elim
  | _=>exact h.elim
 ·rename_i c;obtain⟨callee,⟨xs⟩,ts⟩:=c;obtain⟨vs,hv,h⟩:=bB h;have yj:=hR.M5 hv;dsimp only at h;cases callee with
  | value f=>
   obtain⟨fv,hf,h⟩:=bB h;cases fv with
   | fn g' fs cs=>
    unfold aeF at h;obtain⟨h0,h1⟩:=dw h;simp only[aQ]at h0;have ef:a.eval f=.func (.func g') (cw β (mB fs)).toArray (cw β (mB cs)).toArray:=by
     rw[hR.ev hf];show Value.func (.func g') (pC β fs).toArray (pC β cs).toArray=_;rw[mh β h0.1.1,mh β h0.1.2]
    obtain⟨s1,h1,e1,gX,hm,_⟩:=dP h1 (hR.esc _);obtain⟨hc,h1⟩:=dw h1;simp only[aQ]at hc;rw[gX.sZ hc.1,gX.sZ hc.2]at h1;have hr:=Vm (P:=P) (dst:=dst) (ats:=ts) (t':=t') (p:=p) (af:=af) (g:=g) (w:=w) ef (by rw[yj,<-kU]);unfold Oper.wp;rw[hr,Oper.upon_defer];have Td:Rep β {s1 with df:=(g',cw β (mB fs++vs),cw β (mB cs))::s1.df} {a with defers:={target:=.fn (.func g') (cw β (mB cs)).toArray,args:=(cw β (mB fs++vs)).toArray}::a.defers} w:=by
     obtain⟨us,hu⟩:=gX.fr;exact⟨⟨us,by rw[hu];rfl⟩,gX.bx,gX.ne,gX.only,gX.still⟩
    exact⟨β,_,h1,((Ext.esc _ _).trans e1).trans (Ext.trans (t:={s1 with df:=(g',cw β (mB fs++vs),cw β (mB cs))::s1.df}) ⟨rfl,aX _,fun _ _ _ h _=>h,fun i b' j9 ho hs=>⟨b',j9,ho,rfl,rfl,rfl,fun _ h=>h⟩,P2,⟨[_],rfl⟩⟩ (Ext.put _ _ _)),hE _ _ (Only.refl _ _),Td.put dst .un⟩
   | _=>exact h.elim
  | _=>exact h.elim
 ·rename_i t n ps;obtain⟨l,hl,h1⟩:=bB h;clear h;obtain⟨ps⟩:=ps;refine kT hX h1 hR fun v w1 hr=>?_;rw[XF]at hr;exact De (hR.Un hl) hr
 ·obtain⟨u,hx,h⟩:=bB h;obtain⟨v,hy,h⟩:=bB h;exact vP hX h hR fun _ w1 hr=>FE (hR.ev hx) (hR.ev hy) hr
 ·exact vP hX h hR fun _ w1 hr=>Nu hr
 ·obtain⟨u,hx,h⟩:=bB h;exact vP hX h hR fun _ w1 hr=>Ix (hR.ev hx) hr
 ·obtain⟨u,hx,h⟩:=bB h;obtain⟨v,hy,h⟩:=bB h;exact vP hX h hR fun _ w1 hr=>PR (hR.ev hx) (hR.ev hy) hr
 ·obtain⟨u,hx,h⟩:=bB h;obtain⟨v,hy,h⟩:=bB h;obtain⟨z,hz,h⟩:=bB h;exact F6 hX h hR fun w1 hr=>FF (hR.ev hx) (hR.ev hy) (hR.ev hz) hr
 ·obtain⟨u,hx,h⟩:=bB h;obtain⟨v,hy,h⟩:=bB h;obtain⟨z,hz,h⟩:=bB h;exact F6 hX h hR fun w1 hr=>PS (hR.ev hx) (hR.ev hy) (hR.ev hz) hr
 ·obtain⟨u,hx,h⟩:=bB h;exact kT hX h hR fun _ w1 hr=>Nv (hR.ev hx) hr
 ·obtain⟨u,hx,h⟩:=bB h;obtain⟨s1,⟨q,h1⟩,e1,gX,hm,_⟩:=dP h hR;obtain⟨v,w',hr,cE,k1,k2,k3,k4⟩:=yO hX h1 hm gX;exact xM v (Qm (hR.ev hx) hr) rfl ⟨β,cE,k1,e1.trans k2,k3,k4⟩
 ·obtain⟨u,hx,h⟩:=bB h;obtain⟨s1,h1,e1,gX,hm,_⟩:=dP h hR;rcases h1 with h1 | h1
  ·obtain⟨v,w',hr,cE,k1,k2,k3,k4⟩:=yO hX h1 hm gX;exact xM v (KW (hR.ev hx) hr) rfl ⟨β,cE,k1,e1.trans k2,k3,k4⟩
  ·obtain⟨_,h1,_⟩:=zQ h1;obtain⟨v,w',hr,cE,k1,k2,k3,k4⟩:=yO hX h1 hm gX;exact xM v (KW (hR.ev hx) hr) rfl ⟨β,cE,k1,e1.trans k2,k3,k4⟩
 ·obtain⟨u,hx,h⟩:=bB h;obtain⟨s1,h1,e1,gX,hm,_⟩:=dP h hR;obtain⟨_,h1,_⟩:=uH h1;obtain⟨v,w',hr,cE,k1,k2,k3,k4⟩:=yO hX h1 hm gX;exact xM v (Qn (hR.ev hx) hr) rfl ⟨β,cE,k1,e1.trans k2,k3,k4⟩
 ·exact h.elim
end
def nd(P:Program)(st:St)(o:Op):Bool:=match o with
 | .load _ x=>(match st.ev x with
  | some (.ad _)=>true
  | _=>false)
 | .convert s _ _=>(match P.underlying s with
  | some (.slice _)=>true
  | _=>false)
 | _=>false
def ZM(b:Bool)(st:St)(K:St->Prop):Prop:=bif b&&st.mv then eN st K else K st
theorem wW{b}{st}{K}(h:ZM b st K){β}{a}{w}(hR:Rep β st a w):∃cE,K cE/\Ext st cE/\Rep β cE a w/\cE.fr=st.fr/\cE.n=st.n:=by
 rcases mC h with⟨_,h⟩ | ⟨_,h⟩
 ·obtain⟨s,h1,h2,h3,h4,h5,h6,_⟩:=dP h hR;exact⟨s,h1,h2,h3,h5,h6⟩
 ·exact⟨st,h,Ext.refl _,hR,rfl,rfl⟩
def DF(P:Program):List Oper->Bool
 | []=>true
 | o::r=>jg P o.op&&DF P r
def I0:List Oper->Bool
 | []=>false
 | o::r=>mem o.op||I0 r
def X0:XT:=fun _ _ p=>p
def Y0:YT:=fun _ p=>p
def agT(P:Program)(t:TypeId):Bool:=match P.underlying t with
 | some d=>lM d
 | none=>false
def ZN(P:Program)(o:Oper)(v:SV)(K:SV->Prop):Prop:=match o.op,v with
 | .extract _ _,.raw x=>(match P3 P 12 o.type with
  | []=>K (.raw x)
  | [.raw]=>K (.raw x)
  | ls=>Xx ls fun vs=>x.v=val β0 (NC (agT P o.type) vs)/\K (NC (agT P o.type) vs))
 | _,v=>K v
theorem Vn{P}{o}{v}{K:SV->Prop}(h:ZN P o v K):∃u,K u/\∀β,val β u=val β v:=by
 unfold ZN at h;split at h
 ·split at h
  ·exact⟨_,h,fun _=>rfl⟩
  ·exact⟨_,h,fun _=>rfl⟩
  ·obtain⟨vs,⟨e,h⟩,_,hc⟩:=uH h;refine⟨_,h,fun β=>Eq.trans ?_ e.symm⟩;exact(iC (g:=fun _=>false) (fun i h=>(by cases h)) _ (KT _ _ (hc _))).symm
 ·exact⟨_,h,fun _=>rfl⟩
def KX(P:Program)(st:St)(o:Oper)(K:St->Prop):Prop:=
 bif jg P o.op then ZM (nd P st o.op) st fun st=>ZC P [] st o.op fun v=>ZN P o v fun v=>K (st.put o.dst v)else loud P X0 Y0 st o K
def yx(P:Program)(ops:List Oper):Nat->List Oper->St->(St->Prop)->Prop
 | 0,_,_,_=>False
 | _+1,[],st,K=>K st
 | f+1,o::rest,st,K=>match o.guard with
  | none=>KX P st o fun st=>yx P ops f rest st K
  | some (j,want)=>(match ZI st ops j with
   | some (_,.un)=>yx P ops f rest (st.put o.dst .un) K
   | some (_,.bl b)=>bif b==want then KX P st o fun st=>yx P ops f rest st K else yx P ops f rest (st.put o.dst .un) K
   | some (d,.bt t)=>bif DF P ((o::rest).take (yv ops j (o::rest)+1))
    then ZM (I0 ((o::rest).take (yv ops j (o::rest)+1))) st fun st=>wT P ops f [] ((o::rest).take (yv ops j (o::rest)+1)) st fun st=>yx P ops f ((o::rest).drop (yv ops j (o::rest)+1)) st K
    else((t=true->yx P ops f (o::rest) (st.put (some d) (.bl true)) K)/\(t=false->yx P ops f (o::rest) (st.put (some d) (.bl false)) K))
   | _=>False)
section
variable {P:Program} {ops:List Oper} {Q:Exit->Act->av->Prop}
theorem Qo{st}{o}{rest}{K}{β}{a}{w}(h:KX P st o K)(hR:Rep β st a w)(hw:Region.wanted o (yielded ops.toArray a.tmps)=true)
  (hK:∀β' cE a' w',K cE->Ext st cE->Rep β' cE a' w'->wpList P ops.toArray Q rest a' w'):wpList P ops.toArray Q (o::rest) a w:=by
 rcases mC h with⟨_,h⟩ | ⟨_,h⟩
 ·obtain⟨s,h1,h2,h3,h4,h5⟩:=wW h hR;obtain⟨v,hv,hy⟩:=IV h1;obtain⟨u,hv,ev⟩:=Vn hv;exact Dc _ hw (hy trivial β a w h3 _ _ _ _ _ w fun _=>rfl) rfl (hK β _ _ w hv (h2.trans (Ext.put _ _ _)) (ev β▸h3.put o.dst u))
 ·refine Zp hw (Oper.wp_mono ?_ (DE (E:=fun _ _=>True) (fun _ _ _ h=>⟨h,trivial⟩) (fun _ _ _=>trivial) (fun _ _ _ _ _ _ h _ _=>⟨h,trivial⟩) h hR));rintro a' w' ⟨β',cE,k1,k2,_,k4⟩;exact hK β' cE a' w' k1 k2 k4
theorem tC:∀{f:Nat} {l:List Oper} {st:St} {K:St->Prop},yx P ops f l st K->∀{β:Nat->Nat} {a:Act} {w:av},Rep β st a w->
  (∀β' cE a' w',K cE->Ext st cE->Rep β' cE a' w'->Q .normal a' w')->wpList P ops.toArray Q l a w
 | 0,_,_,_,h,_,_,_,_,_=>h.elim
 | _+1,[],st,K,h,β,a,w,hR,hK=>hK β st a w h (Ext.refl _) hR
 | f+1,o::rest,st,K,h,β,a,w,hR,hK=>by
  have no:yx P ops f rest _ K->Region.wanted o _=false->wpList P ops.toArray Q _ a w:=fun h hw=>
   Xt hw rfl (tC h (hR.put o.dst .un) fun β' cE a' w' k1 k2 k3=>hK β' cE a' w' k1 ((Ext.put _ _ _).trans k2) k3)
  have Ur:(KX P st o fun st=>yx P ops f rest st K)->Region.wanted o _=true->wpList P ops.toArray Q _ a w:=fun h hw=>
   Qo h hR hw fun β' cE a' w' k1 k2 k3=>tC k1 k3 fun β2 rJ a2 w2 m1 m2 m3=>hK β2 rJ a2 w2 m1 (k2.trans m2) m3
  unfold yx at h;split at h
  ·rename_i hg;exact Ur h (wn hg)
  ·rename_i j want hg;split at h
   ·rename_i d ht;exact no h (wS hR hg ht)
   ·rename_i d b ht;have hw:=pE hR hg ht (b:=b) rfl;rcases mC h with⟨e,h⟩ | ⟨e,h⟩
    ·exact Ur h (hw.trans e)
    ·exact no h (hw.trans e)
   ·rename_i d t ht;obtain⟨oj,WM,hj2,Uq⟩:=zE ht;rcases mC h with⟨_,h⟩ | ⟨_,h⟩
    ·generalize yv ops j _+1=m at h;obtain⟨s,h1,h2,h3,h4,h5⟩:=wW h hR;obtain⟨s2,k1,k2,k3,k4⟩:=qH h1;obtain⟨a',g1,g2⟩:=k4 trivial β a w h3;have:=Dv (Q:=Q) (rest:=(o::rest).drop m) g1 (tC k1 g2 fun β2 rJ a2 w2 m1 m2 m3=>hK β2 rJ a2 w2 m1 ((h2.trans k2).trans m2) m3);rwa[cZ]at this
    ·cases t with
     | true=>exact tC (h.1 rfl) (hR.set Uq rfl) fun β' cE a' w' k1 k2 k3=>hK β' cE a' w' k1 ((Ext.put _ _ _).trans k2) k3
     | false=>exact tC (h.2 rfl) (hR.set Uq rfl) fun β' cE a' w' k1 k2 k3=>hK β' cE a' w' k1 ((Ext.put _ _ _).trans k2) k3
   ·exact h.elim
end
def JT:List Lf->Type
 | []=>av->Prop
 | l::r=>l.T->JT r
def F7:(ls:List Lf)->JT ls->(List SV->av->Prop)->Prop
 | [],J,K=>∀w,J w->K [] w
 | l::r,J,K=>∀x,F7 r (J x) fun vs w=>K (l.sv x::vs) w
def unI(k:IntKind)(s:SV):Option Int:=match pD s with
 | some (k',n)=>bif decide (k'=k)then some n else none
 | none=>none
def unP(bl:Nat->Nat)(s:SV):Option (Option Addr):=match s with
 | .box i o=>some (some ⟨bl i,o,none⟩)
 | s=>vh s
def unM(s:SV):Option (Option Nat):=match s with
 | .map m=>some m
 | _=>none
def unR(bl:Nat->Nat)(s:SV):Option OV:=match s with
 | .raw v=>some v
 | .fn f fs cs=>some ⟨.func (.func f) (pC bl fs).toArray (pC bl cs).toArray,rfl⟩
 | _=>none
def un(bl:Nat->Nat):(l:Lf)->SV->Option l.T
 | .int k=>unI k
 | .bool=>zz
 | .str=>uI
 | .ptr=>unP bl
 | .sl=>KO
 | .map=>unM
 | .raw=>unR bl
theorem aeH{bl}{l}{s}{x}(h:un bl l s=some x) β:val β (l.sv x)=val bl s:=by
 cases l with
 | int k=>
  have h:unI k s=some x:=h;unfold unI at h;split at h
  ·rename_i k' n ho;obtain⟨e,rfl⟩:=Dt h;have e:=aO e;subst e;rw[dh ho];rfl
  ·cases h
 | bool=>rw[lN h];rfl
 | str=>rw[ic h];rfl
 | ptr=>
  have h:unP bl s=some x:=h;unfold unP at h;split at h
  ·injection h with h;subst h;rfl
  ·rw[U7 h];rfl
 | sl=>rw[jL h];rfl
 | map=>
  have h:unM s=some x:=h;unfold unM at h;split at h
  ·injection h with h;subst h;rfl
  ·cases h
 | raw=>
  have h:unR bl s=some x:=h;unfold unR at h;split at h
  ·injection h with h;subst h;rfl
  ·injection h with h;subst h;rfl
  ·cases h
def apJ:(ls:List Lf)->(Nat->Nat)->JT ls->List SV->av->Prop
 | [],_,J,[],w=>J w
 | l::r,bl,J,s::ss,w=>(match un bl l s with
  | some x=>apJ r bl (J x) ss w
  | none=>False)
 | _,_,_,_,_=>False
theorem Qp{bl}{w}:∀{ls:List Lf} {J:JT ls} {ss:List SV} {K:List SV->av->Prop},apJ ls bl J ss w->F7 ls J K->∃vs,K vs w/\vs.length=ls.length/\(∀β,cw β vs=cw bl ss)/\∀g,ia g vs=true
 | [],J,[],K,h,k=>⟨[],k w h,rfl,fun _=>rfl,fun _=>rfl⟩
 | l::r,J,s::ss,K,h,k=>by
  unfold apJ at h;split at h
  ·rename_i x hx;obtain⟨vs,h1,h2,h3,h4⟩:=Qp h (k x);refine⟨_,h1,by simp[h2],fun β=>?_,fun g=>by simp[ia,Lf.cln,h4 g,kM]⟩;have:=h3 β;simp only[cw,bD]at this⊢;rw[this,aeH hx]
  ·exact h.elim
 | [],_,_::_,_,h,_=>h.elim
 | _::_,_,[],_,h,_=>h.elim
inductive MI where
 | s (slot:Nat) (l:Lf)
 | a (slot:Nat) (ls:List Lf)
 | b (slot:Nat) (ls:List Lf)
def mLs:List MI->List Lf
 | []=>[]
 | .s _ l::r=>l::mLs r
 | .a _ ls::r=>ls++mLs r
 | .b _ ls::r=>ls++mLs r
def bxi(st:St)(i:Nat):Option Nat:=match st.get i with
 | some (.box j _)=>some j
 | _=>none
def Qq:List SV->List SV
 | []=>[]
 | .box j o::r=>.box j o::Qq r
 | _::r=>Qq r
def zT(st:St):List MI->List SV
 | []=>[]
 | .b i _::r=>(match bxi st i with
  | some j=>(match cV st.bx j with
   | some b=>Qq b.cells++zT st r
   | none=>zT st r)
  | none=>zT st r)
 | .s i _::r=>(match st.get i with
  | some (.box j o)=>.box j o::zT st r
  | _=>zT st r)
 | _::r=>zT st r
def pH(st s:St):List MI->Option (List SV)
 | []=>some []
 | .s i _::r=>(match s.get i,pH st s r with
  | some v,some l=>some (v::l)
  | _,_=>none)
 | .a i ls::r=>(match s.get i,pH st s r with
  | some (.agg l),some m=>bif BE l&&Nat.beq (mB l).length ls.length then some (mB l++m)else none
  | _,_=>none)
 | .b i ls::r=>(match bxi st i with
  | some j=>(match cV s.bx j,pH st s r with
   | some b,some m=>bif Nat.beq b.cells.length ls.length then some (b.cells++m)else none
   | _,_=>none)
  | none=>none)
def I1(ct:Nat):List MI->List SV->List (Nat×Nat×SV)
 | .s i _::r,v::vs=>(i,ct,v)::I1 ct r vs
 | .a i ls::r,vs=>(i,ct,.agg (lJ (vs.take ls.length)))::I1 ct r (vs.drop ls.length)
 | .b _ ls::r,vs=>I1 ct r (vs.drop ls.length)
 | _,_=>[]
def I2(st:St):List MI->List SV->List jY->List jY
 | .s _ _::r,_::vs,bx=>I2 st r vs bx
 | .a _ ls::r,vs,bx=>I2 st r (vs.drop ls.length) bx
 | .b i ls::r,vs,bx=>(match bxi st i with
  | some j=>(match cV bx j with
   | some b=>I2 st r (vs.drop ls.length) (NB bx j {b with cells:=vs.take ls.length,stp:=st.ct})
   | none=>I2 st r (vs.drop ls.length) bx)
  | none=>I2 st r (vs.drop ls.length) bx)
 | _,_,bx=>bx
def XH:List MI->List Nat
 | []=>[]
 | .s i _::r=>i::XH r
 | .a i _::r=>i::XH r
 | .b _ _::r=>XH r
def Qr(st:St):List MI->List Nat
 | []=>[]
 | .b i _::r=>(match bxi st i with
  | some j=>j::Qr st r
  | none=>Qr st r)
 | _::r=>Qr st r
def ZO(fr:List (Nat×Nat×SV)):List Nat->List (Nat×Nat×SV)
 | []=>[]
 | i::r=>match dK fr i with
  | some p=>(i,p)::ZO fr r
  | none=>ZO fr r
def lP(st:St)(kp:List Nat)(ms:List MI)(vs:List SV)(w:av):St:=
 {n:=st.n,fr:=I1 st.ct ms vs++ZO st.fr kp,bx:=I2 st ms vs st.bx,w0:=w,mv:=false,dt:=[],ct:=st.ct+1,df:=st.df}
def Vo(st s:St)(sl:List Nat):List Nat->Bool
 | []=>true
 | i::r=>(match dK st.fr i with
  | some (k,v)=>(match dK s.fr i with
   | some (k',_)=>Nat.beq k k'&&Nat.blt k st.ct&&!sl.elem i&&cln (F2 st.bx) v
   | none=>false)
  | none=>true)&&Vo st s sl r
def NI(st:St)(Us:List Nat):Nat->List jY->List jY->Bool
 | _,[],_=>true
 | i,b::r,c::q=>(!b.ok||(b.blk.isSome&&(Us.elem i||(Nat.blt c.stp st.ct&&ia (F2 st.bx) b.cells))))&&NI st Us (i+1) r q
 | _,_::_,[]=>false
def NJ(st:St)(kp:List Nat) ms (J:JT (mLs ms)) (s:St):Prop:=
 bif Vo st s (XH ms) kp&&NI st (Qr st ms) 0 st.bx s.bx&&Nat.beq s.df.length st.df.length then
  cd (pH st s ms) fun vs=>bif ia (F2 s.bx) vs then apJ _ (H9 s.bx) J vs s.w0 else False
 else False
theorem tD:∀l m i,dK (l++m) i=match dK l i with
  | some p=>some p
  | none=>dK m i
 | [],_,_=>rfl
 | (k,p)::r,m,i=>by
  simp[bZ,dK];cases Nat.beq k i with
  | true=>rfl
  | false=>exact tD r m i
theorem yP{fr}:∀{kp:List Nat} {i:Nat} {p:Nat×SV},dK (ZO fr kp) i=some p->i∈kp/\dK fr i=some p
 | j::r,i,p,h=>by
  unfold ZO at h;split at h
  ·rename_i q hq;simp[dK]at h;cases hb:Nat.beq j i with
   | true=>
    rw[hb]at h;simp at h;subst h;have:=ca hb;subst this;exact⟨by simp,hq⟩
   | false=>
    rw[hb]at h;obtain⟨h1,h2⟩:=yP (by simpa using h);exact⟨by simp[h1],h2⟩
  ·obtain⟨h1,h2⟩:=yP h;exact⟨by simp[h1],h2⟩
theorem F8{fr}{p}:∀{kp:List Nat} {i:Nat},i∈kp->dK fr i=some p->dK (ZO fr kp) i=some p
 | j::r,i,hi,h=>by
  unfold ZO;cases hb:Nat.beq j i with
  | true=>
   have:=ca hb;subst this;rw[h];simp[dK,Nat.beq_refl,nQ]
  | false=>
   have Be:i∈r:=by
    rcases aU.1 hi with e | e
    ·subst e;simp at hb
    ·exact e
   have ih:=F8 (p:=p) Be h;split
   ·simp[dK,hb,uk];exact ih
   ·exact ih
theorem tE{ct}:∀{ms:List MI} {vs:List SV} {i:Nat},(XH ms).elem i=false->dK (I1 ct ms vs) i=none
 | [],vs,i,_=>rfl
 | .s j l::r,[],i,_=>rfl
 | .s j l::r,v::vs,i,h=>by
  simp only[XH,lz]at h;split at h
  ·cases h
  ·rename_i ik;simp[I1,dK];have:Nat.beq j i=false:=by
    cases hb:Nat.beq j i with
    | false=>rfl
    | true=>have:=ca hb;subst this;simp at ik
   rw[this,uk];exact tE h
 | .a j ls::r,vs,i,h=>by
  simp only[XH,lz]at h;split at h
  ·cases h
  ·rename_i ik;simp[I1,dK];have:Nat.beq j i=false:=by
    cases hb:Nat.beq j i with
    | false=>rfl
    | true=>have:=ca hb;subst this;simp at ik
   rw[this,uk];exact tE h
 | .b j ls::r,vs,i,h=>by
  simp[I1];exact tE h
theorem tF{ct}:∀{ms:List MI} {vs:List SV} {i:Nat} {p:Nat×SV},dK (I1 ct ms vs) i=some p->p.1=ct
 | [],vs,i,p,h=>by cases vs<;>cases h
 | .s j l::r,[],i,p,h=>by cases h
 | .s j l::r,v::vs,i,p,h=>by
  simp[I1,dK]at h;cases hb:Nat.beq j i with
  | true=>rw[hb]at h;simp at h;subst h;rfl
  | false=>rw[hb]at h;exact tF (by simpa using h)
 | .a j ls::r,vs,i,p,h=>by
  simp[I1,dK]at h;cases hb:Nat.beq j i with
  | true=>rw[hb]at h;simp at h;subst h;rfl
  | false=>rw[hb]at h;exact tF (by simpa using h)
 | .b j ls::r,vs,i,p,h=>by
  simp[I1]at h;exact tF h
theorem iE{st}:∀ms vs bx i b,cV bx i=some b->∃b',cV (I2 st ms vs bx) i=some b'/\b'.ty=b.ty/\b'.ok=b.ok/\b'.blk=b.blk/\((Qr st ms).elem i=false->b'=b)/\(b'=b∨b'.stp=st.ct)
 | [],vs,bx,i,b,h=>⟨b,by cases vs<;>exact h,rfl,rfl,rfl,fun _=>rfl,.inl rfl⟩
 | .s j l::r,[],bx,i,b,h=>⟨b,h,rfl,rfl,rfl,fun _=>rfl,.inl rfl⟩
 | .s j l::r,v::vs,bx,i,b,h=>iE r vs bx i b h
 | .a j ls::r,vs,bx,i,b,h=>iE r _ bx i b h
 | .b s ls::r,vs,bx,i,b,h=>by
  simp only[I2,Qr];cases hj:bxi st s with
  | none=>exact iE r _ bx i b h
  | some j=>
   dsimp only;cases hc:cV bx j with
   | none=>
    obtain⟨b',h1,h2,h3,h4,h5,h6⟩:=iE (st:=st) r _ bx i b h;refine⟨b',h1,h2,h3,h4,fun he=>h5 ?_,h6⟩;simp only[lz]at he;split at he
    ·cases he
    ·exact he
   | some c=>
    by_cases tW:i=j
    ·subst tW;rw[hc]at h;injection h with h;subst h;obtain⟨b',h1,h2,h3,h4,h5,h6⟩:=iE (st:=st) r _ _ i _ (by rw[iZ hc,if_pos rfl]);refine⟨b',h1,h2,h3,h4,fun he=>?_,?_⟩
     ·simp at he
     ·rcases h6 with rfl | h6
      ·exact .inr rfl
      ·exact .inr h6
    ·obtain⟨b',h1,h2,h3,h4,h5,h6⟩:=iE (st:=st) r _ (NB bx j {c with cells:=vs.take ls.length,stp:=st.ct}) i b (by rw[iZ hc,if_neg tW];exact h);refine⟨b',h1,h2,h3,h4,fun he=>h5 ?_,h6⟩;simp only[lz]at he;split at he
     ·cases he
     ·exact he
theorem nR{st}:∀ms vs bx i,cV bx i=none->cV (I2 st ms vs bx) i=none
 | [],vs,bx,i,h=>by cases vs<;>exact h
 | .s j l::r,[],bx,i,h=>h
 | .s j l::r,v::vs,bx,i,h=>nR r vs bx i h
 | .a j ls::r,vs,bx,i,h=>nR r _ bx i h
 | .b s ls::r,vs,bx,i,h=>by
  simp[I2];cases hj:bxi st s with
  | none=>exact nR r _ bx i h
  | some j=>
   dsimp only;cases hc:cV bx j with
   | none=>exact nR r _ bx i h
   | some c=>
    refine nR r _ _ i ?_;rw[iZ hc,if_neg]
    ·exact h
    ·rintro rfl;rw[h]at hc;cases hc
theorem Ext.S0{st}{kp}{ms}{vs}{w}:Ext st (lP st kp ms vs w):=by
 refine⟨rfl,iA _,fun i k v hl bS=>?_,fun i b' hb ho hs=>?_,fun i b hb=>?_,Fs⟩
 ·simp[lP]at hl;rw[tD]at hl;split at hl
  ·rename_i p hp;have:=tF hp;simp at hl;subst hl;omega
  ·exact(yP hl).2
 ·simp[lP]at hb;cases hn:cV st.bx i with
  | none=>rw[nR _ _ _ _ hn]at hb;cases hb
  | some b=>
   obtain⟨b2,h1,h2,h3,h4,h5,h6⟩:=iE (st:=st) ms vs st.bx i b hn;rw[h1]at hb;injection hb with hb;subst hb;rcases h6 with rfl | h6
   ·exact⟨b2,rfl,ho,rfl,rfl,rfl,fun _ h=>h⟩
   ·omega
 ·obtain⟨b2,h1,h2,h3,h4,_⟩:=iE (st:=st) ms vs st.bx i b hb;exact⟨b2,h1,h2,h3,fun k hk=>by rw[h4];exact hk⟩
def Qs(st:St)(kp:List Nat)(ms:List MI)(s:St):Prop:=Ext st s∨∃vs w,Ext (lP st kp ms vs w) s
section
variable {st s:St} {kp:List Nat} {ms:List MI} {β:Nat->Nat} {a:Act} {w:av}
theorem Qs.n(h:Qs st kp ms s):s.n=st.n:=by
 rcases h with h | ⟨vs,w,h⟩
 ·exact h.n
 ·exact h.n
theorem Qs.df(h:Qs st kp ms s):∃l,s.df=l++st.df:=by
 rcases h with h | ⟨vs,w,h⟩
 ·exact h.df
 ·exact h.df
theorem Qs.slot(h:Qs st kp ms s){i k}{v v'}(hi:i∈kp)(h1:dK st.fr i=some (k,v))(h2:dK s.fr i=some (k,v'))(hk:k<st.ct)(hs:(XH ms).elem i=false):v'=v:=by
 rcases h with h | ⟨vs,w,h⟩
 ·have:=h.fr i k v' h2 hk;rw[h1]at this;simpa using this.symm
 ·have:=h.fr i k v' h2 (Nat.lt_succ_of_lt hk);simp[lP]at this;rw[tD,tE hs]at this;rw[F8 hi h1]at this;simpa using this.symm
theorem Qs.ps(h:Qs st kp ms s){i}{b}(hb:cV st.bx i=some b):∃c,cV s.bx i=some c/\c.ty=b.ty/\c.ok=b.ok/\∀k,b.blk=some k->c.blk=some k:=by
 rcases h with h | ⟨vs,w,h⟩
 ·exact h.ps i b hb
 ·obtain⟨b2,h1,h2,h3,h4,_⟩:=iE (st:=st) ms vs st.bx i b hb;obtain⟨c,k1,k2,k3,k4⟩:=h.ps i b2 h1;exact⟨c,k1,k2.trans h2,k3.trans h3,fun k hk=>k4 k (by rw[h4];exact hk)⟩
theorem Qs.cells(h:Qs st kp ms s){i}{b c}(hb:cV st.bx i=some b)(hc:cV s.bx i=some c)(ho:b.ok=true)(hl:(Qr st ms).elem i=false)(hs:c.stp<st.ct):c.cells=b.cells:=by
 rcases h with h | ⟨vs,w,h⟩
 ·obtain⟨c',k1,k2,k3,k4⟩:=h.ps i b hb;rw[hc]at k1;injection k1 with k1;subst k1;obtain⟨b3,m1,m2,m3,_⟩:=h.bx i c hc (k3.trans ho) hs;rw[hb]at m1;injection m1 with m1;rw[m1,m3]
 ·obtain⟨b2,h1,h2,h3,h4,h5,_⟩:=iE (st:=st) ms vs st.bx i b hb;obtain⟨c',k1,k2,k3,k4⟩:=h.ps i b2 h1;rw[hc]at k1;injection k1 with k1;subst k1;obtain⟨b3,m1,m2,m3,m4,m5,m6⟩:=h.bx i c hc (k3.trans (h3.trans ho)) (Nat.lt_succ_of_lt hs);rw[show cV (lP st kp ms vs w).bx i=cV (I2 st ms vs st.bx) i from rfl,h1]at m1;injection m1 with m1;subst m1;rw[<-m3,h5 hl]
theorem KY{sl}:∀{kp:List Nat},Vo st s sl kp=true->∀i∈kp,∀k v,dK st.fr i=some (k,v)->∃v',dK s.fr i=some (k,v')/\k<st.ct/\sl.elem i=false/\cln (F2 st.bx) v=true
 | j::r,h,i,hi,k,v,hl=>by
  simp only[Vo,aQ]at h;rcases aU.1 hi with rfl | hi
  ·have h1:=h.1;rw[hl]at h1;dsimp only at h1;split at h1
   ·rename_i k' v' hs;simp only[aQ,dS]at h1;have e:=ca h1.1.1.1;subst e;exact⟨v',hs,cy h1.1.1.2,h1.1.2,h1.2⟩
   ·cases h1
  ·exact KY h.2 i hi k v hl
theorem DG{Us}:∀{l m:List jY} {n:Nat},NI st Us n l m=true->∀i b,cV l i=some b->b.ok=true->b.blk.isSome=true/\(Us.elem (n+i)=true∨∃c,cV m i=some c/\c.stp<st.ct/\ia (F2 st.bx) b.cells=true)
 | b::r,[],n,h,_,_,_,_=>by simp[NI]at h
 | b::r,c::q,n,h,0,b',hb,ho=>by
  simp only[NI,aQ,cn,dS]at h;simp[cV,aZ]at hb;subst hb;rcases h.1 with h1 | ⟨h1,h2⟩
  ·rw[ho]at h1;cases h1
  ·refine⟨h1,?_⟩;rcases h2 with h2 | h2
   ·exact .inl h2
   ·exact .inr ⟨c,rfl,cy h2.1,h2.2⟩
 | b::r,c::q,n,h,i+1,b',hb,ho=>by
  simp[NI,aQ]at h;have:=DG h.2 i b' hb ho;rwa[show n+1+i=n+(i+1) by omega]at this
theorem Rep.at(hR:Rep β s a w){i}{v}(h:s.get i=some v):i<s.n/\a.tmps[i]? =some (V.val β v):=by
 unfold St.get at h;cases hb:Nat.blt i s.n with
 | false=>rw[hb]at h;cases h
 | true=>
  rw[hb,nQ]at h;cases hl:dK s.fr i with
  | none=>rw[hl]at h;cases h
  | some p=>
   rw[hl]at h;simp at h;subst h;exact⟨cy hb,hR.ok.at_ i p hl (cy hb)⟩
theorem rX{g}:∀{l m:List SV},ia g (l++m)=true->ia g l=true/\ia g m=true
 | [],m,h=>⟨rfl,h⟩
 | s::r,m,h=>by
  simp[bZ,ia,aQ]at h⊢;obtain⟨h1,h2⟩:=rX h.2;exact⟨⟨h.1,h1⟩,h2⟩
theorem qK{γ b}{vs l m}{n}(hv:V.cw γ vs=V.cw b l++V.cw b m)(hl:l.length=n):V.cw γ (vs.take n)=V.cw b l/\V.cw γ (vs.drop n)=V.cw b m:=by
 have h1:(V.cw γ vs).take n=V.cw γ (vs.take n):=by simp[V.cw,mY]
 have h2:(V.cw γ vs).drop n=V.cw γ (vs.drop n):=by simp[V.cw,qA]
 have hn:(V.cw b l).length=n:=by rw[fh,hl]
 rw[<-h1,<-h2,hv,<-hn];exact⟨List.take_left,List.drop_left⟩
theorem DH(hR:Rep β s a w){ct}{γ}:∀{ms:List MI} {ss vs:List SV},pH st s ms=some ss->ia (F2 s.bx) ss=true->V.cw γ vs=V.cw (H9 s.bx) ss->∀i p,dK (I1 ct ms vs) i=some p->a.tmps[i]? =some (V.val γ p.2)
 | [],ss,vs,_,_,_,i,p,h=>by cases vs<;>cases h
 | .s j l::r,ss,[],_,_,_,i,p,h=>by cases h
 | .s j l::r,ss,v::vs,ha,hc,hv,i,p,h=>by
  simp[pH]at ha;split at ha
  ·rename_i v0 l0 h1 h2;simp at ha;subst ha;simp[ia,aQ]at hc;simp[V.cw,bD,rN]at hv;simp[I1,dK]at h;cases hb:Nat.beq j i with
   | true=>
    rw[hb]at h;simp at h;subst h;have:=ca hb;subst this;rw[(hR.at h1).2,hv.1,hR.agz hc.1]
   | false=>
    rw[hb]at h;exact DH hR h2 hc.2 hv.2 i p (by simpa using h)
  ·cases ha
 | .a j ls::r,ss,vs,ha,hc,hv,i,p,h=>by
  simp[pH]at ha;split at ha
  ·rename_i l0 m0 h1 h2;obtain⟨h3,rfl⟩:=Dt ha;simp only[aQ]at h3;obtain⟨c1,c2⟩:=rX hc;rw[kU]at hv;obtain⟨e1,e2⟩:=qK hv (ca h3.2);simp[I1,dK]at h;cases hb:Nat.beq j i with
   | true=>
    rw[hb]at h;simp at h;subst h;have:=ca hb;subst this;rw[(hR.at h1).2];show some (Value.agg (pC β l0).toArray)=some (Value.agg (pC γ _).toArray);rw[qF,e1,mh β h3.1,hR.sZ c1]
   | false=>
    rw[hb]at h;exact DH hR h2 c2 e2 i p (by simpa using h)
  ·cases ha
 | .b j ls::r,ss,vs,ha,hc,hv,i,p,h=>by
  simp[pH]at ha;split at ha
  ·split at ha
   ·rename_i b m0 h1 h2;obtain⟨h3,rfl⟩:=Dt ha;obtain⟨c1,c2⟩:=rX hc;rw[kU]at hv;obtain⟨e1,e2⟩:=qK hv (ca h3);exact DH hR h2 c2 e2 i p h
   ·cases ha
  ·cases ha
theorem zU(hR:Rep β s a w){γ:Nat->Nat}(Nh:∀i b,cV st.bx i=some b->∃c,cV s.bx i=some c/\c.ty=b.ty/\c.ok=b.ok)(hγ:∀i b,cV st.bx i=some b->b.ok=true->γ i=β i):∀{ms:List MI} {ss vs:List SV} {bx:List jY},pH st s ms=some ss->ia (F2 s.bx) ss=true->V.cw γ vs=V.cw (H9 s.bx) ss->
  (∀j b',cV bx j=some b'->∃b,cV st.bx j=some b/\b'.ty=b.ty/\b'.ok=b.ok)->(∀j b',cV bx j=some b'->b'.ok=true->Blk w (γ j) b'.ty (V.cw γ b'.cells)∨(Qr st ms).elem j=true)->
  ∀j b',cV (I2 st ms vs bx) j=some b'->b'.ok=true->Blk w (γ j) b'.ty (V.cw γ b'.cells)
 | [],ss,vs,bx,_,_,_,_,hi,j,b',hb,ho=>by
  have:I2 st [] vs bx=bx:=by cases vs<;>rfl
  rw[this]at hb;rcases hi j b' hb ho with h | h
  ·exact h
  ·cases h
 | .s k l::r,ss,[],bx,ha,hc,hv,h0,hi,j,b',hb,ho=>by
  simp only[pH]at ha;split at ha
  ·simp only[aZ]at ha;subst ha;simp[V.cw]at hv
  ·cases ha
 | .s k l::r,ss,v::vs,bx,ha,hc,hv,h0,hi,j,b',hb,ho=>by
  simp only[pH]at ha;split at ha
  ·rename_i v0 l0 h1 h2;simp only[aZ]at ha;subst ha;simp only[ia,aQ]at hc;simp only[V.cw,bD,rN]at hv;exact zU hR Nh hγ h2 hc.2 hv.2 h0 hi j b' hb ho
  ·cases ha
 | .a k ls::r,ss,vs,bx,ha,hc,hv,h0,hi,j,b',hb,ho=>by
  simp only[pH]at ha;split at ha
  ·rename_i l0 m0 h1 h2;obtain⟨h3,rfl⟩:=Dt ha;simp only[aQ]at h3;have fi:=ca h3.2;obtain⟨c1,c2⟩:=rX hc;rw[kU]at hv;obtain⟨e1,e2⟩:=qK hv fi;exact zU hR Nh hγ h2 c2 e2 h0 hi j b' hb ho
  ·cases ha
 | .b k ls::r,ss,vs,bx,ha,hc,hv,h0,hi,j,b',hb,ho=>by
  simp[pH]at ha;split at ha
  ·rename_i q hq;split at ha
   ·rename_i c m0 h1 h2;obtain⟨h3,rfl⟩:=Dt ha;have fi:=ca h3;obtain⟨c1,c2⟩:=rX hc;rw[kU]at hv;obtain⟨e1,e2⟩:=qK hv fi;simp only[I2,hq]at hb;cases hn:cV bx q with
    | none=>
     rw[hn]at hb;refine zU hR Nh hγ h2 c2 e2 h0 (fun i b Ni ho5=>?_) j b' hb ho;rcases hi i b Ni ho5 with h | h
     ·exact .inl h
     ·simp only[Qr,hq,lz]at h;split at h
      ·rename_i e;have e:=by simpa using e
       rw[e,hn]at Ni;cases Ni
      ·exact .inr h
    | some b=>
     rw[hn]at hb;obtain⟨bs,g1,g2,g3⟩:=h0 q b hn;refine zU hR Nh hγ h2 c2 e2 (fun i b2 ym=>?_) (fun i b2 ym ho2=>?_) j b' hb ho
     ·rw[iZ hn]at ym;split at ym
      ·rename_i e;subst e;injection ym with ym;subst ym;exact⟨bs,g1,g2,g3⟩
      ·exact h0 i b2 ym
     ·rw[iZ hn]at ym;split at ym
      ·rename_i e;subst e;injection ym with ym;subst ym;left;have Fx:bs.ok=true:=by rw[<-g3];exact ho2
       obtain⟨c',k1,k2,k3⟩:=Nh i bs g1;rw[h1]at k1;injection k1 with k1;subst k1;have hB:=(hR.bx i c h1 (k3.trans Fx)).blk;rw[hγ i bs g1 Fx,g2,<-k2,e1,hR.sZ c1];exact hB
      ·rename_i ik;rcases hi i b2 ym ho2 with h | h
       ·exact .inl h
       ·simp only[Qr,hq,lz]at h;split at h
        ·rename_i e;exact absurd (by simpa using e) ik
        ·exact .inr h
   ·cases ha
  ·cases ha
theorem rY{J}(h:NJ st kp ms J s)(hR:Rep β s a w)(hm:s.mv=false)(JW:Qs st kp ms s){K}(hK:F7 _ J K):
  ∃vs,K vs w/\Rep (H9 st.bx) (lP st kp ms vs w) a w:=by
 obtain⟨h0,h⟩:=dw h;obtain⟨ss,hss,h⟩:=bB h;obtain⟨hc,h⟩:=dw h;simp only[aQ]at h0;obtain⟨h0,zf⟩:=h0;have hdf:s.df=st.df:=by
  obtain⟨l,hl⟩:=JW.df;have:=ca zf;rw[hl,aP]at this;have:l=[]:=List.length_eq_zero_iff.1 (by omega);rw[hl,this,ck]
 rw[<-hR.still hm]at h;obtain⟨vs,k1,k2,k3,k4⟩:=Qp h hK;have Nh:∀i b,cV st.bx i=some b->∃c,cV s.bx i=some c/\c.ty=b.ty/\c.ok=b.ok:=fun i b hb=>by
  obtain⟨c,h1,h2,h3,_⟩:=JW.ps hb;exact⟨c,h1,h2,h3⟩
 have C4:∀i b,cV st.bx i=some b->b.ok=true->b.blk=some (β i):=fun i b hb ho=>by
  obtain⟨hs,_⟩:=DG h0.2 i b hb ho;obtain⟨c,h1,h2,h3,h4⟩:=JW.ps hb;cases hk:b.blk with
  | none=>rw[hk]at hs;cases hs
  | some k=>rw[(hR.bx i c h1 (h3.trans ho)).at_ k (h4 k hk)]
 have hγ:∀i b,cV st.bx i=some b->b.ok=true->H9 st.bx i=β i:=fun i b hb ho=>by
  unfold H9;rw[hb];dsimp only;rw[C4 i b hb ho];rfl
 have mT:∀i,F2 st.bx i=true->H9 st.bx i=β i:=fun i hi=>by
  unfold F2 at hi;cases hb:cV st.bx i with
  | none=>rw[hb]at hi;cases hi
  | some b=>
   rw[hb]at hi;simp at hi;exact hγ i b hb hi.1
 have JX:∀i b',cV (I2 st ms vs st.bx) i=some b'->b'.ok=true->∃b,cV st.bx i=some b/\b.ok=true/\b'.blk=b.blk:=fun i b' hb ho=>by
  cases hn:cV st.bx i with
  | none=>rw[nR _ _ _ _ hn]at hb;cases hb
  | some b=>
   obtain⟨b2,h1,h2,h3,h4,_⟩:=iE (st:=st) ms vs st.bx i b hn;rw[h1]at hb;injection hb with hb;subst hb;exact⟨b,rfl,by rw[<-h3];exact ho,h4⟩
 refine⟨vs,k1,qG ⟨hR.ok.sz.trans JW.n,hR.ok.df.trans (bI Xw hdf),fun i p hl hi=>?_⟩,fun i b' hb ho=>?_,fun i j bi bj g1 g2 g3 g4 tW=>?_,Only.refl _ _,fun _=>rfl⟩
 ·simp[lP]at hl;rw[tD]at hl;split at hl
  ·rename_i q hq;simp at hl;subst hl;exact DH hR hss hc (k3 _) i q hq
  ·obtain⟨m1,m2⟩:=yP hl;obtain⟨k,v⟩:=p;obtain⟨v',n1,n2,n3,n4⟩:=KY h0.1 i m1 k v m2;have:=JW.slot m1 m2 n1 n2 n3;subst this;rw[hR.ok.at_ i _ n1 (by rw[JW.n];exact hi)];congr 1;exact(iC (g:=F2 st.bx) mT _ n4).symm
 ·have hB:=zU hR Nh hγ hss hc (k3 _) (bx:=st.bx) (fun j b hb=>⟨b,hb,rfl,rfl⟩) (fun j b hb ho=>by
   obtain⟨_,h1⟩:=DG h0.2 j b hb ho;rw[bO]at h1;rcases h1 with h1 | ⟨c,h1,h2,h3⟩
   ·exact .inr h1
   ·cases hl:(Qr st ms).elem j with
    | true=>exact .inr rfl
    | false=>
     left;obtain⟨c',e1,e2,e3⟩:=Nh j b hb;rw[h1]at e1;injection e1 with e1;subst e1;have:=(hR.bx j c h1 (e3.trans ho)).blk;rw[hγ j b hb ho,<-e2,gx (g:=F2 st.bx) mT _ h3,<-JW.cells hb h1 ho hl h2];exact this) i b' hb ho
  obtain⟨b,g1,g2,g3⟩:=JX i b' hb ho;refine⟨hB,fun k hk=>?_,fun hk=>?_⟩
  ·rw[hγ i b g1 g2];rw[g3,C4 i b g1 g2]at hk;simpa using hk
  ·rw[g3,C4 i b g1 g2]at hk;cases hk
 ·obtain⟨b,e1,e2,_⟩:=JX i bi g1 g3;obtain⟨c,f1,f2,_⟩:=JX j bj g2 g4;obtain⟨b',p1,_,p3⟩:=Nh i b e1;obtain⟨c',q1,_,q3⟩:=Nh j c f1;rw[hγ i b e1 e2,hγ j c f1 f2];exact hR.ne i j b' c' p1 q1 (p3.trans e2) (q3.trans f2) tW
end
def bP(S:Nat->Prop)(w w':av):Prop:=∀k,S k->k<w.heap.size->w'.heap[k]? =w.heap[k]?
theorem bP.refl S w:bP S w w:=fun _ _ _=>rfl
theorem bP.only{S}{w w'}(h:Only [] w w'):bP S w w':=fun k _ hk=>h.block k hk (by simp)
def uK(S:Nat->Prop)(k:Nat):Prop:=¬S k
def EE(P:Program)(ops:List Oper)(mb ms:Bool)(S:Nat->Prop)(j:Nat)(w w':av):Prop:=match gv ops j with
 | some o=>bif jg P o.op then w'.heap=w.heap else bif mb&&(ms||!yw o.op)then bP S w w' else True
 | none=>False
def XB(mb ms:Bool)(S:Nat->Prop)(o:Op):XT:=fun w0 w1 p=>bif mb&&(ms||!yw o)then bP S w0 w1/\p else p
def YB(mb ms:Bool)(S:Nat->Prop):YT:=fun bk p=>bif mb&&ms then(match bk with
 | some k=>uK S k/\p
 | none=>False)else p
def qL(P:Program):Nat->List Oper->List Nat
 | _,[]=>[]
 | i,o::r=>bif jg P o.op then qL P (i+1) r else i::qL P (i+1) r
def XI(q:Nat)(seen:List Nat):List Edge->Bool
 | []=>false
 | e::r=>(Region.binds .any e&&(Nat.beq e.on q||seen.elem e.on))||XI q seen r
def Qt(q:Nat):Nat->List Nat->List Oper->List Nat
 | _,seen,[]=>seen
 | i,seen,o::r=>bif XI q seen o.after.toList then Qt q (i+1) (i::seen) r else Qt q (i+1) seen r
def Ud(bE:Array Bool):Nat->List Oper->List Nat
 | _,[]=>[]
 | i,_::r=>bif bE.getD i true then i::Ud bE (i+1) r else Ud bE (i+1) r
def NK(D N:List Nat):List Nat->List Nat
 | []=>[]
 | j::r=>bif D.elem j||N.elem j then NK D N r else j::NK D N r
def KZ(ops:List Oper):List Nat->Bool
 | []=>true
 | j::r=>(match gv ops j with
  | some o=>!yw o.op
  | none=>false)&&KZ ops r
def Dq(ops:List Oper)(q:Nat):List Nat:=(Qt q 0 [] ops).reverse
def ZP(P:Program)(ops:List Oper)(bE:Array Bool)(q:Nat):List Nat:=NK (Dq ops q) (Ud bE 0 ops) (qL P 0 ops)
def ZQ{α:Type}:List α->Bool
 | []=>true
 | _=>false
def okT(ops:List Oper)(bE:Array Bool)(q:Nat):Bool:=
 Region.noSelect ops.toArray&&Region.free .any ops.toArray bE q&&vF .any ops.toArray bE&&rR .any ops.toArray q [] (Dq ops q)&&(Ud bE 0 ops).all (fun k=>bE.getD k true)
def Vp(st:St)(ops:List Oper)(o:Oper)(Ur no:St->Prop):Prop:=match o.guard with
 | none=>Ur st
 | some (j,want)=>(match ZI st ops j with
  | some (_,.un)=>no st
  | some (_,.bl b)=>bif b==want then Ur st else no st
  | some (d,.bt t)=>((t=true->bif true==want then Ur (st.put (some d) (.bl true))else no (st.put (some d) (.bl true)))/\
   (t=false->bif false==want then Ur (st.put (some d) (.bl false))else no (st.put (some d) (.bl false))))
  | _=>False)
def ldB(P:Program)(S:Nat->Prop)(st:St)(t:TypeId)(a:SV)(K:SV->Prop):Prop:=match P.underlying t with
 | none=>False
 | some d=>(match a with
  | .box i o=>cd (cV st.bx i) fun b=>bif b.ok&&b.blk.isSome&&sz P t ((b.cells.drop o).take (mZ P t)).length&&(lM d||Nat.beq ((b.cells.drop o).take (mZ P t)).length 1)then S (b.blk.getD 0)/\K (NC (lM d) ((b.cells.drop o).take (mZ P t)))else False
  | .ad p=>bif !st.mv&&sz P t (P3 P 12 t).length&&(lM d||Nat.beq (P3 P 12 t).length 1)then S p.block/\Xx (P3 P 12 t) fun vs=>Cells st.w0 p (cw β0 vs)/\K (NC (lM d) vs)else False
  | _=>False)
def cvB(P:Program)(S:Nat->Prop)(st:St)(s d:TypeId)(a:SV)(K:SV->Prop):Prop:=match P.underlying s,P.underlying d with
 | some (.slice e),some .string=>(match P.underlying e with
  | some (.int .u8)=>cd (KO a) fun u=>bif st.mv then False else ∃l,(∀ad,u.a=some ad->S ad.block)/\zo st.w0 u l/\K (.str ⟨l.toArray⟩)
  | _=>False)
 | _,_=>False
def aeI(P:Program):Op->Bool
 | .load _ _=>true
 | .convert s d _=>(match P.underlying s,P.underlying d with
  | some (.slice _),some .string=>true
  | _,_=>false)
 | _=>false
def cvI(P:Program):Op->Bool
 | .convert s d _=>(match P.underlying s,P.underlying d with
  | some (.int _),some (.int _)=>true
  | some .string,some .string=>true
  | _,_=>false)
 | _=>false
def cvZ(P:Program)(s d:TypeId)(a:SV)(K:SV->Prop):Prop:=match P.underlying s,P.underlying d with
 | some (.int _),some (.int kd)=>cd (pD a) fun p=>K (.int kd (kd.wrap p.2))
 | some .string,some .string=>cd (uI a) fun u=>K (.str u)
 | _,_=>False
def qP(P:Program)(ops:List Oper)(mb ms:Bool)(S:Nat->Prop)(bE:Array Bool)(q:Nat)(o:Oper)(st:St)(K:St->Prop):Prop:=
 bif jg P o.op then
  bif cvI P o.op then(match o.op with
   | .convert s d x=>cd (st.ev x) fun a=>cvZ P s d a fun v=>K (st.put o.dst v)
   | _=>False)
  else bif !mem o.op||ZQ (ZP P ops bE q)then ZM (nd P st o.op) st fun st=>ZC P [] st o.op fun v=>K (st.put o.dst v)
  else bif mb&&(ms||KZ ops (ZP P ops bE q))then(match o.op with
   | .load t x=>ZM (nd P st o.op) st fun st=>cd (st.ev x) fun a=>ldB P S st t a fun v=>K (st.put o.dst v)
   | .convert s d x=>ZM (nd P st o.op) st fun st=>cd (st.ev x) fun a=>cvB P S st s d a fun v=>K (st.put o.dst v)
   | _=>False)else False
 else False
def fq(P:Program)(ops:List Oper):List Nat->Option Nat
 | []=>none
 | i::r=>match gv ops i with
  | some o=>bif jg P o.op then some i else fq P ops r
  | none=>none
def F9(P:Program)(ops:List Oper)(mb ms:Bool)(S:Nat->Prop):Nat->Array Bool->St->(St->Prop)->Prop
 | 0,bE,st,K=>(match Region.ready .any ops.toArray bE with
  | []=>K st
  | _=>False)
 | g+1,bE,st,K=>(match Region.ready .any ops.toArray bE with
  | []=>K st
  | i::r=>(match fq P ops (i::r)with
   | some q=>cd (gv ops q) fun o=>bif okT ops bE q&&(i::r).contains q then
    Vp st ops o (fun st=>qP P ops mb ms S bE q o st fun st=>F9 P ops mb ms S g (bE.setIfInBounds q true) st K) (fun st=>F9 P ops mb ms S g (bE.setIfInBounds q true) (st.put o.dst .un) K)else False
   | none=>(match r with
    | []=>cd (gv ops i) fun o=>bif jg P o.op then False else
     Vp st ops o (fun st=>loud P (XB mb ms S o.op) (YB mb ms S) st o fun st=>F9 P ops mb ms S g (bE.setIfInBounds i true) st K) (fun st=>F9 P ops mb ms S g (bE.setIfInBounds i true) (st.put o.dst .un) K)
    | [j]=>cd (gv ops i) fun o=>cd (gv ops j) fun o'=>bif jg P o.op||jg P o'.op then False else
     Vp st ops o (fun st=>loud P (XB mb ms S o.op) (YB mb ms S) st o fun st=>F9 P ops mb ms S g (bE.setIfInBounds i true) st K) (fun st=>F9 P ops mb ms S g (bE.setIfInBounds i true) (st.put o.dst .un) K)/\
     Vp st ops o' (fun st=>loud P (XB mb ms S o'.op) (YB mb ms S) st o' fun st=>F9 P ops mb ms S g (bE.setIfInBounds j true) st K) (fun st=>F9 P ops mb ms S g (bE.setIfInBounds j true) (st.put o'.dst .un) K)
    | _=>False)))
def mbN(P:Program)(ops:List Oper):Nat->List Oper->Bool
 | _,[]=>false
 | i,o::r=>(bif aeI P o.op then(qL P 0 ops).any fun j=>!(Dq ops i).elem j&&!(Dq ops j).elem i
  else false)||mbN P ops (i+1) r
def ZR(P:Program)(ops:List Oper):Nat->List Oper->Bool
 | _,[]=>false
 | i,o::r=>(bif aeI P o.op then(qL P 0 ops).any fun j=>!(Dq ops i).elem j&&!(Dq ops j).elem i&&(match gv ops j with
   | some o'=>yw o'.op
   | none=>false)
  else false)||ZR P ops (i+1) r
section
variable {P:Program} {ops:List Oper} {mb ms:Bool} {S:Nat->Prop} {β:Nat->Nat} {a:Act} {w:av}
theorem zV{st}{o}{Ur no}(h:Vp st ops o Ur no)(hR:Rep β st a w):
  ∃s,Ext st s/\Rep β s a w/\((Region.wanted o (yielded ops.toArray a.tmps)=true/\Ur s)∨(Region.wanted o (yielded ops.toArray a.tmps)=false/\no s)):=by
 unfold Vp at h;split at h
 ·rename_i hg;exact⟨st,Ext.refl _,hR,.inl ⟨wn hg,h⟩⟩
 ·rename_i j want hg;split at h
  ·rename_i d ht;exact⟨st,Ext.refl _,hR,.inr ⟨wS hR hg ht,h⟩⟩
  ·rename_i d b ht;have hw:=pE hR hg ht (b:=b) rfl;rcases mC h with⟨e,h⟩ | ⟨e,h⟩
   ·exact⟨st,Ext.refl _,hR,.inl ⟨hw.trans e,h⟩⟩
   ·exact⟨st,Ext.refl _,hR,.inr ⟨hw.trans e,h⟩⟩
  ·rename_i d t ht;obtain⟨oj,WM,hj2,Uq⟩:=zE ht;have hw:=pE hR hg ht (b:=t) rfl;cases t with
   | true=>
    refine⟨_,Ext.put _ _ (.bl true),hR.set Uq rfl,?_⟩;rcases mC (h.1 rfl)with⟨e,h⟩ | ⟨e,h⟩
    ·exact .inl ⟨hw.trans e,h⟩
    ·exact .inr ⟨hw.trans e,h⟩
   | false=>
    refine⟨_,Ext.put _ _ (.bl false),hR.set Uq rfl,?_⟩;rcases mC (h.2 rfl)with⟨e,h⟩ | ⟨e,h⟩
    ·exact .inl ⟨hw.trans e,h⟩
    ·exact .inr ⟨hw.trans e,h⟩
  ·exact h.elim
theorem I3{st:St}{d}{t}{x}{l}{ad}{w'}(hu:P.underlying t=some d)(hsz:sz P t l.length=true)(jZ:lM d=true∨Nat.beq l.length 1=true)
  (Ng:a.eval x=.pointer (some ad)) (hC:Cells w' ad (cw β l)) dst t' p af g:
  (execOp a.eval ⟨dst,.load t x,t',p,af,g⟩).run P w'=.ok (.value (val β (NC (lM d) l))) w':=by
 rcases jZ with rC | jZ
 ·rw[oH rC];have:=kl (P:=P) hu w';rw[rC]at this;exact tz this (oV hsz w') (fh β l) Ng hC
 ·cases rC:lM d with
  | true=>
   have e:=oH rC β l;rw[rC]at e;rw[e];have:=kl (P:=P) hu w';rw[rC]at this;exact tz this (oV hsz w') (fh β l) Ng hC
  | false=>
   obtain⟨s,rfl⟩:=zD jZ;have:=kl (P:=P) hu w';rw[rC]at this;exact Dd this Ng (Cells.one hC)
theorem uL:∀{l:List Oper} {i j:Nat} {o:Oper},gv l j=some o->jg P o.op=false->i+j∈qL P i l
 | [],_,_,_,h,_=>by cases h
 | c::r,i,0,o,h,hp=>by
  simp[gv,aZ]at h;subst h;simp[qL,hp]
 | c::r,i,j+1,o,h,hp=>by
  have:=uL (l:=r) (i:=i+1) (j:=j) h hp;rw[show i+1+j=i+(j+1) by omega]at this;simp[qL];cases jg P c.op with
  | true=>exact this
  | false=>exact cX _ this
theorem vQ{D N}:∀{l:List Nat} {j:Nat},j∈l->j∉D->j∉N->j∈NK D N l
 | c::r,j,h,h1,h2=>by
  simp only[NK];rcases aU.1 h with rfl | h
  ·have e1:D.elem j=false:=by simpa using h1
   have e2:N.elem j=false:=by simpa using h2
   rw[e1,e2];simp
  ·cases(D.elem c||N.elem c)with
   | true=>exact vQ h h1 h2
   | false=>exact cX _ (vQ h h1 h2)
theorem Ga:∀{l:List Nat} {j:Nat} {o:Oper},KZ ops l=true->j∈l->gv ops j=some o->yw o.op=false
 | [],j,o,_,hj,_=>by cases hj
 | c::r,j,o,h,hj,ho=>by
  simp[KZ,aQ]at h;rcases aU.1 hj with hc | hj
  ·have h1:=h.1;rw[<-hc,ho]at h1;cases he:yw o.op with
   | false=>rfl
   | true=>dsimp only at h1;rw[he]at h1;cases h1
  ·exact Ga h.2 hj ho
def Sta(P:Program)(ops:List Oper)(mb ms:Bool)(S:Nat->Prop)(D N:List Nat)(F:av->Prop):Prop:=∀j w w',j∉D->j∉N->F w->EE P ops mb ms S j w w'->F w'
theorem XJ{bE}{q}{o}{st}{K}(h:qP P ops mb ms S bE q o st K)(hR:Rep β st a w):
  ∃(v:aw) (s':St) (F:av->Prop),K s'/\Ext st s'/\Rep β s' (a.put o.dst v) w/\F w/\Sta P ops mb ms S (Dq ops q) (Ud bE 0 ops) F/\jg P o.op=true/\∀w',F w'->(execOp a.eval o).run P w'=.ok (.value v) w':=by
 rcases mC h with⟨hp,h⟩ | ⟨_,h⟩
 case inr=>exact h.elim
 rcases mC h with⟨_,h⟩ | ⟨_,h⟩
 ·obtain⟨dst,op,t',p,af,g⟩:=o;cases op with
  | convert s d x=>
   dsimp only at h;obtain⟨ax,hx,h1⟩:=bB h;unfold cvZ at h1;split at h1
   ·rename_i ks kd h2 h3;obtain⟨⟨k,n⟩,JY,h1⟩:=bB h1;exact⟨_,_,fun _=>True,h1,Ext.put _ _ _,hR.put _ _,trivial,fun _ _ _ _ _ _ _=>trivial,hp,fun w' _=>B0 (run_underlying h2 w') (run_underlying h3 w') ((hR.ev hx).trans (dh JY β))⟩
   ·rename_i h2 h3;obtain⟨u,JY,h1⟩:=bB h1;exact⟨_,_,fun _=>True,h1,Ext.put _ _ _,hR.put _ _,trivial,fun _ _ _ _ _ _ _=>trivial,hp,fun w' _=>B1 (run_underlying h2 w') (run_underlying h3 w') ((hR.ev hx).trans (ic JY β))⟩
   ·exact h1.elim
  | _=>exact h.elim
 rcases mC h with⟨hb,h⟩ | ⟨hb,h⟩
 ·obtain⟨s1,h1,e1,gX,_⟩:=wW h hR;obtain⟨v,hv,hy⟩:=IV h1;have hy:=hy trivial β a w gX;obtain⟨dst,op,t',p,af,g⟩:=o;cases hm:mem op with
  | false=>
   exact⟨val β v,_,fun _=>True,hv,e1.trans (Ext.put _ _ _),gX.put _ v,trivial,fun _ _ _ _ _ _ _=>trivial,hp,fun w' _=>hy _ _ _ _ _ w' fun e=>by rw[hm]at e;cases e⟩
  | true=>
   have hn:=by simpa[hm]using hb
   refine⟨val β v,_,fun w'=>w'.heap=w.heap,hv,e1.trans (Ext.put _ _ _),gX.put _ v,rfl,fun j w1 w2 hD hN hF hE=>?_,hp,fun w' hF=>hy _ _ _ _ _ w' fun _=>hF⟩;unfold EE at hE;split at hE
   ·rename_i oj hj;rcases mC hE with⟨_,e⟩ | ⟨e,_⟩
    ·exact e.trans hF
    ·have:=vQ (by have:=uL (i:=0) hj e;rwa[bO]at this) hD hN;unfold ZP at hn;revert hn this;generalize NK (Dq ops q) (Ud bE 0 ops) (qL P 0 ops)=m;intro hn this;cases m with
     | nil=>cases this
     | cons=>cases hn
   ·exact hE.elim
 ·obtain⟨h0,h⟩:=dw h;simp only[aQ]at h0;obtain⟨dst,op,t',p,af,g⟩:=o;have ph:∀F:av->Prop,∀k:Nat,S k->(∀w1 w2:av,F w1->w2.heap[k]? =w1.heap[k]? ->F w2)->(∀w1,F w1->k<w1.heap.size)->Sta P ops mb ms S (Dq ops q) (Ud bE 0 ops) F:=by
   intro F k hk Pw hF2 j w1 w2 hD hN hF hE;unfold EE at hE;split at hE
   ·rename_i oj hj;rcases mC hE with⟨_,e⟩ | ⟨e,hE⟩
    ·exact Pw w1 w2 hF (by rw[e])
    ·have:=vQ (by have:=uL (i:=0) hj e;rwa[bO]at this) hD hN;have hs:(ms||!yw oj.op)=true:=by
      rcases cn _ _▸h0.2 with h2 | h2
      ·rw[h2];rfl
      ·rw[Ga h2 this hj,Bool.not_false,KE]
     rw[h0.1,hs]at hE;exact Pw w1 w2 hF (hE k hk (hF2 _ hF))
   ·exact hE.elim
  cases op with
  | load t x=>
   dsimp only at h;obtain⟨s1,h1,e1,gX,_⟩:=wW h hR;obtain⟨ax,hx,h1⟩:=bB h1;unfold ldB at h1;split at h1
   ·exact h1.elim
   ·rename_i d hu;split at h1
    ·rename_i i off;obtain⟨b,zh,h1⟩:=bB h1;obtain⟨hc,hS,hK⟩:=dw h1;simp only[aQ,cn]at hc;obtain⟨⟨⟨oe,Pv⟩,hsz⟩,jZ⟩:=hc;have hBO:=gX.bx i b zh oe;have hB:=hBO.blk;have hbe:b.blk.getD 0=β i:=by
      cases hk:b.blk with
      | none=>rw[hk]at Pv;cases Pv
      | some k=>rw[hBO.at_ k hk];rfl
     rw[hbe]at hS;have Ng:=gX.ev hx;refine⟨_,_,fun w'=>Blk w' _ b.ty _,hK,e1.trans (Ext.put _ _ _),gX.put _ _,hB,ph _ _ hS (fun w1 w2 hF e=>by unfold Blk at hF⊢;rw[e];exact hF) (fun w1 hF=>hF.lt),hp,fun w' hF=>?_⟩;generalize hl:(b.cells.drop off).take (mZ P t)=l at*
     have hC:Cells w' ⟨β i,off,none⟩ (cw β l):=hF.EP off _ (by
      rw[fh,<-hl];simp only[cw,mY,qA];rw[cT,pz];simp only[cH,bm];omega)
     exact I3 (st:=st) hu hsz jZ Ng hC _ _ _ _ _
    ·rename_i ad;obtain⟨hc,hS,h2⟩:=dw h1;simp only[aQ,cn,dS]at hc;obtain⟨⟨qy,hsz⟩,jZ⟩:=hc;obtain⟨vs,⟨hF,hK⟩,fi,mT⟩:=uH h2;rw[<-gX.still qy]at hF;have hv:∀w',Cells w' ad _->Cells w' ad (cw β vs):=fun w' h=>by
      rw[gx (β:=β) (β':=β0) (g:=fun _=>false) (fun i h=>(by cases h)) vs (mT _)];exact h
     rw[<-fi]at hsz jZ;by_cases agS:cw β0 vs=[]
     ·refine⟨_,_,fun _=>True,hK,e1.trans (Ext.put _ _ _),gX.put _ _,trivial,fun _ _ _ _ _ _ _=>trivial,hp,fun w' _=>?_⟩;exact I3 (st:=st) hu hsz jZ (gX.ev hx) (hv w' (by rw[agS];intro j v hj;simp at hj)) _ _ _ _ _
     ·exact⟨_,_,fun w'=>Cells w' ad _,hK,e1.trans (Ext.put _ _ _),gX.put _ _,hF,ph _ ad.block hS (fun w1 w2 hF e=>hF.keep e) (fun w1 hF=>hF.lt' agS),hp,fun w' hF=>I3 (st:=st) hu hsz jZ (gX.ev hx) (hv w' hF) _ _ _ _ _⟩
    ·exact h1.elim
  | convert s d x=>
   dsimp only at h;obtain⟨s1,h1,e1,gX,_⟩:=wW h hR;obtain⟨ax,hx,h1⟩:=bB h1;unfold cvB at h1;split at h1
   ·rename_i e hu1 hu2;split at h1
    ·rename_i hu3;obtain⟨u,JY,h1⟩:=bB h1;cases hm:s1.mv with
     | true=>rw[hm]at h1;exact h1.elim
     | false=>
      rw[hm]at h1;obtain⟨l,hS,hF,hK⟩:=h1;rw[<-(gX.still hm)]at hF;refine⟨_,_,fun w'=>zo w' u l,hK,e1.trans (Ext.put _ _ _),gX.put _ _,hF,?_,hp,fun w' hF'=>zr hu1 hu3 hu2 ((gX.ev hx).trans (jL JY β)) hF'⟩;by_cases hl:l=[]
      ·subst hl;exact fun j w1 w2 _ _ Pw _=>⟨Pw.1,fun hh=>absurd rfl hh⟩
      ·obtain⟨ad,ha,_⟩:=hF.2 hl;refine ph _ ad.block (hS ad ha) (fun w1 w2 Pw e=>⟨Pw.1,fun hh=>?_⟩) (fun w1 Pw=>?_)
       ·obtain⟨EZ,E3,hC⟩:=Pw.2 hh;rw[ha]at E3;injection E3 with E3;subst E3;exact⟨ad,ha,hC.keep e⟩
       ·obtain⟨EZ,E3,hC⟩:=Pw.2 hl;rw[ha]at E3;injection E3 with E3;subst E3;exact hC.lt' (by cases l with
         | nil=>exact absurd rfl hl
         | cons c l=>simp)
    ·exact h1.elim
   ·exact h1.elim
  | _=>exact h.elim
theorem qM{j}{o}(hj:gv ops j=some o) w:EE P ops mb ms S j w w:=by
 unfold EE;rw[hj];dsimp only;cases jg P o.op with
 | true=>rfl
 | false=>
  cases(mb&&_)with
  | true=>exact bP.refl _ _
  | false=>exact trivial
theorem Gb{Q}{j}{o}{st}{K}(hj:gv ops j=some o)(hp:jg P o.op=false)(h:loud P (XB mb ms S o.op) (YB mb ms S) st o K)(hR:Rep β st a w):o.wp P a w (XG (EE P ops mb ms S j) st K w) Q:=by
 have hEE:EE P ops mb ms S j=fun w w'=>bif mb&&(ms||!yw o.op)then bP S w w' else True:=by
  unfold EE;rw[hj];dsimp only;rw[hp];rfl
 refine DE (fun w0 w1 p hx=>?_) (fun w w1 hO=>?_) (fun hs bk k w w1 p hy hk hO=>?_) h hR
 ·rw[hEE];unfold XB at hx;cases hb:(mb&&_)with
  | true=>rw[hb]at hx;exact⟨hx.2,hx.1⟩
  | false=>rw[hb]at hx;exact⟨hx,trivial⟩
 ·rw[hEE];cases(mb&&_)with
  | true=>exact bP.only hO
  | false=>exact trivial
 ·rw[hEE];rw[hs,Bool.not_true,Bool.or_false];unfold YB at hy;cases hb:(mb&&ms)with
  | true=>
   rw[hb]at hy;cases bk with
   | none=>exact hy.elim
   | some j=>
    refine⟨hy.2,fun q hq bS=>hO.block q bS ?_⟩;have:=hk j rfl;subst this;simp;rintro rfl;exact hy.1 hq
  | false=>rw[hb]at hy;exact⟨hy,trivial⟩
theorem rZ{Q}(hQ:∀c a w,¬Q (.panic c) a w):∀{g:Nat} {bE:Array Bool} {st:St} {K:St->Prop} {β:Nat->Nat} {a:Act} {w:av},F9 P ops mb ms S g bE st K->Rep β st a w->
  (∀β' cE a' w',K cE->Ext st cE->Rep β' cE a' w'->Q .normal a' w')->fx P .any ops.toArray Q (EE P ops mb ms S) g bE a w
 | 0,bE,st,K,β,a,w,h,hR,hK=>by
  unfold F9 at h;split at h
  ·rename_i hr;exact⟨hr,hK β st a w h (Ext.refl _) hR⟩
  ·exact h.elim
 | g+1,bE,st,K,β,a,w,h,hR,hK=>by
  have L:∀{j:Nat} {o:Oper},gv ops j=some o->jg P o.op=false->
    Vp st ops o (fun st=>loud P (XB mb ms S o.op) (YB mb ms S) st o fun st=>F9 P ops mb ms S g (bE.setIfInBounds j true) st K) (fun st=>F9 P ops mb ms S g (bE.setIfInBounds j true) (st.put o.dst .un) K)->
    if Region.wanted o (yielded ops.toArray a.tmps)then o.wp P a w (fun a' w'=>EE P ops mb ms S j w w'/\fx P .any ops.toArray Q (EE P ops mb ms S) g (bE.setIfInBounds j true) a' w') Q∨(o.asks P a w/\LetsOut Q)
    else(fun a' w'=>EE P ops mb ms S j w w'/\fx P .any ops.toArray Q (EE P ops mb ms S) g (bE.setIfInBounds j true) a' w') (a.put o.dst undef) w:=by
   intro j o ho hp h;obtain⟨s,e1,gX,h1⟩:=zV h hR;rcases h1 with⟨hw,h1⟩ | ⟨hw,h1⟩
   ·rw[if_pos hw];refine .inl (Oper.wp_mono ?_ (Gb ho hp h1 gX));rintro a' w' ⟨β',cE,k1,k2,k3,k4⟩;exact⟨k3,rZ hQ k1 k4 fun β2 rJ a2 w2 m1 m2 m3=>hK β2 rJ a2 w2 m1 ((e1.trans k2).trans m2) m3⟩
   ·rw[if_neg (by simp[hw])];exact⟨qM ho w,rZ hQ h1 (gX.put o.dst .un) fun β2 rJ a2 w2 m1 m2 m3=>hK β2 rJ a2 w2 m1 ((e1.trans (Ext.put _ _ _)).trans m2) m3⟩
  unfold F9 at h;split at h
  ·rename_i hr;exact Zu hr (hK β st a w h (Ext.refl _) hR)
  ·rename_i i r hr;split at h
   ·rename_i q hq;obtain⟨o,ho,h⟩:=bB h;obtain⟨hc,h⟩:=dw h;simp only[aQ,okT]at hc;obtain⟨⟨⟨⟨⟨c1,c2⟩,c3⟩,c4⟩,c5⟩,c6⟩:=hc;obtain⟨s,e1,gX,h1⟩:=zV h hR;rcases h1 with⟨hw,h1⟩ | ⟨hw,h1⟩
    ·obtain⟨v,s2,F,k1,k2,k3,k4,k5,k6,k7⟩:=XJ h1 gX;have hE:∀w1,F w1->EE P ops mb ms S q w1 w1:=fun w1 _=>qM ho w1;exact IK q _ _ v F ho c1 c2 (by rw[hr];exact c6) c3 c4 c5 (fun c a w hp=>(hQ _ _ _ hp).elim) k5 hE k4 (Xu hw k7) rfl
      (rZ hQ k1 k3 fun β2 rJ a2 w2 m1 m2 m3=>hK β2 rJ a2 w2 m1 ((e1.trans k2).trans m2) m3)
    ·exact IK q _ _ undef _ ho c1 c2 (by rw[hr];exact c6) c3 c4 c5 (fun c a w hp=>(hQ _ _ _ hp).elim) (fun _ _ _ _ _ _ _=>trivial) (fun w1 _=>qM ho w1) trivial (aer hw) rfl
      (rZ hQ h1 (gX.put o.dst .un) fun β2 rJ a2 w2 m1 m2 m3=>hK β2 rJ a2 w2 m1 ((e1.trans (Ext.put _ _ _)).trans m2) m3)
   ·split at h
    ·obtain⟨o,ho,h⟩:=bB h;rcases mC h with⟨_,h⟩ | ⟨hp,h⟩
     ·exact h.elim
     obtain⟨s,e1,gX,h1⟩:=zV h hR;rcases h1 with⟨hw,h1⟩ | ⟨hw,h1⟩
     ·refine aep i ho hr hw (Oper.wp_mono ?_ (Gb ho hp h1 gX));rintro a' w' ⟨β',cE,k1,k2,k3,k4⟩;exact⟨k3,rZ hQ k1 k4 fun β2 rJ a2 w2 m1 m2 m3=>hK β2 rJ a2 w2 m1 ((e1.trans k2).trans m2) m3⟩
     ·exact U5 i ho hr hw (qM ho w) rfl (rZ hQ h1 (gX.put o.dst .un) fun β2 rJ a2 w2 m1 m2 m3=>hK β2 rJ a2 w2 m1 ((e1.trans (Ext.put _ _ _)).trans m2) m3)
    ·rename_i j _;obtain⟨o,ho,h⟩:=bB h;obtain⟨o',Px,h⟩:=bB h;rcases mC h with⟨_,h⟩ | ⟨hp,h⟩
     ·exact h.elim
     simp at hp;exact aeq i j ho Px hr (L ho hp.1 h.1) (L Px hp.2 h.2)
    ·exact h.elim
end
def jt(ws w w':av):Prop:=w.heap.size<=w'.heap.size/\∀k,ws.heap.size<=k->k<w.heap.size->w'.heap[k]? =w.heap[k]?
def vR(mk:List (Nat×Nat))(b:Nat):Prop:=∀p∈mk,b<p.1∨p.2<=b
theorem jt.only{bs}{ws w w'}(h:Only bs w w')(hb:∀b∈bs,b<ws.heap.size∨w.heap.size<=b):jt ws w w':=
 ⟨h.size,fun k h1 h2=>h.block k h2 fun hk=>by grind⟩
theorem jt.yd{ws w w'}(h:Only [] w w'):jt ws w w':=jt.only h (by simp)
theorem vR.one{m n b}{r}(h:vR ((m,n)::r) b):b<m∨n<=b:=h _ dT
structure LZ where
 z:Nat
 d:Nat
 t:TypeId
 zs:List SV
def uM(P:Program)(z:Nat)(o:Oper):Option LZ:=match o.op,o.dst,o.guard with
 | .alloc t,some d,none=>(match zc P t with
  | some zs=>bif ZQ o.after.toList&&ia (fun _=>false) zs then some ⟨z,d,t,zs⟩else none
  | none=>none)
 | _,_,_=>none
def kG(P:Program):Nat->List Oper->List LZ
 | _,[]=>[]
 | i,o::r=>match uM P i o with
  | some p=>p::kG P (i+1) r
  | none=>kG P (i+1) r
def nA:List LZ->List Nat
 | []=>[]
 | p::r=>p.z::nA r
def zSl:List LZ->List Nat
 | []=>[]
 | p::r=>p.d::zSl r
def Gc(z d:Nat):Nat->List Oper->Bool
 | _,[]=>true
 | i,o::r=>(Nat.beq i z||(match o.dst with
  | some e=>!Nat.beq e d
  | none=>true))&&Gc z d (i+1) r
def zOk(ops:List Oper):List LZ->Bool
 | []=>true
 | p::r=>Gc p.z p.d 0 ops&&zOk ops r
theorem Qu{α}:∀{l:List α},ZQ l=true->l=[]
 | [],_=>rfl
theorem lQ{P}{z}{o}{p}(h:uM P z o=some p):p.z=z/\o.op=.alloc p.t/\o.dst=some p.d/\o.guard=none/\o.after.toList=[]/\zc P p.t=some p.zs/\ia (fun _=>false) p.zs=true:=by
 unfold uM at h;split at h
 ·rename_i t d h1 h2 h3;split at h
  ·rename_i zs hz;obtain⟨h4,rfl⟩:=Dt h;simp at h4;exact⟨rfl,h1,h2,h3,Qu h4.1,hz,h4.2⟩
  ·cases h
 ·cases h
theorem nB{Z}{z}:z∈nA Z↔∃p∈Z,p.z=z:=by
 induction Z with
 | nil=>simp[nA]
 | cons p r ih=>simp[nA,ih,eq_comm (a:=z)]
theorem zW{P}:∀{l:List Oper} {i:Nat} {p:LZ},p∈kG P i l->∃j o,p.z=i+j/\gv l j=some o/\uM P p.z o=some p
 | [],i,p,h=>by cases h
 | o::r,i,p,h=>by
  have tl:p∈kG P (i+1) r->∃j o',p.z=i+j/\gv (o::r) j=some o'/\uM P p.z o'=some p:=fun h=>by
   obtain⟨j,o',h1,h2,h3⟩:=zW h;exact⟨j+1,o',by omega,h2,h3⟩
  unfold kG at h;split at h
  ·rename_i q hq;rcases aU.1 h with rfl | h
   ·have:=(lQ hq).1;exact⟨0,o,this,rfl,by rw[this];exact hq⟩
   ·exact tl h
  ·exact tl h
theorem zX{P}:∀{l:List Oper} {i:Nat},(nA (kG P i l)).Nodup
 | [],i=>by simp[kG,nA]
 | o::r,i=>by
  unfold kG;split
  ·rename_i q hq;have e:=(lQ hq).1;simp[nA];refine⟨fun hm=>?_,zX⟩;obtain⟨p,h1,h2⟩:=nB.1 hm;obtain _:=zW h1;omega
  ·exact zX
theorem Qv{z d}:∀{l:List Oper} {i j:Nat} {o:Oper},Gc z d i l=true->gv l j=some o->i+j≠z->o.dst≠some d:=by
 intro l
 induction l with
 | nil=>intro i j o _ h;cases h
 | cons c r ih=>
  intro i j o h hj hz;simp only[Gc,aQ,cn]at h;cases j with
  | zero=>
   simp[gv]at hj;intro e;simp_all
  | succ j=>exact ih (i:=i+1) (j:=j) h.2 hj (by omega)
theorem Qw{ops}:∀{Z:List LZ},zOk ops Z=true->∀p∈Z,Gc p.z p.d 0 ops=true
 | q::r,h,p,hp=>by
  simp[zOk]at h;rcases aU.1 hp with rfl | hp
  ·exact h.1
  ·exact Qw h.2 p hp
def eO(l:Array Bool):List Nat->Array Bool
 | []=>l
 | z::r=>eO (l.setIfInBounds z true) r
theorem Gd(l:Array Bool) i j:(l.setIfInBounds i true).setIfInBounds j true=(l.setIfInBounds j true).setIfInBounds i true:=by
 by_cases h:i=j
 ·subst h;rfl
 ·exact Array.setIfInBounds_comm _ _ h
theorem nS:∀{D:List Nat} {l:Array Bool} {z:Nat},eO (l.setIfInBounds z true) D=(eO l D).setIfInBounds z true
 | [],_,_=>rfl
 | d::r,l,z=>by simp[eO,Gd,nS]
theorem Gf{D E}(h:D.Perm E):∀l,eO l D=eO l E:=by
 induction h with
 | nil=>intro l;rfl
 | cons x _ ih=>intro l;exact ih _
 | swap x y r=>intro l;simp[eO];rw[Gd]
 | trans _ _ h1 h2=>intro l;exact(h1 l).trans (h2 l)
theorem pI:∀{D:List Nat} {l:Array Bool} {k:Nat},(eO l D).getD k false=true↔l.getD k false=true∨(k∈D/\k<l.size)
 | [],l,k=>by simp[eO]
 | d::r,l,k=>by
  simp only[eO];rw[pI];by_cases h:d=k
  ·subst h;by_cases hs:d<l.size
   ·simp[hs]
   ·simp[hs]
  ·simp[pq h,Ne.symm h]
theorem nT:∀{D:List Nat} {l:Array Bool} {k:Nat},(eO l D).getD k true=true↔l.getD k true=true∨k∈D
 | [],l,k=>by simp[eO]
 | d::r,l,k=>by
  simp only[eO];rw[nT];by_cases h:d=k
  ·simp_all
  ·simp[pq h,Ne.symm h]
def BH(Zi:List Nat):List Nat->List Nat
 | []=>[]
 | j::r=>bif Zi.elem j then BH Zi r else j::BH Zi r
theorem pJ{Zi}:∀{l:List Nat} {j:Nat},j∈BH Zi l↔j∈l/\j∉Zi
 | [],j=>by simp[BH]
 | c::r,j=>by
  simp only[BH];cases h:Zi.elem c with
  | true=>
   simp only[nQ,pJ,aU]
   grind
  | false=>
   simp[pJ]
   grind
def K0(Zi R:List Nat):List Nat->Bool
 | []=>true
 | j::r=>(R.elem j&&!Zi.elem j)&&K0 Zi R r
theorem Gh{Zi R}:∀{l:List Nat},K0 Zi R l=true->∀j∈l,j∈R/\j∉Zi
 | c::r,h,j,hj=>by
  simp[K0]at h;rcases aU.1 hj with rfl | hj
  ·grind
  ·exact Gh h.2 j hj
def vS(l:Array Bool):List Nat->Bool
 | []=>true
 | z::r=>!l.getD z true&&vS l r
theorem xQ{l}:∀{Zi:List Nat},vS l Zi=true->∀z∈Zi,l.getD z true=false
 | c::r,h,z,hz=>by
  simp only[vS,aQ,dS]at h;rcases aU.1 hz with rfl | hz
  ·exact h.1
  ·exact xQ h.2 z hz
def ZS(ops:List Oper)(Zi:List Nat)(l:Array Bool):Bool:=K0 Zi (Region.ready .any ops.toArray l) (Region.ready .any ops.toArray (eO l Zi))
def K1(z:Nat):List Nat->Bool
 | []=>true
 | j::r=>Nat.beq j z&&K1 z r
theorem Gi{z}:∀{l:List Nat},K1 z l=true->∀j∈l,j=z
 | c::r,h,j,hj=>by
  simp only[K1,aQ]at h;rcases aU.1 hj with rfl | hj
  ·simp_all
  ·exact Gi h.2 j hj
def Vq(ops:List Oper)(l:Array Bool)(Zi:List Nat):List Nat->Bool
 | []=>true
 | z::r=>K1 z (Region.ready .any ops.toArray (eO l (Zi.erase z)))&&Vq ops l Zi r
theorem K2{ops}{l}{Zi}:∀{r:List Nat},Vq ops l Zi r=true->∀z∈r,∀j∈Region.ready .any ops.toArray (eO l (Zi.erase z)),j=z
 | c::r,h,z,hz=>by
  simp[Vq]at h;rcases aU.1 hz with rfl | hz
  ·exact Gi h.1
  ·exact K2 h.2 z hz
section
variable {md:Region.Mode} {ops:Array Oper}
theorem wX{l}{D E}(hs:∀x∈D,x∈E){j}(h:j∈Region.ready md ops (eO l D))(hj:j∉E):j∈Region.ready md ops (eO l E):=by
 rw[mem_ready]at h⊢;obtain⟨h0,o,ho,mc⟩:=h;refine⟨?_,o,ho,fun e he hb=>?_⟩
 ·rw[dx]at h0⊢;intro h1;rcases nT.1 h1 with h1 | h1
  ·exact h0 (nT.2 (.inl h1))
  ·exact hj h1
 ·rcases pI.1 (mc e he hb)with h1 | h1
  ·exact pI.2 (.inl h1)
  ·exact pI.2 (.inr ⟨hs _ h1.1,h1.2⟩)
theorem BI{l}(h:qB md ops l){D}(hD:∀z∈D,∀o,ops[z]? =some o->o.after.toList=[]):qB md ops (eO l D):=by
 intro k o hk hl e he hb;rcases pI.1 hl with h1 | h1
 ·exact pI.2 (.inl (h k o hk h1 e he hb))
 ·have:=hD k h1.1 o hk;simp_all
end
theorem ZT{P}{o:Oper}{a}{w}{K}{Q}(hh:o.wp P a w K Q):
  o.wp P a w (fun a' w'=>K a' w'/\∀i,o.dst≠some i->a'.tmps[i]? =a.tmps[i]?) Q:=by
 unfold Oper.wp at*
 generalize (execOp a.eval o).run P w=r at*
 cases r with
 | ok n w'=>
  cases n
  case value v=>exact⟨hh,(ka _ _ _).2.2⟩
  case skip=>exact⟨hh,(ka _ _ _).2.2⟩
  case defer d=>exact⟨hh,(ka _ _ _).2.2⟩
  case enter f args=>
   refine Calls.mono hh (fun e tV he=>?_);cases e with
   | returned v=>exact⟨he,(ka _ _ _).2.2⟩
   | _=>exact he
  case row n args=>exact Rows.mono hh (fun v tV he=>⟨he,(ka _ _ _).2.2⟩)
  all_goals exact hh
 | halt x w'=>cases x<;>simp[Oper.upon]at hh⊢ <;>exact hh
structure Late (Z:List LZ) (ws:av) (bz:Nat->Nat) (D:List Nat) (mk:List (Nat×Nat)) (a:Act) (w:av):Prop where
 at_:∀p∈Z,p.z∈D->a.tmps[p.d]? =some (.pointer (some ⟨bz p.z,0,none⟩))/\Blk w (bz p.z) p.t (cw β0 p.zs)/\ws.heap.size<=bz p.z/\vR mk (bz p.z)
 sub:∀z∈D,z∈nA Z
 ne:∀z∈D,∀z'∈D,z≠z'->bz z≠bz z'
 top:∀p∈mk,p.2<=w.heap.size
 le:ws.heap.size<=w.heap.size
section
variable {Z:List LZ} {ws:av} {bz:Nat->Nat} {D:List Nat} {mk:List (Nat×Nat)} {a a':Act} {w w1:av}
theorem Late.act(h:Late Z ws bz D mk a w)(ha:∀p∈Z,a'.tmps[p.d]? =a.tmps[p.d]?):Late Z ws bz D mk a' w:=
 ⟨fun p hp hd=>by rw[ha p hp];exact h.at_ p hp hd,h.sub,h.ne,h.top,h.le⟩
theorem Late.loud(h:Late Z ws bz D mk a w)(hN:jt ws w w1)(ha:∀p∈Z,a'.tmps[p.d]? =a.tmps[p.d]?):Late Z ws bz D ((w.heap.size,w1.heap.size)::mk) a' w1:=by
 refine⟨fun p hp hd=>?_,h.sub,h.ne,fun p hp=>?_,bp h.le hN.1⟩
 ·obtain⟨h1,h2,h3,h4⟩:=h.at_ p hp hd;have h5:=h2.lt;refine⟨by rw[ha p hp];exact h1,?_,h3,fun q hq=>?_⟩
  ·unfold Blk at h2⊢;rw[hN.2 _ h3 h5];exact h2
  ·rcases aU.1 hq with rfl | hq
   ·exact .inl h5
   ·exact h4 q hq
 ·rcases aU.1 hp with rfl | hp
  ·exact aX _
  ·exact bp (h.top p hp) hN.1
theorem Late.alloc(h:Late Z ws bz D mk a w)(hu:∀p∈Z,∀q∈Z,p.z=q.z->p=q)(hd:∀p∈Z,∀q∈Z,p.z≠q.z->p.d≠q.d){p}(hp:p∈Z)(hn:p.z∉D){b}(hb:w.heap.size<=b)(hO:Only [] w w1)(hB:Blk w1 b p.t (cw β0 p.zs))(hs:p.d<a.tmps.size):
  Late Z ws (fun z=>if z=p.z then b else bz z) (p.z::D) mk (a.put (some p.d) (.pointer (some ⟨b,0,none⟩))) w1:=by
 refine⟨fun q hq hqd=>?_,fun z hz=>?_,fun z hz z' Ut ik=>?_,fun q hq=>bp (h.top q hq) hO.size,bp h.le hO.size⟩
 ·by_cases e:q.z=p.z
  ·have:=hu q hq p hp e;subst this;rw[if_pos rfl];refine⟨by simp[Act.put,hs],hB,bp h.le hb,fun x hx=>.inr (bp (h.top x hx) hb)⟩
  ·rw[if_neg e];obtain⟨h1,h2,h3,h4⟩:=h.at_ q hq (by grind);refine⟨?_,hO.blk h2 (by simp),h3,h4⟩;rw[(ka a _ _).2.2 q.d (by
    intro k;injection k with k;exact hd p hp q hq (Ne.symm e) k)]
   exact h1
 ·rcases aU.1 hz with rfl | hz
  ·exact nB.2 ⟨p,hp,rfl⟩
  ·exact h.sub z hz
 ·have Ps:∀z∈D,bz z<w.heap.size:=fun z hz=>by
   obtain⟨q,hq,rfl⟩:=nB.1 (h.sub z hz);exact(h.at_ q hq hz).2.1.lt
  rcases aU.1 hz with rfl | hz<;>rcases aU.1 Ut with rfl | Ut
  ·exact absurd rfl ik
  ·grind
  ·rw[if_neg ik,if_pos rfl];have:=Ps _ hz;omega
  ·rw[if_neg (fun e=>hn (by rw[<-e];exact hz)),if_neg (fun e=>hn (by rw[<-e];exact Ut))];exact h.ne _ hz _ Ut ik
end
def YF:YT:=fun _ _=>False
def XL(mb ms:Bool)(S:Nat->Prop)(ws:av)(o:Op):XT:=fun w0 w1 p=>jt ws w0 w1/\XB mb ms S o w0 w1 p
def K3(st:St):List LZ->Bool
 | []=>true
 | p::r=>(dK st.fr p.d).isNone&&Nat.blt p.d st.n&&K3 st r
theorem Gj{st}:∀{Z:List LZ},K3 st Z=true->∀p∈Z,dK st.fr p.d=none/\p.d<st.n
 | q::r,h,p,hp=>by
  simp only[K3,aQ,vf]at h;rcases aU.1 hp with rfl | hp
  ·simp_all
  ·exact Gj h.2 p hp
def St.xA(st:St):St:={st with mv:=true}
def eqA:List Bool->List Bool->Bool
 | [],[]=>true
 | a::r,b::s=>(a==b)&&eqA r s
 | _,_=>false
theorem Qx:∀{l m:List Bool},eqA l m=true->l=m
 | [],[],_=>rfl
 | a::r,b::s,h=>by
  simp[eqA]at h;rw[h.1,Qx h.2]
def lL(P:Program)(ops:List Oper)(mb ms:Bool)(S:Nat->Prop)(ws:av)(mk:List (Nat×Nat))(st:St)(o:Oper)(D:List (Nat×Nat)->St->Prop):Prop:=
 bif jg P o.op then False else Vp st ops o (fun st=>eN st fun st=>loud P (XL mb ms S ws o.op) YF st o fun s=>bif s.mv then False else D ((st.w0.heap.size,s.w0.heap.size)::mk) s.xA) (fun st=>D mk (St.xA (st.put o.dst .un)))
def fqG(P:Program)(ops:List Oper)(Zi:List Nat)(bE:Array Bool):List Nat->Option Nat
 | []=>none
 | i::r=>(match gv ops i with
  | some o=>bif jg P o.op&&ZS ops Zi (bE.setIfInBounds i true)then some i else fqG P ops Zi bE r
  | none=>fqG P ops Zi bE r)
def fqZ(P:Program)(ops:List Oper)(Zi:List Nat)(bE:Array Bool)(l:List Nat):Option Nat:=
 match fqG P ops Zi bE l with
 | some q=>some q
 | none=>fq P ops l
def NL(P:Program)(ops:List Oper)(mb ms:Bool)(S:Nat->Prop)(ws:av)(Z:List LZ)(xC:Array Bool)(gm:Nat)(K:List (Nat×Nat)->St->Prop):Nat->Array Bool->List (Nat×Nat)->St->Prop
 | 0,_,_,_=>False
 | g+1,bE,mk,st=>bif vS bE (nA Z)&&K3 st Z then(match BH (nA Z) (Region.ready .any ops.toArray bE)with
  | []=>bif Vq ops bE (nA Z) (nA Z)&&eqA bE.toList xC.toList&&Nat.beq (g+1) gm&&Nat.ble (nA Z).length (g+1)then K mk st else False
  | i::r=>bif ZS ops (nA Z) bE&&Nat.ble (nA Z).length g then(match fqZ P ops (nA Z) bE (i::r)with
   | some q=>cd (gv ops q) fun o=>bif okT ops bE q&&(i::r).contains q then
    Vp st ops o (fun st=>qP P ops mb ms S bE q o st.xA fun st=>NL P ops mb ms S ws Z xC gm K g (bE.setIfInBounds q true) mk st.xA) (fun st=>NL P ops mb ms S ws Z xC gm K g (bE.setIfInBounds q true) mk (St.xA (st.put o.dst .un)))else False
   | none=>(match r with
    | []=>cd (gv ops i) fun o=>lL P ops mb ms S ws mk st o fun mk st=>NL P ops mb ms S ws Z xC gm K g (bE.setIfInBounds i true) mk st
    | [j]=>cd (gv ops i) fun o=>cd (gv ops j) fun o'=>
     lL P ops mb ms S ws mk st o (fun mk st=>NL P ops mb ms S ws Z xC gm K g (bE.setIfInBounds i true) mk st)/\
     lL P ops mb ms S ws mk st o' (fun mk st=>NL P ops mb ms S ws Z xC gm K g (bE.setIfInBounds j true) mk st)
    | [j,k]=>cd (gv ops i) fun o=>cd (gv ops j) fun o'=>cd (gv ops k) fun o''=>
     lL P ops mb ms S ws mk st o (fun mk st=>NL P ops mb ms S ws Z xC gm K g (bE.setIfInBounds i true) mk st)/\
     lL P ops mb ms S ws mk st o' (fun mk st=>NL P ops mb ms S ws Z xC gm K g (bE.setIfInBounds j true) mk st)/\
     lL P ops mb ms S ws mk st o'' (fun mk st=>NL P ops mb ms S ws Z xC gm K g (bE.setIfInBounds k true) mk st)
    | _=>False))else False)else False
section
variable {P:Program} {ops:List Oper} {mb ms:Bool} {S:Nat->Prop} {β:Nat->Nat} {a:Act} {w:av} {ws:av} {Z:List LZ} {xC:Array Bool} {gm:Nat}
theorem Rep.late{st}(hR:Rep β st a w)(hm:st.mv=true){d}{v}(hd:dK st.fr d=none){w1}(hO:Only [] w w1):Rep β st (a.put (some d) v) w1:=by
 obtain⟨p1,p2,p3⟩:=ka a _ v;refine⟨qG ⟨p1.trans hR.ok.sz,p2.trans hR.ok.df,fun i p hl hi=>?_⟩,fun i b hb ho=>?_,hR.ne,hR.only.cf hO,fun h=>by rw[hm]at h;cases h⟩
 ·rw[p3 i (by grind)];exact hR.ok.at_ i p hl hi
 ·obtain⟨k1,k2,k3⟩:=hR.bx i b hb ho;exact⟨hO.blk k1 (by simp),k2,k3⟩
theorem Rep.xA{st}(hR:Rep β st a w):Rep β st.xA a w:=⟨hR.fr,hR.bx,hR.ne,hR.only,fun h=>by cases h⟩
theorem Ext.xA st:Ext st st.xA:=⟨rfl,aX _,fun _ _ _ h _=>h,fun i b h ho _=>⟨b,h,ho,rfl,rfl,rfl,fun _ h=>h⟩,P2,Fs⟩
theorem aeK{Q}{j}{o}{st}{mk}{D}(hj:gv ops j=some o)(h:lL P ops mb ms S ws mk st o D)(hR:Rep β st a w):
  wpOp P ops.toArray Q j (fun a' w'=>EE P ops mb ms S j w w'/\(∀i,o.dst≠some i->a'.tmps[i]? =a.tmps[i]?)/\∃β' cE mk',D mk' cE/\Ext st cE/\cE.mv=true/\Rep β' cE a' w'/\((mk'=mk/\w'=w)∨(mk'=(w.heap.size,w'.heap.size)::mk/\jt ws w w'))) a w:=by
 rcases mC h with⟨_,h⟩ | ⟨hp,h⟩
 ·exact h.elim
 have OA:ops.toArray[j]? =some o:=by rw[jJ]at hj;simpa using hj
 unfold wpOp;simp only[OA];obtain⟨s,e1,gX,h1⟩:=zV h hR;rcases h1 with⟨hw,h1⟩ | ⟨hw,h1⟩
 ·rw[if_pos hw];left;obtain⟨s1,h2,e2,YJ,Nj,_⟩:=dP h1 gX;have hEE:EE P ops mb ms S j=fun w w'=>bif mb&&(ms||!yw o.op)then bP S w w' else True:=by
   unfold EE;simp_all
  have:=ZT (DE (E:=fun w w'=>EE P ops mb ms S j w w'/\jt ws w w') (Q:=Q) (fun w0 w1 p hx=>?_) (fun w w1 hO=>?_) (fun hs bk k w w1 p hy hk hO=>hy.elim) h2 YJ)
  ·refine Oper.wp_mono ?_ this;rintro a' w' ⟨⟨β',cE,k1,k2,k3,k4⟩,k5⟩;rcases mC k1 with⟨_,k1⟩ | ⟨km,k1⟩
   ·exact k1.elim
   refine⟨k3.1,k5,β',cE.xA,_,k1,((e1.trans e2).trans k2).trans (Ext.xA _),rfl,k4.xA,.inr ⟨?_,k3.2⟩⟩;rw[<-k4.still km,<-YJ.still Nj]
  ·rw[hEE];obtain⟨hN,hx⟩:=hx;unfold XB at hx;cases hb:(mb&&(ms||!yw o.op))<;>grind
  ·rw[hEE];refine⟨?_,jt.yd hO⟩;cases(mb&&_)with
   | true=>exact bP.only hO
   | false=>exact trivial
 ·rw[if_neg (by grind)];exact⟨qM hj w,(ka _ _ _).2.2,β,_,mk,h1,(e1.trans (Ext.put _ _ _)).trans (Ext.xA _),rfl,(gX.put o.dst .un).xA,.inl ⟨rfl,trivial⟩⟩
theorem Qy{Q:Exit->Act->av->Prop}(hQ:∀c a w,¬Q (.panic c) a w)(hZ:∀p∈Z,∃o,gv ops p.z=some o/\uM P p.z o=some p)(hzo:zOk ops Z=true)(hnd:(nA Z).Nodup){s0:St}{K:List (Nat×Nat)->St->Prop}
  (hK:∀mk st β a w bz D m,K mk st->Ext s0 st->Rep β st a w->Late Z ws bz D mk a w->D.Perm (nA Z)->m+D.length=gm->fx P .any ops.toArray Q (EE P ops mb ms S) m (eO xC D) a w):
  ∀(m g:Nat) {bE:Array Bool} {mk:List (Nat×Nat)} {st:St} {β:Nat->Nat} {a:Act} {w:av} {bz:Nat->Nat} {D Pd:List Nat},NL P ops mb ms S ws Z xC gm K g bE mk st->Ext s0 st->st.mv=true->Rep β st a w->Late Z ws bz D mk a w->(D++Pd).Perm (nA Z)->m+D.length=g->
   fx P .any ops.toArray Q (EE P ops mb ms S) m (eO bE D) a w:=by
 intro m;have hu:∀p∈Z,∀q∈Z,p.z=q.z->p=q:=fun p hp q hq e=>by
  obtain⟨o,h1,h2⟩:=hZ p hp;obtain⟨o',h3,h4⟩:=hZ q hq;rw[e,h3]at h1;injection h1 with h1;subst h1;rw[e,h4]at h2;injection h2 with h2;exact h2.symm
 have hdo:∀p∈Z,∀j o,gv ops j=some o->j≠p.z->o.dst≠some p.d:=fun p hp j o hj ik=>Qv (Qw hzo p hp) hj (by rw[bO];exact ik);have Py:∀p∈Z,∀q∈Z,p.z≠q.z->p.d≠q.d:=fun p hp q hq ik e=>by
  obtain⟨o',h3,h4⟩:=hZ q hq;exact hdo p hp q.z o' h3 (Ne.symm ik) (by rw[(lQ h4).2.2.1,e])
 induction m using Nat.strongRecOn with
 | ind m ih=>
 intro g bE mk st β a w bz D Pd h he hm hR hL hp hg;cases g with
 | zero=>exact h.elim
 | succ g=>
 have h0:=h;unfold NL at h;obtain⟨hc,h⟩:=dw h;simp only[aQ]at hc;obtain⟨hun,hfz⟩:=hc;have hun:=xQ hun;have hDZ:∀x∈D,x∈nA Z:=hL.sub;have hPZ:∀x∈Pd,x∈nA Z:=fun x hx=>hp.subset (List.mem_append_right _ hx);have fi:D.length+Pd.length=(nA Z).length:=by have:=hp.length_eq;rwa[aP]at this
 have ana:(D++Pd).Nodup:=hp.nodup_iff.2 hnd;have hPD:∀x∈Pd,x∉D:=fun x hx hd=>(List.nodup_append.1 ana).2.2 x hd x hx rfl;have hrz:∀j∈Region.ready .any ops.toArray (eO bE D),j∈nA Z->j∈Pd:=fun j hj uX=>by
  have h1:j∉D:=fun hd=>by
   have:=(mem_ready.1 hj).1;rw[nT.2 (.inr hd)]at this;cases this
  rcases bR.1 (hp.mem_iff.2 uX)with h2 | h2
  ·exact absurd h2 h1
  ·exact h2
 have agV:∀j∈Region.ready .any ops.toArray bE,j∉nA Z->j∈Region.ready .any ops.toArray (eO bE D):=fun j hj uX=>wX (l:=bE) (D:=[]) (E:=D) (by simp) hj fun k=>uX (hDZ j k);have hpr:∀z∈Pd,z∈Region.ready .any ops.toArray (eO bE D):=fun z hz=>by
  obtain⟨p,JZ,rfl⟩:=nB.1 (hPZ z hz);obtain⟨o,ho,bS⟩:=hZ p JZ;refine mem_ready.2 ⟨?_,o,by rw[jJ]at ho;simpa using ho,fun e he=>?_⟩
  ·rw[dx];intro k;rcases nT.1 k with k | k
   ·rw[hun _ (hPZ _ hz)]at k;cases k
   ·exact hPD _ hz k
  ·rw[Array.mem_def,(lQ bS).2.2.2.2.1]at he;cases he
 have AL:∀{m'},m=m'+1->∀j∈Pd,wpOp P ops.toArray Q j (fun a' w'=>EE P ops mb ms S j w w'/\fx P .any ops.toArray Q (EE P ops mb ms S) m' ((eO bE D).setIfInBounds j true) a' w') a w:=by
  intro m' em j hj;obtain⟨p,JZ,rfl⟩:=nB.1 (hPZ j hj);obtain⟨o,ho,bS⟩:=hZ p JZ;obtain⟨_,l2,l3,l4,l5,l6,l7⟩:=lQ bS;obtain⟨fz1,fz2⟩:=Gj hfz p JZ;have Px:ops.toArray[p.z]? =some o:=by rw[jJ]at ho;simpa using ho
  unfold wpOp;simp only[Px];rw[if_pos (wn l4)];left;obtain⟨dst,op,t',pp,af,g0⟩:=o;dsimp only at l2 l3 l4 l5;subst l2 l3 l4;obtain⟨z,z1,z2⟩:=XE l6 w;refine FM z1 (z2 β0) (fun _=>rfl) fun b w1 hb hO hB=>⟨?_,?_⟩
  ·unfold EE;rw[ho];dsimp only;rw[show jg P (.alloc p.t)=false from rfl,uk];cases(mb&&(ms||!yw (.alloc p.t)))with
   | true=>exact bP.only hO
   | false=>exact trivial
  ·rw[<-nS];exact ih m' (by omega) (g+1) (D:=p.z::D) (Pd:=Pd.erase p.z) h0 he hm (hR.late hm fz1 hO) (hL.alloc hu Py JZ (hPD _ hj) hb hO hB (by rw[hR.ok.sz];exact fz2))
    ((List.perm_middle.symm.trans ((List.perm_cons_erase hj).symm.append_left D)).trans hp) (by rw[bf];omega)
 split at h
 ·rename_i Te;obtain⟨hc,h⟩:=dw h;simp only[aQ]at hc;obtain⟨⟨⟨c1,c2⟩,c3⟩,c4⟩:=hc;have anc:bE=xC:=O3.1 (Qx c2);have egm:=ca c3;have c4:=cy c4;cases hPd:Pd with
  | nil=>
   rw[hPd,bQ]at hp;rw[anc];exact hK mk st β a w bz D m h he hR hL hp (by omega)
  | cons z Pd'=>
   have hzm:z∈Pd:=by rw[hPd];exact dT
   have Ka:Pd.length=Pd'.length+1:=by rw[hPd];rfl
   obtain⟨m',rfl⟩:∃m',m=m'+1:=⟨m-1,by omega⟩
   refine⟨fun h0=>?_,fun j hj=>AL rfl j ?_⟩
   ·have:=hpr z hzm;rw[h0]at this;cases this
   ·by_cases uX:j∈nA Z
    ·exact hrz j hj uX
    ·exfalso;have h1:j∈Region.ready .any ops.toArray (eO bE ((nA Z).erase z)):=wX (fun x hx=>(List.mem_erase_of_ne (fun e=>hPD z hzm (by rw[<-e];exact hx))).2 (hDZ x hx)) hj (fun k=>uX (List.mem_of_mem_erase k));have:=K2 c1 z (hPZ z hzm) j h1;exact uX (this▸hPZ z hzm)
 ·rename_i i r Te;obtain⟨c0,h⟩:=dw h;simp only[aQ,ZS]at c0;have hrd:=Gh c0.1;have c0:=cy c0.2;have hrm:∀j∈Region.ready .any ops.toArray (eO bE D),j∉nA Z->j∈Region.ready .any ops.toArray bE:=fun j hj uX=>(hrd j (wX hDZ hj uX)).1;obtain⟨m',rfl⟩:∃m',m=m'+1:=⟨m-1,by omega⟩
  have hio:∀j∈i::r,j∈Region.ready .any ops.toArray bE/\j∉nA Z:=fun j hj=>pJ.1 (by rw[Te];exact hj);have ik:Region.ready .any ops.toArray (eO bE D)=[]->False:=fun h0=>by
   have:=agV i (hio i dT).1 (hio i dT).2;rw[h0]at this;cases this
  have hdz:∀j o,gv ops j=some o->j∉nA Z->∀p∈Z,o.dst≠some p.d:=fun j o hj uX p hp=>hdo p hp j o hj fun e=>uX (nB.2 ⟨p,hp,e.symm⟩);have LL:∀{j:Nat} {o:Oper},gv ops j=some o->j∉nA Z->lL P ops mb ms S ws mk st o (fun mk st=>NL P ops mb ms S ws Z xC gm K g (bE.setIfInBounds j true) mk st)->
    wpOp P ops.toArray Q j (fun a' w'=>EE P ops mb ms S j w w'/\fx P .any ops.toArray Q (EE P ops mb ms S) m' ((eO bE D).setIfInBounds j true) a' w') a w:=by
   intro j o ho uX h;refine wpOp_mono (fun a' w' hh=>⟨hh.1,?_⟩) (aeK ho h hR);obtain⟨k0,k1,β',cE,mk',k2,k3,k4,k5,k6⟩:=hh;rw[<-nS];have rO:∀p∈Z,a'.tmps[p.d]? =a.tmps[p.d]? :=fun p hp=>k1 _ (hdz j o ho uX p hp);have hL':Late Z ws bz D mk' a' w':=by
    rcases k6 with⟨rfl,rfl⟩ | ⟨rfl,k6⟩
    ·exact hL.act rO
    ·exact hL.loud k6 rO
   exact ih m' (by omega) g k2 (he.trans k3) k4 k5 hL' hp (by omega)
  split at h
  ·rename_i q hq;obtain⟨o,ho,h⟩:=bB h;obtain⟨hc,h⟩:=dw h;simp only[aQ,okT]at hc;obtain⟨⟨⟨⟨⟨c1,c2⟩,c3⟩,c4⟩,c5⟩,c6⟩:=hc;obtain⟨hq1,hq2⟩:=hio q (by simpa using c6);have Px:ops.toArray[q]? =some o:=by rw[jJ]at ho;simpa using ho
   have mT:qB .any ops.toArray (eO bE D):=BI (B4 c3) fun z hz o hoz=>by
    obtain⟨p,JZ,rfl⟩:=nB.1 (hDZ z hz);obtain⟨o2,ho2,bS⟩:=hZ p JZ;rw[jJ]at ho2;have:o2=o:=by
     have e:ops.toArray[p.z]? =some o2:=by simpa using ho2
     rw[hoz]at e;injection e with e;exact e.symm
    rw[<-this];exact(lQ bS).2.2.2.2.1
   have hN:∀k∈Ud bE 0 ops,(eO bE D).getD k true=true:=fun k hk=>nT.2 (.inl (by simpa using(dY.1 c5) k hk));have Nf:=Region.free_spec Px c2;have E1:∀j oj,ops.toArray[j]? =some oj->j≠q->(eO bE D).getD j true=false->(∀e∈oj.after,Region.binds .any e=true->e.on≠q)->o.apart ops.toArray oj=true:=fun j oj h1 h2 h3 h4=>Nf j oj h1 h2 (by
    rw[dx]at h3⊢;exact fun k=>h3 (nT.2 (.inl k))) h4
   have hqr:=agV q hq1 hq2;obtain⟨s,e1,gX,h1⟩:=zV h hR;have rO:∀v,∀p∈Z,(a.put o.dst v).tmps[p.d]? =a.tmps[p.d]? :=fun v p hp=>(ka _ _ _).2.2 _ (hdz q o ho hq2 p hp);rcases h1 with⟨hw,h1⟩ | ⟨hw,h1⟩
   ·obtain⟨v,s2,F,k1,k2,k3,k4,k5,k6,k7⟩:=XJ h1 gX.xA;refine qC Px (Region.noSelect_spec c1) (fun c a w hp=>(hQ _ _ _ hp).elim) c4 (Ud bE 0 ops) k5 (fun w1 _=>qM ho w1) m' (eO bE D) a w mT hN E1 hqr (Xu hw k7) k4 ?_;rw[<-nS];exact ih m' (by omega) g k1 (((he.trans e1).trans (Ext.xA _)).trans (k2.trans (Ext.xA _))) rfl k3.xA (hL.act (rO v)) hp (by omega)
   ·refine qC (v:=undef) (F:=fun _=>True) Px (Region.noSelect_spec c1) (fun c a w hp=>(hQ _ _ _ hp).elim) c4 (Ud bE 0 ops) (fun _ _ _ _ _ _ _=>trivial) (fun w1 _=>qM ho w1) m' (eO bE D) a w mT hN E1 hqr (aer hw) trivial ?_;rw[<-nS];exact ih m' (by omega) g h1 ((he.trans e1).trans ((Ext.put _ _ _).trans (Ext.xA _))) rfl (gX.put o.dst .un).xA (hL.act (rO undef)) hp (by omega)
  ·split at h
   ·obtain⟨o,ho,h⟩:=bB h;refine⟨fun h0=>(ik h0).elim,fun j hj=>?_⟩;by_cases uX:j∈nA Z
    ·exact AL rfl j (hrz j hj uX)
    ·have:j∈BH (nA Z) (Region.ready .any ops.toArray bE):=pJ.2 ⟨hrm j hj uX,uX⟩;rw[Te]at this;obtain rfl:j=i:=by simpa using this
     exact LL ho uX h
   ·rename_i i' _;obtain⟨o,ho,h⟩:=bB h;obtain⟨o',Px,h⟩:=bB h;refine⟨fun h0=>(ik h0).elim,fun j hj=>?_⟩;by_cases uX:j∈nA Z
    ·exact AL rfl j (hrz j hj uX)
    ·have:j∈BH (nA Z) (Region.ready .any ops.toArray bE):=pJ.2 ⟨hrm j hj uX,uX⟩;rw[Te]at this;rcases aU.1 this with rfl | this
     ·exact LL ho uX h.1
     ·have:=aN.1 this;subst this;exact LL Px uX h.2
   ·rename_i i' i'' _;obtain⟨o,ho,h⟩:=bB h;obtain⟨o',Px,h⟩:=bB h;obtain⟨o'',ani,h⟩:=bB h;refine⟨fun h0=>(ik h0).elim,fun j hj=>?_⟩;by_cases uX:j∈nA Z
    ·exact AL rfl j (hrz j hj uX)
    ·have:j∈BH (nA Z) (Region.ready .any ops.toArray bE):=pJ.2 ⟨hrm j hj uX,uX⟩;rw[Te]at this;rcases aU.1 this with rfl | this
     ·exact LL ho uX h.1
     ·rcases aU.1 this with rfl | this
      ·exact LL Px uX h.2.1
      ·have:=aN.1 this;subst this;exact LL ani uX h.2.2
   ·exact h.elim
end
def St.ES(st:St)(d:Nat)(t:TypeId)(zs:List SV)(b:Nat):St:=
 St.put {st with bx:=st.bx++[⟨some b,t,zs,st.ct,true,false,false⟩],ct:=st.ct+1} (some d) (.box st.bx.length 0)
theorem Ext.ES st d t zs b:Ext st (st.ES d t zs b):=by
 refine Ext.trans (t:={st with bx:=st.bx++[_],ct:=st.ct+1}) ⟨rfl,iA _,fun _ _ _ h _=>h,fun i b' hb ho hs=>?_,fun i b hb=>?_,Fs⟩ (Ext.put _ _ _)
 ·rw[kb]at hb
  grind
 ·exact⟨b,by dsimp only;rw[kb,if_neg (by have:=qI hb;omega)];exact hb,rfl,rfl,fun _ h=>h⟩
section
variable {β:Nat->Nat} {st:St} {a:Act} {w:av}
theorem Rep.ES(hR:Rep β st a w){d}{t}{zs}{b}(h1:NE st.bx.length st.fr=true)(h2:IY st.bx.length st.bx=true)(hdt:zL st.bx st.dt=true)(mT:ia (fun _=>false) zs=true)
  (hs:a.tmps[d]? =some (.pointer (some ⟨b,0,none⟩))) (hB:Blk w b t (cw β0 zs)) (ik:∀i c,cV st.bx i=some c->c.ok=true->β i≠b):
  Rep (Bo β st.bx.length b) (st.ES d t zs b) a w:=by
 have uz:Bo β st.bx.length b st.bx.length=b:=by unfold Bo;rw[if_pos rfl]
 have bS:∀{i c},cV st.bx i=some c->Bo β st.bx.length b i=β i:=fun{i c} h=>by
  unfold Bo;rw[if_neg];have:=qI h;omega
 have base:Rep (Bo β st.bx.length b) {st with bx:=st.bx++[⟨some b,t,zs,st.ct,true,false,false⟩],ct:=st.ct+1} a w:=by
  refine⟨qG ⟨hR.ok.sz,hR.ok.df,fun i p hl hi=>?_⟩,fun i c hc ho=>?_,fun i j bi bj g1 g2 g3 g4 tW=>?_,?_,hR.still⟩
  ·rw[hR.ok.at_ i p hl hi];congr 1;exact iC (g:=fun j=>!Nat.beq j st.bx.length) zO _ (DB h1 i p hl)
  ·rw[kb]at hc;split at hc
   ·rename_i he;simp at hc;subst hc;subst he;refine⟨?_,fun k hk=>?_,fun hk=>(by cases hk)⟩
    ·rw[uz];rw[gx (g:=fun _=>false) (β:=Bo β st.bx.length b) (β':=β0) (fun i h=>(by cases h)) _ mT];exact hB
    ·simp_all
   ·have e:=bS hc;obtain⟨k1,k2,k3⟩:=hR.bx i c hc ho;refine⟨?_,fun k hk=>by rw[e];exact k2 k hk,fun hk=>by rw[e];exact k3 hk⟩;rw[e,<-gx (g:=fun j=>!Nat.beq j st.bx.length) (β:=β) (β':=Bo β st.bx.length b) zO _ (DC h2 i c hc ho)];exact k1
  ·rw[kb]at g1 g2;split at g1
   ·grind
   ·split at g2
    ·grind
    ·rw[bS g1,bS g2];exact hR.ne i j bi bj g1 g2 g3 g4 tW
  ·have e:=mw fun i hi=>by
    obtain⟨c,hc,_⟩:=tB hdt i hi;exact bS hc
   rw[e];exact hR.only
 refine⟨qG ⟨base.ok.sz,base.ok.df,fun i p hl hi=>?_⟩,base.bx,base.ne,base.only,base.still⟩;simp[St.ES,St.put,dK]at hl;cases hb:Nat.beq d i with
 | true=>
  rw[hb]at hl;simp at hl;subst hl;have:=ca hb;subst this;rw[hs];show _=some (Value.pointer _);rw[uz]
 | false=>rw[hb]at hl;exact base.ok.at_ i p (by simpa using hl) hi
end
def neN(b:Nat):List Nat->Prop->Prop
 | [],p=>p
 | x::r,p=>x≠b->neN b r p
theorem QA{b}:∀{l:List Nat} {p:Prop},neN b l p->(∀x∈l,x≠b)->p
 | [],_,h,_=>h
 | x::r,p,h,hb=>QA (h (hb x dT)) fun y hy=>hb y (cX _ hy)
def ZU(ws:av)(mk:List (Nat×Nat)):List LZ->List Nat->St->(St->Prop)->Prop
 | [],_,st,K=>K st
 | p::r,seen,st,K=>bif chk st p.zs then ∀b,ws.heap.size<=b->b<st.w0.heap.size->vR mk b->neN b seen (ZU ws mk r (b::seen) (st.ES p.d p.t p.zs b) K)else False
theorem K4{ws}{mk}{bz:Nat->Nat}{a}{w}:∀{r:List LZ} {seen:List Nat} {st:St} {K:St->Prop} {β:Nat->Nat},ZU ws mk r seen st K->Rep β st a w->st.mv=false->
  (∀p∈r,a.tmps[p.d]? =some (.pointer (some ⟨bz p.z,0,none⟩))/\Blk w (bz p.z) p.t (cw β0 p.zs)/\ws.heap.size<=bz p.z/\vR mk (bz p.z)/\ia (fun _=>false) p.zs=true/\(∀x∈seen,x≠bz p.z)/\∀i c,cV st.bx i=some c->c.ok=true->β i≠bz p.z)->
  (nA r).Nodup->(∀p∈r,∀q∈r,p.z≠q.z->bz p.z≠bz q.z)->∃cE β',K cE/\Ext st cE/\Rep β' cE a w
 | [],_,st,K,β,h,hR,_,_,_,_=>⟨st,β,h,Ext.refl _,hR⟩
 | p::r,seen,st,K,β,h,hR,hm,hp,hn,hd=>by
  obtain⟨hc,h⟩:=dw h;simp[chk,aQ]at hc;obtain⟨h1,h2,h3,h4,h5,h6,h7⟩:=hp p dT;have h:=QA (h _ h3 (by rw[<-hR.still hm];exact h2.lt) h4) h6;simp[nA,List.nodup_cons]at hn;have hpq:∀q∈r,p.z≠q.z:=fun q hq e=>hn.1 (nB.2 ⟨q,hq,e.symm⟩);have bS:∀{i c},cV st.bx i=some c->Bo β st.bx.length (bz p.z) i=β i:=fun{i c} h=>by
   unfold Bo;rw[if_neg];have:=qI h;omega
  obtain⟨cE,β',k1,k2,k3⟩:=K4 h (hR.ES hc.1.1.1 hc.1.1.2 hc.2 h5 h1 h2 h7) hm (fun q hq=>by
   obtain⟨g1,g2,g3,g4,g5,g6,g7⟩:=hp q (cX _ hq);have ik:=hd p dT q (cX _ hq) (hpq q hq);refine⟨g1,g2,g3,g4,g5,fun x hx=>?_,fun i c hc ho=>?_⟩
   ·rcases aU.1 hx with rfl | hx
    ·exact ik
    ·exact g6 x hx
   ·simp[St.ES,St.put]at hc;rw[kb]at hc;split at hc
    ·rename_i e;subst e;unfold Bo;simp_all
    ·rw[bS hc];exact g7 i c hc ho) hn.2 fun x hx y hy=>hd x (cX _ hx) y (cX _ hy)
  exact⟨cE,β',k1,(Ext.ES _ _ _ _ _).trans k2,k3⟩
def ph2(P:Program)(ops:List Oper)(mb ms:Bool)(S:Nat->Prop)(ws:av)(Z:List LZ)(xC:Array Bool)(gm nb:Nat)(mk:List (Nat×Nat))(st:St)(K:St->Prop):Prop:=
 bif Nat.beq st.bx.length nb then eN st fun st=>ZU ws mk Z [] st fun st=>F9 P ops mb ms S (gm-(nA Z).length) (eO xC (nA Z)) st K else False
def K5(P:Program)(ops:List Oper)(jn:Bool)(kp:List Nat)(mi:List MI)(mb ms:Bool)(S:Nat->Prop)(Z:List LZ)(xC:Array Bool)(gm:Nat)(st:St)(K:St->Prop):Prop:=
 bif pG st.bx then
  (bif jn then ∃J:List _->JT _,(∀mk,F7 _ (J mk) fun vs w=>ph2 P ops mb ms S st.w0 Z xC gm st.bx.length mk (lP st kp mi vs w) K)/\
   NL P ops mb ms S st.w0 Z xC gm (fun mk s=>eN s fun s=>NJ st kp mi (J mk) s) ops.length (Array.replicate ops.length false) [] (St.xA (st.od (zSl Z)))
  else NL P ops mb ms S st.w0 Z xC gm (fun mk s=>ph2 P ops mb ms S st.w0 Z xC gm st.bx.length mk s K) ops.length (Array.replicate ops.length false) [] (St.xA (st.od (zSl Z))))else False
def QB(ops:List Oper)(Zi:List Nat):Nat->Array Bool->Array Bool
 | 0,l=>l
 | f+1,l=>match BH Zi (Region.ready .any ops.toArray l)with
  | []=>l
  | i::_=>QB ops Zi f (l.setIfInBounds i true)
def Vt:List Bool->Nat
 | []=>0
 | b::r=>bif b then Vt r else Vt r+1
theorem K6:∀{l:List jY} {i:Nat},i<l.length->∃b,cV l i=some b
 | b::r,0,_=>⟨b,rfl⟩
 | b::r,i+1,h=>K6 (l:=r) (by simpa using h)
section
variable {P:Program} {ops:List Oper} {mb ms:Bool} {S:Nat->Prop} {β:Nat->Nat} {a:Act} {w:av} {xC:Array Bool} {gm:Nat} {jn:Bool} {kp:List Nat} {mi:List MI} {st:St} {K:St->Prop}
theorem QC{Q}(hQ:∀c a w,¬Q (.panic c) a w)(hzo:zOk ops (kG P 0 ops)=true)(h:K5 P ops jn kp mi mb ms S (kG P 0 ops) xC gm st K)(hR:Rep β st a w)(qy:st.mv=false)
  (hK:∀β' cE a' w',K cE->Ext st cE->Rep β' cE a' w'->Q .normal a' w'):fx P .any ops.toArray Q (EE P ops mb ms S) ops.length (Array.replicate ops.length false) a w:=by
 have hnd:(nA (kG P 0 ops)).Nodup:=zX;have hZ:∀p∈kG P 0 ops,∃o,gv ops p.z=some o/\uM P p.z o=some p:=fun p hp=>by
  obtain⟨j,o,h1,h2,h3⟩:=zW hp
  grind
 generalize kG P 0 ops=Z at*
 obtain⟨hbd,h⟩:=dw h;rw[<-hR.still qy]at h;have two:∀mk cE β' a' w' bz D m,ph2 P ops mb ms S w Z xC gm st.bx.length mk cE K->Ext st cE->Rep β' cE a' w'->Late Z w bz D mk a' w'->D.Perm (nA Z)->m+D.length=gm->fx P .any ops.toArray Q (EE P ops mb ms S) m (eO xC D) a' w':=by
  intro mk cE β' a' w' bz D m h he YK hL hp hg;obtain⟨fi,h⟩:=dw h;have fi:=ca fi;obtain⟨s1,h1,e1,gX,Ih,_,_,_,WO⟩:=dP h YK;have hx:=he.trans e1;have hold:∀i c,cV s1.bx i=some c->c.ok=true->β' i<w.heap.size:=fun i c hc ho=>by
   obtain⟨b,hb⟩:=K6 (l:=st.bx) (i:=i) (by have:=qI hc;omega);obtain⟨c',k1,k2,k3,k4⟩:=hx.ps i b hb;rw[hc]at k1;injection k1 with k1;subst k1;have Fx:b.ok=true:=by rw[<-k3];exact ho
   obtain⟨k,hk⟩:=fH.1 (vN hbd i b hb Fx);rw[(gX.bx i c hc ho).at_ k (k4 k hk),<-(hR.bx i b hb Fx).at_ k hk];exact(hR.bx i b hb Fx).blk.lt
  have hD:=fun p JZ=>hp.mem_iff.2 (nB.2 ⟨p,JZ,rfl⟩);obtain⟨s2,β2,k1,k2,k3⟩:=K4 (bz:=bz) h1 gX Ih (fun p JZ=>by
   obtain⟨g1,g2,g3,g4⟩:=hL.at_ p JZ (hD p JZ);obtain⟨o,_,ho⟩:=hZ p JZ;exact⟨g1,g2,g3,g4,(lQ ho).2.2.2.2.2.2,by simp,fun i c hc ho=>by grind⟩) hnd fun p JZ q hqZ=>hL.ne _ (hD p JZ) _ (hD q hqZ)
  have:=hp.length_eq;rw[Gf hp,show m=gm-(nA Z).length by omega];exact rZ hQ k1 k3 fun β3 s3 a3 w3 m1 m2 m3=>hK β3 s3 a3 w3 m1 ((hx.trans k2).trans m2) m3
 have Uu:Late Z w (fun _=>0) [] [] a w:=⟨fun p _ h=>(by cases h),fun _ h=>(by cases h),fun _ h=>(by simp),fun _ h=>(by cases h),aX _⟩
 have hR0:=Rep.xA (hR.frame (fr':=zH _ st.fr) fun i p hl=>by
  cases he:(zSl Z).elem i with
  | true=>rw[(kw (l:=st.fr)).1 he]at hl;cases hl
  | false=>rw[(kw (l:=st.fr)).2 he]at hl;exact⟨p,hl,rfl⟩)
 have he0:Ext st (St.xA (st.od (zSl Z))):=(Ext.od _ _).trans (Ext.xA _);rcases mC h with⟨_,h⟩ | ⟨_,h⟩
 ·obtain⟨J,hJ,h⟩:=h;refine Qy hQ hZ hzo hnd (s0:=st) (fun mk s β' a' w' bz D m hk he YK hL hp hg=>?_) ops.length ops.length (D:=[]) (Pd:=nA Z) h he0 rfl hR0 Uu (List.Perm.refl _) rfl;obtain⟨s3,h3,e3,hR3,WQ,_⟩:=dP hk YK;obtain⟨vs,k1,k2⟩:=rY h3 hR3 WQ (.inl (he.trans e3)) (hJ mk);exact two mk _ _ a' w' bz D m k1 Ext.S0 k2 hL hp hg
 ·exact Qy hQ hZ hzo hnd (s0:=st) (fun mk s β' a' w' bz D m hk he YK hL hp hg=>two mk s β' a' w' bz D m hk he YK hL hp hg) ops.length ops.length (D:=[]) (Pd:=nA Z) h he0 rfl hR0 Uu (List.Perm.refl _) rfl
end
end Go.Kt.V
