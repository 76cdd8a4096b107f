import Derived.Test.YtmhoiicofhlgbaaGreatDoorQw1
import Derived.Shelf.Strings.Builder1
import Derived.Shelf.Strings.Builder2
import Derived.Shelf.Strings.OnBuilder
import Derived.Shelf.Strings.Trim
import Derived.Shelf.Small.Utf8
import Derived.Shelf.Small.Strs
import Derived.Shelf.Strings.BuilderF
import Derived.Shelf.Strconv.Itoa0
import Derived.Shelf.Strconv.Itoa1
import Derived.Shelf.LaysM
import Derived.Shelf.Strconv.Itoa2
import Derived.Shelf.Strconv.Itoa3
import Derived.Shelf.Strconv.ParseIntEmpty
import Derived.Shelf.Strconv.Clone
import Derived.Shelf.Strconv.SyntaxError
import Derived.Shelf.LaysC
import Derived.Shelf.Strconv.ToError
import Derived.Shelf.Strconv.Lower
import Derived.Shelf.Strconv.ParseUint10
import Derived.Shelf.Strconv.ParseUint10Empty
import Derived.Shelf.Strconv.ParseUint10Any
import Derived.Shelf.Strconv.ParseInt10
import Derived.Shelf.Strconv.RangeError
import Derived.Shelf.Strconv.ToErrorRange
import Derived.Shelf.Strconv.ParseUintEmpty
import Derived.Shelf.Strconv.ParseUint10b64
import Derived.Shelf.Strconv.ParseUint10b32
import Derived.Shelf.Strconv.ParseUint10b16
import Derived.Shelf.Strconv.ParseUint10b8
import Derived.Shelf.Strconv.ParseUint10At
import Derived.Shelf.Strconv.ParseInt10At64
import Derived.Shelf.Strconv.ParseInt10At32
import Derived.Shelf.Strconv.ParseInt10At16
import Derived.Shelf.Strconv.ParseInt10At8
import Derived.Shelf.Strconv.ParseInt10All
import Derived.Shelf.Strconv.ParseIntPublic10
import Derived.Shelf.Strconv.ErrVarParseInt
import Derived.Shelf.Strings.Search1
import Derived.Shelf.Strings.Search2
import Derived.Shelf.Strings.Search3
import Derived.Shelf.Strings.Cut
import Derived.Shelf.Strings.Count
import Derived.Shelf.Strings.Shaped
import Derived.Shelf.Strings.Prefix
import Derived.Shelf.Strings.Split
import Derived.Shelf.Strings.SplitShaped
import Derived.Shelf.Strings.Runes
import Derived.Shelf.Strings.AsciiSet
import Derived.Shelf.Bits.Mul64
import Derived.Shelf.Strings.Repeat
import Derived.Shelf.Unicode.DecodeSlow
set_option linter.unusedSectionVars false
namespace Go.Kt.V
open Go Go.RowKit Go.Kt
set_option linter.unusedSimpArgs false
set_option linter.unusedVariables false
def pD (l:List Value) (i:Nat):Value:=match l,i with
 | [],_=>undef
 | v::_,0=>v
 | _::r,i+1=>pD r i
def zp:List Nat->List Value->List (Nat×Value)
 | i::r,v::s=>(i,v)::zp r s
 | _,_=>[]
def Qr:List (Nat×SV)->List Nat
 | []=>[]
 | p::r=>p.1::Qr r
def Lz:List (Nat×SV)->List SV
 | []=>[]
 | p::r=>p.2::Lz r
theorem Sp (β:Nat->Nat):∀l:List (Nat×SV),zp (Qr l) (bR β (Lz l))=xy β l
 | []=>rfl
 | p::r=>by
  have:=Sp β r;simp only[bR]at this;simp only[Qr,Lz,bR,bg,zp,xy,this]
def Y9 (P:Program) (t:TypeId):Bool:=match P.underlying t with
 | some (.pointer _)=>true
 | _=>false
def Za:Operand->Bool
 | .const _=>true
 | _=>false
def ptS:SV->Bool
 | .ptr _=>true
 | .ad _=>true
 | _=>false
def iV (P:Program):Op->Bool
 | .move _=>true
 | .assign _=>true
 | .pick _ _ _=>true
 | .binOp _ t x y _=>!(Y9 P t)||Za x||Za y
 | .unOp _ _ _=>true
 | .extract _ _=>true
 | .build _ _=>true
 | .makeFunc _ _ _=>true
 | .makeInterface _ _=>true
 | .nilCheck _=>true
 | .fieldAddr _ _ _=>true
 | .field _ _ _=>true
 | .indexAddr _ _ _=>true
 | .load _ _=>true
 | .index _ _ _=>true
 | .slice _ _ _ _ _=>true
 | .convert s d _=>(match P.underlying s,P.underlying d with
  | some (.int _),some (.int _)=>true
  | some .string,some .string=>true
  | some (.slice e),some .string=>(match P.underlying e with
   | some (.int .u8)=>true
   | _=>false)
  | _,_=>false)
 | .call c=>(match c.callee with
  | .builtin .len=>(match c.argTypes.toList with
   | [t]=>(match P.underlying t with
    | some (.slice _)=>true
    | some .string=>true
    | _=>false)
   | _=>false)
  | .builtin .cap=>true
  | .builtin .min=>true
  | .builtin .max=>true
  | _=>false)
 | _=>false
def su:Op->Bool
 | .store _ _ _=>true
 | _=>false
def Zb (P:Program) (X:XT) (st:St) (o:Oper) (b:Builtin) (ts:Array TypeId) (vs:List SV) (K:St->Prop):Prop:=match b with
 | .append=>pC P X st o.dst (Bk P o.type) vs (fun l=>Builtin.append_ ts o.type l.toArray) K
 | .copy=>pC P X st o.dst (Bk P o.type) vs (fun l=>Builtin.copy_ ts o.type l.toArray) K
 | .delete=>pC P X st o.dst (Bk P o.type) vs (fun l=>Builtin.delete_ ts o.type l.toArray) K
 | .clear=>pC P X st o.dst (Bk P o.type) vs (fun l=>Builtin.clear_ ts o.type l.toArray) K
 | .len=>pC P X st o.dst (Bk P o.type) vs (fun l=>Builtin.len_ ts o.type l.toArray) K
 | .unsafeSliceData=>pC P X st o.dst (Bk P o.type) vs (fun l=>Builtin.unsafeSliceData_ ts o.type l.toArray) K
 | .unsafeString=>pC P X st o.dst (Bk P o.type) vs (fun l=>Builtin.unsafeString_ ts o.type l.toArray) K
 | _=>False
def Jt (f:FuncId) (args:Array Value):Sem Value:=do
 match <-callFunc f args with
 | .value v=>pure v
 | _=>stuck "extV"
theorem LA {P:Program} {f:FuncId} {args:Array Value} {w w1:World} {v:Value} (h:(Jt f args).run P w=.ok v w1):(callFunc f args).run P w=.ok (.value v) w1:=by
 unfold Jt at h;rw[Sem.run_bind]at h;cases hc:(callFunc f args).run P w with
 | ok n w2=>
  rw[hc,Result.andThen_ok]at h;cases n<;>first | (simp[stuck]at h;done) | (simp only[Sem.run_pure,Result.ok.injEq]at h;obtain⟨rfl,rfl⟩:=h;rfl) | (simp at h)
 | _=>rw[hc]at h;simp at h
theorem UZ {P:Program} {a:Act} {w w1:World} {v:Value} {dst:Option Tmp} {x:Operand} {f:FuncId} {first captured:List Value} {xs:List Operand} {ats:Array TypeId} {t':TypeId} {p:String} {af:Array Edge} {g:Option (Nat×Bool)} {args:List Value}
  (hx:a.eval x=.func (.func f) first.toArray captured.toArray)
  (ha:first++xs.map a.eval++captured=args) (hc:(callFunc f args.toArray).run P w=.ok (.value v) w1):
  (execOp a.eval ⟨dst,.call ⟨.value x,xs.toArray,ats⟩,t',p,af,g⟩).run P w=.ok (.value v) w1:=by
 subst ha;simp only[execOp,resolve,hx,Deferred.ofValue,Sem.run_bind,Sem.run_pure,Result.andThen_ok,invoke];simp only[List.append_toArray,ph]at hc⊢;simpa using hc
def U0 (P:Program) (X:XT) (st:St) (o:Oper) (fv:SV) (vs:List SV) (K:St->Prop):Prop:=match fv with
 | .fn g fs cs=>bif zm fs&&zm cs&&Lu P g then dQ (st.esc (j7 fs++vs++j7 cs)) fun st=>He P X st o.dst (Y8 P g) g (j7 fs++vs++j7 cs) [] K
  else bif zm fs&&zm cs then dQ (st.esc (j7 fs++vs++j7 cs)) fun st=>pC P X st o.dst (Y8 P g) (j7 fs++vs++j7 cs) (fun l=>Jt g l.toArray) K else False
 | .raw v=>dQ (st.esc vs) fun st=>∃(g:FuncId) (fst cap:List Value),v.v=.func (.func g) fst.toArray cap.toArray/\(∀(args:Array Value) (w:World),(callFunc g args).run P w=.ok (.enter g args) w)/\Hf P X st o.dst (Bk P o.type) g fst vs cap K
 | _=>False
abbrev YT:=Option Nat->Prop->Prop
def Zc (P:Program) (X:XT) (Y:YT) (st:St) (o:Oper) (p s:SV) (vs:List SV) (K:St->Prop):Prop:=match p with
 | .box i off=>bG (cu st.bx i) fun b=>bif b.ok&&Nat.ble (off+vs.length) b.cells.length then Y b.blk (K ((st.ri i b (Y2 b.cells off vs)).put o.dst .un))else False
 | .ad p=>dQ (st.esc vs) fun st=>∃(bk off:Nat) (cells:List Value) (ety:TypeId),p=(⟨bk,off,none⟩:Addr)/\Blk st.w0 bk ety cells/\off+vs.length<=cells.length/\
  bif gD st.Gw vs&&oE st.bx then Y6 bk st.bx (∀w1:World,Only [bk] st.w0 w1->Blk w1 bk ety (bO cells off (bR st.bl vs))->X st.w0 w1 (K (St.put {st with w0:=w1} o.dst .un)))else False
 | _=>False
def Zd (P:Program) (st:St) (o:Oper) (fv:SV) (vs:List SV) (K:St->Prop):Prop:=match fv with
 | .fn g fs cs=>bif zm fs&&zm cs&&Lu P g then dQ (st.esc (j7 fs++vs++j7 cs)) fun st=>bif gD st.Gw (j7 fs++vs)&&gD st.Gw (j7 cs)then
  K (St.put {st with df:=(g,bR st.bl (j7 fs++vs),bR st.bl (j7 cs))::st.df} o.dst .un)else False else False
 | _=>False
def loud (P:Program) (X:XT) (Y:YT) (st:St) (o:Oper) (K:St->Prop):Prop:=match o.op with
 | .binOp op t x y _=>bG (st.ev x) fun a=>bG (st.ev y) fun b=>bif ptS a&&ptS b then dQ (st.esc [a,b]) fun st=>pC P X st o.dst [o.type] [a,b] (fun vs=>Go.binOp op t (pD vs 0) (pD vs 1)) K else False
 | .alloc t=>bG (zc P t) fun zs=>bif XR st zs then K (st.Cj o.dst t zs)else False
 | .box t x=>bG (st.ev x) fun s=>bG (xB s) fun zs=>bif XR st zs then K (st.Cj o.dst t zs)else False
 | .store t x y=>bG (st.ev x) fun p=>bG (st.ev y) fun s=>bG (xB s) fun vs=>bif sz P t vs.length then Zc P X Y st o p s vs K else False
 | .call c=>bG (st.IR c.args.toList) fun vs=>(match c.callee with
  | .value f=>bG (st.ev f) fun fv=>U0 P X st o fv vs K
  | .builtin b=>dQ (st.esc vs) fun st=>Zb P X st o b c.argTypes vs K
  | _=>False)
 | .defer c=>bG (st.IR c.args.toList) fun vs=>(match c.callee with
  | .value f=>bG (st.ev f) fun fv=>Zd P st o fv vs K
  | _=>False)
 | .buildSlice t n ps=>bG (st.Py ps.toList) fun l=>dQ (st.esc (Lz l)) fun st=>pC P X st o.dst [t] (Lz l) (fun vs=>Instr.buildSlice t n (zp (Qr l) vs).toArray) K
 | .makeSlice t x y=>bG (st.ev x) fun a=>bG (st.ev y) fun b=>dQ st fun st=>pC P X st o.dst [t] [a,b] (fun vs=>Instr.makeSlice t (pD vs 0) (pD vs 1)) K
 | .makeMap t none=>dQ st fun st=>pC P X st o.dst [t] [] (fun _=>Instr.makeMap t none) K
 | .makeMap t (some x)=>bG (st.ev x) fun a=>dQ st fun st=>pC P X st o.dst [t] [a] (fun vs=>Instr.makeMap t (some (pD vs 0))) K
 | .lookup t x i ok=>bG (st.ev x) fun a=>bG (st.ev i) fun b=>dQ st fun st=>pC P X st o.dst (Bk P o.type) [a,b] (fun vs=>Instr.lookup t (pD vs 0) (pD vs 1) ok) K
 | .mapUpdate t x y z=>bG (st.ev x) fun a=>bG (st.ev y) fun b=>bG (st.ev z) fun c=>dQ (st.esc [a,b,c]) fun st=>Ly P X st o.dst [a,b,c] (fun vs=>Instr.mapUpdate t (pD vs 0) (pD vs 1) (pD vs 2)) K
 | .insert t x y z=>bG (st.ev x) fun a=>bG (st.ev y) fun b=>bG (st.ev z) fun c=>dQ (st.esc [a,b,c]) fun st=>Ly P X st o.dst [a,b,c] (fun vs=>Instr.mapUpdate t (pD vs 0) (pD vs 1) (pD vs 2)) K
 | .convert s d x=>bG (st.ev x) fun a=>dQ (st.esc [a]) fun st=>pC P X st o.dst [d] [a] (fun vs=>convert s d (pD vs 0)) K
 | .range t x=>bG (st.ev x) fun a=>dQ st fun st=>∃p:Option Addr,Js P X st o.dst [a] (fun vs=>Instr.range t (pD vs 0)) (.ptr p) K
 | .next x false=>bG (st.ev x) fun a=>dQ st fun st=>Js P X st o.dst [a] (fun vs=>Instr.next (pD vs 0) false o.type) (.tup (jU [.bl false])) K∨
  ∃(k:ByteArray) (p:Option Addr),Js P X st o.dst [a] (fun vs=>Instr.next (pD vs 0) false o.type) (.tup (jU [.bl true,.str k,.ptr p])) K
 | .entry x=>bG (st.ev x) fun a=>dQ st fun st=>∃(k:ByteArray) (p:Option Addr),Js P X st o.dst [a] (fun vs=>Instr.entry (pD vs 0)) (.tup (jU [.str k,.ptr p])) K
 | _=>False
section
variable {P:Program} {β:Nat->Nat} {st:St} {a:Act} {w w1:World} {X:XT} {Y:YT} {E:World->World->Prop} {K:St->Prop} {Q:Exit->Act->World->Prop}
abbrev Sq (E:World->World->Prop) (st:St) (K:St->Prop) (w:World) (a':Act) (w':World):Prop:=∃β' ch,K ch/\Ext st ch/\E w w'/\Rep β' ch a' w'
theorem ki (hX:∀w0 w1 p,X w0 w1 p->p/\E w0 w1) {o:Oper} {Cq:List TypeId} {args l:List SV} {run:List Value->Sem Value} (h:dQ (st.esc l) fun st=>pC P X st o.dst Cq args run K) (hR:Rep β st a w)
  (hx:∀v w1,(run (bR β args)).run P w=.ok v w1->(execOp a.eval o).run P w=.ok (.value v) w1):o.wp P a w (Sq E st K w) Q:=by
 obtain⟨s1,h1,e1,gA,hm,_⟩:=dl h (hR.esc l);obtain⟨v,w',hr,ch,k1,k2,k3,k4⟩:=Hg hX h1 hm gA;exact vP v (hx v w' hr) rfl ⟨β,ch,k1,(Ext.esc st l).trans (e1.trans k2),k3,k4⟩
theorem tZ (hX:∀w0 w1 p,X w0 w1 p->p/\E w0 w1) {o:Oper} {Cq:List TypeId} {args:List SV} {run:List Value->Sem Value} (h:dQ st fun st=>pC P X st o.dst Cq args run K) (hR:Rep β st a w)
  (hx:∀v w1,(run (bR β args)).run P w=.ok v w1->(execOp a.eval o).run P w=.ok (.value v) w1):o.wp P a w (Sq E st K w) Q:=by
 obtain⟨s1,h1,e1,gA,hm,_⟩:=dl h hR;obtain⟨v,w',hr,ch,k1,k2,k3,k4⟩:=Hg hX h1 hm gA;exact vP v (hx v w' hr) rfl ⟨β,ch,k1,e1.trans k2,k3,k4⟩
theorem Dm (hX:∀w0 w1 p,X w0 w1 p->p/\E w0 w1) {o:Oper} {args l:List SV} {run:List Value->Sem Unit} (h:dQ (st.esc l) fun st=>Ly P X st o.dst args run K) (hR:Rep β st a w)
  (hx:∀w1,(run (bR β args)).run P w=.ok () w1->(execOp a.eval o).run P w=.ok .skip w1):o.wp P a w (Sq E st K w) Q:=by
 obtain⟨s1,h1,e1,gA,hm,_⟩:=dl h (hR.esc l);obtain⟨w',hr,ch,k1,k2,k3,k4⟩:=Qq hX h1 hm gA;exact K9 (hx w' hr) rfl ⟨β,ch,k1,(Ext.esc st l).trans (e1.trans k2),k3,k4⟩
theorem Hh (hE:∀w w1,Only [] w w1->E w w1) {d:Option Tmp} {t:TypeId} {zs:List SV} (hc:XR st zs=true) (h:K (st.Cj d t zs)) (hR:Rep β st a w) {b:Nat} (hb:w.heap.size<=b) (hO:Only [] w w1) (hB:Blk w1 b t (bR β zs)):
  Sq E st K w (a.put d (.pointer (some ⟨b,0,none⟩))) w1:=by
 simp only[XR,aE]at hc;exact⟨_,_,h,Ext.Cj _ _ _ _,hE _ _ hO,hR.Cj hc.1.1.1 hc.1.1.2 hc.1.2 hb hO hB hc.2⟩
theorem LB (hX:∀w0 w1 p,X w0 w1 p->p/\E w0 w1) {o:Oper} {Cq:List TypeId} {f:FuncId} {args:List SV} {nr:List Value} {s1:St} (h:He P X s1 o.dst Cq f args nr K) (hm:s1.mv=false) (e1:Ext st s1) (hR:Rep β s1 a w)
  (hx:(execOp a.eval o).run P w=.ok (.enter f (bR β args++nr).toArray) w):o.wp P a w (Sq E st K w) Q:=by
 refine G6 hx ((Lv hX h hm hR).mono ?_);rintro e w' ⟨v,rfl,ch,k1,k2,k3,k4⟩;exact⟨v,_,rfl,rfl,β,ch,k1,e1.trans k2,k3,k4⟩
theorem Ju (hX:∀w0 w1 p,X w0 w1 p->p/\E w0 w1) {o:Oper} {Cq:List TypeId} {f:FuncId} {fst:List Value} {args:List SV} {nr:List Value} {s1:St} (h:Hf P X s1 o.dst Cq f fst args nr K) (hm:s1.mv=false) (e1:Ext st s1) (hR:Rep β s1 a w)
  (hx:(execOp a.eval o).run P w=.ok (.enter f (zq (zq fst (bR β args)) nr).toArray) w):o.wp P a w (Sq E st K w) Q:=by
 refine G6 hx ((Lw hX h hm hR).mono ?_);rintro e w' ⟨v,rfl,ch,k1,k2,k3,k4⟩;exact⟨v,_,rfl,rfl,β,ch,k1,e1.trans k2,k3,k4⟩
theorem LC {s:SV} (h:ptS s=true) (β:Nat->Nat):∃q,val β s=.pointer q:=by
 cases s<;>first | (cases h;done) | exact⟨_,rfl⟩
theorem Qs {a:Act} {dst:Option Tmp} {op:BinOp} {t ty:TypeId} {x y:Operand} {t':TypeId} {p:String} {af:Array Edge} {g:Option (Nat×Bool)} {u v r:Value} (hu:∃q,u=.pointer q) (hv:∃q,v=.pointer q) (hx:a.eval x=u) (hy:a.eval y=v) {w w1:World}
  (hr:(Go.binOp op t u v).run P w=.ok r w1):(execOp a.eval ⟨dst,.binOp op t x y ty,t',p,af,g⟩).run P w=.ok (.value r) w1:=by
 obtain⟨q,rfl⟩:=hu;obtain⟨q',rfl⟩:=hv;have hg:eqGuard op t x y (.pointer q) (.pointer q')=pure ():=by cases op<;>rfl
 simp only[execOp,hx,hy,hg,Sem.run_bind,Sem.run_pure,Result.andThen_ok,hr]
theorem Qt {a:Act} {dst:Option Tmp} {x:Operand} {fn:Fn} {first captured:List Value} {xs:List Operand} {ats:Array TypeId} {t':TypeId} {p:String} {af:Array Edge} {g:Option (Nat×Bool)} {args:List Value} {w:World}
  (hx:a.eval x=.func fn first.toArray captured.toArray) (ha:first++xs.map a.eval=args):
  (execOp a.eval ⟨dst,.defer ⟨.value x,xs.toArray,ats⟩,t',p,af,g⟩).run P w=.ok (.defer {target:=.fn fn captured.toArray,args:=args.toArray}) w:=by
 subst ha;simp only[execOp,resolve,hx,Deferred.ofValue,Sem.run_bind,Sem.run_pure,Result.andThen_ok];simp
theorem LD {a:Act} {dst:Option Tmp} {t:TypeId} {x:Operand} {t':TypeId} {p:String} {af:Array Edge} {g:Option (Nat×Bool)} {u v:Value} {w w1:World} (hx:a.eval x=u) (hr:(Instr.range t u).run P w=.ok v w1):
  (execOp a.eval ⟨dst,.range t x,t',p,af,g⟩).run P w=.ok (.value v) w1:=by
 simp only[execOp,hx,Sem.run_bind,hr,Result.andThen_ok,Sem.run_pure]
theorem Hi {a:Act} {dst:Option Tmp} {x:Operand} {t':TypeId} {p:String} {af:Array Edge} {g:Option (Nat×Bool)} {u v:Value} {w w1:World} (hx:a.eval x=u) (hr:(Instr.next u false t').run P w=.ok v w1):
  (execOp a.eval ⟨dst,.next x false,t',p,af,g⟩).run P w=.ok (.value v) w1:=by
 simp only[execOp,hx,Sem.run_bind,hr,Result.andThen_ok,Sem.run_pure]
theorem LF {a:Act} {dst:Option Tmp} {x:Operand} {t':TypeId} {p:String} {af:Array Edge} {g:Option (Nat×Bool)} {u v:Value} {w w1:World} (hx:a.eval x=u) (hr:(Instr.entry u).run P w=.ok v w1):
  (execOp a.eval ⟨dst,.entry x,t',p,af,g⟩).run P w=.ok (.value v) w1:=by
 simp only[execOp,hx,Sem.run_bind,hr,Result.andThen_ok,Sem.run_pure]
theorem kj (β:Nat->Nat) (l m:List SV):bR β (l++m)=bR β l++bR β m:=by simp[bR]
theorem Bl (hX:∀w0 w1 p,X w0 w1 p->p/\E w0 w1) {o:Oper} (hE:∀w w1,Only [] w w1->E w w1) (hS:su o.op=true->∀bk k w w1 p,Y bk p->(∀j,bk=some j->k=j)->Only [k] w w1->p/\E w w1) (h:loud P X Y st o K) (hR:Rep β st a w):o.wp P a w (Sq E st K w) Q:=by
 obtain⟨dst,op,t',p,af,g⟩:=o;unfold loud at h;dsimp only at h;split at h
 ·obtain⟨x,hx,h⟩:=aY h;obtain⟨y,hy,h⟩:=aY h;obtain⟨hp,h⟩:=cU h;simp only[aE]at hp;exact ki hX h hR fun v w1 hr=>Qs (LC hp.1 β) (LC hp.2 β) (hR.ev hx) (hR.ev hy) hr
 ·obtain⟨zs,hz,h⟩:=aY h;obtain⟨hc,h⟩:=cU h;obtain⟨z,z1,z2⟩:=So hz w;exact C3 z1 (z2 β) (fun _=>rfl) fun b w1 hb hO hB=>Hh hE hc h hR hb hO hB
 ·obtain⟨s,hs,h⟩:=aY h;obtain⟨zs,hz,h⟩:=aY h;obtain⟨hc,h⟩:=cU h;exact UE (by rw[hR.ev hs];exact(uY hz β).1) (fun _=>rfl) fun b w1 hb hO hB=>Hh hE hc h hR hb hO hB
 ·obtain⟨q,hx,h⟩:=aY h;obtain⟨s,hy,h⟩:=aY h;obtain⟨vs,hv,h⟩:=aY h;obtain⟨hsz,h⟩:=cU h;obtain⟨c1,c2⟩:=uY hv β;have Ue:=hS rfl;cases q with
  | box i off=>
   obtain⟨b,hb,h⟩:=aY h;obtain⟨h1,h⟩:=cU h;simp only[aE]at h1;have h2:=cN h1.2;refine C2 (nX hsz w) (hR.ev hx) (by rw[hR.ev hy];exact c1) (ez β vs) c2 (hR.bx i b hb h1.1).blk (by rw[ez,ez];exact h2) rfl rfl fun w1 hO hB=>?_;rw[<-Dd]at hB;obtain⟨h,he⟩:=Ue _ (β i) _ w1 _ h (fun j hj=>(hR.bx i b hb h1.1).at_ j hj) hO;exact⟨β,_,h,(Ext.ri hb).trans (Ext.put _ _ _),he,(hR.ri hb h1.1 hO hB).put dst .un⟩
  | ad ad=>
   simp only[Zc]at h;obtain⟨s1,h1,e1,gA,hm,_⟩:=dl h (hR.esc vs);obtain⟨bk,off,cells,ety,rfl,hB,Gy,h2⟩:=h1;obtain⟨h3,h2⟩:=cU h2;simp only[aE]at h3;obtain⟨h2,gf⟩:=FH h2;have hw:=gA.still hm;rw[<-hw,gA.rh h3.1]at h2;rw[<-hw]at hB;refine C2 (nX hsz w) (hR.ev hx) (by rw[hR.ev hy];exact c1) (ez β vs) c2 hB (by rw[ez];exact Gy) rfl rfl fun w1 hO pi=>?_;obtain⟨h4,h5⟩:=hX _ _ _ (h2 w1 hO pi);refine⟨β,_,h4,((Ext.esc st vs).trans e1).trans (Ext.trans (t:={s1 with w0:=w1}) ⟨rfl,aK _,fun _ _ _ h _=>h,fun i b' ml ho hs=>⟨b',ml,ho,rfl,rfl,rfl,fun _ h=>h⟩,Lh,CL⟩ (Ext.put _ _ _)),h5,?_⟩;refine Rep.put (v:=.un) (Rep.next (ct':=s1.ct) gA hm h3.2 fun i b' ml ho=>⟨b',ml,ho,rfl,?_⟩) _;have eD:=gA.Kj h3.2 ml ho;have:=gf i b' ml ho;rw[eD]at this;exact hO.blk (gA.bx i b' ml ho).blk (by simpa using this)
  | _=>exact h.elim
 ·rename_i c;obtain⟨callee,⟨xs⟩,ts⟩:=c;obtain⟨vs,hv,h⟩:=aY h;have vI:=hR.IR hv;dsimp only at h;cases callee with
  | value f=>
   obtain⟨fv,hf,h⟩:=aY h;cases fv with
   | fn g' fs cs=>
    have ef:zm fs=true->zm cs=true->a.eval f=.func (.func g') (bR β (j7 fs)).toArray (bR β (j7 cs)).toArray:=fun k1 k2=>by
     rw[hR.ev hf];show Value.func (.func g') (oq β fs).toArray (oq β cs).toArray=_;rw[lD β k1,lD β k2]
    have h':=h;unfold U0 at h';rcases lO h' with⟨h0,h1⟩ | ⟨_,h1⟩
    ·simp only[aE]at h0;obtain⟨s1,h1,e1,gA,hm,_⟩:=dl h1 (hR.esc _);refine LB hX h1 hm ((Ext.esc _ _).trans e1) gA ?_;exact CX (ef h0.1.1 h0.1.2) (kg h0.2) (by rw[vI,kj,kj,br])
    ·obtain⟨h0,h1⟩:=cU h1;simp only[aE]at h0;exact ki hX h1 hR fun v w1 hr=>UZ (ef h0.1 h0.2) (by rw[vI,kj,kj]) (LA hr)
   | raw v=>
    simp only[U0]at h;obtain⟨s1,⟨g',fst,cap,h1,h2,h3⟩,e1,gA,hm,_⟩:=dl h (hR.esc vs);refine Ju hX h3 hm ((Ext.esc _ _).trans e1) gA ?_;have ef:a.eval f=.func (.func g') fst.toArray cap.toArray:=(hR.ev hf).trans h1;exact CX ef h2 (by rw[vI];rfl)
   | _=>exact h.elim
  | builtin b=>
   unfold Zb at h;cases b with
   | append=>exact ki hX h hR fun v w1 hr=>uV vI hr
   | copy=>exact ki hX h hR fun v w1 hr=>xt vI hr
   | delete=>exact ki hX h hR fun v w1 hr=>uW vI hr
   | clear=>exact ki hX h hR fun v w1 hr=>wo vI hr
   | len=>exact ki hX h hR fun v w1 hr=>zh vI hr
   | unsafeSliceData=>exact ki hX h hR fun v w1 hr=>(by rw[<-vI]at hr;exact kP (fun _=>rfl) hr)
   | unsafeString=>exact ki hX h hR fun v w1 hr=>(by rw[<-vI]at hr;exact kP (fun _=>rfl) hr)
   | _=>
    obtain⟨s1,h1,_⟩:=dl h (hR.esc vs);exact h1.elim
  | _=>exact h.elim
 ·rename_i c;obtain⟨callee,⟨xs⟩,ts⟩:=c;obtain⟨vs,hv,h⟩:=aY h;have vI:=hR.IR hv;dsimp only at h;cases callee with
  | value f=>
   obtain⟨fv,hf,h⟩:=aY h;cases fv with
   | fn g' fs cs=>
    unfold Zd at h;obtain⟨h0,h1⟩:=cU h;simp only[aE]at h0;have ef:a.eval f=.func (.func g') (bR β (j7 fs)).toArray (bR β (j7 cs)).toArray:=by
     rw[hR.ev hf];show Value.func (.func g') (oq β fs).toArray (oq β cs).toArray=_;rw[lD β h0.1.1,lD β h0.1.2]
    obtain⟨s1,h1,e1,gA,hm,_⟩:=dl h1 (hR.esc _);obtain⟨hc,h1⟩:=cU h1;simp only[aE]at hc;rw[gA.rh hc.1,gA.rh hc.2]at h1;have hr:=Qt (P:=P) (dst:=dst) (ats:=ts) (t':=t') (p:=p) (af:=af) (g:=g) (w:=w) ef (by rw[vI,<-kj]);unfold Oper.wp;rw[hr,Oper.upon_defer];have zA:Rep β {s1 with df:=(g',bR β (j7 fs++vs),bR β (j7 cs))::s1.df} {a with defers:={target:=.fn (.func g') (bR β (j7 cs)).toArray,args:=(bR β (j7 fs++vs)).toArray}::a.defers} w:=by
     obtain⟨us,hu⟩:=gA.fr;exact⟨⟨us,by rw[hu];rfl⟩,gA.bx,gA.ne,gA.only,gA.still⟩
    exact⟨β,_,h1,((Ext.esc _ _).trans e1).trans (Ext.trans (t:={s1 with df:=(g',bR β (j7 fs++vs),bR β (j7 cs))::s1.df}) ⟨rfl,aK _,fun _ _ _ h _=>h,fun i b' ml ho hs=>⟨b',ml,ho,rfl,rfl,rfl,fun _ h=>h⟩,Lh,⟨[_],rfl⟩⟩ (Ext.put _ _ _)),hE _ _ (Only.refl _ _),zA.put dst .un⟩
   | _=>exact h.elim
  | _=>exact h.elim
 ·rename_i t n ps;obtain⟨l,hl,h1⟩:=aY h;clear h;obtain⟨ps⟩:=ps;refine ki hX h1 hR fun v w1 hr=>?_;rw[Sp]at hr;exact AV (hR.Py hl) hr
 ·obtain⟨u,hx,h⟩:=aY h;obtain⟨v,hy,h⟩:=aY h;exact tZ hX h hR fun _ w1 hr=>CV (hR.ev hx) (hR.ev hy) hr
 ·exact tZ hX h hR fun _ w1 hr=>Jg hr
 ·obtain⟨u,hx,h⟩:=aY h;exact tZ hX h hR fun _ w1 hr=>Fj (hR.ev hx) hr
 ·obtain⟨u,hx,h⟩:=aY h;obtain⟨v,hy,h⟩:=aY h;exact tZ hX h hR fun _ w1 hr=>K5 (hR.ev hx) (hR.ev hy) hr
 ·obtain⟨u,hx,h⟩:=aY h;obtain⟨v,hy,h⟩:=aY h;obtain⟨z,hz,h⟩:=aY h;exact Dm hX h hR fun w1 hr=>CW (hR.ev hx) (hR.ev hy) (hR.ev hz) hr
 ·obtain⟨u,hx,h⟩:=aY h;obtain⟨v,hy,h⟩:=aY h;obtain⟨z,hz,h⟩:=aY h;exact Dm hX h hR fun w1 hr=>K6 (hR.ev hx) (hR.ev hy) (hR.ev hz) hr
 ·obtain⟨u,hx,h⟩:=aY h;exact ki hX h hR fun _ w1 hr=>Jh (hR.ev hx) hr
 ·obtain⟨u,hx,h⟩:=aY h;obtain⟨s1,⟨q,h1⟩,e1,gA,hm,_⟩:=dl h hR;obtain⟨v,w',hr,ch,k1,k2,k3,k4⟩:=wQ hX h1 hm gA;exact vP v (LD (hR.ev hx) hr) rfl ⟨β,ch,k1,e1.trans k2,k3,k4⟩
 ·obtain⟨u,hx,h⟩:=aY h;obtain⟨s1,h1,e1,gA,hm,_⟩:=dl h hR;rcases h1 with h1 | h1
  ·obtain⟨v,w',hr,ch,k1,k2,k3,k4⟩:=wQ hX h1 hm gA;exact vP v (Hi (hR.ev hx) hr) rfl ⟨β,ch,k1,e1.trans k2,k3,k4⟩
  ·obtain⟨_,_,h1⟩:=h1;obtain⟨v,w',hr,ch,k1,k2,k3,k4⟩:=wQ hX h1 hm gA;exact vP v (Hi (hR.ev hx) hr) rfl ⟨β,ch,k1,e1.trans k2,k3,k4⟩
 ·obtain⟨u,hx,h⟩:=aY h;obtain⟨s1,⟨_,_,h1⟩,e1,gA,hm,_⟩:=dl h hR;obtain⟨v,w',hr,ch,k1,k2,k3,k4⟩:=wQ hX h1 hm gA;exact vP v (LF (hR.ev hx) hr) rfl ⟨β,ch,k1,e1.trans k2,k3,k4⟩
 ·exact h.elim
end
def nd (P:Program) (st:St) (o:Op):Bool:=match o with
 | .load _ x=>(match st.ev x with
  | some (.ad _)=>true
  | _=>false)
 | .convert s _ _=>(match P.underlying s with
  | some (.slice _)=>true
  | _=>false)
 | _=>false
def Ss (b:Bool) (st:St) (K:St->Prop):Prop:=bif b&&st.mv then dQ st K else K st
theorem vd {b:Bool} {st:St} {K:St->Prop} (h:Ss b st K) {β:Nat->Nat} {a:Act} {w:World} (hR:Rep β st a w):∃ch,K ch/\Ext st ch/\Rep β ch a w/\ch.fr=st.fr/\ch.n=st.n:=by
 unfold Ss at h;rcases lO h with⟨_,h⟩ | ⟨_,h⟩
 ·obtain⟨s,h1,h2,h3,h4,h5,h6,_⟩:=dl h hR;exact⟨s,h1,h2,h3,h5,h6⟩
 ·exact⟨st,h,Ext.refl _,hR,rfl,rfl⟩
def Bm (P:Program):List Oper->Bool
 | []=>true
 | o::r=>iV P o.op&&Bm P r
def FI:List Oper->Bool
 | []=>false
 | o::r=>mem o.op||FI r
def X0:XT:=fun _ _ p=>p
def Y0:YT:=fun _ p=>p
def Dp (P:Program) (st:St) (o:Oper) (K:St->Prop):Prop:=
 bif iV P o.op then Ss (nd P st o.op) st fun st=>UQ P [] st o.op fun v=>K (st.put o.dst v)else loud P X0 Y0 st o K
def wv (P:Program) (ops:List Oper):Nat->List Oper->St->(St->Prop)->Prop
 | 0,_,_,_=>False
 | _+1,[],st,K=>K st
 | f+1,o::rest,st,K=>match o.guard with
  | none=>Dp P st o fun st=>wv P ops f rest st K
  | some (j,want)=>(match UX st ops j with
   | some (_,.un)=>wv P ops f rest (st.put o.dst .un) K
   | some (_,.bl b)=>bif b==want then Dp P st o fun st=>wv P ops f rest st K else wv P ops f rest (st.put o.dst .un) K
   | some (d,.bt t)=>bif Bm P ((o::rest).take (wq ops j (o::rest)+1))
    then Ss (FI ((o::rest).take (wq ops j (o::rest)+1))) st fun st=>u6 P ops f [] ((o::rest).take (wq ops j (o::rest)+1)) st fun st=>wv P ops f ((o::rest).drop (wq ops j (o::rest)+1)) st K
    else((t=true->wv P ops f (o::rest) (st.put (some d) (.bl true)) K)/\(t=false->wv P ops f (o::rest) (st.put (some d) (.bl false)) K))
   | _=>False)
section
variable {P:Program} {ops:List Oper} {Q:Exit->Act->World->Prop}
theorem LG {st:St} {o:Oper} {rest:List Oper} {K:St->Prop} {β:Nat->Nat} {a:Act} {w:World} (h:Dp P st o K) (hR:Rep β st a w) (hw:Region.wanted o (yielded ops.toArray a.tmps)=true)
  (hK:∀β' ch a' w',K ch->Ext st ch->Rep β' ch a' w'->wpList P ops.toArray Q rest a' w'):wpList P ops.toArray Q (o::rest) a w:=by
 unfold Dp at h;rcases lO h with⟨_,h⟩ | ⟨_,h⟩
 ·obtain⟨s,h1,h2,h3,h4,h5⟩:=vd h hR;obtain⟨v,hv,hy⟩:=FD h1;exact Fi _ hw (hy trivial β a w h3 _ _ _ _ _ w fun _=>rfl) rfl (hK β _ _ w hv (h2.trans (Ext.put _ _ _)) (h3.put o.dst v))
 ·refine UD hw (Oper.wp_mono ?_ (Bl (E:=fun _ _=>True) (fun _ _ _ h=>⟨h,trivial⟩) (fun _ _ _=>trivial) (fun _ _ _ _ _ _ h _ _=>⟨h,trivial⟩) h hR));rintro a' w' ⟨β',ch,k1,k2,_,k4⟩;exact hK β' ch a' w' k1 k2 k4
theorem rI:∀{f:Nat} {l:List Oper} {st:St} {K:St->Prop},wv P ops f l st K->∀{β:Nat->Nat} {a:Act} {w:World},Rep β st a w->
  (∀β' ch a' w',K ch->Ext st ch->Rep β' ch a' w'->Q .normal a' w')->wpList P ops.toArray Q l a w
 | 0,_,_,_,h,_,_,_,_,_=>h.elim
 | _+1,[],st,K,h,β,a,w,hR,hK=>hK β st a w h (Ext.refl _) hR
 | f+1,o::rest,st,K,h,β,a,w,hR,hK=>by
  have no:wv P ops f rest (st.put o.dst .un) K->Region.wanted o (yielded ops.toArray a.tmps)=false->wpList P ops.toArray Q (o::rest) a w:=fun h hw=>
   Sf hw rfl (rI h (hR.put o.dst .un) fun β' ch a' w' k1 k2 k3=>hK β' ch a' w' k1 ((Ext.put _ _ _).trans k2) k3)
  have PE:(Dp P st o fun st=>wv P ops f rest st K)->Region.wanted o (yielded ops.toArray a.tmps)=true->wpList P ops.toArray Q (o::rest) a w:=fun h hw=>
   LG h hR hw fun β' ch a' w' k1 k2 k3=>rI k1 k3 fun β2 wk a2 w2 m1 m2 m3=>hK β2 wk a2 w2 m1 (k2.trans m2) m3
  unfold wv at h;split at h
  ·rename_i hg;exact PE h (wn hg)
  ·rename_i j want hg;split at h
   ·rename_i d ht;exact no h (uZ hR hg ht)
   ·rename_i d b ht;have hw:=oB hR hg ht (b:=b) rfl;rcases lO h with⟨e,h⟩ | ⟨e,h⟩
    ·exact PE h (hw.trans e)
    ·exact no h (hw.trans e)
   ·rename_i d t ht;obtain⟨oj,Fe,RI,PD⟩:=xE ht;rcases lO h with⟨_,h⟩ | ⟨_,h⟩
    ·generalize wq ops j (o::rest)+1=m at h;obtain⟨s,h1,h2,h3,h4,h5⟩:=vd h hR;obtain⟨s2,k1,k2,k3,k4⟩:=pA h1;obtain⟨a',g1,g2⟩:=k4 trivial β a w h3;have:=A9 (Q:=Q) (rest:=(o::rest).drop m) g1 (rI k1 g2 fun β2 wk a2 w2 m1 m2 m3=>hK β2 wk a2 w2 m1 ((h2.trans k2).trans m2) m3);rwa[eE]at this
    ·cases t with
     | true=>exact rI (h.1 rfl) (hR.set PD rfl) fun β' ch a' w' k1 k2 k3=>hK β' ch a' w' k1 ((Ext.put _ _ _).trans k2) k3
     | false=>exact rI (h.2 rfl) (hR.set PD rfl) fun β' ch a' w' k1 k2 k3=>hK β' ch a' w' k1 ((Ext.put _ _ _).trans k2) k3
   ·exact h.elim
end
def JT:List Lf->Type
 | []=>World->Prop
 | l::r=>l.T->JT r
def Dr:(ls:List Lf)->JT ls->(List SV->World->Prop)->Prop
 | [],J,K=>∀w:World,J w->K [] w
 | l::r,J,K=>∀x:l.T,Dr r (J x) fun vs w=>K (l.sv x::vs) w
def unI (k:IntKind) (s:SV):Option Int:=match oA s with
 | some (k',n)=>bif decide (k'=k)then some n else none
 | none=>none
def unP (bl:Nat->Nat) (s:SV):Option (Option Addr):=match s with
 | .box i o=>some (some ⟨bl i,o,none⟩)
 | s=>opn s
def unM (s:SV):Option (Option Nat):=match s with
 | .map m=>some m
 | _=>none
def unR (bl:Nat->Nat) (s:SV):Option OV:=match s with
 | .raw v=>some v
 | .fn f fs cs=>some ⟨.func (.func f) (oq bl fs).toArray (oq bl cs).toArray,rfl⟩
 | _=>none
def un (bl:Nat->Nat):(l:Lf)->SV->Option l.T
 | .int k=>unI k
 | .bool=>xA
 | .str=>tf
 | .ptr=>unP bl
 | .sl=>G8
 | .map=>unM
 | .raw=>unR bl
theorem Ze {bl:Nat->Nat} {l:Lf} {s:SV} {x:l.T} (h:un bl l s=some x) (β:Nat->Nat):val β (l.sv x)=val bl s:=by
 cases l with
 | int k=>
  have h:unI k s=some x:=h;unfold unI at h;split at h
  ·rename_i k' n ho;obtain⟨e,rfl⟩:=A7 h;have e:=aG e;subst e;rw[cP ho];rfl
  ·cases h
 | bool=>rw[kX h];rfl
 | str=>rw[gF h];rfl
 | ptr=>
  have h:unP bl s=some x:=h;unfold unP at h;split at h
  ·injection h with h;subst h;rfl
  ·rw[Qf h];rfl
 | sl=>rw[jr h];rfl
 | map=>
  have h:unM s=some x:=h;unfold unM at h;split at h
  ·injection h with h;subst h;rfl
  ·cases h
 | raw=>
  have h:unR bl s=some x:=h;unfold unR at h;split at h
  ·injection h with h;subst h;rfl
  ·injection h with h;subst h;rfl
  ·cases h
def apJ:(ls:List Lf)->(Nat->Nat)->JT ls->List SV->World->Prop
 | [],_,J,[],w=>J w
 | l::r,bl,J,s::ss,w=>(match un bl l s with
  | some x=>apJ r bl (J x) ss w
  | none=>False)
 | _,_,_,_,_=>False
theorem LH {bl:Nat->Nat} {w:World}:∀{ls:List Lf} {J:JT ls} {ss:List SV} {K:List SV->World->Prop},apJ ls bl J ss w->Dr ls J K->∃vs,K vs w/\vs.length=ls.length/\(∀β,bR β vs=bR bl ss)/\∀g,gD g vs=true
 | [],J,[],K,h,k=>⟨[],k w h,rfl,fun _=>rfl,fun _=>rfl⟩
 | l::r,J,s::ss,K,h,k=>by
  unfold apJ at h;split at h
  ·rename_i x hx;obtain⟨vs,h1,h2,h3,h4⟩:=LH h (k x);refine⟨_,h1,by simp[h2],fun β=>?_,fun g=>by simp only[gD,Lf.cln,h4 g,cA]⟩;have:=h3 β;simp only[bR,bg]at this⊢;rw[this,Ze hx]
  ·exact h.elim
 | [],_,_::_,_,h,_=>h.elim
 | _::_,_,[],_,h,_=>h.elim
inductive MI where
 | s (slot:Nat) (l:Lf)
 | a (slot:Nat) (ls:List Lf)
 | b (slot:Nat) (ls:List Lf)
def E8:List MI->List Lf
 | []=>[]
 | .s _ l::r=>l::E8 r
 | .a _ ls::r=>ls++E8 r
 | .b _ ls::r=>ls++E8 r
def Zf (st:St) (i:Nat):Option Nat:=match st.get i with
 | some (.box j _)=>some j
 | _=>none
def oG (st s:St):List MI->Option (List SV)
 | []=>some []
 | .s i _::r=>(match s.get i,oG st s r with
  | some v,some l=>some (v::l)
  | _,_=>none)
 | .a i ls::r=>(match s.get i,oG st s r with
  | some (.agg l),some m=>bif zm l&&Nat.beq (j7 l).length ls.length then some (j7 l++m)else none
  | _,_=>none)
 | .b i ls::r=>(match Zf st i with
  | some j=>(match cu s.bx j,oG st s r with
   | some b,some m=>bif Nat.beq b.cells.length ls.length then some (b.cells++m)else none
   | _,_=>none)
  | none=>none)
def E9 (ct:Nat):List MI->List SV->List (Nat×Nat×SV)
 | .s i _::r,v::vs=>(i,ct,v)::E9 ct r vs
 | .a i ls::r,vs=>(i,ct,.agg (jU (vs.take ls.length)))::E9 ct r (vs.drop ls.length)
 | .b _ ls::r,vs=>E9 ct r (vs.drop ls.length)
 | _,_=>[]
def FJ (st:St):List MI->List SV->List gR->List gR
 | .s _ _::r,_::vs,bx=>FJ st r vs bx
 | .a _ ls::r,vs,bx=>FJ st r (vs.drop ls.length) bx
 | .b i ls::r,vs,bx=>(match Zf st i with
  | some j=>(match cu bx j with
   | some b=>FJ st r (vs.drop ls.length) (zo bx j {b with cells:=vs.take ls.length,stp:=st.ct})
   | none=>FJ st r (vs.drop ls.length) bx)
  | none=>FJ st r (vs.drop ls.length) bx)
 | _,_,bx=>bx
def Su:List MI->List Nat
 | []=>[]
 | .s i _::r=>i::Su r
 | .a i _::r=>i::Su r
 | .b _ _::r=>Su r
def LI (st:St):List MI->List Nat
 | []=>[]
 | .b i _::r=>(match Zf st i with
  | some j=>j::LI st r
  | none=>LI st r)
 | _::r=>LI st r
def U1 (fr:List (Nat×Nat×SV)):List Nat->List (Nat×Nat×SV)
 | []=>[]
 | i::r=>match dk fr i with
  | some p=>(i,p)::U1 fr r
  | none=>U1 fr r
def kZ (st:St) (kp:List Nat) (ms:List MI) (vs:List SV) (w:World):St:=
 {n:=st.n,fr:=E9 st.ct ms vs++U1 st.fr kp,bx:=FJ st ms vs st.bx,w0:=w,mv:=false,dt:=[],ct:=st.ct+1,df:=st.df}
def Qu (st s:St) (sl:List Nat):List Nat->Bool
 | []=>true
 | i::r=>(match dk st.fr i with
  | some (k,v)=>(match dk s.fr i with
   | some (k',_)=>Nat.beq k k'&&Nat.blt k st.ct&&!sl.elem i&&cln (Di st.bx) v
   | none=>false)
  | none=>true)&&Qu st s sl r
def Jv (st:St) (PF:List Nat):Nat->List gR->List gR->Bool
 | _,[],_=>true
 | i,b::r,c::q=>(!b.ok||(b.blk.isSome&&(PF.elem i||(Nat.blt c.stp st.ct&&gD (Di st.bx) b.cells))))&&Jv st PF (i+1) r q
 | _,_::_,[]=>false
def FK (st:St) (kp:List Nat) (ms:List MI) (J:JT (E8 ms)) (s:St):Prop:=
 bif Qu st s (Su ms) kp&&Jv st (LI st ms) 0 st.bx s.bx&&Nat.beq s.df.length st.df.length then
  bG (oG st s ms) fun vs=>bif gD (Di s.bx) vs then apJ (E8 ms) (Dh s.bx) J vs s.w0 else False
 else False
theorem rJ:∀(l m:List (Nat×Nat×SV)) (i:Nat),dk (l++m) i=match dk l i with
  | some p=>some p
  | none=>dk m i
 | [],_,_=>rfl
 | (k,p)::r,m,i=>by
  simp only[cn,dk];cases Nat.beq k i with
  | true=>rfl
  | false=>exact rJ r m i
theorem wR {fr:List (Nat×Nat×SV)}:∀{kp:List Nat} {i:Nat} {p:Nat×SV},dk (U1 fr kp) i=some p->i∈kp/\dk fr i=some p
 | j::r,i,p,h=>by
  unfold U1 at h;split at h
  ·rename_i q hq;simp only[dk]at h;cases hb:Nat.beq j i with
   | true=>
    rw[hb]at h;simp only[fe,aJ]at h;subst h;have:=bC hb;subst this;exact⟨by simp,hq⟩
   | false=>
    rw[hb]at h;obtain⟨h1,h2⟩:=wR (by simpa using h);exact⟨by simp[h1],h2⟩
  ·obtain⟨h1,h2⟩:=wR h;exact⟨by simp[h1],h2⟩
theorem Ds {fr:List (Nat×Nat×SV)} {p:Nat×SV}:∀{kp:List Nat} {i:Nat},i∈kp->dk fr i=some p->dk (U1 fr kp) i=some p
 | j::r,i,hi,h=>by
  unfold U1;cases hb:Nat.beq j i with
  | true=>
   have:=bC hb;subst this;rw[h];simp only[dk,Nat.beq_refl,fe]
  | false=>
   have wj:i∈r:=by
    rcases aL.1 hi with e | e
    ·subst e;simp at hb
    ·exact e
   have ih:=Ds (p:=p) wj h;split
   ·simp only[dk,hb,mE];exact ih
   ·exact ih
theorem rK {ct:Nat}:∀{ms:List MI} {vs:List SV} {i:Nat},(Su ms).elem i=false->dk (E9 ct ms vs) i=none
 | [],vs,i,_=>by cases vs<;>rfl
 | .s j l::r,[],i,_=>rfl
 | .s j l::r,v::vs,i,h=>by
  simp only[Su,kF]at h;split at h
  ·cases h
  ·rename_i gf;simp only[E9,dk];have:Nat.beq j i=false:=by
    cases hb:Nat.beq j i with
    | false=>rfl
    | true=>have:=bC hb;subst this;simp at gf
   rw[this,mE];exact rK h
 | .a j ls::r,vs,i,h=>by
  simp only[Su,kF]at h;split at h
  ·cases h
  ·rename_i gf;simp only[E9,dk];have:Nat.beq j i=false:=by
    cases hb:Nat.beq j i with
    | false=>rfl
    | true=>have:=bC hb;subst this;simp at gf
   rw[this,mE];exact rK h
 | .b j ls::r,vs,i,h=>by
  simp only[E9];exact rK h
theorem rL {ct:Nat}:∀{ms:List MI} {vs:List SV} {i:Nat} {p:Nat×SV},dk (E9 ct ms vs) i=some p->p.1=ct
 | [],vs,i,p,h=>by cases vs<;>cases h
 | .s j l::r,[],i,p,h=>by cases h
 | .s j l::r,v::vs,i,p,h=>by
  simp only[E9,dk]at h;cases hb:Nat.beq j i with
  | true=>rw[hb]at h;simp only[fe,aJ]at h;subst h;rfl
  | false=>rw[hb]at h;exact rL (by simpa using h)
 | .a j ls::r,vs,i,p,h=>by
  simp only[E9,dk]at h;cases hb:Nat.beq j i with
  | true=>rw[hb]at h;simp only[fe,aJ]at h;subst h;rfl
  | false=>rw[hb]at h;exact rL (by simpa using h)
 | .b j ls::r,vs,i,p,h=>by
  simp only[E9]at h;exact rL h
theorem ii {st:St}:∀(ms:List MI) (vs:List SV) (bx:List gR) (i:Nat) (b:gR),cu bx i=some b->∃b',cu (FJ st ms vs bx) i=some b'/\b'.ty=b.ty/\b'.ok=b.ok/\b'.blk=b.blk/\((LI st ms).elem i=false->b'=b)/\(b'=b∨b'.stp=st.ct)
 | [],vs,bx,i,b,h=>⟨b,by cases vs<;>exact h,rfl,rfl,rfl,fun _=>rfl,.inl rfl⟩
 | .s j l::r,[],bx,i,b,h=>⟨b,h,rfl,rfl,rfl,fun _=>rfl,.inl rfl⟩
 | .s j l::r,v::vs,bx,i,b,h=>ii r vs bx i b h
 | .a j ls::r,vs,bx,i,b,h=>ii r _ bx i b h
 | .b s ls::r,vs,bx,i,b,h=>by
  simp only[FJ,LI];cases hj:Zf st s with
  | none=>exact ii r _ bx i b h
  | some j=>
   dsimp only;cases hc:cu bx j with
   | none=>
    obtain⟨b',h1,h2,h3,h4,h5,h6⟩:=ii (st:=st) r (vs.drop ls.length) bx i b h;refine⟨b',h1,h2,h3,h4,fun he=>h5 ?_,h6⟩;simp only[kF]at he;split at he
    ·cases he
    ·exact he
   | some c=>
    dsimp only;by_cases zy:i=j
    ·subst zy;rw[hc]at h;injection h with h;subst h;obtain⟨b',h1,h2,h3,h4,h5,h6⟩:=ii (st:=st) r (vs.drop ls.length) (zo bx i {c with cells:=vs.take ls.length,stp:=st.ct}) i _ (by rw[iK hc,if_pos rfl]);refine⟨b',h1,h2,h3,h4,fun he=>?_,?_⟩
     ·simp at he
     ·rcases h6 with rfl | h6
      ·exact .inr rfl
      ·exact .inr h6
    ·obtain⟨b',h1,h2,h3,h4,h5,h6⟩:=ii (st:=st) r (vs.drop ls.length) (zo bx j {c with cells:=vs.take ls.length,stp:=st.ct}) i b (by rw[iK hc,if_neg zy];exact h);refine⟨b',h1,h2,h3,h4,fun he=>h5 ?_,h6⟩;simp only[kF]at he;split at he
     ·cases he
     ·exact he
theorem mN {st:St}:∀(ms:List MI) (vs:List SV) (bx:List gR) (i:Nat),cu bx i=none->cu (FJ st ms vs bx) i=none
 | [],vs,bx,i,h=>by cases vs<;>exact h
 | .s j l::r,[],bx,i,h=>h
 | .s j l::r,v::vs,bx,i,h=>mN r vs bx i h
 | .a j ls::r,vs,bx,i,h=>mN r _ bx i h
 | .b s ls::r,vs,bx,i,h=>by
  simp only[FJ];cases hj:Zf st s with
  | none=>exact mN r _ bx i h
  | some j=>
   dsimp only;cases hc:cu bx j with
   | none=>exact mN r _ bx i h
   | some c=>
    dsimp only;refine mN r _ _ i ?_;rw[iK hc,if_neg]
    ·exact h
    ·rintro rfl;rw[h]at hc;cases hc
theorem Ext.NT {st:St} {kp:List Nat} {ms:List MI} {vs:List SV} {w:World}:Ext st (kZ st kp ms vs w):=by
 refine⟨rfl,ic _,fun i k v hl bJ=>?_,fun i b' hb ho hs=>?_,fun i b hb=>?_,CL⟩
 ·simp only[kZ]at hl;rw[rJ]at hl;split at hl
  ·rename_i p hp;have:=rL hp;simp only[aJ]at hl;subst hl;dsimp only at this;omega
  ·exact(wR hl).2
 ·simp only[kZ]at hb;cases hn:cu st.bx i with
  | none=>rw[mN _ _ _ _ hn]at hb;cases hb
  | some b=>
   obtain⟨b2,h1,h2,h3,h4,h5,h6⟩:=ii (st:=st) ms vs st.bx i b hn;rw[h1]at hb;injection hb with hb;subst hb;rcases h6 with rfl | h6
   ·exact⟨b2,rfl,ho,rfl,rfl,rfl,fun _ h=>h⟩
   ·omega
 ·obtain⟨b2,h1,h2,h3,h4,_⟩:=ii (st:=st) ms vs st.bx i b hb;exact⟨b2,h1,h2,h3,fun k hk=>by rw[h4];exact hk⟩
def qw (st:St) (kp:List Nat) (ms:List MI) (s:St):Prop:=Ext st s∨∃vs w,Ext (kZ st kp ms vs w) s
section
variable {st s:St} {kp:List Nat} {ms:List MI} {β:Nat->Nat} {a:Act} {w:World}
theorem qw.n (h:qw st kp ms s):s.n=st.n:=by
 rcases h with h | ⟨vs,w,h⟩
 ·exact h.n
 ·exact h.n
theorem qw.df (h:qw st kp ms s):∃l,s.df=l++st.df:=by
 rcases h with h | ⟨vs,w,h⟩
 ·exact h.df
 ·exact h.df
theorem qw.slot (h:qw st kp ms s) {i k:Nat} {v v':SV} (hi:i∈kp) (h1:dk st.fr i=some (k,v)) (h2:dk s.fr i=some (k,v')) (hk:k<st.ct) (hs:(Su ms).elem i=false):v'=v:=by
 rcases h with h | ⟨vs,w,h⟩
 ·have:=h.fr i k v' h2 hk;rw[h1]at this;simpa using this.symm
 ·have:=h.fr i k v' h2 (Nat.lt_succ_of_lt hk);simp only[kZ]at this;rw[rJ,rK hs]at this;dsimp only at this;rw[Ds hi h1]at this;simpa using this.symm
theorem qw.ps (h:qw st kp ms s) {i:Nat} {b:gR} (hb:cu st.bx i=some b):∃c,cu s.bx i=some c/\c.ty=b.ty/\c.ok=b.ok/\∀k,b.blk=some k->c.blk=some k:=by
 rcases h with h | ⟨vs,w,h⟩
 ·exact h.ps i b hb
 ·obtain⟨b2,h1,h2,h3,h4,_⟩:=ii (st:=st) ms vs st.bx i b hb;obtain⟨c,k1,k2,k3,k4⟩:=h.ps i b2 h1;exact⟨c,k1,k2.trans h2,k3.trans h3,fun k hk=>k4 k (by rw[h4];exact hk)⟩
theorem qw.cells (h:qw st kp ms s) {i:Nat} {b c:gR} (hb:cu st.bx i=some b) (hc:cu s.bx i=some c) (ho:b.ok=true) (hl:(LI st ms).elem i=false) (hs:c.stp<st.ct):c.cells=b.cells:=by
 rcases h with h | ⟨vs,w,h⟩
 ·obtain⟨c',k1,k2,k3,k4⟩:=h.ps i b hb;rw[hc]at k1;injection k1 with k1;subst k1;obtain⟨b3,m1,m2,m3,_⟩:=h.bx i c hc (k3.trans ho) hs;rw[hb]at m1;injection m1 with m1;rw[m1,m3]
 ·obtain⟨b2,h1,h2,h3,h4,h5,_⟩:=ii (st:=st) ms vs st.bx i b hb;obtain⟨c',k1,k2,k3,k4⟩:=h.ps i b2 h1;rw[hc]at k1;injection k1 with k1;subst k1;obtain⟨b3,m1,m2,m3,m4,m5,m6⟩:=h.bx i c hc (k3.trans (h3.trans ho)) (Nat.lt_succ_of_lt hs);rw[show cu (kZ st kp ms vs w).bx i=cu (FJ st ms vs st.bx) i from rfl,h1]at m1;injection m1 with m1;subst m1;rw[<-m3,h5 hl]
theorem Hj {sl:List Nat}:∀{kp:List Nat},Qu st s sl kp=true->∀i∈kp,∀k v,dk st.fr i=some (k,v)->∃v',dk s.fr i=some (k,v')/\k<st.ct/\sl.elem i=false/\cln (Di st.bx) v=true
 | j::r,h,i,hi,k,v,hl=>by
  simp only[Qu,aE]at h;rcases aL.1 hi with rfl | hi
  ·have h1:=h.1;rw[hl]at h1;dsimp only at h1;split at h1
   ·rename_i k' v' hs;simp only[aE,bX]at h1;have e:=bC h1.1.1.1;subst e;exact⟨v',hs,cN h1.1.1.2,h1.1.2,h1.2⟩
   ·cases h1
  ·exact Hj h.2 i hi k v hl
theorem Bn {PF:List Nat}:∀{l m:List gR} {n:Nat},Jv st PF n l m=true->∀i b,cu l i=some b->b.ok=true->b.blk.isSome=true/\(PF.elem (n+i)=true∨∃c,cu m i=some c/\c.stp<st.ct/\gD (Di st.bx) b.cells=true)
 | b::r,[],n,h,_,_,_,_=>by simp[Jv]at h
 | b::r,c::q,n,h,0,b',hb,ho=>by
  simp only[Jv,aE,bS,bX]at h;simp only[cu,aJ]at hb;subst hb;rcases h.1 with h1 | ⟨h1,h2⟩
  ·rw[ho]at h1;cases h1
  ·refine⟨h1,?_⟩;rcases h2 with h2 | h2
   ·exact .inl h2
   ·exact .inr ⟨c,rfl,cN h2.1,h2.2⟩
 | b::r,c::q,n,h,i+1,b',hb,ho=>by
  simp only[Jv,aE]at h;have:=Bn h.2 i b' hb ho;rwa[show n+1+i=n+(i+1) by omega]at this
theorem Rep.at (hR:Rep β s a w) {i:Nat} {v:SV} (h:s.get i=some v):i<s.n/\a.tmps[i]? =some (V.val β v):=by
 unfold St.get at h;cases hb:Nat.blt i s.n with
 | false=>rw[hb]at h;cases h
 | true=>
  rw[hb,fe]at h;cases hl:dk s.fr i with
  | none=>rw[hl]at h;cases h
  | some p=>
   rw[hl]at h;simp only[cD,aJ]at h;subst h;exact⟨cN hb,hR.ok.at_ i p hl (cN hb)⟩
theorem qG {g:Nat->Bool}:∀{l m:List SV},gD g (l++m)=true->gD g l=true/\gD g m=true
 | [],m,h=>⟨rfl,h⟩
 | s::r,m,h=>by
  simp only[cn,gD,aE]at h⊢;obtain⟨h1,h2⟩:=qG h.2;exact⟨⟨h.1,h1⟩,h2⟩
theorem pE {γ b:Nat->Nat} {vs l m:List SV} {n:Nat} (hv:V.bR γ vs=V.bR b l++V.bR b m) (hl:l.length=n):V.bR γ (vs.take n)=V.bR b l/\V.bR γ (vs.drop n)=V.bR b m:=by
 have h1:(V.bR γ vs).take n=V.bR γ (vs.take n):=by simp[V.bR,pj]
 have h2:(V.bR γ vs).drop n=V.bR γ (vs.drop n):=by simp[V.bR,po]
 have hn:(V.bR b l).length=n:=by rw[ez,hl]
 rw[<-h1,<-h2,hv,<-hn];exact⟨List.take_left,List.drop_left⟩
theorem Bo (hR:Rep β s a w) {ct:Nat} {γ:Nat->Nat}:∀{ms:List MI} {ss vs:List SV},oG st s ms=some ss->gD (Di s.bx) ss=true->V.bR γ vs=V.bR (Dh s.bx) ss->∀i p,dk (E9 ct ms vs) i=some p->a.tmps[i]? =some (V.val γ p.2)
 | [],ss,vs,_,_,_,i,p,h=>by cases vs<;>cases h
 | .s j l::r,ss,[],_,_,_,i,p,h=>by cases h
 | .s j l::r,ss,v::vs,ha,hc,hv,i,p,h=>by
  simp only[oG]at ha;split at ha
  ·rename_i v0 l0 h1 h2;simp only[aJ]at ha;subst ha;simp only[gD,aE]at hc;simp only[V.bR,bg,qu]at hv;simp only[E9,dk]at h;cases hb:Nat.beq j i with
   | true=>
    rw[hb]at h;simp only[fe,aJ]at h;subst h;have:=bC hb;subst this;rw[(hR.at h1).2,hv.1,hR.acA hc.1]
   | false=>
    rw[hb]at h;exact Bo hR h2 hc.2 hv.2 i p (by simpa using h)
  ·cases ha
 | .a j ls::r,ss,vs,ha,hc,hv,i,p,h=>by
  simp only[oG]at ha;split at ha
  ·rename_i l0 m0 h1 h2;obtain⟨h3,rfl⟩:=A7 ha;simp only[aE]at h3;have dN:=bC h3.2;obtain⟨c1,c2⟩:=qG hc;rw[kj]at hv;obtain⟨e1,e2⟩:=pE hv dN;simp only[E9,dk]at h;cases hb:Nat.beq j i with
   | true=>
    rw[hb]at h;simp only[fe,aJ]at h;subst h;have:=bC hb;subst this;rw[(hR.at h1).2];show some (Value.agg (oq β l0).toArray)=some (Value.agg (oq γ (jU _)).toArray);rw[pw,e1,lD β h3.1,hR.rh c1]
   | false=>
    rw[hb]at h;exact Bo hR h2 c2 e2 i p (by simpa using h)
  ·cases ha
 | .b j ls::r,ss,vs,ha,hc,hv,i,p,h=>by
  simp only[oG]at ha;split at ha
  ·split at ha
   ·rename_i b m0 h1 h2;obtain⟨h3,rfl⟩:=A7 ha;have dN:=bC h3;obtain⟨c1,c2⟩:=qG hc;rw[kj]at hv;obtain⟨e1,e2⟩:=pE hv dN;simp only[E9]at h;exact Bo hR h2 c2 e2 i p h
   ·cases ha
  ·cases ha
theorem xQ (hR:Rep β s a w) {γ:Nat->Nat} (Ff:∀i b,cu st.bx i=some b->∃c,cu s.bx i=some c/\c.ty=b.ty/\c.ok=b.ok) (hγ:∀i b,cu st.bx i=some b->b.ok=true->γ i=β i):∀{ms:List MI} {ss vs:List SV} {bx:List gR},oG st s ms=some ss->gD (Di s.bx) ss=true->V.bR γ vs=V.bR (Dh s.bx) ss->
  (∀j b',cu bx j=some b'->∃b,cu st.bx j=some b/\b'.ty=b.ty/\b'.ok=b.ok)->(∀j b',cu bx j=some b'->b'.ok=true->Blk w (γ j) b'.ty (V.bR γ b'.cells)∨(LI st ms).elem j=true)->
  ∀j b',cu (FJ st ms vs bx) j=some b'->b'.ok=true->Blk w (γ j) b'.ty (V.bR γ b'.cells)
 | [],ss,vs,bx,_,_,_,_,hi,j,b',hb,ho=>by
  have:FJ st [] vs bx=bx:=by cases vs<;>rfl
  rw[this]at hb;rcases hi j b' hb ho with h | h
  ·exact h
  ·cases h
 | .s k l::r,ss,[],bx,ha,hc,hv,h0,hi,j,b',hb,ho=>by
  simp only[oG]at ha;split at ha
  ·simp only[aJ]at ha;subst ha;simp[V.bR]at hv
  ·cases ha
 | .s k l::r,ss,v::vs,bx,ha,hc,hv,h0,hi,j,b',hb,ho=>by
  simp only[oG]at ha;split at ha
  ·rename_i v0 l0 h1 h2;simp only[aJ]at ha;subst ha;simp only[gD,aE]at hc;simp only[V.bR,bg,qu]at hv;exact xQ hR Ff hγ h2 hc.2 hv.2 h0 hi j b' hb ho
  ·cases ha
 | .a k ls::r,ss,vs,bx,ha,hc,hv,h0,hi,j,b',hb,ho=>by
  simp only[oG]at ha;split at ha
  ·rename_i l0 m0 h1 h2;obtain⟨h3,rfl⟩:=A7 ha;simp only[aE]at h3;have dN:=bC h3.2;obtain⟨c1,c2⟩:=qG hc;rw[kj]at hv;obtain⟨e1,e2⟩:=pE hv dN;exact xQ hR Ff hγ h2 c2 e2 h0 hi j b' hb ho
  ·cases ha
 | .b k ls::r,ss,vs,bx,ha,hc,hv,h0,hi,j,b',hb,ho=>by
  simp only[oG]at ha;split at ha
  ·rename_i q hq;split at ha
   ·rename_i c m0 h1 h2;obtain⟨h3,rfl⟩:=A7 ha;have dN:=bC h3;obtain⟨c1,c2⟩:=qG hc;rw[kj]at hv;obtain⟨e1,e2⟩:=pE hv dN;simp only[FJ,hq]at hb;cases hn:cu bx q with
    | none=>
     rw[hn]at hb;refine xQ hR Ff hγ h2 c2 e2 h0 (fun i b Kl ho5=>?_) j b' hb ho;rcases hi i b Kl ho5 with h | h
     ·exact .inl h
     ·simp only[LI,hq,kF]at h;split at h
      ·rename_i e;have e:i=q:=by simpa using e
       rw[e,hn]at Kl;cases Kl
      ·exact .inr h
    | some b=>
     rw[hn]at hb;obtain⟨bs,g1,g2,g3⟩:=h0 q b hn;refine xQ hR Ff hγ h2 c2 e2 (fun i b2 wl=>?_) (fun i b2 wl Fg=>?_) j b' hb ho
     ·rw[iK hn]at wl;split at wl
      ·rename_i e;subst e;injection wl with wl;subst wl;exact⟨bs,g1,g2,g3⟩
      ·exact h0 i b2 wl
     ·rw[iK hn]at wl;split at wl
      ·rename_i e;subst e;injection wl with wl;subst wl;left;dsimp only at Fg⊢;have CO:bs.ok=true:=by rw[<-g3];exact Fg
       obtain⟨c',k1,k2,k3⟩:=Ff i bs g1;rw[h1]at k1;injection k1 with k1;subst k1;have hB:=(hR.bx i c h1 (k3.trans CO)).blk;rw[hγ i bs g1 CO,g2,<-k2,e1,hR.rh c1];exact hB
      ·rename_i gf;rcases hi i b2 wl Fg with h | h
       ·exact .inl h
       ·simp only[LI,hq,kF]at h;split at h
        ·rename_i e;exact absurd (by simpa using e) gf
        ·exact .inr h
   ·cases ha
  ·cases ha
theorem qH {J:JT (E8 ms)} (h:FK st kp ms J s) (hR:Rep β s a w) (hm:s.mv=false) (GA:qw st kp ms s) {K:List SV->World->Prop} (hK:Dr (E8 ms) J K):
  ∃vs,K vs w/\Rep (Dh st.bx) (kZ st kp ms vs w) a w:=by
 unfold FK at h;obtain⟨h0,h⟩:=cU h;obtain⟨ss,hss,h⟩:=aY h;obtain⟨hc,h⟩:=cU h;simp only[aE]at h0;obtain⟨h0,uR⟩:=h0;have N1:s.df=st.df:=by
  obtain⟨l,hl⟩:=GA.df;have:=bC uR;rw[hl,aD]at this;have:l=[]:=List.length_eq_zero_iff.1 (by omega);rw[hl,this,cd]
 have hw:=hR.still hm;rw[<-hw]at h;obtain⟨vs,k1,k2,k3,k4⟩:=LH h hK;have Ff:∀i b,cu st.bx i=some b->∃c,cu s.bx i=some c/\c.ty=b.ty/\c.ok=b.ok:=fun i b hb=>by
  obtain⟨c,h1,h2,h3,_⟩:=GA.ps hb;exact⟨c,h1,h2,h3⟩
 have I1:∀i b,cu st.bx i=some b->b.ok=true->b.blk=some (β i):=fun i b hb ho=>by
  obtain⟨hs,_⟩:=Bn h0.2 i b hb ho;obtain⟨c,h1,h2,h3,h4⟩:=GA.ps hb;cases hk:b.blk with
  | none=>rw[hk]at hs;cases hs
  | some k=>rw[(hR.bx i c h1 (h3.trans ho)).at_ k (h4 k hk)]
 have hγ:∀i b,cu st.bx i=some b->b.ok=true->Dh st.bx i=β i:=fun i b hb ho=>by
  unfold Dh;rw[hb];dsimp only;rw[I1 i b hb ho];rfl
 have oY:∀i,Di st.bx i=true->Dh st.bx i=β i:=fun i hi=>by
  unfold Di at hi;cases hb:cu st.bx i with
  | none=>rw[hb]at hi;cases hi
  | some b=>
   rw[hb]at hi;simp only[aE]at hi;exact hγ i b hb hi.1
 have GB:∀i b',cu (FJ st ms vs st.bx) i=some b'->b'.ok=true->∃b,cu st.bx i=some b/\b.ok=true/\b'.blk=b.blk:=fun i b' hb ho=>by
  cases hn:cu st.bx i with
  | none=>rw[mN _ _ _ _ hn]at hb;cases hb
  | some b=>
   obtain⟨b2,h1,h2,h3,h4,_⟩:=ii (st:=st) ms vs st.bx i b hn;rw[h1]at hb;injection hb with hb;subst hb;exact⟨b,rfl,by rw[<-h3];exact ho,h4⟩
 refine⟨vs,k1,pz ⟨hR.ok.sz.trans GA.n,hR.ok.df.trans (bp Pj N1),fun i p hl hi=>?_⟩,fun i b' hb ho=>?_,fun i j bi bj g1 g2 g3 g4 zy=>?_,Only.refl _ _,fun _=>rfl⟩
 ·simp only[kZ]at hl;rw[rJ]at hl;split at hl
  ·rename_i q hq;simp only[aJ]at hl;subst hl;exact Bo hR hss hc (k3 _) i q hq
  ·obtain⟨m1,m2⟩:=wR hl;obtain⟨k,v⟩:=p;obtain⟨v',n1,n2,n3,n4⟩:=Hj h0.1 i m1 k v m2;have:=GA.slot m1 m2 n1 n2 n3;subst this;rw[hR.ok.at_ i _ n1 (by rw[GA.n];exact hi)];congr 1;exact(iQ (g:=Di st.bx) oY _ n4).symm
 ·have hB:=xQ hR Ff hγ hss hc (k3 _) (bx:=st.bx) (fun j b hb=>⟨b,hb,rfl,rfl⟩) (fun j b hb ho=>by
   obtain⟨_,h1⟩:=Bn h0.2 j b hb ho;rw[bm]at h1;rcases h1 with h1 | ⟨c,h1,h2,h3⟩
   ·exact .inr h1
   ·cases hl:(LI st ms).elem j with
    | true=>exact .inr rfl
    | false=>
     left;have e:=GA.cells hb h1 ho hl h2;obtain⟨c',e1,e2,e3⟩:=Ff j b hb;rw[h1]at e1;injection e1 with e1;subst e1;have:=(hR.bx j c h1 (e3.trans ho)).blk;rw[hγ j b hb ho,<-e2,gj (g:=Di st.bx) oY _ h3,<-e];exact this) i b' hb ho
  obtain⟨b,g1,g2,g3⟩:=GB i b' hb ho;refine⟨hB,fun k hk=>?_,fun hk=>?_⟩
  ·rw[hγ i b g1 g2];rw[g3,I1 i b g1 g2]at hk;simpa using hk
  ·rw[g3,I1 i b g1 g2]at hk;cases hk
 ·obtain⟨b,e1,e2,_⟩:=GB i bi g1 g3;obtain⟨c,f1,f2,_⟩:=GB j bj g2 g4;obtain⟨b',p1,_,p3⟩:=Ff i b e1;obtain⟨c',q1,_,q3⟩:=Ff j c f1;rw[hγ i b e1 e2,hγ j c f1 f2];exact hR.ne i j b' c' p1 q1 (p3.trans e2) (q3.trans f2) zy
end
def bE (S:Nat->Prop) (w w':World):Prop:=∀k,S k->k<w.heap.size->w'.heap[k]? =w.heap[k]?
theorem bE.refl (S:Nat->Prop) (w:World):bE S w w:=fun _ _ _=>rfl
theorem bE.only {S:Nat->Prop} {w w':World} (h:Only [] w w'):bE S w w':=fun k _ hk=>h.block k hk (by simp)
def th (S:Nat->Prop) (k:Nat):Prop:=¬S k
def EE (P:Program) (ops:List Oper) (mb ms:Bool) (S:Nat->Prop) (j:Nat) (w w':World):Prop:=match fS ops j with
 | some o=>bif iV P o.op then w'.heap=w.heap else bif mb&&(ms||!su o.op)then bE S w w' else True
 | none=>False
def XB (mb ms:Bool) (S:Nat->Prop) (o:Op):XT:=fun w0 w1 p=>bif mb&&(ms||!su o)then bE S w0 w1/\p else p
def YB (mb ms:Bool) (S:Nat->Prop):YT:=fun bk p=>bif mb&&ms then(match bk with
 | some k=>th S k/\p
 | none=>False)else p
def pF (P:Program):Nat->List Oper->List Nat
 | _,[]=>[]
 | i,o::r=>bif iV P o.op then pF P (i+1) r else i::pF P (i+1) r
def Sv (q:Nat) (seen:List Nat):List Edge->Bool
 | []=>false
 | e::r=>(Region.binds .any e&&(Nat.beq e.on q||seen.elem e.on))||Sv q seen r
def LJ (q:Nat):Nat->List Nat->List Oper->List Nat
 | _,seen,[]=>seen
 | i,seen,o::r=>bif Sv q seen o.after.toList then LJ q (i+1) (i::seen) r else LJ q (i+1) seen r
def KI (ba:Array Bool):Nat->List Oper->List Nat
 | _,[]=>[]
 | i,_::r=>bif ba.getD i true then i::KI ba (i+1) r else KI ba (i+1) r
def Jw (D N:List Nat):List Nat->List Nat
 | []=>[]
 | j::r=>bif D.elem j||N.elem j then Jw D N r else j::Jw D N r
def Hk (ops:List Oper):List Nat->Bool
 | []=>true
 | j::r=>(match fS ops j with
  | some o=>!su o.op
  | none=>false)&&Hk ops r
def Dq (ops:List Oper) (q:Nat):List Nat:=(LJ q 0 [] ops).reverse
def Qv (P:Program) (ops:List Oper) (ba:Array Bool) (q:Nat):List Nat:=Jw (Dq ops q) (KI ba 0 ops) (pF P 0 ops)
def Qw {α:Type}:List α->Bool
 | []=>true
 | _=>false
def okT (ops:List Oper) (ba:Array Bool) (q:Nat):Bool:=
 Region.noSelect ops.toArray&&Region.free .any ops.toArray ba q&&tS .any ops.toArray ba&&qy .any ops.toArray q [] (Dq ops q)&&(KI ba 0 ops).all (fun k=>ba.getD k true)
def Qx (st:St) (ops:List Oper) (o:Oper) (PE no:St->Prop):Prop:=match o.guard with
 | none=>PE st
 | some (j,want)=>(match UX st ops j with
  | some (_,.un)=>no st
  | some (_,.bl b)=>bif b==want then PE st else no st
  | some (d,.bt t)=>((t=true->bif true==want then PE (st.put (some d) (.bl true))else no (st.put (some d) (.bl true)))/\
   (t=false->bif false==want then PE (st.put (some d) (.bl false))else no (st.put (some d) (.bl false))))
  | _=>False)
def ldB (P:Program) (S:Nat->Prop) (st:St) (t:TypeId) (a:SV) (K:SV->Prop):Prop:=match P.underlying t with
 | none=>False
 | some d=>(match a with
  | .box i o=>bG (cu st.bx i) fun b=>bif b.ok&&b.blk.isSome&&sz P t ((b.cells.drop o).take (si P t)).length&&(lN d||Nat.beq ((b.cells.drop o).take (si P t)).length 1)then S (b.blk.getD 0)/\K (Li (lN d) ((b.cells.drop o).take (si P t)))else False
  | .ad p=>bif !st.mv&&sz P t (Pm P 12 t).length&&(lN d||Nat.beq (Pm P 12 t).length 1)then S p.block/\XP (Pm P 12 t) fun vs=>Cells st.w0 p (bR β0 vs)/\K (Li (lN d) vs)else False
  | _=>False)
def cvB (P:Program) (S:Nat->Prop) (st:St) (s d:TypeId) (a:SV) (K:SV->Prop):Prop:=match P.underlying s,P.underlying d with
 | some (.slice e),some .string=>(match P.underlying e with
  | some (.int .u8)=>bG (G8 a) fun u=>bif st.mv then False else ∃l:List UInt8,(∀ad,u.a=some ad->S ad.block)/\pY st.w0 u l/\K (.str ⟨l.toArray⟩)
  | _=>False)
 | _,_=>False
def Zg (P:Program):Op->Bool
 | .load _ _=>true
 | .convert s d _=>(match P.underlying s,P.underlying d with
  | some (.slice _),some .string=>true
  | _,_=>false)
 | _=>false
def cvI (P:Program):Op->Bool
 | .convert s d _=>(match P.underlying s,P.underlying d with
  | some (.int _),some (.int _)=>true
  | some .string,some .string=>true
  | _,_=>false)
 | _=>false
def cvZ (P:Program) (s d:TypeId) (a:SV) (K:SV->Prop):Prop:=match P.underlying s,P.underlying d with
 | some (.int _),some (.int kd)=>bG (oA a) fun p=>K (.int kd (kd.wrap p.2))
 | some .string,some .string=>bG (tf a) fun u=>K (.str u)
 | _,_=>False
def qP (P:Program) (ops:List Oper) (mb ms:Bool) (S:Nat->Prop) (ba:Array Bool) (q:Nat) (o:Oper) (st:St) (K:St->Prop):Prop:=
 bif iV P o.op then
  bif cvI P o.op then(match o.op with
   | .convert s d x=>bG (st.ev x) fun a=>cvZ P s d a fun v=>K (st.put o.dst v)
   | _=>False)
  else bif !mem o.op||Qw (Qv P ops ba q)then Ss (nd P st o.op) st fun st=>UQ P [] st o.op fun v=>K (st.put o.dst v)
  else bif mb&&(ms||Hk ops (Qv P ops ba q))then(match o.op with
   | .load t x=>Ss (nd P st o.op) st fun st=>bG (st.ev x) fun a=>ldB P S st t a fun v=>K (st.put o.dst v)
   | .convert s d x=>Ss (nd P st o.op) st fun st=>bG (st.ev x) fun a=>cvB P S st s d a fun v=>K (st.put o.dst v)
   | _=>False)else False
 else False
def fq (P:Program) (ops:List Oper):List Nat->Option Nat
 | []=>none
 | i::r=>match fS ops i with
  | some o=>bif iV P o.op then some i else fq P ops r
  | none=>none
def Dt (P:Program) (ops:List Oper) (mb ms:Bool) (S:Nat->Prop):Nat->Array Bool->St->(St->Prop)->Prop
 | 0,ba,st,K=>(match Region.ready .any ops.toArray ba with
  | []=>K st
  | _=>False)
 | g+1,ba,st,K=>(match Region.ready .any ops.toArray ba with
  | []=>K st
  | i::r=>(match fq P ops (i::r)with
   | some q=>bG (fS ops q) fun o=>bif okT ops ba q&&(i::r).contains q then
    Qx st ops o (fun st=>qP P ops mb ms S ba q o st fun st=>Dt P ops mb ms S g (ba.setIfInBounds q true) st K) (fun st=>Dt P ops mb ms S g (ba.setIfInBounds q true) (st.put o.dst .un) K)else False
   | none=>(match r with
    | []=>bG (fS ops i) fun o=>bif iV P o.op then False else
     Qx st ops o (fun st=>loud P (XB mb ms S o.op) (YB mb ms S) st o fun st=>Dt P ops mb ms S g (ba.setIfInBounds i true) st K) (fun st=>Dt P ops mb ms S g (ba.setIfInBounds i true) (st.put o.dst .un) K)
    | [j]=>bG (fS ops i) fun o=>bG (fS ops j) fun o'=>bif iV P o.op||iV P o'.op then False else
     Qx st ops o (fun st=>loud P (XB mb ms S o.op) (YB mb ms S) st o fun st=>Dt P ops mb ms S g (ba.setIfInBounds i true) st K) (fun st=>Dt P ops mb ms S g (ba.setIfInBounds i true) (st.put o.dst .un) K)/\
     Qx st ops o' (fun st=>loud P (XB mb ms S o'.op) (YB mb ms S) st o' fun st=>Dt P ops mb ms S g (ba.setIfInBounds j true) st K) (fun st=>Dt P ops mb ms S g (ba.setIfInBounds j true) (st.put o'.dst .un) K)
    | _=>False)))
def mbN (P:Program) (ops:List Oper):Nat->List Oper->Bool
 | _,[]=>false
 | i,o::r=>(bif Zg P o.op then(pF P 0 ops).any fun j=>!(Dq ops i).elem j&&!(Dq ops j).elem i
  else false)||mbN P ops (i+1) r
def U2 (P:Program) (ops:List Oper):Nat->List Oper->Bool
 | _,[]=>false
 | i,o::r=>(bif Zg P o.op then(pF P 0 ops).any fun j=>!(Dq ops i).elem j&&!(Dq ops j).elem i&&(match fS ops j with
   | some o'=>su o'.op
   | none=>false)
  else false)||U2 P ops (i+1) r
section
variable {P:Program} {ops:List Oper} {mb ms:Bool} {S:Nat->Prop} {β:Nat->Nat} {a:Act} {w:World}
theorem xR {st:St} {o:Oper} {PE no:St->Prop} (h:Qx st ops o PE no) (hR:Rep β st a w):
  ∃s,Ext st s/\Rep β s a w/\((Region.wanted o (yielded ops.toArray a.tmps)=true/\PE s)∨(Region.wanted o (yielded ops.toArray a.tmps)=false/\no s)):=by
 unfold Qx at h;split at h
 ·rename_i hg;exact⟨st,Ext.refl _,hR,.inl ⟨wn hg,h⟩⟩
 ·rename_i j want hg;split at h
  ·rename_i d ht;exact⟨st,Ext.refl _,hR,.inr ⟨uZ hR hg ht,h⟩⟩
  ·rename_i d b ht;have hw:=oB hR hg ht (b:=b) rfl;rcases lO h with⟨e,h⟩ | ⟨e,h⟩
   ·exact⟨st,Ext.refl _,hR,.inl ⟨hw.trans e,h⟩⟩
   ·exact⟨st,Ext.refl _,hR,.inr ⟨hw.trans e,h⟩⟩
  ·rename_i d t ht;obtain⟨oj,Fe,RI,PD⟩:=xE ht;have hw:=oB hR hg ht (b:=t) rfl;cases t with
   | true=>
    refine⟨_,Ext.put _ (some d) (.bl true),hR.set PD rfl,?_⟩;rcases lO (h.1 rfl)with⟨e,h⟩ | ⟨e,h⟩
    ·exact .inl ⟨hw.trans e,h⟩
    ·exact .inr ⟨hw.trans e,h⟩
   | false=>
    refine⟨_,Ext.put _ (some d) (.bl false),hR.set PD rfl,?_⟩;rcases lO (h.2 rfl)with⟨e,h⟩ | ⟨e,h⟩
    ·exact .inl ⟨hw.trans e,h⟩
    ·exact .inr ⟨hw.trans e,h⟩
  ·exact h.elim
theorem FL {st:St} {d:TypeDesc} {t:TypeId} {x:Operand} {l:List SV} {ad:Addr} {w':World} (hu:P.underlying t=some d) (hsz:sz P t l.length=true) (kI:lN d=true∨Nat.beq l.length 1=true)
  (I0:a.eval x=.pointer (some ad)) (hC:Cells w' ad (bR β l)) (dst:Option Tmp) (t':TypeId) (p:String) (af:Array Edge) (g:Option (Nat×Bool)):
  (execOp a.eval ⟨dst,.load t x,t',p,af,g⟩).run P w'=.ok (.value (val β (Li (lN d) l))) w':=by
 rcases kI with qf | kI
 ·rw[nG qf];have:=jS (P:=P) hu w';rw[qf]at this;exact rF this (nX hsz w') (ez β l) I0 hC
 ·cases qf:lN d with
  | true=>
   have e:=nG qf β l;rw[qf]at e;rw[e];have:=jS (P:=P) hu w';rw[qf]at this;exact rF this (nX hsz w') (ez β l) I0 hC
  | false=>
   obtain⟨s,rfl⟩:=xD kI;have:=jS (P:=P) hu w';rw[qf]at this;exact AU this I0 (Cells.one hC)
theorem tj:∀{l:List Oper} {i j:Nat} {o:Oper},fS l j=some o->iV P o.op=false->i+j∈pF P i l
 | [],_,_,_,h,_=>by cases h
 | c::r,i,0,o,h,hp=>by
  simp only[fS,aJ]at h;subst h;simp[pF,hp]
 | c::r,i,j+1,o,h,hp=>by
  have:=tj (l:=r) (i:=i+1) (j:=j) h hp;rw[show i+1+j=i+(j+1) by omega]at this;simp only[pF];cases iV P c.op with
  | true=>exact this
  | false=>exact cL _ this
theorem ua {D N:List Nat}:∀{l:List Nat} {j:Nat},j∈l->j∉D->j∉N->j∈Jw D N l
 | c::r,j,h,h1,h2=>by
  simp only[Jw];rcases aL.1 h with rfl | h
  ·have e1:D.elem j=false:=by simpa using h1
   have e2:N.elem j=false:=by simpa using h2
   rw[e1,e2];simp
  ·cases(D.elem c||N.elem c)with
   | true=>exact ua h h1 h2
   | false=>exact cL _ (ua h h1 h2)
theorem Du:∀{l:List Nat} {j:Nat} {o:Oper},Hk ops l=true->j∈l->fS ops j=some o->su o.op=false
 | [],j,o,_,hj,_=>by cases hj
 | c::r,j,o,h,hj,ho=>by
  simp only[Hk,aE]at h;rcases aL.1 hj with hc | hj
  ·have h1:=h.1;rw[<-hc,ho]at h1;cases he:su o.op with
   | false=>rfl
   | true=>dsimp only at h1;rw[he]at h1;cases h1
  ·exact Du h.2 hj ho
def Sta (P:Program) (ops:List Oper) (mb ms:Bool) (S:Nat->Prop) (D N:List Nat) (F:World->Prop):Prop:=∀j w w',j∉D->j∉N->F w->EE P ops mb ms S j w w'->F w'
theorem Sw {ba:Array Bool} {q:Nat} {o:Oper} {st:St} {K:St->Prop} (h:qP P ops mb ms S ba q o st K) (hR:Rep β st a w):
  ∃(v:Value) (s':St) (F:World->Prop),K s'/\Ext st s'/\Rep β s' (a.put o.dst v) w/\F w/\Sta P ops mb ms S (Dq ops q) (KI ba 0 ops) F/\iV P o.op=true/\∀w',F w'->(execOp a.eval o).run P w'=.ok (.value v) w':=by
 unfold qP at h;rcases lO h with⟨hp,h⟩ | ⟨_,h⟩
 case inr=>exact h.elim
 rcases lO h with⟨_,h⟩ | ⟨_,h⟩
 ·obtain⟨dst,op,t',p,af,g⟩:=o;cases op with
  | convert s d x=>
   dsimp only at h;obtain⟨ax,hx,h1⟩:=aY h;unfold cvZ at h1;split at h1
   ·rename_i ks kd h2 h3;obtain⟨⟨k,n⟩,Wg,h1⟩:=aY h1;exact⟨_,_,fun _=>True,h1,Ext.put _ _ _,hR.put _ _,trivial,fun _ _ _ _ _ _ _=>trivial,hp,fun w' _=>zL (run_underlying h2 w') (run_underlying h3 w') ((hR.ev hx).trans (cP Wg β))⟩
   ·rename_i h2 h3;obtain⟨u,Wg,h1⟩:=aY h1;exact⟨_,_,fun _=>True,h1,Ext.put _ _ _,hR.put _ _,trivial,fun _ _ _ _ _ _ _=>trivial,hp,fun w' _=>zM (run_underlying h2 w') (run_underlying h3 w') ((hR.ev hx).trans (gF Wg β))⟩
   ·exact h1.elim
  | _=>exact h.elim
 rcases lO h with⟨hb,h⟩ | ⟨hb,h⟩
 ·obtain⟨s1,h1,e1,gA,_⟩:=vd h hR;obtain⟨v,hv,hy⟩:=FD h1;have hy:=hy trivial β a w gA;obtain⟨dst,op,t',p,af,g⟩:=o;cases hm:mem op with
  | false=>
   exact⟨val β v,_,fun _=>True,hv,e1.trans (Ext.put _ _ _),gA.put _ v,trivial,fun _ _ _ _ _ _ _=>trivial,hp,fun w' _=>hy _ _ _ _ _ w' fun e=>by rw[hm]at e;cases e⟩
  | true=>
   have hn:Qw (Qv P ops ba q)=true:=by simpa[hm]using hb
   refine⟨val β v,_,fun w'=>w'.heap=w.heap,hv,e1.trans (Ext.put _ _ _),gA.put _ v,rfl,fun j w1 w2 hD hN hF hE=>?_,hp,fun w' hF=>hy _ _ _ _ _ w' fun _=>hF⟩;unfold EE at hE;split at hE
   ·rename_i oj hj;rcases lO hE with⟨_,e⟩ | ⟨e,_⟩
    ·exact e.trans hF
    ·have:=ua (by have:=tj (i:=0) hj e;rwa[bm]at this) hD hN;unfold Qv at hn;revert hn this;generalize Jw (Dq ops q) (KI ba 0 ops) (pF P 0 ops)=m;intro hn this;cases m with
     | nil=>cases this
     | cons=>cases hn
   ·exact hE.elim
 ·obtain⟨h0,h⟩:=cU h;simp only[aE]at h0;obtain⟨dst,op,t',p,af,g⟩:=o;have kb:∀F:World->Prop,∀k:Nat,S k->(∀w1 w2:World,F w1->w2.heap[k]? =w1.heap[k]? ->F w2)->(∀w1,F w1->k<w1.heap.size)->Sta P ops mb ms S (Dq ops q) (KI ba 0 ops) F:=by
   intro F k hk KQ hF2 j w1 w2 hD hN hF hE;unfold EE at hE;split at hE
   ·rename_i oj hj;rcases lO hE with⟨_,e⟩ | ⟨e,hE⟩
    ·exact KQ w1 w2 hF (by rw[e])
    ·have:=ua (by have:=tj (i:=0) hj e;rwa[bm]at this) hD hN;have hs:(ms||!su oj.op)=true:=by
      rcases bS _ _▸h0.2 with h2 | h2
      ·rw[h2];rfl
      ·rw[Du h2 this hj,zK,lA]
     rw[h0.1,hs]at hE;exact KQ w1 w2 hF (hE k hk (hF2 _ hF))
   ·exact hE.elim
  cases op with
  | load t x=>
   dsimp only at h;obtain⟨s1,h1,e1,gA,_⟩:=vd h hR;obtain⟨ax,hx,h1⟩:=aY h1;unfold ldB at h1;split at h1
   ·exact h1.elim
   ·rename_i d hu;split at h1
    ·rename_i i off;obtain⟨b,zf,h1⟩:=aY h1;obtain⟨hc,hS,hK⟩:=cU h1;simp only[aE,bS]at hc;obtain⟨⟨⟨qx,KP⟩,hsz⟩,kI⟩:=hc;have hBO:=gA.bx i b zf qx;have hB:=hBO.blk;have hbe:b.blk.getD 0=β i:=by
      cases hk:b.blk with
      | none=>rw[hk]at KP;cases KP
      | some k=>rw[hBO.at_ k hk];rfl
     rw[hbe]at hS;have I0:=gA.ev hx;refine⟨_,_,fun w'=>Blk w' (β i) b.ty (bR β b.cells),hK,e1.trans (Ext.put _ _ _),gA.put _ _,hB,kb _ (β i) hS (fun w1 w2 hF e=>by unfold Blk at hF⊢;rw[e];exact hF) (fun w1 hF=>hF.lt),hp,fun w' hF=>?_⟩;generalize hl:(b.cells.drop off).take (si P t)=l at*
     have hC:Cells w' ⟨β i,off,none⟩ (bR β l):=hF.Cg off _ (by
      rw[ez,<-hl];simp only[bR,pj,po];rw[cM,ow];simp only[bN,bL];omega)
     exact FL (st:=st) hu hsz kI I0 hC _ _ _ _ _
    ·rename_i ad;obtain⟨hc,hS,h2⟩:=cU h1;simp only[aE,bS,bX]at hc;obtain⟨⟨qn,hsz⟩,kI⟩:=hc;obtain⟨vs,⟨hF,hK⟩,dN,oY⟩:=xz h2;have hw:=gA.still qn;rw[<-hw]at hF;have hv:∀w',Cells w' ad (bR β0 vs)->Cells w' ad (bR β vs):=fun w' h=>by
      rw[gj (β:=β) (β':=β0) (g:=fun _=>false) (fun i h=>(by cases h)) vs (oY _)];exact h
     rw[<-dN]at hsz kI;by_cases acV:bR β0 vs=[]
     ·refine⟨_,_,fun _=>True,hK,e1.trans (Ext.put _ _ _),gA.put _ _,trivial,fun _ _ _ _ _ _ _=>trivial,hp,fun w' _=>?_⟩;exact FL (st:=st) hu hsz kI (gA.ev hx) (hv w' (by rw[acV];intro j v hj;simp at hj)) _ _ _ _ _
     ·refine⟨_,_,fun w'=>Cells w' ad (bR β0 vs),hK,e1.trans (Ext.put _ _ _),gA.put _ _,hF,kb _ ad.block hS (fun w1 w2 hF e=>hF.keep e) (fun w1 hF=>hF.lt' acV),hp,fun w' hF=>?_⟩;exact FL (st:=st) hu hsz kI (gA.ev hx) (hv w' hF) _ _ _ _ _
    ·exact h1.elim
  | convert s d x=>
   dsimp only at h;obtain⟨s1,h1,e1,gA,_⟩:=vd h hR;obtain⟨ax,hx,h1⟩:=aY h1;unfold cvB at h1;split at h1
   ·rename_i e hu1 Wh;split at h1
    ·rename_i hu3;obtain⟨u,Wg,h1⟩:=aY h1;cases hm:s1.mv with
     | true=>rw[hm]at h1;exact h1.elim
     | false=>
      rw[hm]at h1;obtain⟨l,hS,hF,hK⟩:=h1;have hw:=gA.still hm;rw[<-hw]at hF;refine⟨_,_,fun w'=>pY w' u l,hK,e1.trans (Ext.put _ _ _),gA.put _ _,hF,?_,hp,fun w' hF'=>xu hu1 hu3 Wh ((gA.ev hx).trans (jr Wg β)) hF'⟩;by_cases hl:l=[]
      ·subst hl;exact fun j w1 w2 _ _ KQ _=>⟨KQ.1,fun hh=>absurd rfl hh⟩
      ·obtain⟨ad,ha,_⟩:=hF.2 hl;refine kb _ ad.block (hS ad ha) (fun w1 w2 KQ e=>⟨KQ.1,fun hh=>?_⟩) (fun w1 KQ=>?_)
       ·obtain⟨Gz,EO,hC⟩:=KQ.2 hh;rw[ha]at EO;injection EO with EO;subst EO;exact⟨ad,ha,hC.keep e⟩
       ·obtain⟨Gz,EO,hC⟩:=KQ.2 hl;rw[ha]at EO;injection EO with EO;subst EO;exact hC.lt' (by cases l with
         | nil=>exact absurd rfl hl
         | cons c l=>simp)
    ·exact h1.elim
   ·exact h1.elim
  | _=>exact h.elim
theorem pG {j:Nat} {o:Oper} (hj:fS ops j=some o) (w:World):EE P ops mb ms S j w w:=by
 unfold EE;rw[hj];dsimp only;cases iV P o.op with
 | true=>rfl
 | false=>
  cases(mb&&(ms||!su o.op))with
  | true=>exact bE.refl _ _
  | false=>exact trivial
theorem Dv {Q:Exit->Act->World->Prop} {j:Nat} {o:Oper} {st:St} {K:St->Prop} (hj:fS ops j=some o) (hp:iV P o.op=false) (h:loud P (XB mb ms S o.op) (YB mb ms S) st o K) (hR:Rep β st a w):o.wp P a w (Sq (EE P ops mb ms S j) st K w) Q:=by
 have X7:EE P ops mb ms S j=fun w w'=>bif mb&&(ms||!su o.op)then bE S w w' else True:=by
  funext w w';unfold EE;rw[hj];dsimp only;rw[hp];rfl
 refine Bl (fun w0 w1 p hx=>?_) (fun w w1 hO=>?_) (fun hs bk k w w1 p hy hk hO=>?_) h hR
 ·rw[X7];unfold XB at hx;dsimp only;cases hb:(mb&&(ms||!su o.op))with
  | true=>rw[hb]at hx;exact⟨hx.2,hx.1⟩
  | false=>rw[hb]at hx;exact⟨hx,trivial⟩
 ·rw[X7];dsimp only;cases(mb&&(ms||!su o.op))with
  | true=>exact bE.only hO
  | false=>exact trivial
 ·rw[X7];dsimp only;rw[hs,Bool.not_true,Bool.or_false];unfold YB at hy;cases hb:(mb&&ms)with
  | true=>
   rw[hb]at hy;cases bk with
   | none=>exact hy.elim
   | some j=>
    refine⟨hy.2,fun q hq bJ=>hO.block q bJ ?_⟩;have:=hk j rfl;subst this;simp only[aF];rintro rfl;exact hy.1 hq
  | false=>rw[hb]at hy;exact⟨hy,trivial⟩
theorem qI {Q:Exit->Act->World->Prop} (hQ:∀c a w,¬Q (.panic c) a w):∀{g:Nat} {ba:Array Bool} {st:St} {K:St->Prop} {β:Nat->Nat} {a:Act} {w:World},Dt P ops mb ms S g ba st K->Rep β st a w->
  (∀β' ch a' w',K ch->Ext st ch->Rep β' ch a' w'->Q .normal a' w')->eP P .any ops.toArray Q (EE P ops mb ms S) g ba a w
 | 0,ba,st,K,β,a,w,h,hR,hK=>by
  unfold Dt at h;split at h
  ·rename_i hr;exact⟨hr,hK β st a w h (Ext.refl _) hR⟩
  ·exact h.elim
 | g+1,ba,st,K,β,a,w,h,hR,hK=>by
  have L:∀{j:Nat} {o:Oper},fS ops j=some o->iV P o.op=false->
    Qx st ops o (fun st=>loud P (XB mb ms S o.op) (YB mb ms S) st o fun st=>Dt P ops mb ms S g (ba.setIfInBounds j true) st K) (fun st=>Dt P ops mb ms S g (ba.setIfInBounds j true) (st.put o.dst .un) K)->
    if Region.wanted o (yielded ops.toArray a.tmps)then o.wp P a w (fun a' w'=>EE P ops mb ms S j w w'/\eP P .any ops.toArray Q (EE P ops mb ms S) g (ba.setIfInBounds j true) a' w') Q∨(o.asks P a w/\LetsOut Q)
    else(fun a' w'=>EE P ops mb ms S j w w'/\eP P .any ops.toArray Q (EE P ops mb ms S) g (ba.setIfInBounds j true) a' w') (a.put o.dst undef) w:=by
   intro j o ho hp h;obtain⟨s,e1,gA,h1⟩:=xR h hR;rcases h1 with⟨hw,h1⟩ | ⟨hw,h1⟩
   ·rw[if_pos hw];refine .inl (Oper.wp_mono ?_ (Dv ho hp h1 gA));rintro a' w' ⟨β',ch,k1,k2,k3,k4⟩;exact⟨k3,qI hQ k1 k4 fun β2 wk a2 w2 m1 m2 m3=>hK β2 wk a2 w2 m1 ((e1.trans k2).trans m2) m3⟩
   ·rw[if_neg (by simp[hw])];exact⟨pG ho w,qI hQ h1 (gA.put o.dst .un) fun β2 wk a2 w2 m1 m2 m3=>hK β2 wk a2 w2 m1 ((e1.trans (Ext.put _ _ _)).trans m2) m3⟩
  unfold Dt at h;split at h
  ·rename_i hr;exact UG hr (hK β st a w h (Ext.refl _) hR)
  ·rename_i i r hr;split at h
   ·rename_i q hq;obtain⟨o,ho,h⟩:=aY h;obtain⟨hc,h⟩:=cU h;simp only[aE,okT]at hc;obtain⟨⟨⟨⟨⟨c1,c2⟩,c3⟩,c4⟩,c5⟩,c6⟩:=hc;obtain⟨s,e1,gA,h1⟩:=xR h hR;rcases h1 with⟨hw,h1⟩ | ⟨hw,h1⟩
    ·obtain⟨v,s2,F,k1,k2,k3,k4,k5,k6,k7⟩:=Sw h1 gA;have hE:∀w1,F w1->EE P ops mb ms S q w1 w1:=fun w1 _=>pG ho w1;exact Fy q (Dq ops q) (KI ba 0 ops) v F ho c1 c2 (by rw[hr];exact c6) c3 c4 c5 (fun c a w hp=>(hQ _ _ _ hp).elim) k5 hE k4 (Sg hw k7) rfl
      (qI hQ k1 k3 fun β2 wk a2 w2 m1 m2 m3=>hK β2 wk a2 w2 m1 ((e1.trans k2).trans m2) m3)
    ·exact Fy q (Dq ops q) (KI ba 0 ops) undef (fun _=>True) ho c1 c2 (by rw[hr];exact c6) c3 c4 c5 (fun c a w hp=>(hQ _ _ _ hp).elim) (fun _ _ _ _ _ _ _=>trivial) (fun w1 _=>pG ho w1) trivial (UH hw) rfl
      (qI hQ h1 (gA.put o.dst .un) fun β2 wk a2 w2 m1 m2 m3=>hK β2 wk a2 w2 m1 ((e1.trans (Ext.put _ _ _)).trans m2) m3)
   ·split at h
    ·obtain⟨o,ho,h⟩:=aY h;rcases lO h with⟨_,h⟩ | ⟨hp,h⟩
     ·exact h.elim
     obtain⟨s,e1,gA,h1⟩:=xR h hR;rcases h1 with⟨hw,h1⟩ | ⟨hw,h1⟩
     ·refine YS i ho hr hw (Oper.wp_mono ?_ (Dv ho hp h1 gA));rintro a' w' ⟨β',ch,k1,k2,k3,k4⟩;exact⟨k3,qI hQ k1 k4 fun β2 wk a2 w2 m1 m2 m3=>hK β2 wk a2 w2 m1 ((e1.trans k2).trans m2) m3⟩
     ·exact Qb i ho hr hw (pG ho w) rfl (qI hQ h1 (gA.put o.dst .un) fun β2 wk a2 w2 m1 m2 m3=>hK β2 wk a2 w2 m1 ((e1.trans (Ext.put _ _ _)).trans m2) m3)
    ·rename_i j _;obtain⟨o,ho,h⟩:=aY h;obtain⟨o',KR,h⟩:=aY h;rcases lO h with⟨_,h⟩ | ⟨hp,h⟩
     ·exact h.elim
     simp only[dX]at hp;exact YU i j ho KR hr (L ho hp.1 h.1) (L KR hp.2 h.2)
    ·exact h.elim
end
def mf (ws w w':World):Prop:=w.heap.size<=w'.heap.size/\∀k,ws.heap.size<=k->k<w.heap.size->w'.heap[k]? =w.heap[k]?
def xS (mk:List (Nat×Nat)) (b:Nat):Prop:=∀p∈mk,b<p.1∨p.2<=b
theorem mf.only {bs:List Nat} {ws w w':World} (h:Only bs w w') (hb:∀b∈bs,b<ws.heap.size∨w.heap.size<=b):mf ws w w':=
 ⟨h.size,fun k h1 h2=>h.block k h2 fun hk=>by rcases hb k hk with h | h<;>omega⟩
theorem mf.IT {ws w w':World} (h:Only [] w w'):mf ws w w':=mf.only h (by simp)
theorem xS.one {m n b:Nat} {r:List (Nat×Nat)} (h:xS ((m,n)::r) b):b<m∨n<=b:=h _ du
structure LZ where
 z:Nat
 d:Nat
 t:TypeId
 zs:List SV
def tn (P:Program) (z:Nat) (o:Oper):Option LZ:=match o.op,o.dst,o.guard with
 | .alloc t,some d,none=>(match zc P t with
  | some zs=>bif Qw o.after.toList&&gD (fun _=>false) zs then some ⟨z,d,t,zs⟩else none
  | none=>none)
 | _,_,_=>none
def jH (P:Program):Nat->List Oper->List LZ
 | _,[]=>[]
 | i,o::r=>match tn P i o with
  | some p=>p::jH P (i+1) r
  | none=>jH P (i+1) r
def mw:List LZ->List Nat
 | []=>[]
 | p::r=>p.z::mw r
def U3:List LZ->List Nat
 | []=>[]
 | p::r=>p.d::U3 r
def Dw (z d:Nat):Nat->List Oper->Bool
 | _,[]=>true
 | i,o::r=>(Nat.beq i z||(match o.dst with
  | some e=>!Nat.beq e d
  | none=>true))&&Dw z d (i+1) r
def XS (ops:List Oper):List LZ->Bool
 | []=>true
 | p::r=>Dw p.z p.d 0 ops&&XS ops r
theorem LK {α:Type}:∀{l:List α},Qw l=true->l=[]
 | [],_=>rfl
theorem lc {P:Program} {z:Nat} {o:Oper} {p:LZ} (h:tn P z o=some p):p.z=z/\o.op=.alloc p.t/\o.dst=some p.d/\o.guard=none/\o.after.toList=[]/\zc P p.t=some p.zs/\gD (fun _=>false) p.zs=true:=by
 unfold tn at h;split at h
 ·rename_i t d h1 h2 h3;split at h
  ·rename_i zs hz;obtain⟨h4,rfl⟩:=A7 h;simp only[aE]at h4;exact⟨rfl,h1,h2,h3,LK h4.1,hz,h4.2⟩
  ·cases h
 ·cases h
theorem my {Z:List LZ} {z:Nat}:z∈mw Z↔∃p∈Z,p.z=z:=by
 induction Z with
 | nil=>simp[mw]
 | cons p r ih=>simp only[mw,aL,ih,exists_eq_or_imp,eq_comm (a:=z)]
theorem xT {P:Program}:∀{l:List Oper} {i:Nat} {p:LZ},p∈jH P i l->∃j o,p.z=i+j/\fS l j=some o/\tn P p.z o=some p
 | [],i,p,h=>by cases h
 | o::r,i,p,h=>by
  have tl:p∈jH P (i+1) r->∃j o',p.z=i+j/\fS (o::r) j=some o'/\tn P p.z o'=some p:=fun h=>by
   obtain⟨j,o',h1,h2,h3⟩:=xT h;exact⟨j+1,o',by omega,h2,h3⟩
  unfold jH at h;split at h
  ·rename_i q hq;rcases aL.1 h with rfl | h
   ·have:=(lc hq).1;exact⟨0,o,this,rfl,by rw[this];exact hq⟩
   ·exact tl h
  ·exact tl h
theorem xU {P:Program}:∀{l:List Oper} {i:Nat},(mw (jH P i l)).Nodup
 | [],i=>by simp[jH,mw]
 | o::r,i=>by
  unfold jH;split
  ·rename_i q hq;have e:=(lc hq).1;simp only[mw,List.nodup_cons];refine⟨fun hm=>?_,xU⟩;obtain⟨p,h1,h2⟩:=my.1 hm;obtain⟨j,_,h3,_⟩:=xT h1;omega
  ·exact xU
theorem LM {z d:Nat}:∀{l:List Oper} {i j:Nat} {o:Oper},Dw z d i l=true->fS l j=some o->i+j≠z->o.dst≠some d:=by
 intro l
 induction l with
 | nil=>intro i j o _ h;cases h
 | cons c r ih=>
  intro i j o h hj hz;simp only[Dw,aE,bS]at h;cases j with
  | zero=>
   simp only[fS,aJ]at hj;subst hj;intro e;rcases h.1 with h1 | h1
   ·exact hz (bC h1)
   ·rw[e]at h1;simp at h1
  | succ j=>exact ih (i:=i+1) (j:=j) h.2 hj (by omega)
theorem LN {ops:List Oper}:∀{Z:List LZ},XS ops Z=true->∀p∈Z,Dw p.z p.d 0 ops=true
 | q::r,h,p,hp=>by
  simp only[XS,aE]at h;rcases aL.1 hp with rfl | hp
  ·exact h.1
  ·exact LN h.2 p hp
def dV (l:Array Bool):List Nat->Array Bool
 | []=>l
 | z::r=>dV (l.setIfInBounds z true) r
theorem Dx (l:Array Bool) (i j:Nat):(l.setIfInBounds i true).setIfInBounds j true=(l.setIfInBounds j true).setIfInBounds i true:=by
 by_cases h:i=j
 ·subst h;rfl
 ·exact Array.setIfInBounds_comm _ _ h
theorem mO:∀{D:List Nat} {l:Array Bool} {z:Nat},dV (l.setIfInBounds z true) D=(dV l D).setIfInBounds z true
 | [],_,_=>rfl
 | d::r,l,z=>by
  simp only[dV];rw[Dx,mO]
theorem Dy {D E:List Nat} (h:D.Perm E):∀l,dV l D=dV l E:=by
 induction h with
 | nil=>intro l;rfl
 | cons x _ ih=>intro l;exact ih _
 | swap x y r=>intro l;simp only[dV];rw[Dx]
 | trans _ _ h1 h2=>intro l;exact(h1 l).trans (h2 l)
theorem oH:∀{D:List Nat} {l:Array Bool} {k:Nat},(dV l D).getD k false=true↔l.getD k false=true∨(k∈D/\k<l.size)
 | [],l,k=>by simp[dV]
 | d::r,l,k=>by
  simp only[dV];rw[oH];by_cases h:d=k
  ·subst h;by_cases hs:d<l.size
   ·simp[hs]
   ·simp[hs]
  ·simp[oo h,Ne.symm h]
theorem mP:∀{D:List Nat} {l:Array Bool} {k:Nat},(dV l D).getD k true=true↔l.getD k true=true∨k∈D
 | [],l,k=>by simp[dV]
 | d::r,l,k=>by
  simp only[dV];rw[mP];by_cases h:d=k
  ·subst h;by_cases hs:d<l.size
   ·simp[hs]
   ·simp[hs]
  ·simp[oo h,Ne.symm h]
def zr (Zi:List Nat):List Nat->List Nat
 | []=>[]
 | j::r=>bif Zi.elem j then zr Zi r else j::zr Zi r
theorem oI {Zi:List Nat}:∀{l:List Nat} {j:Nat},j∈zr Zi l↔j∈l/\j∉Zi
 | [],j=>by simp[zr]
 | c::r,j=>by
  simp only[zr];cases h:Zi.elem c with
  | true=>
   simp only[fe,oI,aL];have h:c∈Zi:=by simpa using h
   exact⟨fun k=>⟨.inr k.1,k.2⟩,fun k=>⟨k.1.resolve_left (fun e=>k.2 (e▸h)),k.2⟩⟩
  | false=>
   have h:c∉Zi:=by simpa using h
   simp only[mE,aL,oI];exact⟨fun k=>k.elim (fun e=>⟨.inl e,e▸h⟩) fun k=>⟨.inr k.1,k.2⟩,fun k=>k.1.imp id fun k'=>⟨k',k.2⟩⟩
def Hl (Zi R:List Nat):List Nat->Bool
 | []=>true
 | j::r=>(R.elem j&&!Zi.elem j)&&Hl Zi R r
theorem Dz {Zi R:List Nat}:∀{l:List Nat},Hl Zi R l=true->∀j∈l,j∈R/\j∉Zi
 | c::r,h,j,hj=>by
  simp only[Hl,aE,bX]at h;rcases aL.1 hj with rfl | hj
  ·exact⟨by simpa using h.1.1,by simpa using h.1.2⟩
  ·exact Dz h.2 j hj
def ub (l:Array Bool):List Nat->Bool
 | []=>true
 | z::r=>!l.getD z true&&ub l r
theorem vT {l:Array Bool}:∀{Zi:List Nat},ub l Zi=true->∀z∈Zi,l.getD z true=false
 | c::r,h,z,hz=>by
  simp only[ub,aE,bX]at h;rcases aL.1 hz with rfl | hz
  ·exact h.1
  ·exact vT h.2 z hz
def U4 (ops:List Oper) (Zi:List Nat) (l:Array Bool):Bool:=Hl Zi (Region.ready .any ops.toArray l) (Region.ready .any ops.toArray (dV l Zi))
def Hm (z:Nat):List Nat->Bool
 | []=>true
 | j::r=>Nat.beq j z&&Hm z r
theorem DA {z:Nat}:∀{l:List Nat},Hm z l=true->∀j∈l,j=z
 | c::r,h,j,hj=>by
  simp only[Hm,aE]at h;rcases aL.1 hj with rfl | hj
  ·exact bC h.1
  ·exact DA h.2 j hj
def Qy (ops:List Oper) (l:Array Bool) (Zi:List Nat):List Nat->Bool
 | []=>true
 | z::r=>Hm z (Region.ready .any ops.toArray (dV l (Zi.erase z)))&&Qy ops l Zi r
theorem Hn {ops:List Oper} {l:Array Bool} {Zi:List Nat}:∀{r:List Nat},Qy ops l Zi r=true->∀z∈r,∀j∈Region.ready .any ops.toArray (dV l (Zi.erase z)),j=z
 | c::r,h,z,hz=>by
  simp only[Qy,aE]at h;rcases aL.1 hz with rfl | hz
  ·exact DA h.1
  ·exact Hn h.2 z hz
section
variable {md:Region.Mode} {ops:Array Oper}
theorem ve {l:Array Bool} {D E:List Nat} (hs:∀x∈D,x∈E) {j:Nat} (h:j∈Region.ready md ops (dV l D)) (hj:j∉E):j∈Region.ready md ops (dV l E):=by
 rw[mem_ready]at h⊢;obtain⟨h0,o,ho,eU⟩:=h;refine⟨?_,o,ho,fun e he hb=>?_⟩
 ·rw[fH]at h0⊢;intro h1;rcases mP.1 h1 with h1 | h1
  ·exact h0 (mP.2 (.inl h1))
  ·exact hj h1
 ·rcases oH.1 (eU e he hb)with h1 | h1
  ·exact oH.2 (.inl h1)
  ·exact oH.2 (.inr ⟨hs _ h1.1,h1.2⟩)
theorem zu {l:Array Bool} (h:pq md ops l) {D:List Nat} (hD:∀z∈D,∀o,ops[z]? =some o->o.after.toList=[]):pq md ops (dV l D):=by
 intro k o hk hl e he hb;rcases oH.1 hl with h1 | h1
 ·exact oH.2 (.inl (h k o hk h1 e he hb))
 ·have:=hD k h1.1 o hk;rw[Array.mem_def,this]at he;cases he
end
theorem U5 {P:Program} {o:Oper} {a:Act} {w:World} {K:Act->World->Prop} {Q:Exit->Act->World->Prop} (hh:o.wp P a w K Q):
  o.wp P a w (fun a' w'=>K a' w'/\∀i,o.dst≠some i->a'.tmps[i]? =a.tmps[i]?) Q:=by
 unfold Oper.wp at*
 generalize (execOp a.eval o).run P w=r at*
 cases r with
 | ok n w'=>
  cases n<;>simp only[Oper.upon]at hh⊢
  case value v=>exact⟨hh,(jF _ _ _).2.2⟩
  case skip=>exact⟨hh,(jF _ _ _).2.2⟩
  case defer d=>exact⟨hh,(jF _ _ _).2.2⟩
  case enter f args=>
   refine Calls.mono hh (fun e se he=>?_);cases e with
   | returned v=>exact⟨he,(jF _ _ _).2.2⟩
   | _=>exact he
  case row n args=>exact Rows.mono hh (fun v se he=>⟨he,(jF _ _ _).2.2⟩)
  all_goals exact hh
 | halt x w'=>cases x<;>simp only[Oper.upon]at hh⊢ <;>exact hh
structure Late (Z:List LZ) (ws:World) (bz:Nat->Nat) (D:List Nat) (mk:List (Nat×Nat)) (a:Act) (w:World):Prop where
 at_:∀p∈Z,p.z∈D->a.tmps[p.d]? =some (.pointer (some ⟨bz p.z,0,none⟩))/\Blk w (bz p.z) p.t (bR β0 p.zs)/\ws.heap.size<=bz p.z/\xS mk (bz p.z)
 sub:∀z∈D,z∈mw Z
 ne:∀z∈D,∀z'∈D,z≠z'->bz z≠bz z'
 top:∀p∈mk,p.2<=w.heap.size
 le:ws.heap.size<=w.heap.size
section
variable {Z:List LZ} {ws:World} {bz:Nat->Nat} {D:List Nat} {mk:List (Nat×Nat)} {a a':Act} {w w1:World}
theorem Late.act (h:Late Z ws bz D mk a w) (ha:∀p∈Z,a'.tmps[p.d]? =a.tmps[p.d]?):Late Z ws bz D mk a' w:=
 ⟨fun p hp hd=>by rw[ha p hp];exact h.at_ p hp hd,h.sub,h.ne,h.top,h.le⟩
theorem Late.loud (h:Late Z ws bz D mk a w) (hN:mf ws w w1) (ha:∀p∈Z,a'.tmps[p.d]? =a.tmps[p.d]?):Late Z ws bz D ((w.heap.size,w1.heap.size)::mk) a' w1:=by
 refine⟨fun p hp hd=>?_,h.sub,h.ne,fun p hp=>?_,aX h.le hN.1⟩
 ·obtain⟨h1,h2,h3,h4⟩:=h.at_ p hp hd;have h5:=h2.lt;refine⟨by rw[ha p hp];exact h1,?_,h3,fun q hq=>?_⟩
  ·unfold Blk at h2⊢;rw[hN.2 _ h3 h5];exact h2
  ·rcases aL.1 hq with rfl | hq
   ·exact .inl h5
   ·exact h4 q hq
 ·rcases aL.1 hp with rfl | hp
  ·exact aK _
  ·exact aX (h.top p hp) hN.1
theorem Late.alloc (h:Late Z ws bz D mk a w) (hu:∀p∈Z,∀q∈Z,p.z=q.z->p=q) (hd:∀p∈Z,∀q∈Z,p.z≠q.z->p.d≠q.d) {p:LZ} (hp:p∈Z) (hn:p.z∉D) {b:Nat} (hb:w.heap.size<=b) (hO:Only [] w w1) (hB:Blk w1 b p.t (bR β0 p.zs)) (hs:p.d<a.tmps.size):
  Late Z ws (fun z=>if z=p.z then b else bz z) (p.z::D) mk (a.put (some p.d) (.pointer (some ⟨b,0,none⟩))) w1:=by
 refine⟨fun q hq hqd=>?_,fun z hz=>?_,fun z hz z' Wi gf=>?_,fun q hq=>aX (h.top q hq) hO.size,aX h.le hO.size⟩
 ·by_cases e:q.z=p.z
  ·have:=hu q hq p hp e;subst this;rw[if_pos rfl];refine⟨by simp[Act.put,hs],hB,aX h.le hb,fun x hx=>.inr (aX (h.top x hx) hb)⟩
  ·rw[if_neg e];obtain⟨h1,h2,h3,h4⟩:=h.at_ q hq (by
    rcases aL.1 hqd with k | k
    ·exact absurd k e
    ·exact k)
   refine⟨?_,hO.blk h2 (by simp),h3,h4⟩;rw[(jF a (some p.d) _).2.2 q.d (by
    intro k;injection k with k;exact hd p hp q hq (Ne.symm e) k)]
   exact h1
 ·rcases aL.1 hz with rfl | hz
  ·exact my.2 ⟨p,hp,rfl⟩
  ·exact h.sub z hz
 ·have IX:∀z∈D,bz z<w.heap.size:=fun z hz=>by
   obtain⟨q,hq,rfl⟩:=my.1 (h.sub z hz);exact(h.at_ q hq hz).2.1.lt
  show(if z=p.z then b else bz z)≠(if z'=p.z then b else bz z');rcases aL.1 hz with rfl | hz<;>rcases aL.1 Wi with rfl | Wi
  ·exact absurd rfl gf
  ·rw[if_pos rfl,if_neg (Ne.symm gf)];have:=IX _ Wi;omega
  ·rw[if_neg gf,if_pos rfl];have:=IX _ hz;omega
  ·rw[if_neg (fun e=>hn (by rw[<-e];exact hz)),if_neg (fun e=>hn (by rw[<-e];exact Wi))];exact h.ne _ hz _ Wi gf
end
def YF:YT:=fun _ _=>False
def XL (mb ms:Bool) (S:Nat->Prop) (ws:World) (o:Op):XT:=fun w0 w1 p=>mf ws w0 w1/\XB mb ms S o w0 w1 p
def Ho (st:St):List LZ->Bool
 | []=>true
 | p::r=>(dk st.fr p.d).isNone&&Nat.blt p.d st.n&&Ho st r
theorem DB {st:St}:∀{Z:List LZ},Ho st Z=true->∀p∈Z,dk st.fr p.d=none/\p.d<st.n
 | q::r,h,p,hp=>by
  simp only[Ho,aE,Option.isNone_iff_eq_none]at h;rcases aL.1 hp with rfl | hp
  ·exact⟨h.1.1,cN h.1.2⟩
  ·exact DB h.2 p hp
def St.uF (st:St):St:={st with mv:=true}
def eqA:List Bool->List Bool->Bool
 | [],[]=>true
 | a::r,b::s=>(a==b)&&eqA r s
 | _,_=>false
theorem LO:∀{l m:List Bool},eqA l m=true->l=m
 | [],[],_=>rfl
 | a::r,b::s,h=>by
  simp only[eqA,aE,cZ]at h;rw[h.1,LO h.2]
def lL (P:Program) (ops:List Oper) (mb ms:Bool) (S:Nat->Prop) (ws:World) (mk:List (Nat×Nat)) (st:St) (o:Oper) (D:List (Nat×Nat)->St->Prop):Prop:=
 bif iV P o.op then False else Qx st ops o (fun st=>dQ st fun st=>loud P (XL mb ms S ws o.op) YF st o fun s=>bif s.mv then False else D ((st.w0.heap.size,s.w0.heap.size)::mk) s.uF) (fun st=>D mk (St.uF (st.put o.dst .un)))
def fqG (P:Program) (ops:List Oper) (Zi:List Nat) (ba:Array Bool):List Nat->Option Nat
 | []=>none
 | i::r=>(match fS ops i with
  | some o=>bif iV P o.op&&U4 ops Zi (ba.setIfInBounds i true)then some i else fqG P ops Zi ba r
  | none=>fqG P ops Zi ba r)
def fqZ (P:Program) (ops:List Oper) (Zi:List Nat) (ba:Array Bool) (l:List Nat):Option Nat:=
 match fqG P ops Zi ba l with
 | some q=>some q
 | none=>fq P ops l
def Jx (P:Program) (ops:List Oper) (mb ms:Bool) (S:Nat->Prop) (ws:World) (Z:List LZ) (vJ:Array Bool) (gm:Nat) (K:List (Nat×Nat)->St->Prop):Nat->Array Bool->List (Nat×Nat)->St->Prop
 | 0,_,_,_=>False
 | g+1,ba,mk,st=>bif ub ba (mw Z)&&Ho st Z then(match zr (mw Z) (Region.ready .any ops.toArray ba)with
  | []=>bif Qy ops ba (mw Z) (mw Z)&&eqA ba.toList vJ.toList&&Nat.beq (g+1) gm&&Nat.ble (mw Z).length (g+1)then K mk st else False
  | i::r=>bif U4 ops (mw Z) ba&&Nat.ble (mw Z).length g then(match fqZ P ops (mw Z) ba (i::r)with
   | some q=>bG (fS ops q) fun o=>bif okT ops ba q&&(i::r).contains q then
    Qx st ops o (fun st=>qP P ops mb ms S ba q o st.uF fun st=>Jx P ops mb ms S ws Z vJ gm K g (ba.setIfInBounds q true) mk st.uF) (fun st=>Jx P ops mb ms S ws Z vJ gm K g (ba.setIfInBounds q true) mk (St.uF (st.put o.dst .un)))else False
   | none=>(match r with
    | []=>bG (fS ops i) fun o=>lL P ops mb ms S ws mk st o fun mk st=>Jx P ops mb ms S ws Z vJ gm K g (ba.setIfInBounds i true) mk st
    | [j]=>bG (fS ops i) fun o=>bG (fS ops j) fun o'=>
     lL P ops mb ms S ws mk st o (fun mk st=>Jx P ops mb ms S ws Z vJ gm K g (ba.setIfInBounds i true) mk st)/\
     lL P ops mb ms S ws mk st o' (fun mk st=>Jx P ops mb ms S ws Z vJ gm K g (ba.setIfInBounds j true) mk st)
    | [j,k]=>bG (fS ops i) fun o=>bG (fS ops j) fun o'=>bG (fS ops k) fun o''=>
     lL P ops mb ms S ws mk st o (fun mk st=>Jx P ops mb ms S ws Z vJ gm K g (ba.setIfInBounds i true) mk st)/\
     lL P ops mb ms S ws mk st o' (fun mk st=>Jx P ops mb ms S ws Z vJ gm K g (ba.setIfInBounds j true) mk st)/\
     lL P ops mb ms S ws mk st o'' (fun mk st=>Jx P ops mb ms S ws Z vJ gm K g (ba.setIfInBounds k true) mk st)
    | _=>False))else False)else False
section
variable {P:Program} {ops:List Oper} {mb ms:Bool} {S:Nat->Prop} {β:Nat->Nat} {a:Act} {w:World} {ws:World} {Z:List LZ} {vJ:Array Bool} {gm:Nat}
theorem Rep.late {st:St} (hR:Rep β st a w) (hm:st.mv=true) {d:Nat} {v:Value} (hd:dk st.fr d=none) {w1:World} (hO:Only [] w w1):Rep β st (a.put (some d) v) w1:=by
 obtain⟨p1,p2,p3⟩:=jF a (some d) v;refine⟨pz ⟨p1.trans hR.ok.sz,p2.trans hR.ok.df,fun i p hl hi=>?_⟩,fun i b hb ho=>?_,hR.ne,hR.only.bP hO,fun h=>by rw[hm]at h;cases h⟩
 ·rw[p3 i (by rintro e;injection e with e;subst e;rw[hd]at hl;cases hl)];exact hR.ok.at_ i p hl hi
 ·obtain⟨k1,k2,k3⟩:=hR.bx i b hb ho;exact⟨hO.blk k1 (by simp),k2,k3⟩
theorem Rep.uF {st:St} (hR:Rep β st a w):Rep β st.uF a w:=⟨hR.fr,hR.bx,hR.ne,hR.only,fun h=>by cases h⟩
theorem Ext.uF (st:St):Ext st st.uF:=⟨rfl,aK _,fun _ _ _ h _=>h,fun i b h ho _=>⟨b,h,ho,rfl,rfl,rfl,fun _ h=>h⟩,Lh,CL⟩
theorem Zh {Q:Exit->Act->World->Prop} {j:Nat} {o:Oper} {st:St} {mk:List (Nat×Nat)} {D:List (Nat×Nat)->St->Prop} (hj:fS ops j=some o) (h:lL P ops mb ms S ws mk st o D) (hR:Rep β st a w):
  wpOp P ops.toArray Q j (fun a' w'=>EE P ops mb ms S j w w'/\(∀i,o.dst≠some i->a'.tmps[i]? =a.tmps[i]?)/\∃β' ch mk',D mk' ch/\Ext st ch/\ch.mv=true/\Rep β' ch a' w'/\((mk'=mk/\w'=w)∨(mk'=(w.heap.size,w'.heap.size)::mk/\mf ws w w'))) a w:=by
 unfold lL at h;rcases lO h with⟨_,h⟩ | ⟨hp,h⟩
 ·exact h.elim
 have hj':ops.toArray[j]? =some o:=by rw[je]at hj;simpa using hj
 unfold wpOp;simp only[hj'];obtain⟨s,e1,gA,h1⟩:=xR h hR;rcases h1 with⟨hw,h1⟩ | ⟨hw,h1⟩
 ·rw[if_pos hw];left;obtain⟨s1,h2,e2,Uf,sX,_⟩:=dl h1 gA;have X7:EE P ops mb ms S j=fun w w'=>bif mb&&(ms||!su o.op)then bE S w w' else True:=by
   funext w w';unfold EE;rw[hj];dsimp only;rw[hp];rfl
  have:=U5 (Bl (E:=fun w w'=>EE P ops mb ms S j w w'/\mf ws w w') (Q:=Q) (fun w0 w1 p hx=>?_) (fun w w1 hO=>?_) (fun hs bk k w w1 p hy hk hO=>hy.elim) h2 Uf)
  ·refine Oper.wp_mono ?_ this;rintro a' w' ⟨⟨β',ch,k1,k2,k3,k4⟩,k5⟩;rcases lO k1 with⟨_,k1⟩ | ⟨km,k1⟩
   ·exact k1.elim
   refine⟨k3.1,k5,β',ch.uF,_,k1,((e1.trans e2).trans k2).trans (Ext.uF _),rfl,k4.uF,.inr ⟨?_,k3.2⟩⟩;rw[<-k4.still km,<-Uf.still sX]
  ·rw[X7];obtain⟨hN,hx⟩:=hx;unfold XB at hx;dsimp only;cases hb:(mb&&(ms||!su o.op))with
   | true=>rw[hb]at hx;exact⟨hx.2,hx.1,hN⟩
   | false=>rw[hb]at hx;exact⟨hx,trivial,hN⟩
  ·rw[X7];dsimp only;refine⟨?_,mf.IT hO⟩;cases(mb&&(ms||!su o.op))with
   | true=>exact bE.only hO
   | false=>exact trivial
 ·rw[if_neg (by rw[hw];exact Bool.false_ne_true)];exact⟨pG hj w,(jF _ _ _).2.2,β,_,mk,h1,(e1.trans (Ext.put _ _ _)).trans (Ext.uF _),rfl,(gA.put o.dst .un).uF,.inl ⟨rfl,trivial⟩⟩
theorem LP {Q:Exit->Act->World->Prop} (hQ:∀c a w,¬Q (.panic c) a w) (hZ:∀p∈Z,∃o,fS ops p.z=some o/\tn P p.z o=some p) (hzo:XS ops Z=true) (hnd:(mw Z).Nodup) {s0:St} {K:List (Nat×Nat)->St->Prop}
  (hK:∀mk st β a w bz D m,K mk st->Ext s0 st->Rep β st a w->Late Z ws bz D mk a w->D.Perm (mw Z)->m+D.length=gm->eP P .any ops.toArray Q (EE P ops mb ms S) m (dV vJ D) a w):
  ∀(m g:Nat) {ba:Array Bool} {mk:List (Nat×Nat)} {st:St} {β:Nat->Nat} {a:Act} {w:World} {bz:Nat->Nat} {D Pd:List Nat},Jx P ops mb ms S ws Z vJ gm K g ba mk st->Ext s0 st->st.mv=true->Rep β st a w->Late Z ws bz D mk a w->(D++Pd).Perm (mw Z)->m+D.length=g->
   eP P .any ops.toArray Q (EE P ops mb ms S) m (dV ba D) a w:=by
 intro m;have hu:∀p∈Z,∀q∈Z,p.z=q.z->p=q:=fun p hp q hq e=>by
  obtain⟨o,h1,h2⟩:=hZ p hp;obtain⟨o',h3,h4⟩:=hZ q hq;rw[e,h3]at h1;injection h1 with h1;subst h1;rw[e,h4]at h2;injection h2 with h2;exact h2.symm
 have hdo:∀p∈Z,∀j o,fS ops j=some o->j≠p.z->o.dst≠some p.d:=fun p hp j o hj gf=>LM (LN hzo p hp) hj (by rw[bm];exact gf);have N2:∀p∈Z,∀q∈Z,p.z≠q.z->p.d≠q.d:=fun p hp q hq gf e=>by
  obtain⟨o',h3,h4⟩:=hZ q hq;exact hdo p hp q.z o' h3 (Ne.symm gf) (by rw[(lc h4).2.2.1,e])
 induction m using Nat.strongRecOn with
 | ind m ih=>
 intro g ba mk st β a w bz D Pd h he hm hR hL hp hg;cases g with
 | zero=>exact h.elim
 | succ g=>
 have h0:=h;unfold Jx at h;obtain⟨hc,h⟩:=cU h;simp only[aE]at hc;obtain⟨X4,hfz⟩:=hc;have X4:=vT X4;have hDZ:∀x∈D,x∈mw Z:=hL.sub;have hPZ:∀x∈Pd,x∈mw Z:=fun x hx=>hp.subset (List.mem_append_right _ hx);have dN:D.length+Pd.length=(mw Z).length:=by have:=hp.length_eq;rwa[aD]at this
 have ah9:(D++Pd).Nodup:=hp.nodup_iff.2 hnd;have hPD:∀x∈Pd,x∉D:=fun x hx hd=>(List.nodup_append.1 ah9).2.2 x hd x hx rfl;have hrz:∀j∈Region.ready .any ops.toArray (dV ba D),j∈mw Z->j∈Pd:=fun j hj tD=>by
  have h1:j∉D:=fun hd=>by
   have:=(mem_ready.1 hj).1;rw[mP.2 (.inr hd)]at this;cases this
  rcases cq.1 (hp.mem_iff.2 tD)with h2 | h2
  ·exact absurd h2 h1
  ·exact h2
 have acY:∀j∈Region.ready .any ops.toArray ba,j∉mw Z->j∈Region.ready .any ops.toArray (dV ba D):=fun j hj tD=>ve (l:=ba) (D:=[]) (E:=D) (by simp) hj fun k=>tD (hDZ j k);have Wj:∀z∈Pd,z∈Region.ready .any ops.toArray (dV ba D):=fun z hz=>by
  obtain⟨p,GC,rfl⟩:=my.1 (hPZ z hz);obtain⟨o,ho,bJ⟩:=hZ p GC;refine mem_ready.2 ⟨?_,o,by rw[je]at ho;simpa using ho,fun e he=>?_⟩
  ·rw[fH];intro k;rcases mP.1 k with k | k
   ·rw[X4 _ (hPZ _ hz)]at k;cases k
   ·exact hPD _ hz k
  ·rw[Array.mem_def,(lc bJ).2.2.2.2.1]at he;cases he
 have AL:∀{m'},m=m'+1->∀j∈Pd,wpOp P ops.toArray Q j (fun a' w'=>EE P ops mb ms S j w w'/\eP P .any ops.toArray Q (EE P ops mb ms S) m' ((dV ba D).setIfInBounds j true) a' w') a w:=by
  intro m' em j hj;obtain⟨p,GC,rfl⟩:=my.1 (hPZ j hj);obtain⟨o,ho,bJ⟩:=hZ p GC;obtain⟨_,l2,l3,l4,l5,l6,l7⟩:=lc bJ;obtain⟨fz1,fz2⟩:=DB hfz p GC;have KR:ops.toArray[p.z]? =some o:=by rw[je]at ho;simpa using ho
  unfold wpOp;simp only[KR];rw[if_pos (wn l4)];left;obtain⟨dst,op,t',pp,af,g0⟩:=o;dsimp only at l2 l3 l4 l5;subst l2 l3 l4;obtain⟨z,z1,z2⟩:=So l6 w;refine C3 z1 (z2 β0) (fun _=>rfl) fun b w1 hb hO hB=>⟨?_,?_⟩
  ·unfold EE;rw[ho];dsimp only;rw[show iV P (.alloc p.t)=false from rfl,mE];cases(mb&&(ms||!su (.alloc p.t)))with
   | true=>exact bE.only hO
   | false=>exact trivial
  ·rw[<-mO];exact ih m' (by omega) (g+1) (D:=p.z::D) (Pd:=Pd.erase p.z) h0 he hm (hR.late hm fz1 hO) (hL.alloc hu N2 GC (hPD _ hj) hb hO hB (by rw[hR.ok.sz];exact fz2))
    ((List.perm_middle.symm.trans ((List.perm_cons_erase hj).symm.append_left D)).trans hp) (by rw[aH];omega)
 split at h
 ·rename_i N3;obtain⟨hc,h⟩:=cU h;simp only[aE]at hc;obtain⟨⟨⟨c1,c2⟩,c3⟩,c4⟩:=hc;have aib:ba=vJ:=KC.1 (LO c2);have egm:=bC c3;have c4:=cN c4;cases hPd:Pd with
  | nil=>
   rw[hPd,br]at hp;rw[aib];exact hK mk st β a w bz D m h he hR hL hp (by omega)
  | cons z Pd'=>
   have hzm:z∈Pd:=by rw[hPd];exact du
   have tH:Pd.length=Pd'.length+1:=by rw[hPd];rfl
   obtain⟨m',rfl⟩:∃m',m=m'+1:=⟨m-1,by omega⟩
   refine⟨fun h0=>?_,fun j hj=>AL rfl j ?_⟩
   ·have:=Wj z hzm;rw[h0]at this;cases this
   ·by_cases tD:j∈mw Z
    ·exact hrz j hj tD
    ·exfalso;have h1:j∈Region.ready .any ops.toArray (dV ba ((mw Z).erase z)):=ve (fun x hx=>(List.mem_erase_of_ne (fun e=>hPD z hzm (by rw[<-e];exact hx))).2 (hDZ x hx)) hj (fun k=>tD (List.mem_of_mem_erase k));have:=Hn c1 z (hPZ z hzm) j h1;exact tD (this▸hPZ z hzm)
 ·rename_i i r N3;obtain⟨c0,h⟩:=cU h;simp only[aE,U4]at c0;have hrd:=Dz c0.1;have c0:=cN c0.2;have hrm:∀j∈Region.ready .any ops.toArray (dV ba D),j∉mw Z->j∈Region.ready .any ops.toArray ba:=fun j hj tD=>(hrd j (ve hDZ hj tD)).1;obtain⟨m',rfl⟩:∃m',m=m'+1:=⟨m-1,by omega⟩
  have hio:∀j∈i::r,j∈Region.ready .any ops.toArray ba/\j∉mw Z:=fun j hj=>oI.1 (by rw[N3];exact hj);have gf:Region.ready .any ops.toArray (dV ba D)=[]->False:=fun h0=>by
   have:=acY i (hio i du).1 (hio i du).2;rw[h0]at this;cases this
  have hdz:∀j o,fS ops j=some o->j∉mw Z->∀p∈Z,o.dst≠some p.d:=fun j o hj tD p hp=>hdo p hp j o hj fun e=>tD (my.2 ⟨p,hp,e.symm⟩);have LL:∀{j:Nat} {o:Oper},fS ops j=some o->j∉mw Z->lL P ops mb ms S ws mk st o (fun mk st=>Jx P ops mb ms S ws Z vJ gm K g (ba.setIfInBounds j true) mk st)->
    wpOp P ops.toArray Q j (fun a' w'=>EE P ops mb ms S j w w'/\eP P .any ops.toArray Q (EE P ops mb ms S) m' ((dV ba D).setIfInBounds j true) a' w') a w:=by
   intro j o ho tD h;refine wpOp_mono (fun a' w' hh=>⟨hh.1,?_⟩) (Zh ho h hR);obtain⟨k0,k1,β',ch,mk',k2,k3,k4,k5,k6⟩:=hh;rw[<-mO];have rj:∀p∈Z,a'.tmps[p.d]? =a.tmps[p.d]? :=fun p hp=>k1 _ (hdz j o ho tD p hp);have hL':Late Z ws bz D mk' a' w':=by
    rcases k6 with⟨rfl,rfl⟩ | ⟨rfl,k6⟩
    ·exact hL.act rj
    ·exact hL.loud k6 rj
   exact ih m' (by omega) g k2 (he.trans k3) k4 k5 hL' hp (by omega)
  split at h
  ·rename_i q hq;obtain⟨o,ho,h⟩:=aY h;obtain⟨hc,h⟩:=cU h;simp only[aE,okT]at hc;obtain⟨⟨⟨⟨⟨c1,c2⟩,c3⟩,c4⟩,c5⟩,c6⟩:=hc;obtain⟨hq1,Wk⟩:=hio q (by simpa using c6);have KR:ops.toArray[q]? =some o:=by rw[je]at ho;simpa using ho
   have oY:pq .any ops.toArray (dV ba D):=zu (zO c3) fun z hz o hoz=>by
    obtain⟨p,GC,rfl⟩:=my.1 (hDZ z hz);obtain⟨o2,Fg,bJ⟩:=hZ p GC;rw[je]at Fg;have:o2=o:=by
     have e:ops.toArray[p.z]? =some o2:=by simpa using Fg
     rw[hoz]at e;injection e with e;exact e.symm
    rw[<-this];exact(lc bJ).2.2.2.2.1
   have hN:∀k∈KI ba 0 ops,(dV ba D).getD k true=true:=fun k hk=>mP.2 (.inl (by simpa using(dB.1 c5) k hk));have IW:=Region.free_spec KR c2;have Cp:∀j oj,ops.toArray[j]? =some oj->j≠q->(dV ba D).getD j true=false->(∀e∈oj.after,Region.binds .any e=true->e.on≠q)->o.apart ops.toArray oj=true:=fun j oj h1 h2 h3 h4=>IW j oj h1 h2 (by
    rw[fH]at h3⊢;exact fun k=>h3 (mP.2 (.inl k))) h4
   have hqr:=acY q hq1 Wk;obtain⟨s,e1,gA,h1⟩:=xR h hR;have rj:∀v,∀p∈Z,(a.put o.dst v).tmps[p.d]? =a.tmps[p.d]? :=fun v p hp=>(jF _ _ _).2.2 _ (hdz q o ho Wk p hp);rcases h1 with⟨hw,h1⟩ | ⟨hw,h1⟩
   ·obtain⟨v,s2,F,k1,k2,k3,k4,k5,k6,k7⟩:=Sw h1 gA.uF;refine pr KR (Region.noSelect_spec c1) (fun c a w hp=>(hQ _ _ _ hp).elim) c4 (KI ba 0 ops) k5 (fun w1 _=>pG ho w1) m' (dV ba D) a w oY hN Cp hqr (Sg hw k7) k4 ?_;rw[<-mO];exact ih m' (by omega) g k1 (((he.trans e1).trans (Ext.uF _)).trans (k2.trans (Ext.uF _))) rfl k3.uF (hL.act (rj v)) hp (by omega)
   ·refine pr (v:=undef) (F:=fun _=>True) KR (Region.noSelect_spec c1) (fun c a w hp=>(hQ _ _ _ hp).elim) c4 (KI ba 0 ops) (fun _ _ _ _ _ _ _=>trivial) (fun w1 _=>pG ho w1) m' (dV ba D) a w oY hN Cp hqr (UH hw) trivial ?_;rw[<-mO];exact ih m' (by omega) g h1 ((he.trans e1).trans ((Ext.put _ _ _).trans (Ext.uF _))) rfl (gA.put o.dst .un).uF (hL.act (rj undef)) hp (by omega)
  ·split at h
   ·obtain⟨o,ho,h⟩:=aY h;refine⟨fun h0=>(gf h0).elim,fun j hj=>?_⟩;by_cases tD:j∈mw Z
    ·exact AL rfl j (hrz j hj tD)
    ·have:j∈zr (mw Z) (Region.ready .any ops.toArray ba):=oI.2 ⟨hrm j hj tD,tD⟩;rw[N3]at this;obtain rfl:j=i:=by simpa using this
     exact LL ho tD h
   ·rename_i i' _;obtain⟨o,ho,h⟩:=aY h;obtain⟨o',KR,h⟩:=aY h;refine⟨fun h0=>(gf h0).elim,fun j hj=>?_⟩;by_cases tD:j∈mw Z
    ·exact AL rfl j (hrz j hj tD)
    ·have:j∈zr (mw Z) (Region.ready .any ops.toArray ba):=oI.2 ⟨hrm j hj tD,tD⟩;rw[N3]at this;rcases aL.1 this with rfl | this
     ·exact LL ho tD h.1
     ·have:=aF.1 this;subst this;exact LL KR tD h.2
   ·rename_i i' i'' _;obtain⟨o,ho,h⟩:=aY h;obtain⟨o',KR,h⟩:=aY h;obtain⟨o'',aig,h⟩:=aY h;refine⟨fun h0=>(gf h0).elim,fun j hj=>?_⟩;by_cases tD:j∈mw Z
    ·exact AL rfl j (hrz j hj tD)
    ·have:j∈zr (mw Z) (Region.ready .any ops.toArray ba):=oI.2 ⟨hrm j hj tD,tD⟩;rw[N3]at this;rcases aL.1 this with rfl | this
     ·exact LL ho tD h.1
     ·rcases aL.1 this with rfl | this
      ·exact LL KR tD h.2.1
      ·have:=aF.1 this;subst this;exact LL aig tD h.2.2
   ·exact h.elim
end
def St.Ck (st:St) (d:Nat) (t:TypeId) (zs:List SV) (b:Nat):St:=
 St.put {st with bx:=st.bx++[⟨some b,t,zs,st.ct,true,false,false⟩],ct:=st.ct+1} (some d) (.box st.bx.length 0)
theorem Ext.Ck (st:St) (d:Nat) (t:TypeId) (zs:List SV) (b:Nat):Ext st (st.Ck d t zs b):=by
 refine Ext.trans (t:={st with bx:=st.bx++[⟨some b,t,zs,st.ct,true,false,false⟩],ct:=st.ct+1}) ⟨rfl,ic _,fun _ _ _ h _=>h,fun i b' hb ho hs=>?_,fun i b hb=>?_,CL⟩ (Ext.put _ _ _)
 ·dsimp only at hb;rw[jG]at hb;split at hb
  ·simp only[aJ]at hb;subst hb;dsimp only at hs;omega
  ·exact⟨b',hb,ho,rfl,rfl,rfl,fun _ h=>h⟩
 ·exact⟨b,by dsimp only;rw[jG,if_neg (by have:=pB hb;omega)];exact hb,rfl,rfl,fun _ h=>h⟩
section
variable {β:Nat->Nat} {st:St} {a:Act} {w:World}
theorem Rep.Ck (hR:Rep β st a w) {d:Nat} {t:TypeId} {zs:List SV} {b:Nat} (h1:Jp st.bx.length st.fr=true) (h2:FG st.bx.length st.bx=true) (hdt:xL st.bx st.dt=true) (oY:gD (fun _=>false) zs=true)
  (hs:a.tmps[d]? =some (.pointer (some ⟨b,0,none⟩))) (hB:Blk w b t (bR β0 zs)) (gf:∀i c,cu st.bx i=some c->c.ok=true->β i≠b):
  Rep (uL β st.bx.length b) (st.Ck d t zs b) a w:=by
 have pb:uL β st.bx.length b st.bx.length=b:=by unfold uL;rw[if_pos rfl]
 have bJ:∀{i c},cu st.bx i=some c->uL β st.bx.length b i=β i:=fun{i c} h=>by
  unfold uL;rw[if_neg];have:=pB h;omega
 have base:Rep (uL β st.bx.length b) {st with bx:=st.bx++[⟨some b,t,zs,st.ct,true,false,false⟩],ct:=st.ct+1} a w:=by
  refine⟨pz ⟨hR.ok.sz,hR.ok.df,fun i p hl hi=>?_⟩,fun i c hc ho=>?_,fun i j bi bj g1 g2 g3 g4 zy=>?_,?_,hR.still⟩
  ·rw[hR.ok.at_ i p hl hi];congr 1;exact iQ (g:=fun j=>!Nat.beq j st.bx.length) xO _ (Bg h1 i p hl)
  ·dsimp only at hc;rw[jG]at hc;split at hc
   ·rename_i he;simp only[aJ]at hc;subst hc;subst he;refine⟨?_,fun k hk=>?_,fun hk=>(by cases hk)⟩
    ·rw[pb];dsimp only;rw[gj (g:=fun _=>false) (β:=uL β st.bx.length b) (β':=β0) (fun i h=>(by cases h)) _ oY];exact hB
    ·rw[pb];simpa using hk
   ·have e:=bJ hc;obtain⟨k1,k2,k3⟩:=hR.bx i c hc ho;refine⟨?_,fun k hk=>by rw[e];exact k2 k hk,fun hk=>by rw[e];exact k3 hk⟩;rw[e,<-gj (g:=fun j=>!Nat.beq j st.bx.length) (β:=β) (β':=uL β st.bx.length b) xO _ (Bh h2 i c hc ho)];exact k1
  ·dsimp only at g1 g2;rw[jG]at g1 g2;split at g1
   ·rename_i e1;split at g2
    ·omega
    ·subst e1;rw[pb,bJ g2];exact Ne.symm (gf j bj g2 g4)
   ·split at g2
    ·rename_i e2;subst e2;rw[pb,bJ g1];exact gf i bi g1 g3
    ·rw[bJ g1,bJ g2];exact hR.ne i j bi bj g1 g2 g3 g4 zy
  ·have e:st.dt.map (uL β st.bx.length b)=st.dt.map β:=qv fun i hi=>by
    obtain⟨c,hc,_⟩:=rH hdt i hi;exact bJ hc
   show Only (st.dt.map (uL β st.bx.length b)) st.w0 w;rw[e];exact hR.only
 refine⟨pz ⟨base.ok.sz,base.ok.df,fun i p hl hi=>?_⟩,base.bx,base.ne,base.only,base.still⟩;simp only[St.Ck,St.put,dk]at hl;cases hb:Nat.beq d i with
 | true=>
  rw[hb]at hl;simp only[fe,aJ]at hl;subst hl;have:=bC hb;subst this;rw[hs];show _=some (Value.pointer (some ⟨uL β st.bx.length b st.bx.length,0,none⟩));rw[pb]
 | false=>rw[hb]at hl;exact base.ok.at_ i p (by simpa using hl) hi
end
def neN (b:Nat):List Nat->Prop->Prop
 | [],p=>p
 | x::r,p=>x≠b->neN b r p
theorem LQ {b:Nat}:∀{l:List Nat} {p:Prop},neN b l p->(∀x∈l,x≠b)->p
 | [],_,h,_=>h
 | x::r,p,h,hb=>LQ (h (hb x du)) fun y hy=>hb y (cL _ hy)
def QA (ws:World) (mk:List (Nat×Nat)):List LZ->List Nat->St->(St->Prop)->Prop
 | [],_,st,K=>K st
 | p::r,seen,st,K=>bif XR st p.zs then ∀b:Nat,ws.heap.size<=b->b<st.w0.heap.size->xS mk b->neN b seen (QA ws mk r (b::seen) (st.Ck p.d p.t p.zs b) K)else False
theorem Hp {ws:World} {mk:List (Nat×Nat)} {bz:Nat->Nat} {a:Act} {w:World}:∀{r:List LZ} {seen:List Nat} {st:St} {K:St->Prop} {β:Nat->Nat},QA ws mk r seen st K->Rep β st a w->st.mv=false->
  (∀p∈r,a.tmps[p.d]? =some (.pointer (some ⟨bz p.z,0,none⟩))/\Blk w (bz p.z) p.t (bR β0 p.zs)/\ws.heap.size<=bz p.z/\xS mk (bz p.z)/\gD (fun _=>false) p.zs=true/\(∀x∈seen,x≠bz p.z)/\∀i c,cu st.bx i=some c->c.ok=true->β i≠bz p.z)->
  (mw r).Nodup->(∀p∈r,∀q∈r,p.z≠q.z->bz p.z≠bz q.z)->∃ch β',K ch/\Ext st ch/\Rep β' ch a w
 | [],_,st,K,β,h,hR,_,_,_,_=>⟨st,β,h,Ext.refl _,hR⟩
 | p::r,seen,st,K,β,h,hR,hm,hp,hn,hd=>by
  unfold QA at h;obtain⟨hc,h⟩:=cU h;simp only[XR,aE]at hc;obtain⟨h1,h2,h3,h4,h5,h6,h7⟩:=hp p du;have h:=LQ (h (bz p.z) h3 (by rw[<-hR.still hm];exact h2.lt) h4) h6;simp only[mw,List.nodup_cons]at hn;have hpq:∀q∈r,p.z≠q.z:=fun q hq e=>hn.1 (my.2 ⟨q,hq,e.symm⟩);have bJ:∀{i c},cu st.bx i=some c->uL β st.bx.length (bz p.z) i=β i:=fun{i c} h=>by
   unfold uL;rw[if_neg];have:=pB h;omega
  obtain⟨ch,β',k1,k2,k3⟩:=Hp h (hR.Ck hc.1.1.1 hc.1.1.2 hc.2 h5 h1 h2 h7) hm (fun q hq=>by
   obtain⟨g1,g2,g3,g4,g5,g6,g7⟩:=hp q (cL _ hq);have gf:=hd p du q (cL _ hq) (hpq q hq);refine⟨g1,g2,g3,g4,g5,fun x hx=>?_,fun i c hc ho=>?_⟩
   ·rcases aL.1 hx with rfl | hx
    ·exact gf
    ·exact g6 x hx
   ·simp only[St.Ck,St.put]at hc;rw[jG]at hc;split at hc
    ·rename_i e;subst e;unfold uL;rw[if_pos rfl];exact gf
    ·rw[bJ hc];exact g7 i c hc ho) hn.2 fun x hx y hy=>hd x (cL _ hx) y (cL _ hy)
  exact⟨ch,β',k1,(Ext.Ck _ _ _ _ _).trans k2,k3⟩
def ph2 (P:Program) (ops:List Oper) (mb ms:Bool) (S:Nat->Prop) (ws:World) (Z:List LZ) (vJ:Array Bool) (gm nb:Nat) (mk:List (Nat×Nat)) (st:St) (K:St->Prop):Prop:=
 bif Nat.beq st.bx.length nb then dQ st fun st=>QA ws mk Z [] st fun st=>Dt P ops mb ms S (gm-(mw Z).length) (dV vJ (mw Z)) st K else False
def DC (P:Program) (ops:List Oper) (jn:Bool) (kp:List Nat) (mi:List MI) (mb ms:Bool) (S:Nat->Prop) (Z:List LZ) (vJ:Array Bool) (gm:Nat) (st:St) (K:St->Prop):Prop:=
 bif oE st.bx then
  (bif jn then ∃J:List (Nat×Nat)->JT (E8 mi),(∀mk:List (Nat×Nat),Dr (E8 mi) (J mk) fun vs w=>ph2 P ops mb ms S st.w0 Z vJ gm st.bx.length mk (kZ st kp mi vs w) K)/\
   Jx P ops mb ms S st.w0 Z vJ gm (fun mk s=>dQ s fun s=>FK st kp mi (J mk) s) ops.length (Array.replicate ops.length false) [] (St.uF (st.mj (U3 Z)))
  else Jx P ops mb ms S st.w0 Z vJ gm (fun mk s=>ph2 P ops mb ms S st.w0 Z vJ gm st.bx.length mk s K) ops.length (Array.replicate ops.length false) [] (St.uF (st.mj (U3 Z))))else False
def LR (ops:List Oper) (Zi:List Nat):Nat->Array Bool->Array Bool
 | 0,l=>l
 | f+1,l=>match zr Zi (Region.ready .any ops.toArray l)with
  | []=>l
  | i::_=>LR ops Zi f (l.setIfInBounds i true)
def QB:List Bool->Nat
 | []=>0
 | b::r=>bif b then QB r else QB r+1
theorem Hq:∀{l:List gR} {i:Nat},i<l.length->∃b,cu l i=some b
 | b::r,0,_=>⟨b,rfl⟩
 | b::r,i+1,h=>Hq (l:=r) (by simpa using h)
section
variable {P:Program} {ops:List Oper} {mb ms:Bool} {S:Nat->Prop} {β:Nat->Nat} {a:Act} {w:World} {vJ:Array Bool} {gm:Nat} {jn:Bool} {kp:List Nat} {mi:List MI} {st:St} {K:St->Prop}
theorem LS {Q:Exit->Act->World->Prop} (hQ:∀c a w,¬Q (.panic c) a w) (hzo:XS ops (jH P 0 ops)=true) (h:DC P ops jn kp mi mb ms S (jH P 0 ops) vJ gm st K) (hR:Rep β st a w) (qn:st.mv=false)
  (hK:∀β' ch a' w',K ch->Ext st ch->Rep β' ch a' w'->Q .normal a' w'):eP P .any ops.toArray Q (EE P ops mb ms S) ops.length (Array.replicate ops.length false) a w:=by
 have hnd:(mw (jH P 0 ops)).Nodup:=xU;have hZ:∀p∈jH P 0 ops,∃o,fS ops p.z=some o/\tn P p.z o=some p:=fun p hp=>by
  obtain⟨j,o,h1,h2,h3⟩:=xT hp;rw[bm]at h1;exact⟨o,by rw[h1];exact h2,h3⟩
 generalize jH P 0 ops=Z at*
 unfold DC at h;obtain⟨hbd,h⟩:=cU h;rw[<-hR.still qn]at h;have two:∀mk ch β' a' w' bz D m,ph2 P ops mb ms S w Z vJ gm st.bx.length mk ch K->Ext st ch->Rep β' ch a' w'->Late Z w bz D mk a' w'->D.Perm (mw Z)->m+D.length=gm->eP P .any ops.toArray Q (EE P ops mb ms S) m (dV vJ D) a' w':=by
  intro mk ch β' a' w' bz D m h he PG hL hp hg;unfold ph2 at h;obtain⟨dN,h⟩:=cU h;have dN:=bC dN;obtain⟨s1,h1,e1,gA,wB,_,_,_,hl1⟩:=dl h PG;have hx:Ext st s1:=he.trans e1;have hold:∀i c,cu s1.bx i=some c->c.ok=true->β' i<w.heap.size:=fun i c hc ho=>by
   obtain⟨b,hb⟩:=Hq (l:=st.bx) (i:=i) (by have:=pB hc;omega);obtain⟨c',k1,k2,k3,k4⟩:=hx.ps i b hb;rw[hc]at k1;injection k1 with k1;subst k1;have CO:b.ok=true:=by rw[<-k3];exact ho
   have hs:=tX hbd i b hb CO;obtain⟨k,hk⟩:=ff.1 hs;rw[(gA.bx i c hc ho).at_ k (k4 k hk),<-(hR.bx i b hb CO).at_ k hk];exact(hR.bx i b hb CO).blk.lt
  have hD:∀p∈Z,p.z∈D:=fun p GC=>hp.mem_iff.2 (my.2 ⟨p,GC,rfl⟩);obtain⟨s2,β2,k1,k2,k3⟩:=Hp (bz:=bz) h1 gA wB (fun p GC=>by
   obtain⟨g1,g2,g3,g4⟩:=hL.at_ p GC (hD p GC);obtain⟨o,_,ho⟩:=hZ p GC;exact⟨g1,g2,g3,g4,(lc ho).2.2.2.2.2.2,by simp,fun i c hc ho=>by have:=hold i c hc ho;omega⟩) hnd fun p GC q hqZ=>hL.ne _ (hD p GC) _ (hD q hqZ)
  have:=hp.length_eq;rw[Dy hp,show m=gm-(mw Z).length by omega];exact qI hQ k1 k3 fun β3 s3 a3 w3 m1 m2 m3=>hK β3 s3 a3 w3 m1 ((hx.trans k2).trans m2) m3
 have hL0:Late Z w (fun _=>0) [] [] a w:=⟨fun p _ h=>(by cases h),fun _ h=>(by cases h),fun _ h=>(by cases h),fun _ h=>(by cases h),aK _⟩
 have hR0:Rep β (St.uF (st.mj (U3 Z))) a w:=Rep.uF (hR.frame (fr':=xH (U3 Z) st.fr) fun i p hl=>by
  cases he:(U3 Z).elem i with
  | true=>rw[(jV (l:=st.fr)).1 he]at hl;cases hl
  | false=>rw[(jV (l:=st.fr)).2 he]at hl;exact⟨p,hl,rfl⟩)
 have he0:Ext st (St.uF (st.mj (U3 Z))):=(Ext.mj _ _).trans (Ext.uF _);rcases lO h with⟨_,h⟩ | ⟨_,h⟩
 ·obtain⟨J,hJ,h⟩:=h;refine LP hQ hZ hzo hnd (s0:=st) (fun mk s β' a' w' bz D m hk he PG hL hp hg=>?_) ops.length ops.length (D:=[]) (Pd:=mw Z) h he0 rfl hR0 hL0 (List.Perm.refl _) rfl;obtain⟨s3,h3,e3,AI,Km,_⟩:=dl hk PG;obtain⟨vs,k1,k2⟩:=qH h3 AI Km (.inl (he.trans e3)) (hJ mk);exact two mk _ _ a' w' bz D m k1 Ext.NT k2 hL hp hg
 ·exact LP hQ hZ hzo hnd (s0:=st) (fun mk s β' a' w' bz D m hk he PG hL hp hg=>two mk s β' a' w' bz D m hk he PG hL hp hg) ops.length ops.length (D:=[]) (Pd:=mw Z) h he0 rfl hR0 hL0 (List.Perm.refl _) rfl
end
inductive N4 where
 | o
 | s (x y:N4)
 | j (kp:List Nat) (ms:List MI) (x y:N4)
 | l (jn:Bool) (kp:List Nat) (ms:List MI)
def eo:Nat:=4000
def Zj (k:Nat):List gR->Prop->Prop
 | [],p=>p
 | b::r,p=>bif b.ok&&b.blk.isSome then(k≠b.blk.getD 0->Zj k r p)else Zj k r p
def FM:List gR->Prop->Prop
 | [],p=>p
 | b::r,p=>bif b.ok&&b.blk.isSome then Zj (b.blk.getD 0) r (FM r p)else FM r p
theorem FN {k:Nat}:∀{l:List gR} {p:Prop},Zj k l p->(∀i b,cu l i=some b->b.ok=true->b.blk.isSome=true->k≠b.blk.getD 0)->p
 | [],_,h,_=>h
 | b::r,p,h,hb=>by
  unfold Zj at h;cases hc:(b.ok&&b.blk.isSome)with
  | true=>
   rw[hc]at h;simp only[aE]at hc;exact FN (h (hb 0 b rfl hc.1 hc.2)) fun i c hi=>hb (i+1) c hi
  | false=>
   rw[hc]at h;exact FN h fun i c hi=>hb (i+1) c hi
theorem Bp:∀{l:List gR} {p:Prop},FM l p->(∀i j bi bj,cu l i=some bi->cu l j=some bj->bi.ok=true->bj.ok=true->bi.blk.isSome=true->bj.blk.isSome=true->i≠j->bi.blk.getD 0≠bj.blk.getD 0)->p
 | [],_,h,_=>h
 | b::r,p,h,hb=>by
  unfold FM at h;have tl:∀{p:Prop},FM r p->p:=fun h=>Bp h fun i j bi bj h1 h2 h3 h4 h5 h6 h7=>hb (i+1) (j+1) bi bj h1 h2 h3 h4 h5 h6 (by omega);cases hc:(b.ok&&b.blk.isSome)with
  | true=>
   rw[hc]at h;simp only[aE]at hc;exact tl (FN h fun i c hi h1 h2=>hb 0 (i+1) b c rfl hi hc.1 h1 hc.2 h2 (by omega))
  | false=>
   rw[hc]at h;exact tl h
def QC (P:Program) (ops:List Oper) (draw:Bool) (st:St) (K:St->Prop):Prop:=
 bif draw then
  bif Bm P ops&&Region.lexB .any ops.toArray then Ss (FI ops) st fun st=>u6 P ops eo [] ops st fun st=>K {st with mv:=true}
  else bif mbN P ops 0 ops then dQ {st with mv:=true} fun st=>FM (bif U2 P ops 0 ops then st.bx else[]) (∃S:Nat->Prop,Dt P ops true (U2 P ops 0 ops) S ops.length (Array.replicate ops.length false) st K)
  else Dt P ops false false (fun _=>False) ops.length (Array.replicate ops.length false) {st with mv:=true} K
 else wv P ops eo ops st K
def QR (st:St) (K:St->Prop):Exit->Act->World->Prop:=fun e a w=>match e with
 | .normal=>∃β ch,K ch/\Ext st ch/\Rep β ch a w
 | _=>False
theorem Ext.mv (s:St):Ext s {s with mv:=true}:=⟨rfl,aK _,fun _ _ _ h _=>h,fun i b h ho _=>⟨b,h,ho,rfl,rfl,rfl,fun _ h=>h⟩,Lh,CL⟩
theorem Rep.drew {β:Nat->Nat} {s:St} {a:Act} {w w':World} (h:Rep β s a w) (hO:Only [] w w') (hh:w'.heap=w.heap):Rep β {s with mv:=true} a w':=
 ⟨h.fr,fun i b hb ho=>by
  obtain⟨k1,k2,k3⟩:=h.bx i b hb ho;exact⟨by unfold Blk at k1⊢;rw[hh];exact k1,k2,k3⟩,h.ne,h.only.bP hO,fun h=>by cases h⟩
section
variable {P:Program}
theorem Hr (hm:P.follows .mixedOrders=true) {id:Nat} {ops:Array Oper} {draw:Bool} {st:St} {K:St->Prop} {β:Nat->Nat} {a:Act} {w:World} (h:QC P ops.toList draw st K) (hR:Rep β st a w):
  (Code.region id ops draw).wp P (QR st K) a w:=by
 obtain⟨l⟩:=ops;unfold QC at h;rcases lO h with⟨hd,hx⟩ | ⟨hd,hx⟩<;>clear h<;>have h:=hx<;>clear hx
 ·subst hd;have PG:Rep β {st with mv:=true} a w.drew:=hR.drew (Only.drewN w 1) rfl;have fin:∀{mb ms:Bool} {S:Nat->Prop} {s1:St},Ext st s1->Rep β s1 a w.drew->Dt P l mb ms S l.length (Array.replicate l.length false) s1 K->(Code.region id l.toArray true).wp P (QR st K) a w:=fun e1 gA h=>
   C4 _ hm (qI (fun c a w hp=>hp) h gA fun β' ch a' w' k1 k2 k3=>⟨β',ch,k1,e1.trans k2,k3⟩)
  rcases lO h with⟨h0,h⟩ | ⟨_,h⟩
  ·simp only[aE]at h0;obtain⟨s,h1,h2,h3,_⟩:=vd h hR;obtain⟨s2,k1,k2,k3,k4⟩:=pA h1;obtain⟨a',g1,g2⟩:=k4 trivial β a w h3;refine wp_region_quiet_lit hm h0.2 ?_;have:=FE (Q:=fun a'=>∀w',(∃n,w'=w.drewN n)->QR st K .normal a' w') (rest:=[]) g1 (wpQuiet_nil (by
    rintro w' ⟨n,rfl⟩;exact⟨β,_,k1,(h2.trans k2).trans (Ext.mv _),g2.drew (Only.drewN w n) rfl⟩))
   rwa[br]at this
  ·rcases lO h with⟨_,h⟩ | ⟨_,h⟩
   ·obtain⟨s1,h0,e1,gA,_⟩:=dl h PG;have X8:∀i j bi bj,cu s1.bx i=some bi->cu s1.bx j=some bj->bi.ok=true->bj.ok=true->bi.blk.isSome=true->bj.blk.isSome=true->i≠j->bi.blk.getD 0≠bj.blk.getD 0:=fun i j bi bj h1 h2 h3 h4 h5 h6 h7=>by
     obtain⟨k,hk⟩:=ff.1 h5;obtain⟨m,hm⟩:=ff.1 h6;have e1:=(gA.bx i bi h1 h3).at_ k hk;have e2:=(gA.bx j bj h2 h4).at_ m hm;rw[hk,hm,fZ,fZ];have:=gA.ne i j bi bj h1 h2 h3 h4 h7;omega
    obtain⟨S,h1⟩:=Bp h0 (by
     cases U2 P l 0 l with
     | true=>exact X8
     | false=>exact fun i j bi bj h1=>by cases i<;>cases h1)
    exact fin ((Ext.mv st).trans e1) gA h1
   ·exact fin (Ext.mv st) PG h
 ·subst hd;refine wp_region_lit (rI h hR fun β' ch a' w' k1 k2 k3=>⟨β',ch,k1,k2,k3⟩)
def LU (P:Program) (ops:List Oper) (jn:Bool) (kp:List Nat) (mi:List MI) (st:St) (K:St->Prop):Prop:=
 bif XS ops (jH P 0 ops)then dQ st.uF fun st=>
  (bif mbN P ops 0 ops then FM (bif U2 P ops 0 ops then st.bx else[]) (∃S:Nat->Prop,DC P ops jn kp mi true (U2 P ops 0 ops) S (jH P 0 ops) (LR ops (mw (jH P 0 ops)) ops.length (Array.replicate ops.length false)) (QB (LR ops (mw (jH P 0 ops)) ops.length (Array.replicate ops.length false)).toList) st K)
  else DC P ops jn kp mi false false (fun _=>False) (jH P 0 ops) (LR ops (mw (jH P 0 ops)) ops.length (Array.replicate ops.length false)) (QB (LR ops (mw (jH P 0 ops)) ops.length (Array.replicate ops.length false)).toList) st K)
 else False
theorem LV (hm:P.follows .mixedOrders=true) {id:Nat} {ops:Array Oper} {jn:Bool} {kp:List Nat} {mi:List MI} {st:St} {K:St->Prop} {β:Nat->Nat} {a:Act} {w:World} (h:LU P ops.toList jn kp mi st K) (hR:Rep β st a w):
  (Code.region id ops true).wp P (QR st K) a w:=by
 obtain⟨l⟩:=ops;unfold LU at h;obtain⟨hz,h⟩:=cU h;have PG:Rep β st.uF a w.drew:=hR.drew (Only.drewN w 1) rfl;obtain⟨s1,h0,e1,gA,wB,_⟩:=dl h PG;have fin:∀{mb ms:Bool} {S:Nat->Prop} {vJ:Array Bool} {gm:Nat},DC P l jn kp mi mb ms S (jH P 0 l) vJ gm s1 K->(Code.region id l.toArray true).wp P (QR st K) a w:=fun h=>
  C4 _ hm (LS (fun c a w hp=>hp) hz h gA wB fun β' ch a' w' k1 k2 k3=>⟨β',ch,k1,((Ext.uF st).trans e1).trans k2,k3⟩)
 rcases lO h0 with⟨_,h⟩ | ⟨_,h⟩
 ·have X8:∀i j bi bj,cu s1.bx i=some bi->cu s1.bx j=some bj->bi.ok=true->bj.ok=true->bi.blk.isSome=true->bj.blk.isSome=true->i≠j->bi.blk.getD 0≠bj.blk.getD 0:=fun i j bi bj h1 h2 h3 h4 h5 h6 h7=>by
   obtain⟨k,hk⟩:=ff.1 h5;obtain⟨m,hm⟩:=ff.1 h6;have e1:=(gA.bx i bi h1 h3).at_ k hk;have e2:=(gA.bx j bj h2 h4).at_ m hm;rw[hk,hm,fZ,fZ];have:=gA.ne i j bi bj h1 h2 h3 h4 h7;omega
  obtain⟨S,h1⟩:=Bp h (by
   cases U2 P l 0 l with
   | true=>exact X8
   | false=>exact fun i j bi bj h1=>by cases i<;>cases h1)
  exact fin h1
 ·exact fin h
def V (P:Program):Code->N4->St->(Exit->St->Prop)->Prop
 | .skip,_,st,K=>K .normal st
 | .label _,_,st,K=>K .normal st
 | .exit id,_,st,K=>K (.exit id) st
 | .ret,_,st,K=>K .ret st
 | .region _ ops draw,an,st,K=>(match an with
  | .l jn kp ms=>bif draw then LU P ops.toList jn kp ms st (K .normal)else False
  | .j kp ms _ _=>dQ st fun st=>∃J:JT (E8 ms),Dr (E8 ms) J (fun vs w=>K .normal (kZ st kp ms vs w))/\QC P ops.toList draw st fun s=>dQ s fun s=>FK st kp ms J s
  | _=>QC P ops.toList draw st (K .normal))
 | .seq a b,an,st,K=>(match an with
  | .s x y=>V P a x st fun e s=>(match e with
   | .normal=>V P b y s K
   | e=>K e s)
  | .j kp ms x y=>dQ st fun st=>∃J:JT (E8 ms),Dr (E8 ms) J (fun vs w=>V P b y (kZ st kp ms vs w) K)/\V P a x st fun e s=>(match e with
   | .normal=>dQ s fun s=>FK st kp ms J s
   | e=>K e s)
  | _=>False)
 | .cond c a b,an,st,K=>(match an with
  | .s x y=>bG (st.ev c) fun t=>(match t with
   | .bl true=>V P a x st K
   | .bl false=>V P b y st K
   | .bt t=>((t=true->V P a x st K)/\(t=false->V P b y st K))
   | _=>False)
  | _=>False)
 | .block id c,an,st,K=>V P c an st fun e s=>(match e with
  | .exit PA=>bif Nat.beq PA id then K .normal s else K (.exit PA) s
  | e=>K e s)
 | .loop c,an,st,K=>(match an with
  | .j kp ms x _=>dQ st fun st=>∃(I:Nat->JT (E8 ms)) (n0:Nat),FK st kp ms (I n0) st/\∀n:Nat,Dr (E8 ms) (I n) fun vs w=>V P c x (kZ st kp ms vs w) fun e s=>(match e with
   | .normal=>dQ s fun s=>∃n',n'<n/\FK st kp ms (I n') s
   | e=>K e s)
  | _=>False)
 | _,_,_,_=>False
def QK (st:St) (K:Exit->St->Prop):Exit->Act->World->Prop:=fun e a w=>match e with
 | .normal=>∃β ch,K .normal ch/\Ext st ch/\Rep β ch a w
 | .exit id=>∃β ch,K (.exit id) ch/\Ext st ch/\Rep β ch a w
 | .ret=>∃β ch,K .ret ch/\Ext st ch/\Rep β ch a w
 | _=>False
theorem rM {st I2:St} {K:Exit->St->Prop} (hx:Ext st I2):∀e a w,QK I2 K e a w->QK st K e a w:=fun e a w h=>by
 cases e<;>first | exact h | (obtain⟨β,ch,h1,h2,h3⟩:=h;exact⟨β,ch,h1,hx.trans h2,h3⟩)
theorem ww (hm:P.follows .mixedOrders=true):∀(c:Code) {an:N4} {st:St} {K:Exit->St->Prop} {β:Nat->Nat} {a:Act} {w:World},V P c an st K->Rep β st a w->c.wp P (QK st K) a w
 | .skip,_,st,K,β,a,w,h,hR=>wp_skip ⟨β,st,h,Ext.refl _,hR⟩
 | .label _,_,st,K,β,a,w,h,hR=>wp_label ⟨β,st,h,Ext.refl _,hR⟩
 | .exit _,_,st,K,β,a,w,h,hR=>wp_exit ⟨β,st,h,Ext.refl _,hR⟩
 | .ret,_,st,K,β,a,w,h,hR=>wp_ret ⟨β,st,h,Ext.refl _,hR⟩
 | .region id ops draw,an,st,K,β,a,w,h,hR=>by
  unfold V at h;split at h
  ·cases draw with
   | false=>exact h.elim
   | true=>
    refine wp_mono (LV hm h hR) fun e a' w' hq=>?_;cases e<;>first | exact hq.elim | exact hq
  ·rename_i kp ms _ _;obtain⟨s1,⟨J,hJ,h⟩,e1,gA,_⟩:=dl h hR;refine wp_mono (Hr hm h gA) fun e a' w' hq=>?_;cases e<;>try exact hq.elim
   obtain⟨β',s2,h2,e2,Uf⟩:=hq;obtain⟨s3,h3,e3,AI,Km,_⟩:=dl h2 Uf;obtain⟨vs,k1,k2⟩:=qH h3 AI Km (.inl (e2.trans e3)) hJ;exact⟨_,_,k1,e1.trans Ext.NT,k2⟩
  ·refine wp_mono (Hr hm h hR) fun e a' w' hq=>?_;cases e<;>first | exact hq.elim | exact hq
 | .seq x y,an,st,K,β,a,w,h,hR=>by
  unfold V at h;split at h
  ·refine wp_seq (wp_mono (ww hm x h hR) fun e a' w' hq=>?_);cases e with
   | normal=>
    obtain⟨β',s,h1,h2,h3⟩:=hq;exact wp_mono (ww hm y h1 h3) (rM h2)
   | _=>exact hq
  ·rename_i kp ms _ _;obtain⟨s1,⟨J,hJ,h⟩,e1,gA,_⟩:=dl h hR;refine wp_seq (wp_mono (ww hm x h gA) fun e a' w' hq=>?_);cases e with
   | normal=>
    obtain⟨β',s2,h2,e2,Uf⟩:=hq;obtain⟨s3,h3,e3,AI,Km,_⟩:=dl h2 Uf;obtain⟨vs,k1,k2⟩:=qH h3 AI Km (.inl (e2.trans e3)) hJ;exact wp_mono (ww hm y k1 k2) (rM (e1.trans Ext.NT))
   | exit _=>exact rM e1 _ _ _ hq
   | ret=>exact rM e1 _ _ _ hq
   | _=>exact hq.elim
  ·exact h.elim
 | .cond c x y,an,st,K,β,a,w,h,hR=>by
  unfold V at h;split at h
  ·obtain⟨t,ht,h⟩:=aY h;have ev:=hR.ev ht;split at h
   ·exact wp_cond_true ev (ww hm x h hR)
   ·exact wp_cond_false ev (ww hm y h hR)
   ·exact wp_cond_split ev (fun e=>ww hm x (h.1 e) hR) (fun e=>ww hm y (h.2 e) hR)
   ·exact h.elim
  ·exact h.elim
 | .block id c,an,st,K,β,a,w,h,hR=>by
  unfold V at h;refine wp_block (wp_mono (ww hm c h hR) fun e a' w' hq=>?_);cases e with
  | exit PA=>
   obtain⟨β',s,h1,h2,h3⟩:=hq;have h1:bif Nat.beq PA id then K .normal s else K (.exit PA) s:=h1;rcases lO h1 with⟨e,h5⟩ | ⟨e,h5⟩
   ·have:=bC e;subst this;exact Jk ⟨β',s,h5,h2,h3⟩
   ·have gf:¬PA=id:=fun h=>by rw[h]at e;simp at e
    exact Fv (by simpa using gf) ⟨β',s,h5,h2,h3⟩
  | normal=>exact hq
  | ret=>exact hq
  | _=>exact hq.elim
 | .loop c,an,st,K,β,a,w,h,hR=>by
  unfold V at h;split at h
  ·rename_i kp ms x _;obtain⟨s1,⟨I,n0,h0,h⟩,e1,gA,wB,_⟩:=dl h hR;refine wp_loop_ghost (fun n a' w'=>∀K:List SV->World->Prop,Dr (E8 ms) (I n) K->∃vs,K vs w'/\Rep (Dh s1.bx) (kZ s1 kp ms vs w') a' w') n0 (fun K hK=>qH h0 gA wB (.inl (Ext.refl _)) hK) fun n a' w' hI=>?_;obtain⟨vs,k1,k2⟩:=hI _ (h n);refine wp_mono (ww hm c k1 k2) fun e a2 w2 hq=>?_;cases e with
   | normal=>
    obtain⟨β2,s2,h2,e2,Uf⟩:=hq;obtain⟨s3,⟨n',hn,h3⟩,e3,AI,Km,_⟩:=dl h2 Uf;exact⟨n',hn,fun K hK=>qH h3 AI Km (.inr ⟨vs,w',e2.trans e3⟩) hK⟩
   | exit _=>exact rM (e1.trans Ext.NT) _ _ _ hq
   | ret=>exact rM (e1.trans Ext.NT) _ _ _ hq
   | _=>exact hq.elim
  ·exact h.elim
 | .rangeFunc _ _ _ _,_,_,_,_,_,_,h,_=>by unfold V at h;exact h.elim
 | .scope _,_,_,_,_,_,_,h,_=>by unfold V at h;exact h.elim
 | .goto _,_,_,_,_,_,_,h,_=>by unfold V at h;exact h.elim
 | .refuse _,_,_,_,_,_,_,h,_=>by unfold V at h;exact h.elim
def FO (P:Program) (st:St):List ResultVar->Option (List SV)
 | []=>some []
 | .tmp t::r=>(match st.get t,FO P st r with
  | some v,some l=>some (v::l)
  | _,_=>none)
 | .cell p t::r=>(match st.get p,P.underlying t,FO P st r with
  | some (.box i o),some d,some l=>(match cu st.bx i with
   | some b=>bif b.ok&&sz P t ((b.cells.drop o).take (si P t)).length&&(lN d||Nat.beq ((b.cells.drop o).take (si P t)).length 1)then some (Li (lN d) ((b.cells.drop o).take (si P t))::l)else none
   | none=>none)
  | _,_,_=>none)
def QD (P:Program) (rs:List ResultVar) (R:Value->World->Prop) (st:St):Prop:=bG (FO P st rs) fun vs=>dQ (st.esc vs) fun st=>bif gD (Di st.bx) vs then R (val (Dh st.bx) (qF vs)) st.w0 else False
theorem Bq {β:Nat->Nat} {st:St} {a:Act} {w:World} (hR:Rep β st a w):∀{rs:List ResultVar} {vs:List SV},FO P st rs=some vs->zN P a w rs (bR β vs)
 | [],vs,h=>by simp only[FO,aJ]at h;subst h;trivial
 | .tmp t::r,vs,h=>by
  simp only[FO]at h;split at h
  ·rename_i v l h1 h2;simp only[aJ]at h;subst h;exact⟨hR.get h1,Bq hR h2⟩
  ·cases h
 | .cell p t::r,vs,h=>by
  simp only[FO]at h;split at h
  ·rename_i i o d l h1 h2 h3;split at h
   ·rename_i b hb;obtain⟨h4,rfl⟩:=A7 h;simp only[aE,bS]at h4;obtain⟨⟨qx,hsz⟩,kI⟩:=h4;refine⟨⟨⟨β i,o,none⟩,hR.get h1,?_⟩,Bq hR h3⟩;have hB:=(hR.bx i b hb qx).blk;generalize hl:(b.cells.drop o).take (si P t)=q at*
    have hC:Cells w ⟨β i,o,none⟩ (bR β q):=hB.Cg o _ (by
     rw[ez,<-hl];simp only[bR,pj,po];rw[cM,ow];simp only[bN,bL];omega)
    have qf:=jS (P:=P) h2 w;cases hd:lN d with
    | true=>
     rw[hd]at qf;have e:=nG hd β q;rw[hd]at e;rw[e];exact A3 qf (nX hsz w) (ez β q) hC
    | false=>
     rw[hd]at qf kI;obtain⟨s,rfl⟩:=xD (kI.resolve_left (by simp));exact zi qf (Cells.one hC)
   ·cases h
  ·cases h
def QE:Nat->List SV->List (Nat×Nat×SV)
 | _,[]=>[]
 | i,s::r=>(i,0,s)::QE (i+1) r
theorem Bs (β:Nat->Nat):∀(i:Nat) (l:List SV),cv β (QE i l)=A5 i (bR β l)
 | _,[]=>rfl
 | i,s::r=>by
  have:=Bs β (i+1) r;simp only[cv]at this;simp only[QE,cv,bg,bR,A5,this]
def st0 (fn:Func) (args:List SV) (w:World):St:={n:=fn.ntmps,fr:=QE 0 args,bx:=[],w0:=w,mv:=false,dt:=[],ct:=1,df:=[]}
def jW (P:Program) (f:FuncId) (args:Array Value) (w:World) (Q:Value->World->Prop):Prop:=CallsD P f args .returning w fun e u w'=>u=.returning/\∃v,e=.returned v/\Q v w'
def Bt (P:Program) (R:Value->World->Prop):List (Nat×List Value×List Value)->World->Prop
 | [],w=>R (.tuple #[]) w
 | d::ds,w=>bif Lu P d.1 then jW P d.1 (d.2.1++d.2.2).toArray w fun _ w'=>Bt P R ds w' else False
def aga:List ResultVar->Bool
 | []=>true
 | _=>false
def QF (P:Program) (rs:List ResultVar) (R:Value->World->Prop) (st:St):Prop:=match st.df with
 | []=>QD P rs R st
 | _::_=>bif aga rs then dQ st fun st=>Bt P R st.df st.w0 else False
def QG (P:Program) (rs:List ResultVar) (R:Value->World->Prop) (st:St):Prop:=match st.df with
 | []=>QD P rs R st
 | _::_=>False
def Vfn (P:Program) (f:FuncId) (an:N4) (args:List SV) (R:Value->World->Prop) (w:World):Prop:=bG (P.funcs[f]?) fun fn=>bG fn.body fun c=>
 bif Nat.ble args.length fn.ntmps then V P c an (st0 fn args w) fun e st=>(match e with
  | .normal=>QF P fn.results.toList R st
  | .ret=>QF P fn.results.toList R st
  | _=>False)else False
def Vfd (P:Program) (f:FuncId) (an:N4) (args:List SV) (R:Value->World->Prop) (w:World):Prop:=bG (P.funcs[f]?) fun fn=>bG fn.body fun c=>
 bif Nat.ble args.length fn.ntmps then V P c an (st0 fn args w) fun e st=>(match e with
  | .normal=>QG P fn.results.toList R st
  | .ret=>QG P fn.results.toList R st
  | _=>False)else False
theorem Hs {β:Nat->Nat} {st:St} {a:Act} {w:World} {fn:Func} {R:Value->World->Prop} (h:QD P fn.results.toList R st) (hR:Rep β st a w):∃v,(results fn a.tmps).run P w=.ok v w/\R v w:=by
 unfold QD at h;obtain⟨vs,hv,h⟩:=aY h;obtain⟨s1,h1,e1,gA,hm,_⟩:=dl h (hR.esc vs);obtain⟨hc,h1⟩:=cU h1;have ho:=Bq hR hv;have hw:=gA.still hm;rw[gA.acA (tY hc),<-hw]at h1;refine⟨_,?_,h1⟩;have hrs:fn.results=fn.results.toList.toArray:=by simp
 match vs,ho,hc with
 | [s],ho,hc=>exact UF hrs ho
 | [],ho,hc=>
  have e:val β (qF [])=.tuple (bR β []).toArray:=rfl;rw[e];exact Fw hrs rfl ho
 | s::t::r,ho,hc=>
  have e:val β (qF (s::t::r))=.tuple (bR β (s::t::r)).toArray:=by
   show Value.tuple (oq β (jU _)).toArray=_;rw[pw]
  rw[e];exact Fw hrs (by simp[bR]) ho
theorem LW (args:List Value) {n:Nat} (hk:args.length<=n):(⟨args.toArray++Array.replicate (n-args.toArray.size) undef,[]⟩:Act)=fr n (fun _=>undef) (A5 0 args):=by
 unfold fr;congr 1;apply KC.1;rw[Array.toList_append,Array.toList_replicate,kc];apply nE;intro i;by_cases hi:i<n
 ·rw[eX,lC _ _ _ _ _ hi,bm,zQ,if_pos (aQ _),rD];by_cases hia:i<args.length
  ·rw[bF hia,bA hia];rfl
  ·rw[cQ (by omega),List.getElem?_replicate,if_pos (by omega),cr (by omega)];rfl
 ·rw[eX,cr (by simp;omega),cr (by rw[mr];omega)]
theorem zU {fn:Func} {tmps:Array Value} {R:Value->World->Prop} (hr:fn.results.toList=[]):∀{l:List (Nat×List Value×List Value)} {w:World},Bt P R l w->Leaves P fn tmps (fun e w'=>∃v,e=.returned v/\R v w') (Pj l) .returning w
 | [],w,h=>by
  have hrs:fn.results=([]:List ResultVar).toArray:=by rw[<-hr]
  exact⟨_,Fw (a:=⟨tmps,[]⟩) (rs:=[]) (vs:=[]) hrs rfl trivial,_,rfl,h⟩
 | d::ds,w,h=>by
  unfold Bt at h;obtain⟨h0,h⟩:=cU h;refine leaves_cons (fun h=>by cases h) (f:=d.1) (args:=(d.2.1++d.2.2).toArray) ?_ (h.mono ?_)
  ·have:=kg h0 (d.2.1++d.2.2).toArray w;rw[<-List.append_toArray]at this⊢;exact this
  ·rintro e u w' ⟨rfl,v,rfl,h⟩;exact zU hr h
theorem DD {β:Nat->Nat} {st:St} {a:Act} {w:World} {fn:Func} {R:Value->World->Prop} (h:QF P fn.results.toList R st) (hR:Rep β st a w):Leaves P fn a.tmps (fun e w'=>∃v,e=.returned v/\R v w') a.defers .returning w:=by
 rw[hR.ok.df];unfold QF at h;split at h
 ·rename_i hd;rw[hd];obtain⟨v,k1,k2⟩:=Hs h hR;exact⟨v,k1,v,rfl,k2⟩
 ·rename_i d ds hd;obtain⟨h0,h⟩:=cU h;obtain⟨s1,h1,e1,gA,hm,_⟩:=dl h hR;have hr:fn.results.toList=[]:=by
   cases hc:fn.results.toList with
   | nil=>rfl
   | cons _ _=>rw[hc]at h0;cases h0
  have N1:s1.df=st.df:=by
   obtain⟨l,hl⟩:=e1.df;have h5:(Pj s1.df).length=(Pj st.df).length:=bp List.length (gA.ok.df.symm.trans hR.ok.df);rw[Pj,Pj,bL,bL,hl,aD]at h5;have:l=[]:=List.length_eq_zero_iff.1 (by omega);rw[hl,this,cd]
  rw[<-gA.still hm]at h1;rw[<-N1];exact zU hr h1
theorem Zk (hm:P.follows .mixedOrders=true) {f:FuncId} {an:N4} {args:List SV} {R:Value->World->Prop} {w:World} (h:Vfn P f an args R w):Calls P f (bR β0 args).toArray w fun e w'=>∃v,e=.returned v/\R v w':=by
 unfold Vfn at h;obtain⟨fn,hf,h⟩:=aY h;obtain⟨c,hb,h⟩:=aY h;obtain⟨hn,h⟩:=cU h;have hR:Rep β0 (st0 fn args w) (fr fn.ntmps (fun _=>undef) (A5 0 (bR β0 args))) w:=
  ⟨⟨fun _=>undef,by rw[<-Bs];rfl⟩,fun i b hb=>(by cases hb),fun i j bi bj hb=>(by cases hb),Only.refl _ _,fun _=>rfl⟩
 refine calls_of_wp_defers hf hb ?_;rw[LW _ (by rw[ez];exact cN hn)];refine wp_mono (ww hm c h hR) fun e a' w' hq=>?_;cases e with
 | normal=>
  obtain⟨β',s,h1,h2,h3⟩:=hq;exact DD h1 h3
 | ret=>
  obtain⟨β',s,h1,h2,h3⟩:=hq;exact DD h1 h3
 | exit _=>
  obtain⟨β',s,h1,_⟩:=hq;exact h1.elim
 | _=>exact hq.elim
theorem Zl (hm:P.follows .mixedOrders=true) {f:FuncId} {an:N4} {args:List SV} {R:Value->World->Prop} {w:World} (h:Vfd P f an args R w):jW P f (bR β0 args).toArray w R:=by
 unfold Vfd at h;obtain⟨fn,hf,h⟩:=aY h;obtain⟨c,hb,h⟩:=aY h;obtain⟨hn,h⟩:=cU h;have hR:Rep β0 (st0 fn args w) (fr fn.ntmps (fun _=>undef) (A5 0 (bR β0 args))) w:=
  ⟨⟨fun _=>undef,by rw[<-Bs];rfl⟩,fun i b hb=>(by cases hb),fun i j bi bj hb=>(by cases hb),Only.refl _ _,fun _=>rfl⟩
 refine(callsD_of_wp (R:=fun e w'=>∃v,e=.returned v/\R v w') hf hb ?_).mono (fun e u w' h=>h);rw[LW _ (by rw[ez];exact cN hn)];refine wp_mono (ww hm c h hR) fun e a' w' hq=>?_;have fin:∀{β':Nat->Nat} {s:St},QG P fn.results.toList R s->Rep β' s a' w'->(∃v,(results fn a'.tmps).run P w'=.ok v w'/\R v w')/\a'.defers=[]:=fun{β' s} h hR=>by
  unfold QG at h;split at h
  ·rename_i hd;exact⟨Hs h hR,by rw[hR.ok.df,hd];rfl⟩
  ·exact h.elim
 cases e with
 | normal=>
  obtain⟨β',s,h1,h2,h3⟩:=hq;obtain⟨⟨v,k1,k2⟩,k3⟩:=fin h1 h3;exact Fx k1 k3 k2
 | ret=>
  obtain⟨β',s,h1,h2,h3⟩:=hq;obtain⟨⟨v,k1,k2⟩,k3⟩:=fin h1 h3;exact Qa k1 k3 k2
 | exit _=>
  obtain⟨β',s,h1,_⟩:=hq;exact h1.elim
 | _=>exact hq.elim
theorem Zm {f:FuncId} {an:N4} {args:List SV} {R:Value->World->Prop} {w:World} {vs:Array Value} {vc:Prop} (hm:P.follows .mixedOrders=true) (hv:vs=(bR β0 args).toArray) (he:vc=Vfn P f an args R w) (h:vc):Calls P f vs w fun e w'=>∃v,e=.returned v/\R v w':=by
 subst he hv;exact Zk hm h
theorem Zn {f:FuncId} {an:N4} {args:List SV} {R:Value->World->Prop} {w:World} {vs:Array Value} {vc:Prop} (hm:P.follows .mixedOrders=true) (hv:vs=(bR β0 args).toArray) (he:vc=Vfd P f an args R w) (h:vc):jW P f vs w R:=by
 subst he hv;exact Zl hm h
end
end Go.Kt.V
