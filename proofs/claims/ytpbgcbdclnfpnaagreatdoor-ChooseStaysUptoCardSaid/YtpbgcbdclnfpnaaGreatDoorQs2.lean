import Derived.Test.YtpbgcbdclnfpnaaGreatDoorQs1
import Derived.Shelf.Strings.Builder1
import Derived.Shelf.Strings.Builder2
import Derived.Shelf.Strings.OnBuilder
import Derived.Shelf.Small.Bits
import Derived.Shelf.Strings.BuilderF
import Derived.Shelf.Strconv.Itoa0
import Derived.Shelf.Strconv.Itoa1
import Derived.Shelf.LaysM
import Derived.Shelf.Strconv.Itoa2
import Derived.Shelf.Strconv.Itoa3
import Derived.Shelf.Strconv.ParseIntEmpty
import Derived.Shelf.Strconv.Clone
import Derived.Shelf.Strconv.SyntaxError
import Derived.Shelf.LaysC
import Derived.Shelf.Strconv.ToError
import Derived.Shelf.Strconv.Lower
import Derived.Shelf.Strconv.ParseUint10
import Derived.Shelf.Strconv.ParseUint10Empty
import Derived.Shelf.Strconv.ParseUint10Any
import Derived.Shelf.Strconv.ParseInt10
import Derived.Shelf.Strconv.RangeError
import Derived.Shelf.Strconv.ToErrorRange
import Derived.Shelf.Strconv.ParseUintEmpty
import Derived.Shelf.Strconv.ParseUint10b64
import Derived.Shelf.Strconv.ParseUint10b32
import Derived.Shelf.Strconv.ParseUint10b16
import Derived.Shelf.Strconv.ParseUint10b8
import Derived.Shelf.Strconv.ParseUint10At
import Derived.Shelf.Strconv.ParseInt10At64
import Derived.Shelf.Strconv.ParseInt10At32
import Derived.Shelf.Strconv.ParseInt10At16
import Derived.Shelf.Strconv.ParseInt10At8
import Derived.Shelf.Strconv.ParseInt10All
import Derived.Shelf.Strconv.ParseIntPublic10
import Derived.Shelf.Strconv.ErrVarParseInt
import Derived.Shelf.Strings.Search1
import Derived.Shelf.Strings.Search2
import Derived.Shelf.Strings.Cut
import Derived.Shelf.Strings.Shaped
import Derived.Shelf.Sort.Plain
import Derived.Shelf.Strings.Prefix
import Derived.Shelf.Bits.Mul64
import Derived.Shelf.Strings.Repeat
import Derived.Shelf.Slices.Clone
import Derived.Shelf.Slices.CompactI
import Derived.Shelf.Slices.SearchI
import Derived.Shelf.Slices.Cells
import Derived.Shelf.Slices.In.SortNone
import Derived.Shelf.Slices.Empties
import Derived.Shelf.SlicesE.Clone
import Derived.Shelf.SlicesG.Cmp
import Derived.Shelf.SlIterI.Nil
import Derived.Shelf.SortM.Plain
import Derived.Shelf.SortM.SortNone
import Derived.Shelf.SlSortCmp.NoneTotal
set_option linter.unusedSectionVars false
set_option linter.unusedSimpArgs false
set_option linter.unusedVariables false
namespace Go.Kt.V
open Go renaming World->ay,Value->az
open Go Go.RowKit Go.Kt
def sz(P:Program)(t:TypeId)(n:Nat):Bool:=match P.info? t with
 | some i=>Nat.beq i.size n
 | none=>false
theorem pG{P}{t}{n}(h:sz P t n=true) w:(sizeOf t).run P w=.ok n w:=by
 unfold sz at h;cases hi:P.info? t with
 | none=>rw[hi]at h;cases h
 | some i=>
  rw[hi]at h;rw[<-cd h];simp[sizeOf,typeInfo,hi]
def nE(P:Program)(t:TypeId):Nat:=match P.info? t with
 | some i=>i.size
 | none=>0
theorem kG{P}{t}{d}(h:P.underlying t=some d) w:(isAgg t).run P w=.ok (lX d) w:=by
 unfold isAgg;rw[Sem.run_bind,run_underlying h,Result.andThen_ok];cases d<;>rfl
def Jy(b:SV)(K:Nat->(Prop->Prop)->Prop):Prop:=match b with
 | .il _ n=>bif decide (0<=n)then K n.toNat id else False
 | .int _ n=>∃v,K v λp=>n=v/\p
 | _=>False
theorem lZ{b}{K}(h:Jy b K):∃(v:Nat) (e:Prop->Prop) (k:IntKind) (n:Int),K v e/\qf b=some (k,n)/\(∀p,e p->n=v/\p):=by
 unfold Jy at h;split at h
 ·rename_i k n;obtain⟨h1,h2⟩:=dD h;have h1:=aP h1;exact⟨_,_,k,n,h2,rfl,λp hp=>⟨aG,hp⟩⟩
 ·rename_i k n;obtain⟨v,hv⟩:=h;exact⟨v,_,k,n,hv,rfl,λp hp=>hp⟩
 exact h.elim
def slS(gs:List (Bool×Bool))(s:Sl)(es:Nat)(st:St)(lo hi mx:Option Operand)(K:SV->Prop):Prop:=match lo,hi,mx with
 | some lo,none,none=>cj (st.ev lo) λa=>Jy a λl e=>gi gs (e (l<=s.n/\s.n<=s.c))/\K (.sl (s.cut l s.n s.c es))
 | none,some hi,none=>cj (st.ev hi) λa=>Jy a λh e=>gi gs (e (h<=s.c))/\K (.sl (s.cut 0 h s.c es))
 | some lo,some hi,none=>cj (st.ev lo) λa=>cj (st.ev hi) λb=>Jy a λl e=>Jy b λh f=>gi gs (e (f (l<=h/\h<=s.c)))/\K (.sl (s.cut l h s.c es))
 | none,some hi,some mx=>cj (st.ev hi) λb=>cj (st.ev mx) λc=>Jy b λh e=>Jy c λm f=>gi gs (e (f (h<=m/\m<=s.c)))/\K (.sl (s.cut 0 h m es))
 | some lo,some hi,some mx=>cj (st.ev lo) λa=>cj (st.ev hi) λb=>cj (st.ev mx) λc=>Jy a λl e=>Jy b λh f=>Jy c λm g=>gi gs (e (f (g (l<=h/\h<=m/\m<=s.c))))/\K (.sl (s.cut l h m es))
 | _,_,_=>False
def slT(gs:List (Bool×Bool))(s:ByteArray)(st:St)(lo hi mx:Option Operand)(K:SV->Prop):Prop:=match lo,hi,mx with
 | some lo,none,none=>cj (st.ev lo) λa=>Jy a λl e=>gi gs (e (l<=s.size))/\K (.str (s.extract l s.size))
 | none,some hi,none=>cj (st.ev hi) λa=>Jy a λh e=>gi gs (e (h<=s.size))/\K (.str (s.extract 0 h))
 | some lo,some hi,none=>cj (st.ev lo) λa=>cj (st.ev hi) λb=>Jy a λl e=>Jy b λh f=>gi gs (e (f (l<=h/\h<=s.size)))/\K (.str (s.extract l h))
 | _,_,_=>False
def GW(P:Program)(b:Builtin)(xs:List Operand)(ts:List TypeId)(st:St)(K:SV->Prop):Prop:=match b,xs,ts with
 | .len,[x],[t]=>cj (st.ev x) λa=>(match P.underlying t with
  | some (.slice _)=>cj (Lp a) λs=>K (.int .i64 s.n)
  | some .string=>cj (vm a) λs=>K (.int .i64 s.size)
  | _=>False)
 | .cap,[x],[t]=>cj (st.ev x) λa=>(match P.underlying t with
  | some (.slice _)=>cj (Lp a) λs=>K (.int .i64 s.c)
  | _=>False)
 | .min,[x,y],_=>cj (st.ev x) λa=>cj (st.ev y) λb=>cj (qf a) λp=>cj (qf b) λq=>K (.int p.1 (if q.2<p.2 then q.2 else p.2))
 | .max,[x,y],_=>cj (st.ev x) λa=>cj (st.ev y) λb=>cj (qf a) λp=>cj (qf b) λq=>K (.int p.1 (if q.2>p.2 then q.2 else p.2))
 | _,_,_=>False
def nif:TypeDesc->Bool
 | .interface _=>false
 | _=>true
def cvP(P:Program)(gs:List (Bool×Bool))(st:St)(s d:TypeId)(a:SV)(K:SV->Prop):Prop:=match P.underlying s,P.underlying d with
 | some (.int _),some (.int kd)=>cj (qf a) λp=>K (.int kd (kd.wrap p.2))
 | some .string,some .string=>cj (vm a) λu=>K (.str u)
 | some (.slice e),some .string=>(match P.underlying e with
  | some (.int .u8)=>cj (Lp a) λu=>bif st.mv then False else ∃l,gi gs (Af st.w0 u l)/\K (.str ⟨l.toArray⟩)
  | _=>False)
 | _,_=>False
def ldP(P:Program)(gs:List (Bool×Bool))(st:St)(t:TypeId)(a:SV)(K:SV->Prop):Prop:=match P.underlying t with
 | none=>False
 | some d=>(match a with
  | .box i o=>cj (dc st.bx i) λb=>bif b.ok&&sz P t ((b.cells.drop o).take (nE P t)).length&&(lX d||Nat.beq ((b.cells.drop o).take (nE P t)).length 1)then K (Og (lX d) ((b.cells.drop o).take (nE P t)))else False
  | .ad p=>bif !st.mv&&sz P t (Rb P 12 t).length&&(lX d||Nat.beq (Rb P 12 t).length 1)then V1 (Rb P 12 t) λvs=>gi gs (Cells st.w0 p (cD β0 vs))/\K (Og (lX d) vs)else False
  | _=>False)
def Lr:Operand->Bool
 | .const .nilIface=>true
 | _=>false
def niV:az->Bool
 | .nilIface=>true
 | _=>false
def Ifc(v:az):Prop:=v=.nilIface∨∃t x,v=.iface t x
def niP(P:Program)(gs:List (Bool×Bool))(op:BinOp)(t:TypeId)(a:SV)(K:SV->Prop):Prop:=match a,P.underlying t,op with
 | .raw v,some (.interface _),.eql=>gi gs (Ifc v.v)/\K (.bt (niV v.v))
 | .raw v,some (.interface _),.neq=>gi gs (Ifc v.v)/\K (.bt (!niV v.v))
 | _,_,_=>False
theorem Rf{y}(h:Lr y=true):y=.const .nilIface:=by
 unfold Lr at h;split at h
 ·rfl
 cases h
theorem YR{P}{t}{ms}{v}(hu:P.underlying t=some (.interface ms))(hv:Ifc v) w:(Op.equal t v .nilIface).run P w=.ok (niV v) w:=by
 unfold Op.equal Op.maxDepth Op.equalIn;rcases hv with rfl | ⟨tx,x,rfl⟩<;>simp[Sem.run_bind,run_underlying hu,Result.andThen_ok]<;>rfl
theorem GX{P}{op}{t}{x}{v}(hv:Ifc v) w:(eqGuard op t x (.const .nilIface) v .nilIface).run P w=.ok () w:=by
 unfold eqGuard;rcases hv with rfl | ⟨tx,x,rfl⟩<;>first | rfl | simp
theorem aaR{P}{gs}{st}{K}{op}{t ty}{x}{a}(hx:st.ev x=some a)(h:niP P gs op t a K):∃v,K v/\(gh gs->∀β c w,Rep β st c w->∀d t' p af g w',
  (execOp c.eval ⟨d,.binOp op t x (.const .nilIface) ty,t',p,af,g⟩).run P w'=.ok (.value (val β v)) w'):=by
 unfold niP at h;split at h
 ·rename_i v ms hu;refine⟨_,h.2,λhg β c w hR d t' p af g w'=>?_⟩;have hv:=gX h.1 hg;have e:c.eval x=v.v:=hR.ev hx;have e2:c.eval (.const .nilIface)=.nilIface:=rfl;have hb:binOp .eql t v.v .nilIface=(do pure (.bool (<-Op.equal t v.v .nilIface))):=by
   rcases hv with h | ⟨tx,x,h⟩<;>rw[h]<;>rfl
  simp[execOp,e,e2,hb,Sem.run_bind,GX hv,Result.andThen_ok,YR hu hv,Sem.run_pure];rfl
 ·rename_i v ms hu;refine⟨_,h.2,λhg β c w hR d t' p af g w'=>?_⟩;have hv:=gX h.1 hg;have e:c.eval x=v.v:=hR.ev hx;have e2:c.eval (.const .nilIface)=.nilIface:=rfl;have hb:binOp .neq t v.v .nilIface=(do pure (.bool (!(<-Op.equal t v.v .nilIface)))):=by
   rcases hv with h | ⟨tx,x,h⟩<;>rw[h]<;>rfl
  simp[execOp,e,e2,hb,Sem.run_bind,GX hv,Result.andThen_ok,YR hu hv,Sem.run_pure];rfl
 exact h.elim
def Ls(p:Addr)(i:Int)(len size:Nat)(q:Addr):Prop:=0<=i/\i<len/\p.add (i.toNat*size)=q
def aaS(n:Int)(F:Nat->Prop):Nat->Prop
 | 0=>True
 | 1=>n=0->F 0
 | j+2=>aaS n F (j+1)/\(n=((j+1))->F (j+1))
theorem Lu{n}{F}:∀{m:Nat},aaS n F m->0<=n->n<m->F n.toNat
 | 0,_,h0,h1=>aG
 | 1,h,h0,h1=>by
  have e:n=0:=aG
  subst e;exact h rfl
 | j+2,h,h0,h1=>by
  by_cases e:n=((j+1))
  ·have:=h.2 e;rw[e];exact this
  exact Lu h.1 h0 aG
def pur(P:Program)(gs:List (Bool×Bool))(st:St)(o:Op)(K:SV->Prop):Prop:=match o with
 | .move x=>cj (st.ev x) K
 | .assign x=>cj (st.ev x) K
 | .pick c x y=>cj (st.ev c) λc=>(match c with
  | .bl true=>cj (st.ev x) K
  | .bl false=>cj (st.ev y) K
  | _=>False)
 | .binOp op t x y _=>cj (st.ev x) λa=>cj (st.ev y) λb=>bif Lr y then niP P gs op t a K else aaP P gs op t a b K
 | .unOp .not _ x=>cj (st.ev x) λa=>(match a with
  | .bl b=>K (.bl (!b))
  | .bt b=>K (.bt (!b))
  | _=>False)
 | .unOp .neg _ x=>cj (st.ev x) λa=>cj (qf a) λp=>K (.int p.1 (p.1.wrap (0-p.2)))
 | .convert s d x=>cj (st.ev x) λa=>cvP P gs st s d a K
 | .extract x i=>cj (st.ev x) λa=>(match a with
  | .tup l=>bif Cy l then cj ((mN l)[i]?) K else False
  | _=>False)
 | .build t parts=>cj (st.Vv parts.toList) λps=>cj (aaQ P t ps) λr=>K (.agg (mO r))
 | .makeFunc fn fs cs=>(match fn with
  | .func f=>cj (st.ND fs.toList) λa=>cj (st.ND cs.toList) λb=>K (.fn f (mO a) (mO b))
  | _=>False)
 | .makeInterface t x=>cj (st.ev x) λa=>cj (P.underlying t) λd=>bif nif d&&cln (λ_=>false) a then K (.raw ⟨.iface t (val β0 a),rfl⟩)else False
 | .nilCheck x=>cj (st.ev x) λa=>(match a with
  | .ad p=>K (.ad p)
  | .box i o=>K (.box i o)
  | .ptr p=>∃q,gi gs (p=some q)/\K (.ad q)
  | .fn f .e cs=>K (.fn f .e cs)
  | _=>False)
 | .fieldAddr s x k=>cj (st.ev x) λa=>(match P.underlying s with
  | some (.struct fs)=>cj (fs[k]?) λf=>bif Nat.ble 1 (nE P f.type)then(match a with
   | .ad p=>K (.ad (p.add f.offset))
   | .box i o=>K (.box i (o+f.offset))
   | _=>False)else False
  | _=>False)
 | .field t x k=>cj (st.ev x) λa=>(match a,P.underlying t with
  | .agg l,some (.struct fs)=>cj (fs[k]?) λf=>cj (P.underlying f.type) λd=>bif Cy l&&sz P f.type (((mN l).drop f.offset).take (nE P f.type)).length&&(lX d||Nat.beq (((mN l).drop f.offset).take (nE P f.type)).length 1)
   then K (Og (lX d) (((mN l).drop f.offset).take (nE P f.type)))else False
  | _,_=>False)
 | .indexAddr t x i=>cj (st.ev x) λa=>cj (st.ev i) λj=>cj (qf j) λn=>(match P.underlying t with
  | some (.slice e)=>cj (Lp a) λs=>bif (P.info? e).isSome then ∃q,gi gs (dE s n.2 (nE P e) q)/\K (.ad q)else False
  | some (.array len e)=>bif (P.info? e).isSome then(match a,j with
   | .box b o,.il _ n=>bif decide (0<=n)&&decide (n<len)then K (.box b (o+n.toNat*nE P e))else False
   | .ad p,.il _ n=>bif decide (0<=n)&&decide (n<len)then K (.ad (p.add (n.toNat*nE P e)))else False
   | .ad p,_=>∃q,gi gs (Ls p n.2 len (nE P e) q)/\K (.ad q)
   | .box b o,_=>bif Nat.ble len 8 then(0<=n.2/\n.2<len)/\aaS n.2 (λj=>K (.box b (o+j*nE P e))) len else False
   | _,_=>False)else False
  | _=>False)
 | .load t x=>cj (st.ev x) λa=>ldP P gs st t a K
 | .index t x i=>cj (st.ev x) λa=>cj (st.ev i) λj=>cj (qf j) λn=>(match P.underlying t with
  | some .string=>cj (vm a) λs=>∃c,gi gs (0<=n.2/\s[n.2.toNat]? =some c)/\K (.int .u8 c.toNat)
  | _=>False)
 | .slice t x lo hi mx=>cj (st.ev x) λa=>(match P.underlying t with
  | some (.slice e)=>cj (Lp a) λs=>bif (P.info? e).isSome then slS gs s (nE P e) st lo hi mx K else False
  | some .string=>cj (vm a) λs=>slT gs s st lo hi mx K
  | _=>False)
 | .call c=>(match c.callee with
  | .builtin b=>GW P b c.args.toList c.argTypes.toList st K
  | _=>False)
 | _=>False
def mem:Op->Bool
 | .load _ _=>true
 | .convert _ _ _=>true
 | _=>false
def Y(P:Program)(st:St)(o:Op)(v:SV):Prop:=∀β a w,Rep β st a w->∀d t p af g w',(mem o=true->w'.heap=w.heap)->
 (execOp a.eval ⟨d,o,t,p,af,g⟩).run P w'=.ok (.value (val β v)) w'
theorem kH{P}{t}(h:(P.info? t).isSome=true) w:(sizeOf t).run P w=.ok (nE P t) w:=by
 unfold nE;cases hi:P.info? t with
 | none=>rw[hi]at h;cases h
 | some i=>simp[sizeOf,typeInfo,hi]
theorem Ek b o n:(⟨b,o,none⟩:Addr).add n=⟨b,o+n,none⟩:=by unfold Addr.add;split<;>simp_all
theorem pe{d}(h:lX d=true) β l:val β (Og (lX d) l)=.agg (cD β l).toArray:=by
 rw[h];show Value.agg (qe β _).toArray=_;rw[rl]
theorem AD{l:List SV}(h:Nat.beq l.length 1=true):∃s,l=[s]:=by
 have:=cd h
 match l,this with
 | [s],_=>exact⟨s,rfl⟩
section
variable {P:Program} {gs:List (Bool×Bool)} {st:St} {K:SV->Prop}
theorem aaU{t}{x}{a}(hx:st.ev x=some a)(h:ldP P gs st t a K):∃v,K v/\(gh gs->Y P st (.load t x) v):=by
 unfold ldP at h;split at h
 ·exact h.elim
 rename_i d hu;split at h
 ·rename_i i o;obtain⟨b,hb,h⟩:=bC h;obtain⟨h1,h2⟩:=dD h;simp only[aR,bU]at h1;obtain⟨⟨mr,hsz⟩,kT⟩:=h1;refine⟨_,h2,λ_ β act w hR dst t' p af g w' hh=>?_⟩;have hB:=(hR.bx i b hb mr).blk;have hB':Blk w' (β i) b.ty (cD β b.cells):=by unfold Blk at hB⊢;rw[hh rfl];exact hB
  have NN:=hR.ev hx;generalize hl:(b.cells.drop o).take _=l at*
  have hC:Cells w' _ (cD β l):=hB'.FL o _ (by
   rw[fF,<-hl];simp only[cD,nC,ra];rw[cJ,pX];simp only[cP,bA];omega)
  rcases kT with rX | kT
  ·rw[pe rX];have:=kG (P:=P) hu w';rw[rX]at this;exact ua this (pG hsz w') (fF β l) NN hC
  cases rX:lX d with
  | true=>
   have e:=pe rX β l;rw[rX]at e;rw[e];have:=kG (P:=P) hu w';rw[rX]at this;exact ua this (pG hsz w') (fF β l) NN hC
  | false=>
   obtain⟨s,rfl⟩:=AD kT;have:=kG (P:=P) hu w';rw[rX]at this;exact zF this NN (Cells.one hC)
 ·rename_i ad;obtain⟨h1,h2⟩:=dD h;simp only[aR,bU,da]at h1;obtain⟨⟨sR,hsz⟩,kT⟩:=h1;obtain⟨vs,⟨hF,hK⟩,fy,pC⟩:=sY h2;refine⟨_,hK,λhg β act w hR dst t' p af g w' hh=>?_⟩;have hw:=hR.still sR;subst hw;have hC:Cells w' ad (cD β vs):=by
   rw[gW (β:=β) (β':=β0) (g:=λ_=>false) (λi h=>aal) vs (pC _)];exact(gX hF hg).keep (by rw[hh rfl])
  have NN:=hR.ev hx;rw[<-fy]at hsz kT;rcases kT with rX | kT
  ·rw[pe rX];have:=kG (P:=P) hu w';rw[rX]at this;exact ua this (pG hsz w') (fF β vs) NN hC
  cases rX:lX d with
  | true=>
   have e:=pe rX β vs;rw[rX]at e;rw[e];have:=kG (P:=P) hu w';rw[rX]at this;exact ua this (pG hsz w') (fF β vs) NN hC
  | false=>
   obtain⟨s,rfl⟩:=AD kT;have:=kG (P:=P) hu w';rw[rX]at this;exact zF this NN (Cells.one hC)
 exact h.elim
theorem aaV{s d}{x}{a}(hx:st.ev x=some a)(h:cvP P gs st s d a K):∃v,K v/\(gh gs->Y P st (.convert s d x) v):=by
 unfold cvP at h;split at h
 ·rename_i ks kd h1 h2;obtain⟨⟨k,n⟩,hp,h⟩:=bC h;exact⟨_,h,λ_ β act w hR dst t' p af g w' hh=>CW (run_underlying h1 w') (run_underlying h2 w') ((hR.ev hx).trans (dw hp β))⟩
 ·rename_i h1 h2;obtain⟨u,hp,h⟩:=bC h;exact⟨_,h,λ_ β act w hR dst t' p af g w' hh=>CX (run_underlying h1 w') (run_underlying h2 w') ((hR.ev hx).trans (ir hp β))⟩
 ·rename_i e h1 h2;split at h
  ·rename_i h3;obtain⟨u,hp,h⟩:=bC h;cases hm:st.mv with
   | true=>rw[hm]at h;exact h.elim
   | false=>
    rw[hm]at h;obtain⟨l,hF,hK⟩:=h;refine⟨_,hK,λhg β act w hR dst t' p af g w' hh=>?_⟩;have hw:=hR.still hm;subst hw;exact Aj h1 h3 h2 ((hR.ev hx).trans (jZ hp β)) (Js _ _ (by rw[hh rfl]) (gX hF hg))
  exact h.elim
 exact h.elim
theorem aaW{b}{xs}{ts}(h:GW P b xs ts st K):∃v,K v/\(gh gs->Y P st (.call ⟨.builtin b,xs.toArray,ts.toArray⟩) v):=by
 unfold GW at h;split at h
 ·obtain⟨a,hx,h⟩:=bC h;split at h
  ·rename_i hu;obtain⟨s,hs,h⟩:=bC h;exact⟨_,h,λ_ β act w hR dst t' p af g w' hh=>YI (run_underlying hu w') ((hR.ev hx).trans (jZ hs β))⟩
  ·rename_i hu;obtain⟨s,hs,h⟩:=bC h;exact⟨_,h,λ_ β act w hR dst t' p af g w' hh=>QU (run_underlying hu w') ((hR.ev hx).trans (ir hs β))⟩
  exact h.elim
 ·obtain⟨a,hx,h⟩:=bC h;split at h
  ·rename_i hu;obtain⟨s,hs,h⟩:=bC h;exact⟨_,h,λ_ β act w hR dst t' p af g w' hh=>afs (run_underlying hu w') ((hR.ev hx).trans (jZ hs β))⟩
  exact h.elim
 ·obtain⟨a,hx,h⟩:=bC h;obtain⟨b,hy,h⟩:=bC h;obtain⟨⟨k,m⟩,hp,h⟩:=bC h;obtain⟨_,hq,h⟩:=bC h;exact⟨_,h,λ_ β act w hR dst t' p af g w' hh=>aft ((hR.ev hx).trans (dw hp β)) ((hR.ev hy).trans (dw hq β))⟩
 ·obtain⟨a,hx,h⟩:=bC h;obtain⟨b,hy,h⟩:=bC h;obtain⟨⟨k,m⟩,hp,h⟩:=bC h;obtain⟨_,hq,h⟩:=bC h;exact⟨_,h,λ_ β act w hR dst t' p af g w' hh=>afu ((hR.ev hx).trans (dw hp β)) ((hR.ev hy).trans (dw hq β))⟩
 exact h.elim
theorem aaX{t e}{x}{lo hi mx}{a}{s}(hu:P.underlying t=some (.slice e))(B7:(P.info? e).isSome=true)(hx:st.ev x=some a)(hs:Lp a=some s)(h:slS gs s (nE P e) st lo hi mx K):∃v,K v/\(gh gs->Y P st (.slice t x lo hi mx) v):=by
 unfold slS at h;split at h
 ·obtain⟨a1,h1,h⟩:=bC h;obtain⟨l,e1,k1,n1,⟨hF,hK⟩,o1,u1⟩:=lZ h;refine⟨_,hK,λhg β act w hR dst t' p af g w' hh=>?_⟩;obtain⟨rfl,f1,f2⟩:=u1 _ (gX hF hg);exact Al (run_underlying hu w') (kH B7 w') ((hR.ev hx).trans (jZ hs β)) ((hR.ev h1).trans (dw o1 β)) f1 f2 (ba _)
 ·obtain⟨a1,h1,h⟩:=bC h;obtain⟨l,e1,k1,n1,⟨hF,hK⟩,o1,u1⟩:=lZ h;refine⟨_,hK,λhg β act w hR dst t' p af g w' hh=>?_⟩;obtain⟨rfl,f1⟩:=u1 _ (gX hF hg);exact Jk (run_underlying hu w') (kH B7 w') ((hR.ev hx).trans (jZ hs β)) ((hR.ev h1).trans (dw o1 β)) (bh _) f1 (ba _)
 ·obtain⟨a1,h1,h⟩:=bC h;obtain⟨a2,h2,h⟩:=bC h;obtain⟨l,e1,k1,n1,h,o1,u1⟩:=lZ h;obtain⟨m,e2,k2,n2,⟨hF,hK⟩,o2,u2⟩:=lZ h;refine⟨_,hK,λhg β act w hR dst t' p af g w' hh=>?_⟩;obtain⟨rfl,f1⟩:=u1 _ (gX hF hg);obtain⟨rfl,f1,f2⟩:=u2 _ f1;exact Jl (run_underlying hu w') (kH B7 w') ((hR.ev hx).trans (jZ hs β)) ((hR.ev h1).trans (dw o1 β)) ((hR.ev h2).trans (dw o2 β)) f1 f2 (ba _)
 ·obtain⟨a1,h1,h⟩:=bC h;obtain⟨a2,h2,h⟩:=bC h;obtain⟨l,e1,k1,n1,h,o1,u1⟩:=lZ h;obtain⟨m,e2,k2,n2,⟨hF,hK⟩,o2,u2⟩:=lZ h;refine⟨_,hK,λhg β act w hR dst t' p af g w' hh=>?_⟩;obtain⟨rfl,f1⟩:=u1 _ (gX hF hg);obtain⟨rfl,f1,f2⟩:=u2 _ f1;exact Jm (run_underlying hu w') (kH B7 w') ((hR.ev hx).trans (jZ hs β)) ((hR.ev h1).trans (dw o1 β)) ((hR.ev h2).trans (dw o2 β)) (bh _) f1 f2
 ·obtain⟨a1,h1,h⟩:=bC h;obtain⟨a2,h2,h⟩:=bC h;obtain⟨a3,h3,h⟩:=bC h;obtain⟨l,e1,k1,n1,h,o1,u1⟩:=lZ h;obtain⟨m,e2,k2,n2,h,o2,u2⟩:=lZ h;obtain⟨q,e3,k3,n3,⟨hF,hK⟩,o3,u3⟩:=lZ h;refine⟨_,hK,λhg β act w hR dst t' p af g w' hh=>?_⟩;obtain⟨rfl,f1⟩:=u1 _ (gX hF hg);obtain⟨rfl,f1⟩:=u2 _ f1;obtain⟨rfl,f1,f2,f3⟩:=u3 _ f1;exact Jn (run_underlying hu w') (kH B7 w') ((hR.ev hx).trans (jZ hs β)) ((hR.ev h1).trans (dw o1 β)) ((hR.ev h2).trans (dw o2 β)) ((hR.ev h3).trans (dw o3 β)) f1 f2 f3
 exact h.elim
theorem aaY{t}{x}{lo hi mx}{a}{s}(hu:P.underlying t=some .string)(hx:st.ev x=some a)(hs:vm a=some s)(h:slT gs s st lo hi mx K):∃v,K v/\(gh gs->Y P st (.slice t x lo hi mx) v):=by
 unfold slT at h;split at h
 ·obtain⟨a1,h1,h⟩:=bC h;obtain⟨l,e1,k1,n1,⟨hF,hK⟩,o1,u1⟩:=lZ h;refine⟨_,hK,λhg β act w hR dst t' p af g w' hh=>?_⟩;obtain⟨rfl,f1⟩:=u1 _ (gX hF hg);exact D6 (run_underlying hu w') ((hR.ev hx).trans (ir hs β)) ((hR.ev h1).trans (dw o1 β)) f1 (ba _)
 ·obtain⟨a1,h1,h⟩:=bC h;obtain⟨l,e1,k1,n1,⟨hF,hK⟩,o1,u1⟩:=lZ h;refine⟨_,hK,λhg β act w hR dst t' p af g w' hh=>?_⟩;obtain⟨rfl,f1⟩:=u1 _ (gX hF hg);exact D7 (run_underlying hu w') ((hR.ev hx).trans (ir hs β)) ((hR.ev h1).trans (dw o1 β)) (bh _) f1
 ·obtain⟨a1,h1,h⟩:=bC h;obtain⟨a2,h2,h⟩:=bC h;obtain⟨l,e1,k1,n1,h,o1,u1⟩:=lZ h;obtain⟨m,e2,k2,n2,⟨hF,hK⟩,o2,u2⟩:=lZ h;refine⟨_,hK,λhg β act w hR dst t' p af g w' hh=>?_⟩;obtain⟨rfl,f1⟩:=u1 _ (gX hF hg);obtain⟨rfl,f1,f2⟩:=u2 _ f1;exact D8 (run_underlying hu w') ((hR.ev hx).trans (ir hs β)) ((hR.ev h1).trans (dw o1 β)) ((hR.ev h2).trans (dw o2 β)) f1 f2
 exact h.elim
theorem V8{t}{d}{l:List az}{off n}(hu:P.underlying t=some d)(hn:sz P t n=true)(rX:lX d=true) w:(part t l.toArray off).run P w=.ok (.agg ((l.drop off).take n).toArray) w:=by
 have h:=kG (P:=P) hu w;rw[rX]at h;unfold part;simp only[Sem.run_bind,h,Result.andThen_ok,zC,pG hn w,Sem.run_pure];rw[List.extract_toArray,List.extract_eq_take_drop,eE]
theorem Rg{t}{d}{l:List az}{off}{v}(hu:P.underlying t=some d)(rX:lX d=false)(hv:l[off]? =some v) w:(part t l.toArray off).run P w=.ok v w:=by
 have h:=kG (P:=P) hu w;rw[rX]at h;unfold part;simp[Sem.run_bind,h,Result.andThen_ok];simp[hv]
theorem Jz{o:Op}(h:pur P gs st o K):∃v,K v/\(gh gs->Y P st o v):=by
 unfold pur at h;split at h
 ·obtain⟨v,hx,hK⟩:=bC h;exact⟨v,hK,λ_ β act w hR dst t' p af g w' hh=>by simp only[execOp,hR.ev hx,Sem.run_pure]⟩
 ·obtain⟨v,hx,hK⟩:=bC h;exact⟨v,hK,λ_ β act w hR dst t' p af g w' hh=>by simp only[execOp,hR.ev hx,Sem.run_pure]⟩
 ·obtain⟨c,hc,h⟩:=bC h;split at h
  ·obtain⟨v,hx,hK⟩:=bC h;exact⟨v,hK,λ_ β act w hR dst t' p af g w' hh=>Lc (hR.ev hc) (hR.ev hx)⟩
  ·obtain⟨v,hx,hK⟩:=bC h;exact⟨v,hK,λ_ β act w hR dst t' p af g w' hh=>Ld (hR.ev hc) (hR.ev hx)⟩
  exact h.elim
 ·rename_i op t x y ty;obtain⟨a,hx,h⟩:=bC h;obtain⟨b,hy,h⟩:=bC h;cases hn:Lr y with
  | true=>
   rw[hn]at h;have e:=Rf hn;subst e;obtain⟨v,hK,hr⟩:=aaR hx h;exact⟨v,hK,λhg β act w hR dst t' p af g w' hh=>hr hg β act w hR _ _ _ _ _ _⟩
  | false=>
  rw[hn]at h;obtain⟨v,hK,hr⟩:=V5 h;exact⟨v,hK,λhg β act w hR dst t' p af g w' hh=>hr hg β act _ _ _ _ _ _ _ _ _ (hR.ev hx) (hR.ev hy)⟩
 ·obtain⟨a,hx,h⟩:=bC h;split at h
  ·exact⟨_,h,λ_ β act w hR dst t' p af g w' hh=>by simp only[execOp,hR.ev hx];rfl⟩
  ·exact⟨_,h,λ_ β act w hR dst t' p af g w' hh=>by simp only[execOp,hR.ev hx];rfl⟩
  exact h.elim
 ·obtain⟨a,hx,h⟩:=bC h;obtain⟨⟨k,n⟩,hp,h⟩:=bC h;exact⟨_,h,λ_ β act w hR dst t' p af g w' hh=>by simp only[execOp,hR.ev hx,dw hp];rfl⟩
 ·obtain⟨a,hx,h⟩:=bC h;exact aaV hx h
 ·rename_i x i;obtain⟨a,hx,h⟩:=bC h;split at h
  ·rename_i l;obtain⟨h1,h⟩:=dD h;obtain⟨v,hv,hK⟩:=bC h;refine⟨v,hK,λ_ β act w hR dst t' p af g w' hh=>?_⟩;have e:=(hR.ev hx).trans (by
    show Value.tuple (qe β l).toArray=_;rw[mC β h1])
   have e2:(cD β (mN l))[i]? =some (val β v):=by rw[cD,ch,hv];rfl
   simp only[execOp,e,Instr.extract];simp[e2]
  exact h.elim
 ·rename_i t parts;obtain⟨ps,hp,h⟩:=bC h;obtain⟨r,hr,hK⟩:=bC h;refine⟨_,hK,λ_ β act w hR dst t' p af g w' hh=>?_⟩;have e:val β (.agg (mO r))=.agg (cD β r).toArray:=by
   show Value.agg (qe β (mO r)).toArray=_;rw[rl]
  rw[e];obtain⟨pl⟩:=parts;exact VS (hR.Vv hp) (V7 hr β w')
 ·rename_i fn fs cs;split at h
  ·rename_i f;obtain⟨a,ha,h⟩:=bC h;obtain⟨b,hb,hK⟩:=bC h;refine⟨_,hK,λ_ β act w hR dst t' p af g w' hh=>?_⟩;obtain⟨cl⟩:=cs;have:=Ak (P:=P) (w:=w') (dst:=dst) (t':=t') (p:=p) (af:=af) (g:=g) (fn:=.func f) (hR.ND ha) (hR.ND hb);rw[<-rl,<-rl]at this;exact this
  exact h.elim
 ·obtain⟨a,hx,h⟩:=bC h;obtain⟨d,hu,h⟩:=bC h;obtain⟨h1,hK⟩:=dD h;simp at h1;refine⟨_,hK,λ_ β act w hR dst t' p af g w' hh=>?_⟩;have e:val β a=val β0 a:=iO (g:=λ_=>false) (λi h=>aal) a h1.2;exact VT (run_underlying hu w') (by unfold nif at h1;cases d<;>first | rfl | exact h1.1) ((hR.ev hx).trans e)
 ·obtain⟨a,hx,h⟩:=bC h;split at h
  ·exact⟨_,h,λ_ β act w hR dst t' p af g w' hh=>QP (hR.ev hx)⟩
  ·exact⟨_,h,λ_ β act w hR dst t' p af g w' hh=>QP (hR.ev hx)⟩
  ·obtain⟨q,hF,hK⟩:=h;refine⟨_,hK,λhg β act w hR dst t' p af g w' hh=>QP ((hR.ev hx).trans ?_)⟩;have:=gX hF hg;subst this;rfl
  ·exact⟨_,h,λ_ β act w hR dst t' p af g w' hh=>by
    have e:=hR.ev hx;simp only[execOp,e,Sem.run_pure,val,qe,Ab]⟩
  exact h.elim
 ·obtain⟨a,hx,h⟩:=bC h;split at h
  ·rename_i fs hu;obtain⟨f,hf,h⟩:=bC h;obtain⟨hs,h⟩:=dD h;have hs:=cH hs;have hso:(P.info? f.type).isSome=true:=by
    unfold nE at hs;split at hs
    ·rename_i hi;rw[hi];rfl
    omega
   obtain⟨m,hm⟩:∃m,nE P f.type=m+1:=⟨nE P f.type-1,aG⟩
   split at h
   ·exact⟨_,h,λ_ β act w hR dst t' p af g w' hh=>K9 (run_underlying hu w') hf (by rw[kH hso,hm]) (hR.ev hx) rfl⟩
   ·exact⟨_,h,λ_ β act w hR dst t' p af g w' hh=>K9 (run_underlying hu w') hf (by rw[kH hso,hm]) (hR.ev hx) (Ek _ _ _)⟩
   exact h.elim
  exact h.elim
 ·obtain⟨a,hx,h⟩:=bC h;split at h
  ·rename_i l fs hu;obtain⟨f,hf,h⟩:=bC h;obtain⟨d,hd,h⟩:=bC h;obtain⟨h1,hK⟩:=dD h;simp only[aR,bU]at h1;obtain⟨⟨hl,hsz⟩,kT⟩:=h1;refine⟨_,hK,λ_ β act w hR dst t' p af g w' hh=>?_⟩;have e:=(hR.ev hx).trans (by
    show Value.agg (qe β l).toArray=_;rw[mC β hl])
   have hv:cD β (((mN l).drop f.offset).take (nE P f.type))=((cD β (mN l)).drop f.offset).take (nE P f.type):=by
    simp only[cD,nC,ra]
   have key:(part f.type (cD β (mN l)).toArray f.offset).run P w'=.ok (val β (Og (lX d) (((mN l).drop f.offset).take (nE P f.type)))) w':=by
    cases rX:lX d with
    | true=>
     have e2:=pe rX β (((mN l).drop f.offset).take (nE P f.type));rw[rX]at e2;rw[e2,hv];rw[V8 (l:=cD β (mN l)) (off:=f.offset) hd hsz rX w'];congr 3;rw[pX];simp only[cJ,cP,fF];omega
    | false=>
     rcases kT with kT | kT
     ·rw[rX]at kT;cases kT
     obtain⟨s,hs⟩:=AD kT;rw[hs];refine Rg hd rX ?_ w';have h4:(((mN l).drop f.offset).take (nE P f.type))[0]? =some s:=by rw[hs];rfl
     rw[List.getElem?_take]at h4;split at h4
     ·rw[jc,fJ]at h4;rw[cD,ch,h4];rfl
     cases h4
   simp only[execOp,e,Instr.field,Sem.run_bind,run_underlying hu,Result.andThen_ok,hf,asAgg,Sem.run_pure,key]
  exact h.elim
 ·obtain⟨a,hx,h⟩:=bC h;obtain⟨j,hj,h⟩:=bC h;obtain⟨⟨k,n⟩,hn,h⟩:=bC h;split at h
  ·rename_i e hu;obtain⟨s,hs,h⟩:=bC h;obtain⟨hi,h⟩:=dD h;obtain⟨q,hF,hK⟩:=h;exact⟨_,hK,λhg β act w hR dst t' p af g w' hh=>GA (run_underlying hu w') (kH hi w') ((hR.ev hx).trans (jZ hs β)) ((hR.ev hj).trans (dw hn β)) (gX hF hg)⟩
  ·rename_i len e hu;obtain⟨hi,h⟩:=dD h;split at h
   ·obtain⟨h1,hK⟩:=dD h;simp at h1;exact⟨_,hK,λhg β act w hR dst t' p af g w' hh=>vQ (run_underlying hu w') (kH hi w') (hR.ev hx) (hR.ev hj) h1.1 h1.2 (Ek _ _ _)⟩
   ·obtain⟨h1,hK⟩:=dD h;simp at h1;exact⟨_,hK,λhg β act w hR dst t' p af g w' hh=>vQ (run_underlying hu w') (kH hi w') (hR.ev hx) (hR.ev hj) h1.1 h1.2 rfl⟩
   ·obtain⟨q,hF,hK⟩:=h;exact⟨_,hK,λhg β act w hR dst t' p af g w' hh=>vQ (run_underlying hu w') (kH hi w') (hR.ev hx) ((hR.ev hj).trans (dw hn β)) (gX hF hg).1 (gX hF hg).2.1 (gX hF hg).2.2⟩
   ·obtain⟨_,⟨h0,h1⟩,hK⟩:=dD h;exact⟨_,Lu hK h0 h1,λhg β act w hR dst t' p af g w' hh=>vQ (run_underlying hu w') (kH hi w') (hR.ev hx) ((hR.ev hj).trans (dw hn β)) h0 h1 (Ek _ _ _)⟩
   exact h.elim
  exact h.elim
 ·obtain⟨a,hx,h⟩:=bC h;exact aaU hx h
 ·obtain⟨a,hx,h⟩:=bC h;obtain⟨j,hj,h⟩:=bC h;obtain⟨⟨k,n⟩,hn,h⟩:=bC h;split at h
  ·rename_i hu;obtain⟨s,hs,h⟩:=bC h;obtain⟨c,hF,hK⟩:=h;exact⟨_,hK,λhg β act w hR dst t' p af g w' hh=>Jj (run_underlying hu w') ((hR.ev hx).trans (ir hs β)) ((hR.ev hj).trans (dw hn β)) (gX hF hg).1 (gX hF hg).2⟩
  exact h.elim
 ·obtain⟨a,hx,h⟩:=bC h;split at h
  ·rename_i e hu;obtain⟨s,hs,h⟩:=bC h;obtain⟨hi,h⟩:=dD h;exact aaX hu hi hx hs h
  ·rename_i hu;obtain⟨s,hs,h⟩:=bC h;exact aaY hu hx hs h
  exact h.elim
 ·rename_i c;obtain⟨callee,⟨xs⟩,⟨ts⟩⟩:=c;split at h
  ·rename_i b hb;subst hb;exact aaW h
  exact h.elim
 exact h.elim
end
structure X3 (β:Nat->Nat) (n:Nat) (fr:List (Nat×Nat×SV)) (D:List Deferred) (a:Act):Prop where
 sz:a.tmps.size=n
 df:a.defers=D
 at_:∀i p,dQ fr i=some p->i<n->a.tmps[i]? =some (val β p.2)
theorem rm{β}{n}{fr}{D}{a}(h:X3 β n fr D a):∃us,a=frD n us (cv β fr) D:=by
 refine⟨λi=>(a.tmps[i]?).getD undef,?_⟩;obtain⟨tmps,df⟩:=a;obtain⟨h1,h2,h3⟩:=h;dsimp only at h1 h2 h3;congr 1;apply Array.ext';apply gu;intro i;by_cases hi:i<n
 ·rw[jY _ _ _ _ _ hi,bO];cases hl:dQ fr i with
  | none=>
   rw[zG (l:=cv β fr) aen];have:i<tmps.size:=aG
   simp[this]
  | some p=>
   rw[pd (l:=cv β fr) (v:=val β p.2) aen];have:=h3 i p hl hi;simpa using this
 rw[cN aae,cN (by rw[kF];exact qV hi)]
theorem V9{β}{n}{fr}{D}{us}:X3 β n fr D (frD n us (cv β fr) D):=by
 refine⟨by simp[frD,kF],rfl,λi p hl hi=>?_⟩;simp[frD,je];rw[jY _ _ _ _ _ hi,bO,pd (l:=cv β fr) (v:=val β p.2) aen]
theorem Rep.ok{β}{st}{a}{w}(h:Rep β st a w):X3 β st.n st.fr (YN st.df) a:=by
 obtain⟨us,rfl⟩:=h.fr;exact V9
def tst(st:St)(ops:List Oper)(j:Nat):Option (Nat×SV):=match gR ops j with
 | some o=>(match o.dst with
  | some d=>(st.get d).map λs=>(d,s)
  | none=>none)
 | none=>none
theorem AE{st}{ops}{j d}{s}(h:tst st ops j=some (d,s)):∃oj,gR ops j=some oj/\oj.dst=some d/\st.get d=some s:=by
 unfold tst at h;split at h
 ·rename_i o ho;split at h
  ·rename_i e he;cases hg:st.get e with
   | none=>rw[hg]at h;cases h
   | some u=>
    rw[hg]at h;obtain⟨rfl,rfl⟩:=h;exact⟨o,ho,he,hg⟩
  cases h
 cases h
section
variable {β:Nat->Nat} {st:St} {a:Act} {w:ay} {ops:List Oper} {o:Oper} {j d:Nat} {want b:Bool}
theorem qg(hR:Rep β st a w)(hg:o.guard=some (j,want)){s}(ht:tst st ops j=some (d,s))(hs:val β s=.bool b):Region.wanted o (yielded ops.toArray a.tmps)=(b==want):=by
 obtain⟨oj,h1,h2,h3⟩:=AE ht;obtain⟨us,rfl⟩:=hR.fr;exact vj hg h1 h2 (by rw[<-hs];exact St.evO β h3) rfl
theorem xD(hR:Rep β st a w)(hg:o.guard=some (j,want))(ht:tst st ops j=some (d,.un)):Region.wanted o (yielded ops.toArray a.tmps)=false:=by
 obtain⟨oj,h1,h2,h3⟩:=AE ht;obtain⟨us,rfl⟩:=hR.fr;exact wuF hg h1 h2 (St.evO β (x:=.tmp d) (s:=.un) h3)
theorem Rep.set(hR:Rep β st a w){s s'}(hg:st.get d=some s)(hv:val β s=val β s'):Rep β (st.put (some d) s') a w:=by
 refine⟨rm ⟨hR.ok.sz,hR.ok.df,λi p hl hi=>?_⟩,hR.bx,hR.ne,hR.only,hR.still⟩;simp[St.put,dQ]at hl;cases hb:Nat.beq d i with
 | true=>
  rw[hb]at hl;simp at hl;subst hl;have:=cd hb;subst this;unfold St.get at hg;cases bT:Nat.blt d st.n with
  | false=>rw[bT]at hg;cases hg
  | true=>
   rw[bT,my]at hg;cases hq:dQ st.fr d with
   | none=>rw[hq]at hg;cases hg
   | some q=>
    rw[hq]at hg;simp at hg;rw[hR.ok.at_ d q hq hi,hg,hv]
 | false=>rw[hb]at hl;exact hR.ok.at_ i p aeD hi
end
section
variable {P:Program} {ops:List Oper} {w:ay}
def vZ(P:Program)(ops:List Oper)(w:ay):List Oper->Act->Act->Prop
 | [],a,a'=>a'=a
 | o::r,a,a'=>(Region.wanted o (yielded ops.toArray a.tmps)=true/\∃v,(∀w',w'.heap=w.heap->(execOp a.eval o).run P w'=.ok (.value v) w')/\vZ P ops w r (a.put o.dst v) a')∨
  (Region.wanted o (yielded ops.toArray a.tmps)=false/\vZ P ops w r (a.put o.dst undef) a')
theorem AF:∀{l m:List Oper} {a b c:Act},vZ P ops w l a b->vZ P ops w m b c->vZ P ops w (l++m) a c
 | [],_,_,_,_,h,k=>by
  subst h;exact k
 | o::r,m,a,b,c,h,k=>by
  rcases h with⟨h1,v,h2,h3⟩ | ⟨h1,h3⟩
  ·exact .inl ⟨h1,v,h2,AF (l:=r) h3 k⟩
  exact .inr ⟨h1,AF (l:=r) h3 k⟩
theorem El{Q}:∀{l rest:List Oper} {a a':Act},vZ P ops w l a a'->wpList P ops.toArray Q rest a' w->wpList P ops.toArray Q (l++rest) a w
 | [],_,_,_,h,k=>by
  subst h;exact k
 | o::r,m,a,b,h,k=>by
  rcases h with⟨h1,v,h2,h3⟩ | ⟨h1,h3⟩
  ·exact Ag v h1 (h2 w rfl) rfl (El (l:=r) h3 k)
  exact QO h1 rfl (El (l:=r) h3 k)
theorem JA{Q}:∀{l rest:List Oper} {a a':Act},vZ P ops w l a a'->wpQuiet P ops.toArray (λw'=>∃n,w'=w.drewN n) Q rest a'->wpQuiet P ops.toArray (λw'=>∃n,w'=w.drewN n) Q (l++rest) a
 | [],_,_,_,h,k=>by
  subst h;exact k
 | o::r,m,a,b,h,k=>by
  rcases h with⟨h1,v,h2,h3⟩ | ⟨h1,h3⟩
  ·exact afv v h1 (by rintro _ ⟨n,rfl⟩;exact h2 _ rfl) rfl (JA (l:=r) h3 k)
  exact al0 h1 rfl (JA (l:=r) h3 k)
def Em:List Oper->List Nat
 | []=>[]
 | o::r=>match o.dst with
  | some d=>d::Em r
  | none=>Em r
theorem kr(a:Act) d v:(a.put d v).tmps.size=a.tmps.size/\(a.put d v).defers=a.defers/\∀i,d≠some i->(a.put d v).tmps[i]? =a.tmps[i]? :=by
 cases d with
 | none=>exact⟨rfl,rfl,λ_ _=>rfl⟩
 | some k=>
  refine⟨by simp[Act.put],rfl,λi hi=>?_⟩;simp[Act.put];rw[gK (λe=>hi (by rw[e]))]
theorem AG:∀{l:List Oper} {a a':Act},vZ P ops w l a a'->a'.tmps.size=a.tmps.size/\a'.defers=a.defers/\∀i,(Em l).elem i=false->a'.tmps[i]? =a.tmps[i]?
 | [],_,_,h=>by
  subst h;exact⟨rfl,rfl,λ_ _=>rfl⟩
 | o::r,a,b,h=>by
  have key:∀v,vZ P ops w r _ b->b.tmps.size=a.tmps.size/\b.defers=a.defers/\∀i,(Em (o::r)).elem i=false->b.tmps[i]? =a.tmps[i]? :=λv h3=>by
   obtain⟨k1,k2,k3⟩:=AG h3;obtain⟨p1,p2,p3⟩:=kr a o.dst v;refine⟨k1.trans p1,k2.trans p2,λi hi=>?_⟩;cases hd:o.dst with
   | none=>
    simp only[Em,hd]at hi;rw[k3 i hi,p3 i (by rw[hd];simp)]
   | some d=>
    simp only[Em,hd,lA]at hi;split at hi
    ·cases hi
    rename_i gq;rw[k3 i hi,p3 i (by rw[hd];intro e;simp at e;subst e;simp at gq)]
  rcases h with⟨h1,v,h2,h3⟩ | ⟨h1,h3⟩
  ·exact key v h3
  exact key _ h3
end
def afL(ops:List Oper):Nat->Nat->Nat->Bool
 | 0,_,_=>false
 | f+1,q,j=>bif Nat.beq q j then true else match gR ops q with
  | some o=>(match o.guard with
   | some (r,_)=>afL ops f r j
   | none=>false)
  | none=>false
def y0(ops:List Oper)(j:Nat):List Oper->Nat
 | []=>0
 | o::r=>match o.guard with
  | some (q,_)=>bif afL ops 50 q j then y0 ops j r+1 else 0
  | none=>0
def mrg(t:Bool)(a b:SV):Option SV:=match a,b with
 | .bl true,.bl false=>some (.bt t)
 | .bl true,.bt y=>some (.bt (t||y))
 | .bt x,.bl false=>some (.bt (t&&x))
 | .bl false,.bl true=>some (.bt (!t))
 | .bl false,.bt y=>some (.bt (!t&&y))
 | .bt x,.bl true=>some (.bt (!t||x))
 | .bt x,.bt y=>some (.bt (bif t then x else y))
 | .bl true,.bl true=>some (.bl true)
 | .bl false,.bl false=>some (.bl false)
 | _,_=>none
theorem Rh{t}{a b v}(h:mrg t a b=some v) β:(t=true->val β v=val β a)/\(t=false->val β v=val β b):=by
 unfold mrg at h;split at h<;>simp at h<;>subst h<;>refine⟨λe=>?_,λe=>?_⟩<;>subst e<;>simp[val,qe]
def AH(ds:List Nat):List (Nat×Nat×SV)->List (Nat×Nat×SV)
 | []=>[]
 | p::r=>bif ds.elem p.1 then AH ds r else p::AH ds r
theorem kO{ds}:∀{l:List _} {i:Nat},(ds.elem i=true->dQ (AH ds l) i=none)/\(ds.elem i=false->dQ (AH ds l) i=dQ l i)
 | [],i=>⟨λ_=>rfl,λ_=>rfl⟩
 | (k,p)::r,i=>by
  obtain⟨h1,h2⟩:=kO (ds:=ds) (l:=r) (i:=i);simp only[AH];cases hk:ds.elem k with
  | true=>
   simp only[my];refine⟨h1,λhi=>?_⟩;rw[h2 hi];simp[dQ];cases hb:Nat.beq k i with
   | true=>have:=cd hb;subst this;rw[hi]at hk;cases hk
   | false=>rfl
  | false=>
   simp only[uL,dQ];cases hb:Nat.beq k i with
   | true=>
    have:=cd hb;subst this;exact⟨λhi=>(by rw[hi]at hk;cases hk),λ_=>rfl⟩
   | false=>exact⟨h1,h2⟩
def St.oI(st:St)(ds:List Nat):St:={st with fr:=AH ds st.fr}
theorem Ext.oI st ds:Ext st (st.oI ds):=
 ⟨rfl,ba _,λi k v hl _=>by
  cases he:ds.elem i with
  | true=>rw[show dQ (st.oI ds).fr i=none from(kO (l:=st.fr)).1 he]at hl;cases hl
  | false=>rw[show dQ (st.oI ds).fr i=dQ st.fr i from(kO (l:=st.fr)).2 he]at hl;exact hl,λi b h ho _=>⟨b,h,ho,rfl,rfl,rfl,λ_ h=>h⟩,Ra,Gk⟩
structure Alike (s t:St):Prop where
 bx:t.bx=s.bx
 w0:t.w0=s.w0
 mv:t.mv=s.mv
 dt:t.dt=s.dt
 n:t.n=s.n
 df:t.df=s.df
theorem Alike.refl s:Alike s s:=⟨rfl,rfl,rfl,rfl,rfl,rfl⟩
theorem Alike.trans{s t u}(h:Alike s t)(k:Alike t u):Alike s u:=⟨k.bx.trans h.bx,k.w0.trans h.w0,k.mv.trans h.mv,k.dt.trans h.dt,k.n.trans h.n,k.df.trans h.df⟩
theorem Alike.put s d v:Alike s (s.put d v):=by cases d<;>exact⟨rfl,rfl,rfl,rfl,rfl,rfl⟩
theorem Rep.alike{β}{s t}{a a'}{w}(h:Rep β s a w)(k:Alike s t)(hf:X3 β t.n t.fr (YN t.df) a'):Rep β t a' w:=by
 obtain⟨k1,k2,k3,k4,k5,k6⟩:=k;refine⟨rm hf,λi b hb ho=>?_,λi j bi bj h1 h2 h3 h4=>?_,?_,λhm=>?_⟩
 ·rw[k1]at hb;obtain⟨g1,g2,g3⟩:=h.bx i b hb ho;exact⟨g1,g2,λe=>by rw[k2];exact g3 e⟩
 ·rw[k1]at h1 h2;exact h.ne i j bi bj h1 h2 h3 h4
 ·rw[k2,k4];exact h.only
 rw[k2];exact h.still (by rw[<-k3];exact hm)
def xE(P:Program)(ops:List Oper):Nat->List (Bool×Bool)->List Oper->St->(St->Prop)->Prop
 | 0,_,_,_,_=>False
 | _+1,_,[],st,K=>K st
 | f+1,gs,o::rest,st,K=>match o.guard with
  | none=>pur P gs st o.op λv=>xE P ops f gs rest (st.put o.dst v) K
  | some (j,want)=>(match tst st ops j with
   | some (_,.un)=>xE P ops f gs rest (st.put o.dst .un) K
   | some (_,.bl b)=>bif b==want then pur P gs st o.op λv=>xE P ops f gs rest (st.put o.dst v) K else xE P ops f gs rest (st.put o.dst .un) K
   | some (d,.bt t)=>(match(o::rest)[y0 ops j (o::rest)]? with
    | some pk=>(match pk.dst with
     | some k=>
      xE P ops f (gs++[(t,true)]) ((o::rest).take (y0 ops j (o::rest)+1)) (st.put (some d) (.bl true)) λsa=>
      cj (sa.get k) λva=>
      xE P ops f (gs++[(t,false)]) ((o::rest).take (y0 ops j (o::rest)+1)) (st.put (some d) (.bl false)) λsb=>
      cj (sb.get k) λvb=>
      cj (mrg t va vb) λv=>
      xE P ops f gs ((o::rest).drop (y0 ops j (o::rest)+1)) ((st.oI (Em ((o::rest).take (y0 ops j (o::rest)+1)))).put (some k) v) K
     | none=>False)
    | none=>False)
   | _=>False)
theorem JB:∀{gs:List _} {t b:Bool},gh gs->t=b->gh (gs++[(t,b)])
 | [],_,_,_,h=>⟨h,trivial⟩
 | _::r,_,_,h,k=>⟨h.1,JB (gs:=r) h.2 k⟩
theorem rn{P}{ops}:∀{f:Nat} {gs:List _} {l:List Oper} {st:St} {K:St->Prop},xE P ops f gs l st K->
  ∃cK,K cK/\Ext st cK/\Alike st cK/\(gh gs->∀β a w,Rep β st a w->∃a',vZ P ops w l a a'/\Rep β cK a' w)
 | 0,_,_,_,_,h=>h.elim
 | _+1,gs,[],st,K,h=>⟨st,h,Ext.refl _,Alike.refl _,λ_ β a w hR=>⟨a,rfl,hR⟩⟩
 | f+1,gs,o::rest,st,K,h=>by
  have one:(Region.wanted o=λ_=>true)∨True->∀{K:St->Prop},(pur P gs st o.op λv=>xE P ops f gs rest (st.put o.dst v) K)->
    (gh gs->∀β a w,Rep β st a w->Region.wanted o _=true)->
    ∃cK,K cK/\Ext st cK/\Alike st cK/\(gh gs->∀β a w,Rep β st a w->∃a',vZ P ops w (o::rest) a a'/\Rep β cK a' w):=λ_ K h hw=>by
   obtain⟨v,h1,hy⟩:=Jz h;obtain⟨cK,k1,k2,k3,k4⟩:=rn h1;refine⟨cK,k1,(Ext.put _ _ _).trans k2,(Alike.put _ _ _).trans k3,λhg β a w hR=>?_⟩;obtain⟨a',g1,g2⟩:=k4 hg β _ w (hR.put o.dst v);exact⟨a',.inl ⟨hw hg β a w hR,_,λw' hh=>hy hg β a w hR _ _ _ _ _ w' λ_=>hh,g1⟩,g2⟩
  have no:∀{K:St->Prop},xE P ops f gs rest (st.put o.dst .un) K->(gh gs->∀β a w,Rep β st a w->Region.wanted o _=false)->
    ∃cK,K cK/\Ext st cK/\Alike st cK/\(gh gs->∀β a w,Rep β st a w->∃a',vZ P ops w (o::rest) a a'/\Rep β cK a' w):=λh1 hw=>by
   obtain⟨cK,k1,k2,k3,k4⟩:=rn h1;refine⟨cK,k1,(Ext.put _ _ _).trans k2,(Alike.put _ _ _).trans k3,λhg β a w hR=>?_⟩;obtain⟨a',g1,g2⟩:=k4 hg β _ w (hR.put o.dst .un);exact⟨a',.inr ⟨hw hg β a w hR,g1⟩,g2⟩
  unfold xE at h;split at h
  ·rename_i hg0;exact one (.inr trivial) h λ_ β a w hR=>wn hg0
  rename_i j want hg0;split at h
  ·rename_i d ht;exact no h λ_ β a w hR=>xD hR hg0 ht
  ·rename_i d b ht;cases hb:(b==want)with
   | true=>
    rw[hb]at h;exact one (.inr trivial) h λ_ β a w hR=>by rw[qg hR hg0 ht (b:=b) rfl,hb]
   | false=>
    rw[hb]at h;exact no h λ_ β a w hR=>by rw[qg hR hg0 ht (b:=b) rfl,hb]
  ·rename_i d t ht;obtain⟨oj,Qq,ZX,Vx⟩:=AE ht;split at h
   ·rename_i pk X4;split at h
    ·rename_i k hk;generalize y0 ops j _=m at h X4;obtain⟨sa,ha,ea1,ea2,ea3⟩:=rn h;obtain⟨va,hva,ha⟩:=bC ha;obtain⟨sb,hb,eb1,eb2,eb3⟩:=rn ha;obtain⟨vb,hvb,hb⟩:=bC hb;obtain⟨v,hv,hb⟩:=bC hb;obtain⟨cK,k1,k2,k3,k4⟩:=rn hb;refine⟨cK,k1,((Ext.oI _ _).trans (Ext.put _ _ _)).trans k2,((⟨rfl,rfl,rfl,rfl,rfl,rfl⟩:Alike st (st.oI _)).trans (Alike.put _ _ _)).trans k3,λhg β a w hR=>?_⟩;have fin:∀(s:SV) u x,Rep β u a w->(∃a',vZ P ops w ((o::rest).take (m+1)) a a'/\∃u',Rep β u' a' w/\u'.n=st.n/\u'.get k=some x/\val β v=val β x)->∃a',vZ P ops w (o::rest) a a'/\Rep β cK a' w:=by
      rintro s u x hu ⟨a1,g1,u',r1,r2,r3,r4⟩;obtain⟨f1,f2,f3⟩:=AG g1;have ik:Rep β ((st.oI (Em ((o::rest).take (m+1)))).put (some k) v) a1 w:=by
       refine hR.alike ((⟨rfl,rfl,rfl,rfl,rfl,rfl⟩:Alike st (st.oI _)).trans (Alike.put _ _ _)) ⟨f1.trans hR.ok.sz,f2.trans hR.ok.df,λi p hl hi=>?_⟩;simp only[St.put,dQ]at hl;cases Qr:Nat.beq k i with
       | true=>
        rw[Qr]at hl;simp at hl;subst hl;have:=cd Qr;subst this;rw[r4,<-r1.get r3];have hs:k<a1.tmps.size:=by rw[f1,hR.ok.sz];exact hi
        simp[Act.eval,hs]
       | false=>
        rw[Qr]at hl;cases he:(Em _).elem i with
        | true=>rw[show dQ (st.oI _).fr i=none from(kO (l:=st.fr)).1 he]at hl;cases hl
        | false=>
         rw[show dQ (st.oI _).fr i=dQ st.fr i from(kO (l:=st.fr)).2 he]at hl;rw[f3 i he];exact hR.ok.at_ i p hl hi
      obtain⟨a2,g2,g3⟩:=k4 hg β a1 w ik;refine⟨a2,?_,g3⟩;have:=AF g1 g2;rwa[dl]at this
     cases t with
     | true=>
      have hu:Rep β (st.put _ (.bl true)) a w:=hR.set Vx rfl;obtain⟨a1,g1,g2⟩:=ea3 (JB hg rfl) β a w hu;exact fin (.bl true) _ va hu ⟨a1,g1,sa,g2,ea2.n.trans rfl,hva,(Rh hv β).1 rfl⟩
     | false=>
      have hu:Rep β (st.put _ (.bl false)) a w:=hR.set Vx rfl;obtain⟨a1,g1,g2⟩:=eb3 (JB hg rfl) β a w hu;exact fin (.bl false) _ vb hu ⟨a1,g1,sb,g2,eb2.n.trans rfl,hvb,(Rh hv β).2 rfl⟩
    exact h.elim
   exact h.elim
  exact h.elim
theorem ku:∀l b i,dc (l++[b]) i=if i=l.length then some b else dc l i
 | [],b,0=>rfl
 | [],b,i+1=>rfl
 | a::r,b,0=>rfl
 | a::r,b,i+1=>by
  simp;exact ku r b i
theorem rq:∀{l:List ki} {i:Nat} {b:ki},dc l i=some b->i<l.length
 | a::r,0,_,_=>aac
 | a::r,i+1,b,h=>by simp[dc]at h;have:=rq h;simp;omega
theorem jl:∀{l:List ki} {i:Nat} {b c:ki},dc l i=some b->∀j,dc (Oe l i c) j=if j=i then some c else dc l j
 | a::r,0,b,c,_,0=>rfl
 | a::r,0,b,c,_,j+1=>rfl
 | a::r,i+1,b,c,h,0=>rfl
 | a::r,i+1,b,c,h,j+1=>by
  simp[dc]at h;simp;exact jl h j
theorem mP{b}{p q}(h:bif b then p else q):(b=true/\p)∨(b=false/\q):=by
 cases b with
 | true=>exact .inl ⟨rfl,h⟩
 | false=>exact .inr ⟨rfl,h⟩
def I4(bx:List ki)(i:Nat):Nat:=match dc bx i with
 | some b=>b.blk.getD 0
 | none=>0
def GY(bx:List ki)(i:Nat):Bool:=match dc bx i with
 | some b=>b.ok&&b.blk.isSome
 | none=>false
abbrev St.bl(st:St)(i:Nat):Nat:=I4 st.bx i
abbrev St.Kz(st:St)(i:Nat):Bool:=GY st.bx i
theorem Rep.bl{β}{st}{a}{w}(h:Rep β st a w) i (hg:st.Kz i=true):st.bl i=β i:=by
 unfold St.Kz GY at hg;unfold St.bl I4;cases hb:dc st.bx i with
 | none=>rw[hb]at hg;cases hg
 | some b=>
  rw[hb]at hg;simp at hg;cases hk:b.blk with
  | none=>rw[hk]at hg;cases hg.2
  | some k=>
   have:=(h.bx i b hb hg.1).at_ k hk;simp[hk,this]
theorem Rep.tQ{β}{st}{a}{w}(h:Rep β st a w){l}(hc:iq st.Kz l=true):cD st.bl l=cD β l:=gW (g:=st.Kz) h.bl l hc
theorem Rep.ahT{β}{st}{a}{w}(h:Rep β st a w){s}(hc:cln st.Kz s=true):val st.bl s=val β s:=iO (g:=st.Kz) h.bl s hc
def GZ:List ki->(List ki->Prop)->Prop
 | [],K=>K []
 | b::r,K=>match b.ok,b.blk with
  | true,none=>∀k,GZ r λr'=>K ({b with blk:=some k}::r')
  | _,_=>GZ r λr'=>K (b::r')
def sZ(k:Nat)(b:ki):ki:=match b.ok,b.blk with
 | true,none=>{b with blk:=some k}
 | _,_=>b
def mQ(β:Nat->Nat):Nat->List ki->List ki
 | _,[]=>[]
 | n,b::r=>sZ (β n) b::mQ β (n+1) r
theorem AI β:∀{bs:List ki} n {K:List ki->Prop},GZ bs K->K (mQ β n bs)
 | [],_,_,h=>h
 | b::r,n,K,h=>by
  unfold GZ at h;unfold mQ;split at h
  ·have:=AI β (n+1) (h (β n));have e:sZ (β n) b={b with blk:=some (β n)}:=by unfold sZ<;>simp_all
   rw[e];exact this
  rename_i h1;have:=AI β (n+1) h;have e:sZ (β n) b=b:=by
   unfold sZ;split
   ·rename_i e1 e2;exact absurd e2 (λe2=>h1 e1 e2)
   rfl
  rw[e];exact this
theorem AJ β:∀bs n i,dc (mQ β n bs) i=(dc bs i).map (sZ (β (n+i)))
 | [],_,_=>rfl
 | b::r,n,0=>rfl
 | b::r,n,i+1=>by
  simp[mQ,dc];rw[AJ β r _ i,show n+1+i=n+(i+1) by omega]
def G0(w0 w:ay):List ki->List ki->Prop->Prop
 | b::r,b'::r',p=>match b.ok,b.blk with
  | true,none=>w0.heap.size<=b'.blk.getD 0->b'.blk.getD 0<w.heap.size->G0 w0 w r r' p
  | _,_=>G0 w0 w r r' p
 | _,_,p=>p
theorem AK{β}{w0 w}:∀{bs:List ki} n {p:Prop},G0 w0 w bs (mQ β n bs) p->(∀i b,dc bs i=some b->b.ok=true->b.blk=none->w0.heap.size<=β (n+i)/\β (n+i)<w.heap.size)->p
 | [],_,_,h,_=>h
 | b::r,n,p,h,hb=>by
  simp[mQ]at h;unfold G0 at h;split at h
  ·rename_i h1 h2;obtain⟨e1,e2⟩:=hb 0 b rfl h1 h2;have e:(sZ (β n) b).blk.getD 0=β n:=by unfold sZ;rw[h1,h2];rfl
   rw[e]at h;exact AK _ (h e1 e2) λi c hc=>by have:=hb (i+1) c hc;rwa[show n+_=n+1+i by omega]at this
  exact AK _ h λi c hc=>by have:=hb (i+1) c hc;rwa[show n+_=n+1+i by omega]at this
def shB(g:Nat->Bool)(bl:Nat->Nat)(w:ay)(all:Bool):List ki->Prop->Prop
 | [],p=>p
 | b::r,p=>bif b.ok&&b.blk.isSome&&b.esc&&(all||!b.sh)&&iq g b.cells then Blk w (b.blk.getD 0) b.ty (cD bl b.cells)->shB g bl w all r p else shB g bl w all r p
theorem En{g}{bl}{w}{all}:∀{bs:List ki} {p:Prop},shB g bl w all bs p->(∀i b,dc bs i=some b->b.ok=true->b.blk.isSome=true->iq g b.cells=true->Blk w (b.blk.getD 0) b.ty (cD bl b.cells))->p
 | [],_,h,_=>h
 | b::r,p,h,hb=>by
  unfold shB at h;cases hc:(b.ok&&b.blk.isSome&&b.esc&&_&&iq g b.cells)with
  | true=>
   rw[hc]at h;simp at hc;exact En (h (hb 0 b rfl hc.1.1.1.1 hc.1.1.1.2 hc.2)) λi c hi=>hb (i+1) c hi
  | false=>
   rw[hc]at h;exact En h λi c hi=>hb (i+1) c hi
def wa:List ki->List ki
 | []=>[]
 | b::r=>{b with sh:=b.esc}::wa r
theorem qh:∀l i,dc (wa l) i=(dc l i).map λb=>{b with sh:=b.esc}
 | [],_=>rfl
 | b::r,0=>rfl
 | b::r,i+1=>qh r i
def AM(bs:List ki):List Nat->Bool
 | []=>true
 | i::r=>(match dc bs i with
  | some b=>b.ok
  | none=>false)&&AM bs r
theorem ub{bs}:∀{l:List Nat},AM bs l=true->∀i∈l,∃b,dc bs i=some b/\b.ok=true
 | i::r,h,j,hj=>by
  simp[AM,aR]at h;rcases aV.1 hj with rfl | hj
  ·split at h
   ·rename_i b hb;exact⟨b,hb,h.1⟩
   cases h.1
  exact ub h.2 j hj
def Oh:List ki->List ki->List (Nat×Bool)
 | b::r,b'::r'=>bif b.ok&&b.blk.isNone then(b'.blk.getD 0,b.esc)::Oh r r' else Oh r r'
 | _,_=>[]
def Ri(k:Nat):List (Nat×Bool)->Prop->Prop
 | [],p=>p
 | x::r,p=>bif x.2 then Ri k r p else(x.1≠k->Ri k r p)
def Rj(all:List (Nat×Bool)):List (Nat×Bool)->Prop->Prop
 | [],p=>p
 | x::r,p=>bif x.2 then Ri x.1 all (Rj all r p)else Rj all r p
theorem Eo{k}:∀{l:List _} {p:Prop},Ri k l p->(∀y,y∈l->y.2=false->y.1≠k)->p
 | [],_,h,_=>h
 | x::r,p,h,hd=>by
  unfold Ri at h;cases hx:x.2 with
  | true=>rw[hx]at h;exact Eo h λy hy=>hd y (dj _ hy)
  | false=>rw[hx]at h;exact Eo (h (hd x eB hx)) λy hy=>hd y (dj _ hy)
theorem Ep{all}:∀{l:List _} {p:Prop},Rj all l p->(∀x,x∈l->x.2=true->∀y,y∈all->y.2=false->y.1≠x.1)->p
 | [],_,h,_=>h
 | x::r,p,h,hd=>by
  unfold Rj at h;cases hx:x.2 with
  | true=>rw[hx]at h;exact Ep (Eo h λy hy hf=>hd x eB hx y hy hf) λz hz=>hd z (dj _ hz)
  | false=>rw[hx]at h;exact Ep h λz hz=>hd z (dj _ hz)
theorem wb{β}:∀{bs:List ki} n {x:Nat×Bool},x∈Oh bs (mQ β n bs)->∃i b,dc bs i=some b/\b.ok=true/\x=(β (n+i),b.esc)
 | [],_,_,h=>aal
 | b::r,n,x,h=>by
  simp[mQ,Oh]at h;cases hc:(b.ok&&b.blk.isNone)with
  | true=>
   rw[hc]at h;simp at hc;rcases aV.1 h with rfl | h
   ·refine⟨0,b,rfl,hc.1,?_⟩;have:(sZ (β n) b).blk.getD 0=β n:=by unfold sZ;rw[hc.1,hc.2];rfl
    rw[this];rfl
   obtain⟨i,c,h1,h2,h3⟩:=wb _ h;exact⟨i+1,c,h1,h2,by rw[h3,show n+1+i=n+(i+1) by omega]⟩
  | false=>
   rw[hc]at h;obtain⟨i,c,h1,h2,h3⟩:=wb _ h;exact⟨i+1,c,h1,h2,by rw[h3,show n+1+i=n+(i+1) by omega]⟩
def AN:List ki->List Nat
 | []=>[]
 | b::r=>bif b.ok&&b.blk.isSome&&b.esc&&!b.sh then b.blk.getD 0::AN r else AN r
def AO:List ki->List Nat
 | []=>[]
 | b::r=>bif b.ok&&b.blk.isSome&&!b.esc then b.blk.getD 0::AO r else AO r
def aa0(k:Nat):List Nat->Prop->Prop
 | [],p=>p
 | x::r,p=>x≠k->aa0 k r p
def Wa(Um:List Nat):List Nat->Prop->Prop
 | [],p=>p
 | k::r,p=>aa0 k Um (Wa Um r p)
theorem Lv{k}:∀{l:List Nat} {p:Prop},aa0 k l p->(∀y,y∈l->y≠k)->p
 | [],_,h,_=>h
 | x::r,p,h,hd=>Lv (h (hd x eB)) λy hy=>hd y (dj _ hy)
theorem Es{Um}:∀{l:List Nat} {p:Prop},Wa Um l p->(∀k,k∈l->∀y,y∈Um->y≠k)->p
 | [],_,h,_=>h
 | k::r,p,h,hd=>Es (Lv h λy hy=>hd k eB y hy) λz hz=>hd z (dj _ hz)
theorem xF:∀{bs:List ki} {x:Nat},x∈AN bs->∃i b,dc bs i=some b/\b.ok=true/\b.esc=true/\b.blk=some x
 | [],_,h=>aal
 | b::r,x,h=>by
  simp[AN]at h;cases hc:(b.ok&&b.blk.isSome&&b.esc&&!b.sh)with
  | true=>
   rw[hc]at h;simp at hc;rcases aV.1 h with rfl | h
   ·obtain⟨k,hk⟩:=dU.1 hc.1.1.2;exact⟨0,b,rfl,hc.1.1.1,hc.1.2,by rw[hk];rfl⟩
   obtain⟨i,c,h1,h2⟩:=xF h;exact⟨i+1,c,h1,h2⟩
  | false=>
   rw[hc]at h;obtain⟨i,c,h1,h2⟩:=xF h;exact⟨i+1,c,h1,h2⟩
theorem xG:∀{bs:List ki} {x:Nat},x∈AO bs->∃i b,dc bs i=some b/\b.ok=true/\b.esc=false/\b.blk=some x
 | [],_,h=>aal
 | b::r,x,h=>by
  simp[AO]at h;cases hc:(b.ok&&b.blk.isSome&&!b.esc)with
  | true=>
   rw[hc]at h;simp at hc;rcases aV.1 h with rfl | h
   ·obtain⟨k,hk⟩:=dU.1 hc.1.2;exact⟨0,b,rfl,hc.1.1,hc.2,by rw[hk];rfl⟩
   obtain⟨i,c,h1,h2⟩:=xG h;exact⟨i+1,c,h1,h2⟩
  | false=>
   rw[hc]at h;obtain⟨i,c,h1,h2⟩:=xG h;exact⟨i+1,c,h1,h2⟩
theorem G1{β}{st}{a}{w}(hR:Rep β st a w):∀k,k∈AN st.bx->∀y,y∈AO st.bx->y≠k:=λk hk y hy=>by
 obtain⟨i,b,i1,i2,i3,i4⟩:=xF hk;obtain⟨j,c,j1,j2,j3,j4⟩:=xG hy;rw[<-(hR.bx i b i1 i2).at_ k i4,<-(hR.bx j c j1 j2).at_ y j4];refine hR.ne j i c b j1 i1 j2 i2 λe=>?_;subst e;rw[i1]at j1;injection j1 with j1;subst j1;rw[i3]at j3;cases j3
def eZ(st:St)(K:St->Prop):Prop:=
 bif st.mv then
  bif AM st.bx st.dt then
   GZ st.bx λbx=>∀w,G0 st.w0 w st.bx bx (Only (st.dt.map (I4 bx)) st.w0 w->
    shB (GY bx) (I4 bx) w true bx (Rj (Oh st.bx bx) (Oh st.bx bx) (Wa (AO st.bx) (AN st.bx) (K {st with bx:=wa bx,w0:=w,mv:=false,dt:=[]}))))
  else False
 else shB st.Kz st.bl st.w0 false st.bx (Wa (AO st.bx) (AN st.bx) (K {st with bx:=wa st.bx}))
theorem dV{st}{K}(h:eZ st K){β}{a}{w}(hR:Rep β st a w):∃cK,K cK/\Ext st cK/\Rep β cK a w/\cK.mv=false/\cK.fr=st.fr/\cK.n=st.n/\cK.ct=st.ct/\cK.bx.length=st.bx.length:=by
 rcases mP h with⟨hm,h⟩ | ⟨hm,h⟩
 case inr=>
  have hk:=En h λi b hb ho hs hc=>by
   have:=(hR.bx i b hb ho).blk;cases hk:b.blk with
   | none=>rw[hk]at hs;cases hs
   | some k=>
    have e:=(hR.bx i b hb ho).at_ k hk;rw[hR.tQ hc,<-hR.still hm];rw[e]at this;exact this
  have hk:=Es hk (G1 hR);have key:∀i b',dc (wa st.bx) i=some b'->∃b,dc st.bx i=some b/\b'={b with sh:=b.esc}:=λi b' hb=>by
   rw[qh]at hb;cases hn:dc st.bx i with
   | none=>rw[hn]at hb;cases hb
   | some b=>rw[hn]at hb;exact⟨b,rfl,by simpa using hb.symm⟩
  refine⟨_,hk,⟨rfl,ba _,λ_ _ _ h _=>h,λi b' hb ho _=>?_,λi b hb=>?_,Gk⟩,⟨hR.fr,λi b' hb ho=>?_,λi j bi bj h1 h2 h3 h4 sD=>?_,hR.only,hR.still⟩,hm,rfl,rfl,rfl,?_⟩
  ·obtain⟨b,h1,rfl⟩:=key i b' hb;exact⟨b,h1,ho,rfl,rfl,rfl,λ_ h=>h⟩
  ·exact⟨{b with sh:=b.esc},by rw[qh,hb];rfl,rfl,rfl,λ_ h=>h⟩
  ·obtain⟨b,h1,rfl⟩:=key i b' hb;have:=hR.bx i b h1 ho;exact⟨this.blk,this.at_,this.new⟩
  ·obtain⟨b,g1,rfl⟩:=key i bi h1;obtain⟨c,g2,rfl⟩:=key j bj h2;exact hR.ne i j b c g1 g2 h3 h4 sD
  have:∀l:List ki,(wa l).length=l.length:=λl=>by
   induction l with
   | nil=>rfl
   | cons b r ih=>simp[wa,ih]
  exact this _
 case inl=>
  obtain⟨jh,h⟩:=dD h;have h:=AI β 0 h w;have yr:∀i,dc _ i=(dc st.bx i).map (sZ (β i)):=λi=>by rw[AJ,bO]
  have DY:∀i b,dc st.bx i=some b->b.ok=true->∃b',dc _ i=some b'/\b'.ok=true/\b'.blk=some _/\b'.cells=b.cells/\b'.ty=b.ty/\b'.stp=b.stp:=λi b hb ho=>by
   refine⟨sZ _ b,by rw[yr,hb];rfl,?_⟩;unfold sZ;split
   ·exact⟨ho,rfl,rfl,rfl,rfl⟩
   rename_i gq;refine⟨ho,?_,rfl,rfl,rfl⟩;cases hk:b.blk with
   | none=>exact absurd hk (λe=>gq ho e)
   | some k=>rw[(hR.bx i b hb ho).at_ k hk]
  have Un:∀i b',dc (mQ β 0 st.bx) i=some b'->b'.ok=true->∃b,dc st.bx i=some b/\b.ok=true/\b'.blk=some _/\b'.cells=b.cells/\b'.ty=b.ty/\b'.stp=b.stp:=λi b' hb ho=>by
   rw[yr]at hb;cases hn:dc st.bx i with
   | none=>rw[hn]at hb;cases hb
   | some b=>
    rw[hn]at hb;simp at hb;subst hb;have hob:=by
     unfold sZ at ho;split at ho
     ·assumption
     exact ho
    obtain⟨b2,e1,e2,e3,e4,e5,e6⟩:=DY i b hn hob;rw[yr,hn]at e1;simp at e1;subst e1;exact⟨b,rfl,hob,e3,e4,e5,e6⟩
  have h:=AK 0 h λi b hb ho hk=>by
   rw[bO];exact⟨(hR.bx i b hb ho).new hk,(hR.bx i b hb ho).blk.lt⟩
  have edt:st.dt.map (I4 (mQ β 0 st.bx))=st.dt.map β:=by
   refine sL λi hi=>?_;obtain⟨b,h1,h2⟩:=ub jh i hi;obtain⟨b',e1,e2,e3,_⟩:=DY i b h1 h2;unfold I4;rw[e1];simp[e3]
  have h:=h (by rw[edt];exact hR.only);have pC:∀i,GY (mQ β 0 st.bx) i=true->I4 (mQ β 0 st.bx) i=β i:=λi hg=>by
   unfold GY at hg;unfold I4;cases hn:dc (mQ β 0 st.bx) i with
   | none=>rw[hn]at hg;cases hg
   | some b'=>
    rw[hn]at hg;simp at hg;obtain⟨b,_,_,e3,_⟩:=Un i b' hn hg.1;simp[e3]
  have hk:=En h λi b' hb ho hs hc=>by
   obtain⟨b,e1,e2,e3,e4,e5,e6⟩:=Un i b' hb ho;rw[gW pC _ hc,e3,e4,e5];exact(hR.bx i b e1 e2).blk
  have hk:=Ep hk λx hx PE y hy hye=>by
   obtain⟨i,b,i1,i2,rfl⟩:=wb 0 hx;obtain⟨j,c,j1,j2,rfl⟩:=wb 0 hy;rw[bO,bO];refine hR.ne j i c b j1 i1 j2 i2 λe=>?_;subst e;rw[i1]at j1;injection j1 with j1;subst j1;rw[PE]at hye;cases hye
  have hk:=Es hk (G1 hR);have key:∀i b',dc _ i=some b'->b'.ok=true->∃b,dc st.bx i=some b/\b.ok=true/\b'.blk=some _/\b'.cells=b.cells/\b'.ty=b.ty/\b'.stp=b.stp:=λi b' hb ho=>by
   rw[qh]at hb;cases hn:dc (mQ β 0 st.bx) i with
   | none=>rw[hn]at hb;cases hb
   | some c=>
    rw[hn]at hb;simp at hb;subst hb;exact Un i c hn ho
  refine⟨_,hk,⟨rfl,ba _,λ_ _ _ h _=>h,λi b' hb ho _=>?_,λi b hb=>?_,Gk⟩,⟨hR.fr,λi b' hb ho=>?_,λi j bi bj h1 h2 h3 h4 sD=>?_,Only.refl _ _,λ_=>rfl⟩,rfl,rfl,rfl,rfl,?_⟩
  ·obtain⟨b,e1,e2,e3,e4,e5,e6⟩:=key i b' hb ho;exact⟨b,e1,e2,e4.symm,e5.symm,e6.symm,λk hk=>by rw[e3,(hR.bx i b e1 e2).at_ k hk]⟩
  ·refine⟨{sZ _ b with sh:=(sZ _ b).esc},by rw[qh,yr,hb];rfl,?_⟩;unfold sZ;split
   ·rename_i e1 e2;exact⟨rfl,rfl,λk hk=>by rw[e2]at hk;cases hk⟩
   exact⟨rfl,rfl,λ_ h=>h⟩
  ·obtain⟨b,e1,e2,e3,e4,e5,e6⟩:=key i b' hb ho;refine⟨by rw[e4,e5];exact(hR.bx i b e1 e2).blk,λk hk=>by rw[e3]at hk;simpa using hk,λhk=>by rw[e3]at hk;cases hk⟩
  ·obtain⟨b,e1,e2,_⟩:=key i bi h1 h3;obtain⟨c,f1,f2,_⟩:=key j bj h2 h4;exact hR.ne i j b c e1 f1 e2 f2 sD
  have l1:∀l:List ki,(wa l).length=l.length:=λl=>by
   induction l with
   | nil=>rfl
   | cons b r ih=>simp[wa,ih]
  have l2:∀(l:List ki) n,(mQ β n l).length=l.length:=λl=>by
   induction l with
   | nil=>intro n;rfl
   | cons b r ih=>intro n;simp[mQ,ih]
  exact(l1 _).trans (l2 _ _)
def noB(n:Nat)(s:SV):Bool:=cln (λj=>!Nat.beq j n) s
def Wb(n:Nat)(l:List SV):Bool:=iq (λj=>!Nat.beq j n) l
def Oi(n:Nat):List (Nat×Nat×SV)->Bool
 | []=>true
 | p::r=>noB n p.2.2&&Oi n r
def JC(n:Nat):List ki->Bool
 | []=>true
 | b::r=>(!b.ok||Wb n b.cells)&&JC n r
theorem Et{n}:∀{l:List _},Oi n l=true->∀i p,dQ l i=some p->noB n p.2=true
 | [],_,i,p,h=>aal
 | (k,q)::r,h,i,p,hl=>by
  simp[Oi,aR]at h;simp[dQ]at hl;cases hb:Nat.beq k i with
  | true=>rw[hb]at hl;simp at hl;subst hl;exact h.1
  | false=>rw[hb]at hl;exact Et h.2 i p aeD
theorem Eu{n}:∀{l:List ki},JC n l=true->∀i b,dc l i=some b->b.ok=true->Wb n b.cells=true
 | c::r,h,0,b,hb,ho=>by
  simp[JC,aR,bU,da]at h;simp[dc,be]at hb;subst hb;rcases h.1 with h1 | h1
  ·rw[ho]at h1;cases h1
  exact h1
 | c::r,h,i+1,b,hb,ho=>by
  simp[JC,aR]at h;exact Eu h.2 i b hb ho
def Cm(β:Nat->Nat)(n b:Nat):Nat->Nat:=λi=>if i=n then b else β i
theorem AP{β}{n b:Nat}:∀i,(!Nat.beq i n)=true->β i=Cm β n b i:=λi h=>by
 unfold Cm;rw[aY];rintro rfl;simp at h
section
variable {β:Nat->Nat} {st:St} {a:Act} {w w1:ay}
def St.FM(st:St)(d:Option Tmp)(t:TypeId)(zs:List SV):St:=
 St.put {st with bx:=st.bx++[⟨none,t,zs,st.ct,true,false,false⟩],mv:=true,ct:=st.ct+1} d (.box st.bx.length 0)
theorem Ext.FM st d t zs:Ext st (st.FM d t zs):=by
 refine Ext.trans (t:={st with bx:=st.bx++[_],mv:=true,ct:=st.ct+1}) ⟨rfl,iM _,λ_ _ _ h _=>h,λi b' hb ho hs=>?_,λi b hb=>?_,Gk⟩ (Ext.put _ _ _)
 ·rw[ku]at hb;split at hb
  ·simp at hb;subst hb;dsimp only at hs;omega
  exact⟨b',hb,ho,rfl,rfl,rfl,λ_ h=>h⟩
 exact⟨b,by dsimp only;rw[ku,aY (by have:=rq hb;omega)];exact hb,rfl,rfl,λ_ h=>h⟩
theorem Rep.FM(hR:Rep β st a w){d}{t}{zs}{b:Nat}(h1:Oi st.bx.length st.fr=true)(h2:JC st.bx.length st.bx=true)(h3:Wb st.bx.length zs=true)
  (hb:w.heap.size<=b) (hO:Only [] w w1) (hB:Blk w1 b t (cD β zs)) (hdt:AM st.bx st.dt=true):
  Rep (Cm β st.bx.length b) (st.FM d t zs) (a.put d (.pointer (some ⟨b,0,none⟩))) w1:=by
 have uZ:Cm β st.bx.length b st.bx.length=b:=by unfold Cm;rw[bc rfl]
 have bT:∀{i c},dc st.bx i=some c->Cm β st.bx.length b i=β i:=fun{i c} h=>by
  unfold Cm;rw[aY];have:=rq h;omega
 have base:Rep (Cm β st.bx.length b) {st with bx:=st.bx++[⟨none,t,zs,st.ct,true,false,false⟩],mv:=true,ct:=st.ct+1} a w1:=by
  refine⟨rm ⟨hR.ok.sz,hR.ok.df,λi p hl hi=>?_⟩,λi c hc ho=>?_,λi j bi bj g1 g2 g3 g4 sD=>?_,?_,λh=>aal⟩
  ·rw[hR.ok.at_ i p hl hi];congr 1;exact iO (g:=λj=>!Nat.beq j st.bx.length) AP _ (Et h1 i p hl)
  ·rw[ku]at hc;split at hc
   ·rename_i he;simp at hc;subst hc;subst he;refine⟨?_,λk hk=>aeO,λ_=>?_⟩
    ·rw[uZ];rw[<-gW (g:=λj=>!Nat.beq j st.bx.length) (β:=β) (β':=Cm β st.bx.length b) AP _ h3];exact hB
    rw[uZ];exact bf hR.only.size hb
   have e:=bT hc;obtain⟨k1,k2,k3⟩:=hR.bx i c hc ho;refine⟨?_,λk hk=>by rw[e];exact k2 k hk,λhk=>by rw[e];exact k3 hk⟩;rw[e,<-gW (g:=λj=>!Nat.beq j st.bx.length) (β:=β) (β':=Cm β st.bx.length b) AP _ (Eu h2 i c hc ho)];exact hO.blk k1 aac
  ·rw[ku]at g1 g2;split at g1
   ·rename_i e1;split at g2
    ·omega
    subst e1;rw[uZ,bT g2];have:=(hR.bx j bj g2 g4).blk.lt;omega
   split at g2
   ·rename_i e2;subst e2;rw[uZ,bT g1];have:=(hR.bx i bi g1 g3).blk.lt;omega
   rw[bT g1,bT g2];exact hR.ne i j bi bj g1 g2 g3 g4 sD
  have e:=sL λi hi=>by
   obtain⟨c,hc,_⟩:=ub hdt i hi;exact bT hc
  rw[e];exact hR.only.cr hO
 have:=base.put d (.box st.bx.length 0);rw[show val (Cm β st.bx.length b) _=.pointer _ by
  show Value.pointer _=_;rw[uZ]]at this
 exact this
def St.tR(st:St)(i:Nat)(b:ki)(cs:List SV):St:=
 {st with bx:=Oe st.bx i {b with cells:=cs,stp:=st.ct,sh:=false},mv:=true,dt:=(bif b.blk.isSome&&!st.dt.elem i then i::st.dt else st.dt),ct:=st.ct+1}
theorem Ext.tR{st}{i}{b}{cs}(h:dc st.bx i=some b):Ext st (st.tR i b cs):=by
 refine⟨rfl,iM _,λ_ _ _ h _=>h,λj b' hb ho hs=>?_,λj c hc=>?_,Gk⟩
 ·simp[St.tR]at hb;rw[jl h]at hb;split at hb
  ·simp at hb;subst hb;dsimp only at hs;omega
  exact⟨b',hb,ho,rfl,rfl,rfl,λ_ h=>h⟩
 simp[St.tR];rw[jl h];split
 ·rename_i e;subst e;rw[h]at hc;simp at hc;subst hc;exact⟨_,rfl,rfl,rfl,λ_ h=>h⟩
 exact⟨c,hc,rfl,rfl,λ_ h=>h⟩
theorem Rep.tR(hR:Rep β st a w){i}{b}{cs}(h:dc st.bx i=some b)(ho:b.ok=true)(hO:Only [β i] w w1)(hB:Blk w1 (β i) b.ty (cD β cs)):Rep β (st.tR i b cs) a w1:=by
 have hk:=hR.bx i b h ho;refine⟨hR.fr,λj c hc mr=>?_,λj l bj bl g1 g2 g3 g4 sD=>?_,?_,λh=>aal⟩
 ·simp[St.tR]at hc;rw[jl h]at hc;split at hc
  ·rename_i e;subst e;simp at hc;subst hc;exact⟨hB,hk.at_,hk.new⟩
  rename_i gq;obtain⟨k1,k2,k3⟩:=hR.bx j c hc mr;exact⟨hO.blk k1 (by simpa using hR.ne j i c b hc h mr ho gq),k2,k3⟩
 ·simp[St.tR]at g1 g2;rw[jl h]at g1 g2;have key:∀{j c},(if j=i then some {b with cells:=cs,stp:=st.ct,sh:=false}else dc st.bx j)=some c->c.ok=true->∃c',dc st.bx j=some c'/\c'.ok=true:=fun{j c} g hc=>by
   split at g
   ·rename_i e;subst e;exact⟨b,h,ho⟩
   exact⟨c,g,hc⟩
  obtain⟨c1,e1,e2⟩:=key g1 g3;obtain⟨c2,f1,f2⟩:=key g2 g4;exact hR.ne j l c1 c2 e1 f1 e2 f2 sD
 show Only ((bif b.blk.isSome&&!st.dt.elem i then i::st.dt else st.dt).map β) st.w0 w1;cases hb:(b.blk.isSome&&!st.dt.elem i)with
 | true=>exact hR.only.cons hO
 | false=>
  simp only[Bool.and_eq_false_iff,I0]at hb;rcases hb with hb | hb
  ·refine hR.only.new hO (hk.new ?_);cases hn:b.blk with
   | none=>rfl
   | some k=>rw[hn]at hb;cases hb
  refine hR.only.mem hO (cQ.2 ⟨i,?_,rfl⟩);simpa using hb
structure Flg (l l':List ki):Prop where
 fw:∀i b,dc l' i=some b->∃c,dc l i=some c/\c.blk=b.blk/\c.ty=b.ty/\c.cells=b.cells/\c.stp=b.stp/\c.ok=b.ok
 bw:∀i b,dc l i=some b->∃c,dc l' i=some c/\c.ty=b.ty/\c.ok=b.ok/\∀k,b.blk=some k->c.blk=some k
theorem Flg.refl l:Flg l l:=⟨λi b h=>⟨b,h,rfl,rfl,rfl,rfl,rfl⟩,Ra⟩
theorem Flg.trans{l m n}(h:Flg l m)(k:Flg m n):Flg l n:=⟨λi b hb=>by
 obtain⟨c,c1,c2,c3,c4,c5,c6⟩:=k.fw i b hb;obtain⟨d,d1,d2,d3,d4,d5,d6⟩:=h.fw i c c1;exact⟨d,d1,d2.trans c2,d3.trans c3,d4.trans c4,d5.trans c5,d6.trans c6⟩,λi b hb=>by
 obtain⟨c,c1,c2,c3,c4⟩:=h.bw i b hb;obtain⟨d,d1,d2,d3,d4⟩:=k.bw i c c1;exact⟨d,d1,d2.trans c2,d3.trans c3,λm hm=>d4 m (c4 m hm)⟩⟩
theorem Ext.flg{l'}(h:Flg st.bx l'):Ext st {st with bx:=l'}:=⟨rfl,ba _,λ_ _ _ h _=>h,λi b' hb ho _=>by
 obtain⟨c,c1,c2,c3,c4,c5,c6⟩:=h.fw i b' hb;exact⟨c,c1,c6.trans ho,c4,c3,c5,λk hk=>by rw[<-c2];exact hk⟩,h.bw,Gk⟩
theorem Rep.flg{l'}(hR:Rep β st a w)(h:Flg st.bx l'):Rep β {st with bx:=l'} a w:=by
 refine⟨hR.fr,λi b hb ho=>?_,λi j bi bj g1 g2 g3 g4 sD=>?_,hR.only,hR.still⟩
 ·obtain⟨c,c1,c2,c3,c4,c5,c6⟩:=h.fw i b hb;obtain⟨k1,k2,k3⟩:=hR.bx i c c1 (c6.trans ho);exact⟨by rw[<-c3,<-c4];exact k1,λk hk=>k2 k (c2.trans hk),λhk=>k3 (c2.trans hk)⟩
 obtain⟨c,c1,_,_,_,_,c6⟩:=h.fw i bi g1;obtain⟨d,d1,_,_,_,_,d6⟩:=h.fw j bj g2;exact hR.ne i j c d c1 d1 (c6.trans g3) (d6.trans g4) sD
def YS:SV->List Nat
 | .box i _=>[i]
 | .fn _ fs cs=>YS fs++YS cs
 | .agg l=>YS l
 | .tup l=>YS l
 | .c h t=>YS h++YS t
 | _=>[]
def Oj:Nat->List Nat->List ki->List ki
 | 0,_,bx=>bx
 | _+1,[],bx=>bx
 | f+1,i::r,bx=>match dc bx i with
  | some b=>bif b.esc then Oj f r bx else Oj f (flat YS b.cells++r) (Oe bx i {b with esc:=true,sh:=false})
  | none=>Oj f r bx
theorem tf:∀f l bx,Flg bx (Oj f l bx)
 | 0,_,bx=>Flg.refl _
 | _+1,[],bx=>Flg.refl _
 | f+1,i::r,bx=>by
  unfold Oj;split
  ·rename_i b hb;cases he:b.esc with
   | true=>exact tf f r bx
   | false=>
    refine Flg.trans ⟨λj c hc=>?_,λj c hc=>?_⟩ (tf f _ _);rotate_left
    ·rw[jl hb];split
     ·rename_i e;subst e;rw[hb]at hc;simp at hc;subst hc;exact⟨_,rfl,rfl,rfl,λ_ h=>h⟩
     exact⟨c,hc,rfl,rfl,λ_ h=>h⟩
    rw[jl hb]at hc;split at hc
    ·rename_i e;subst e;simp at hc;subst hc;exact⟨b,hb,rfl,rfl,rfl,rfl,rfl⟩
    exact⟨c,hc,rfl,rfl,rfl,rfl,rfl⟩
  exact tf f r bx
def St.esc(st:St)(l:List SV):St:={st with bx:=Oj 1000 (flat YS l) st.bx}
theorem Ext.esc st l:Ext st (st.esc l):=Ext.flg (tf _ _ _)
theorem Rep.esc(hR:Rep β st a w) l:Rep β (st.esc l) a w:=hR.flg (tf _ _ _)
end
def zc(P:Program)(t:TypeId):Option (List SV):=match P.info? t with
 | some i=>(match i.zero with
  | some z=>Jx z.cells.toList
  | none=>none)
 | none=>none
theorem YU{P}{t}{zs}(h:zc P t=some zs) w:∃z,(zeroValue t).run P w=.ok z w/\∀β,z.cells=(cD β zs).toArray:=by
 unfold zc at h;split at h
 ·rename_i i hi;split at h
  ·rename_i z hz;exact⟨z,by simp[zeroValue,typeInfo,hi,hz],λβ=>by rw[zI β h]⟩
  cases h
 cases h
def chk(st:St)(zs:List SV):Bool:=Oi st.bx.length st.fr&&JC st.bx.length st.bx&&Wb st.bx.length zs&&AM st.bx st.dt
def qj:List ki->Bool
 | []=>true
 | b::r=>(!b.ok||b.blk.isSome)&&qj r
theorem wc:∀{l:List ki},qj l=true->∀i b,dc l i=some b->b.ok=true->b.blk.isSome=true
 | c::r,h,0,b,hb,ho=>by
  simp[qj,aR,bU,da]at h;simp[dc,be]at hb;subst hb;rcases h.1 with h1 | h1
  ·rw[ho]at h1;cases h1
  exact h1
 | c::r,h,i+1,b,hb,ho=>by
  simp[qj,aR]at h;exact wc h.2 i b hb ho
def neB(bk:Nat):List ki->Prop->Prop
 | [],p=>p
 | b::r,p=>bif b.ok then b.blk.getD 0≠bk/\neB bk r p else neB bk r p
theorem JD{bk}:∀{l:List ki} {p:Prop},neB bk l p->p/\∀i b,dc l i=some b->b.ok=true->b.blk.getD 0≠bk
 | [],p,h=>⟨h,λi b hb=>aeE⟩
 | c::r,p,h=>by
  rcases mP h with⟨hc,h⟩ | ⟨hc,h⟩
  ·obtain⟨h1,h2⟩:=h;obtain⟨h3,h4⟩:=JD h2;refine⟨h3,λi b hb ho=>?_⟩;cases i with
   | zero=>simp[dc,be]at hb;subst hb;exact h1
   | succ i=>exact h4 i b hb ho
  obtain⟨h3,h4⟩:=JD h;refine⟨h3,λi b hb ho=>?_⟩;cases i with
  | zero=>simp[dc,be]at hb;subst hb;rw[hc]at ho;cases ho
  | succ i=>exact h4 i b hb ho
def uM(esc:Bool):List ki->List Nat
 | []=>[]
 | b::r=>bif b.ok&&(esc||!b.esc)then b.blk.getD 0::uM esc r else uM esc r
theorem oe{esc}:∀{l:List ki} {i:Nat} {b:ki},dc l i=some b->b.ok=true->(esc||!b.esc)=true->b.blk.getD 0∈uM esc l
 | c::r,0,b,h,ho,he=>by
  simp[dc,be]at h;subst h;simp[uM,ho,he]
 | c::r,i+1,b,h,ho,he=>by
  have:=oe (l:=r) (i:=i) h ho he;simp[uM];cases(c.ok&&_)with
  | true=>simp[this]
  | false=>exact this
def AQ(l:List Nat)(w0 w1:ay)(p:Prop):Prop:=match l with
 | []=>p
 | _=>ci l w0 w1/\p
theorem th{l}{w0 w1}{p}(h:AQ l w0 w1 p):p/\ci l w0 w1:=by
 unfold AQ at h;split at h
 ·exact⟨h,Q0⟩
 exact⟨h.2,h.1⟩
def Rk(P:Program)(w1:ay)(ct:Nat):List ki->(List ki->Prop)->Prop
 | [],K=>K []
 | b::r,K=>bif b.ok&&b.esc then V1 (Rb P 12 b.ty) λvs=>Blk w1 (b.blk.getD 0) b.ty (cD β0 vs)/\Rk P w1 ct r λr'=>K ({b with cells:=vs,stp:=ct,sh:=true}::r')
  else Rk P w1 ct r λr'=>K (b::r')
theorem zJ{P}{w1}{ct}:∀{l:List ki} {K:List ki->Prop},Rk P w1 ct l K->∃l',K l'/\(∀i b',dc l' i=some b'->∃b,dc l i=some b/\b'.ok=b.ok/\b'.blk=b.blk/\b'.ty=b.ty/\
  ((b'=b/\(b.ok&&b.esc)=false)∨(b'.stp=ct/\(∀β,cD β b'.cells=cD β0 b'.cells)/\Blk w1 (b.blk.getD 0) b.ty (cD β0 b'.cells))))/\
  ∀i b,dc l i=some b->∃b',dc l' i=some b'/\b'.ty=b.ty/\b'.ok=b.ok/\∀k,b.blk=some k->b'.blk=some k
 | [],K,h=>⟨[],h,λi b' hb=>aeE,λi b hb=>aeE⟩
 | c::r,K,h=>by
  rcases mP h with⟨hc,h⟩ | ⟨hc,h⟩
  ·obtain⟨vs,⟨hB,h⟩,_,pC⟩:=sY h;obtain⟨l',h1,h2,h3⟩:=zJ h;refine⟨_,h1,λi b' hb=>?_,λi b hb=>?_⟩;rotate_left
   ·cases i with
    | zero=>simp[dc,be]at hb;subst hb;exact⟨_,rfl,rfl,rfl,λ_ h=>h⟩
    | succ i=>exact h3 i b hb
   cases i with
   | zero=>
    simp[dc,be]at hb;subst hb;exact⟨c,rfl,rfl,rfl,rfl,.inr ⟨rfl,λβ=>gW (g:=λ_=>false) (λi h=>aal) vs (pC _),hB⟩⟩
   | succ i=>exact h2 i b' hb
  obtain⟨l',h1,h2,h3⟩:=zJ h;refine⟨_,h1,λi b' hb=>?_,λi b hb=>?_⟩;rotate_left
  ·cases i with
   | zero=>simp[dc,be]at hb;subst hb;exact⟨_,rfl,rfl,rfl,λ_ h=>h⟩
   | succ i=>exact h3 i b hb
  cases i with
  | zero=>
   simp[dc,be]at hb;subst hb;exact⟨c,rfl,rfl,rfl,rfl,.inl ⟨rfl,hc⟩⟩
  | succ i=>exact h2 i b' hb
def exR(P:Program):List TypeId->(List SV->Prop)->Prop
 | [],K=>K []
 | t::r,K=>V1 (Rb P 12 t) λvs=>exR P r λrs=>K (Og (match P.underlying t with | some d=>lX d | none=>false) vs::rs)
theorem Ev g:∀l,cln g (mO l)=iq g l
 | []=>rfl
 | s::r=>by simp[mO,cln,iq,Ev g r]
theorem Lw g ag {l} (h:iq g l=true):cln g (Og ag l)=true:=by
 cases ag with
 | true=>show cln g (mO l)=true;rw[Ev];exact h
 | false=>
  cases l with
  | nil=>rfl
  | cons s r=>simp[iq,aR]at h;exact h.1
theorem Ew{P}:∀{ts:List TypeId} {K:List SV->Prop},exR P ts K->∃rs,K rs/\∀g,iq g rs=true
 | [],K,h=>⟨[],h,λ_=>rfl⟩
 | t::r,K,h=>by
  obtain⟨vs,h,_,h2⟩:=sY h;obtain⟨rs,h3,h4⟩:=Ew h;exact⟨_,h3,λg=>by simp[iq,Lw g _ (h2 g),h4 g,nB]⟩
def AR(rs:List SV):SV:=match rs with
 | [r]=>r
 | rs=>.tup (mO rs)
theorem we{g}{rs}(h:iq g rs=true):cln g (AR rs)=true:=by
 unfold AR;split
 ·simp only[iq,aR]at h;exact h.1
 show cln g (mO _)=true;rw[Ev];exact h
def Ey(P:Program)(t:TypeId):List TypeId:=match P.underlying t with
 | some (.tuple ts)=>ts.toList
 | _=>[t]
def Rl(P:Program)(f:FuncId):Bool:=match P.funcs[f]? with
 | some fn=>!(fn.name== "runtime.NumGoroutine")&&fn.body.isSome
 | none=>false
theorem eU{P}{f}(h:Rl P f=true) args w:(callFunc f args).run P w=.ok (.enter f args) w:=by
 unfold Rl at h;split at h
 ·rename_i fn hf;simp at h;have hb:fn.body≠none:=by
   intro hq;rw[hq]at h;cases h.2
  have hn:fn.name≠ "runtime.NumGoroutine" :=by
   intro hq;rw[hq]at h;simp at h
  simp[callFunc,hf,hn,hb]
 cases h
def afN(P:Program)(f:FuncId):List TypeId:=match P.funcs[f]? with
 | some fn=>fn.resultTypes.toList
 | none=>[]
abbrev XT:=ay->ay->Prop->Prop
section
variable {P:Program} {β:Nat->Nat} {st:St} {a:Act} {w w1:ay}
theorem Rep.next(hR:Rep β st a w)(hm:st.mv=false)(hb:qj st.bx=true){bx'}{ct'}
  (h:∀i b',dc bx' i=some b'->b'.ok=true->∃b,dc st.bx i=some b/\b.ok=true/\b'.blk=b.blk/\Blk w1 (β i) b'.ty (cD β b'.cells)):Rep β {st with bx:=bx',w0:=w1,ct:=ct'} a w1:=by
 have key:∀i b,dc st.bx i=some b->b.ok=true->b.blk=some (β i):=λi b h1 h2=>by
  have:=wc hb i b h1 h2;cases hk:b.blk with
  | none=>rw[hk]at this;cases this
  | some k=>rw[(hR.bx i b h1 h2).at_ k hk]
 refine⟨hR.fr,λi b' jL ho=>?_,λi j bi bj g1 g2 g3 g4 sD=>?_,Only.refl _ _,λ_=>rfl⟩
 ·obtain⟨b,h1,h2,h3,h4⟩:=h i b' jL ho;exact⟨h4,λk hk=>by rw[h3,key i b h1 h2]at hk;simpa using hk,λhk=>by rw[h3,key i b h1 h2]at hk;cases hk⟩
 obtain⟨b,h1,h2,_⟩:=h i bi g1 g3;obtain⟨c,k1,k2,_⟩:=h j bj g2 g4;exact hR.ne i j b c h1 k1 h2 k2 sD
theorem Rep.Pq(hR:Rep β st a w)(hb:qj st.bx=true){i}{b}(h1:dc st.bx i=some b)(h2:b.ok=true):b.blk.getD 0=β i:=by
 have:=wc hb i b h1 h2;cases hk:b.blk with
 | none=>rw[hk]at this;cases this
 | some k=>rw[(hR.bx i b h1 h2).at_ k hk];rfl
def Rm(P:Program)(X:XT)(st:St)(d:Option Tmp)(FX:List TypeId)(f:FuncId)(args:List SV)(oJ:List az)(K:St->Prop):Prop:=
 bif iq st.Kz args&&qj st.bx then
  Calls P f (cD st.bl args++oJ).toArray st.w0 λe w1=>exR P FX λrs=>e=.returned (val β0 (AR rs))/\
   AQ (uM false st.bx) st.w0 w1 (Rk P w1 st.ct st.bx λbx=>X st.w0 w1 (K (St.put {st with bx:=bx,w0:=w1,ct:=st.ct+1} d (AR rs))))
 else False
theorem Rn{X}{E:ay->ay->Prop}(hX:∀w0 w1 p,X w0 w1 p->p/\E w0 w1){d}{FX}{f}{args}{oJ}{K}(h:Rm P X st d FX f args oJ K)(hm:st.mv=false)(hR:Rep β st a w):
  Calls P f (cD β args++oJ).toArray w λe w'=>∃v,e=.returned v/\∃cK,K cK/\Ext st cK/\E w w'/\Rep β cK (a.put d v) w':=by
 obtain⟨h0,h⟩:=dD h;simp at h0;rw[hR.tQ h0.1,<-hR.still hm]at h;refine h.mono ?_;rintro e w1 h;obtain⟨rs,⟨rfl,h1⟩,pC⟩:=Ew h;obtain⟨h2,hS⟩:=th h1;obtain⟨bx',h3,hb,I7⟩:=zJ h2;obtain⟨h,hE⟩:=hX _ _ _ h3;have ev:val β0 _=val β _:=iO (g:=λ_=>false) (λi h=>aal) _ (we (pC _));refine⟨_,rfl,_,h,?_,hE,?_⟩
 ·refine Ext.trans (t:={st with bx:=bx',w0:=w1,ct:=st.ct+1}) ⟨rfl,iM _,λ_ _ _ h _=>h,λi b' jL ho hs=>?_,I7,Gk⟩ (Ext.put _ _ _);obtain⟨b,h1,h2,h3,h4,h5⟩:=hb i b' jL;rcases h5 with⟨rfl,_⟩ | _
  ·exact⟨b',h1,ho,rfl,rfl,rfl,λ_ h=>h⟩
  omega
 rw[ev];refine Rep.put (Rep.next hR hm h0.2 λi b' jL ho=>?_) _ _;obtain⟨b,h1,h2,h3,h4,h5⟩:=hb i b' jL;have Gu:b.ok=true:=by rw[<-h2];exact ho
 refine⟨b,h1,Gu,h3,?_⟩;have eD:=hR.Pq h0.2 h1 Gu;rcases h5 with⟨rfl,h6⟩ | ⟨_,h6,h7⟩
 ·have qN:=oe (esc:=false) h1 Gu (by rw[Gu]at h6;simpa using h6);rw[eD]at qN;exact(hS _ qN).trans (hR.bx i b' h1 Gu).blk
 rw[h4,h6 β,<-eD];exact h7
def uB(a b:List az):List az:=a++b
def Rq(P:Program)(X:XT)(st:St)(d:Option Tmp)(FX:List TypeId)(f:FuncId)(fst:List az)(args:List SV)(oJ:List az)(K:St->Prop):Prop:=
 bif iq st.Kz args&&qj st.bx then
  Calls P f (uB (uB fst (cD st.bl args)) oJ).toArray st.w0 λe w1=>exR P FX λrs=>e=.returned (val β0 (AR rs))/\
   AQ (uM false st.bx) st.w0 w1 (Rk P w1 st.ct st.bx λbx=>X st.w0 w1 (K (St.put {st with bx:=bx,w0:=w1,ct:=st.ct+1} d (AR rs))))
 else False
theorem Rr{X}{E:ay->ay->Prop}(hX:∀w0 w1 p,X w0 w1 p->p/\E w0 w1){d}{FX}{f}{fst}{args}{oJ}{K}(h:Rq P X st d FX f fst args oJ K)(hm:st.mv=false)(hR:Rep β st a w):
  Calls P f (uB (uB fst (cD β args)) oJ).toArray w λe w'=>∃v,e=.returned v/\∃cK,K cK/\Ext st cK/\E w w'/\Rep β cK (a.put d v) w':=by
 obtain⟨h0,h⟩:=dD h;simp at h0;rw[hR.tQ h0.1,<-hR.still hm]at h;refine h.mono ?_;rintro e w1 h;obtain⟨rs,⟨rfl,h1⟩,pC⟩:=Ew h;obtain⟨h2,hS⟩:=th h1;obtain⟨bx',h3,hb,I7⟩:=zJ h2;obtain⟨h,hE⟩:=hX _ _ _ h3;have ev:val β0 _=val β _:=iO (g:=λ_=>false) (λi h=>aal) _ (we (pC _));refine⟨_,rfl,_,h,?_,hE,?_⟩
 ·refine Ext.trans (t:={st with bx:=bx',w0:=w1,ct:=st.ct+1}) ⟨rfl,iM _,λ_ _ _ h _=>h,λi b' jL ho hs=>?_,I7,Gk⟩ (Ext.put _ _ _);obtain⟨b,h1,h2,h3,h4,h5⟩:=hb i b' jL;rcases h5 with⟨rfl,_⟩ | _
  ·exact⟨b',h1,ho,rfl,rfl,rfl,λ_ h=>h⟩
  omega
 rw[ev];refine Rep.put (Rep.next hR hm h0.2 λi b' jL ho=>?_) _ _;obtain⟨b,h1,h2,h3,h4,h5⟩:=hb i b' jL;have Gu:b.ok=true:=by rw[<-h2];exact ho
 refine⟨b,h1,Gu,h3,?_⟩;have eD:=hR.Pq h0.2 h1 Gu;rcases h5 with⟨rfl,h6⟩ | ⟨_,h6,h7⟩
 ·have qN:=oe (esc:=false) h1 Gu (by rw[Gu]at h6;simpa using h6);rw[eD]at qN;exact(hS _ qN).trans (hR.bx i b' h1 Gu).blk
 rw[h4,h6 β,<-eD];exact h7
def rZ(P:Program)(X:XT)(st:St)(d:Option Tmp)(FX:List TypeId)(args:List SV)(run:List az->Sem az)(K:St->Prop):Prop:=
 bif iq st.Kz args&&qj st.bx then
  exR P FX λrs=>∃w1,(run (cD st.bl args)).run P st.w0=.ok (val β0 (AR rs)) w1/\AQ (uM true st.bx) st.w0 w1 (X st.w0 w1 (K (St.put {st with w0:=w1} d (AR rs))))
 else False
theorem Ly{X}{E:ay->ay->Prop}(hX:∀w0 w1 p,X w0 w1 p->p/\E w0 w1){d}{FX}{args}{run}{K}(h:rZ P X st d FX args run K)(hm:st.mv=false)(hR:Rep β st a w):
  ∃v w',(run (cD β args)).run P w=.ok v w'/\∃cK,K cK/\Ext st cK/\E w w'/\Rep β cK (a.put d v) w':=by
 obtain⟨h0,h⟩:=dD h;simp at h0;rw[hR.tQ h0.1,<-hR.still hm]at h;obtain⟨rs,⟨w1,hr,h⟩,pC⟩:=Ew h;obtain⟨h,hS⟩:=th h;obtain⟨h,hE⟩:=hX _ _ _ h;have ev:val β0 _=val β _:=iO (g:=λ_=>false) (λi h=>aal) _ (we (pC _));refine⟨_,w1,hr,_,h,?_,hE,?_⟩
 ·refine Ext.trans (t:={st with w0:=w1}) ⟨rfl,ba _,λ_ _ _ h _=>h,λi b' jL ho hs=>⟨b',jL,ho,rfl,rfl,rfl,λ_ h=>h⟩,Ra,Gk⟩ (Ext.put _ _ _)
 rw[ev];refine Rep.put (Rep.next (ct':=st.ct) hR hm h0.2 λi b' jL ho=>⟨b',jL,ho,rfl,?_⟩) _ _;have qN:=oe (esc:=true) jL ho rfl;rw[hR.Pq h0.2 jL ho]at qN;exact(hS _ qN).trans (hR.bx i b' jL ho).blk
def Rs(P:Program)(X:XT)(st:St)(d:Option Tmp)(args:List SV)(run:List az->Sem az)(rs:SV)(K:St->Prop):Prop:=
 bif iq st.Kz args&&qj st.bx&&cln (λ_=>false) rs then
  ∃w1,(run (cD st.bl args)).run P st.w0=.ok (val β0 rs) w1/\AQ (uM true st.bx) st.w0 w1 (X st.w0 w1 (K (St.put {st with w0:=w1} d rs)))
 else False
theorem zK{X}{E:ay->ay->Prop}(hX:∀w0 w1 p,X w0 w1 p->p/\E w0 w1){d}{args}{run}{rs}{K}(h:Rs P X st d args run rs K)(hm:st.mv=false)(hR:Rep β st a w):
  ∃v w',(run (cD β args)).run P w=.ok v w'/\∃cK,K cK/\Ext st cK/\E w w'/\Rep β cK (a.put d v) w':=by
 obtain⟨h0,h⟩:=dD h;simp at h0;rw[hR.tQ h0.1.1,<-hR.still hm]at h;obtain⟨w1,hr,h⟩:=h;obtain⟨h,hS⟩:=th h;obtain⟨h,hE⟩:=hX _ _ _ h;have ev:val β0 rs=val β rs:=iO (g:=λ_=>false) (λi h=>aal) _ h0.2;refine⟨_,w1,hr,_,h,?_,hE,?_⟩
 ·refine Ext.trans (t:={st with w0:=w1}) ⟨rfl,ba _,λ_ _ _ h _=>h,λi b' jL ho hs=>⟨b',jL,ho,rfl,rfl,rfl,λ_ h=>h⟩,Ra,Gk⟩ (Ext.put _ _ _)
 rw[ev];refine Rep.put (Rep.next (ct':=st.ct) hR hm h0.1.2 λi b' jL ho=>⟨b',jL,ho,rfl,?_⟩) _ _;have qN:=oe (esc:=true) jL ho rfl;rw[hR.Pq h0.1.2 jL ho]at qN;exact(hS _ qN).trans (hR.bx i b' jL ho).blk
def Wc(P:Program)(X:XT)(st:St)(d:Option Tmp)(args:List SV)(run:List az->Sem Unit)(K:St->Prop):Prop:=
 bif iq st.Kz args&&qj st.bx then
  ∃w1,(run (cD st.bl args)).run P st.w0=.ok () w1/\AQ (uM true st.bx) st.w0 w1 (X st.w0 w1 (K (St.put {st with w0:=w1} d .un)))
 else False
theorem Wd{X}{E:ay->ay->Prop}(hX:∀w0 w1 p,X w0 w1 p->p/\E w0 w1){d}{args}{run}{K}(h:Wc P X st d args run K)(hm:st.mv=false)(hR:Rep β st a w):
  ∃w',(run (cD β args)).run P w=.ok () w'/\∃cK,K cK/\Ext st cK/\E w w'/\Rep β cK (a.put d undef) w':=by
 obtain⟨h0,h⟩:=dD h;simp at h0;rw[hR.tQ h0.1,<-hR.still hm]at h;obtain⟨w1,hr,h⟩:=h;obtain⟨h,hS⟩:=th h;obtain⟨h,hE⟩:=hX _ _ _ h;refine⟨w1,hr,_,h,?_,hE,?_⟩
 ·refine Ext.trans (t:={st with w0:=w1}) ⟨rfl,ba _,λ_ _ _ h _=>h,λi b' jL ho hs=>⟨b',jL,ho,rfl,rfl,rfl,λ_ h=>h⟩,Ra,Gk⟩ (Ext.put _ _ _)
 refine Rep.put (v:=.un) (Rep.next (ct':=st.ct) hR hm h0.2 λi b' jL ho=>⟨b',jL,ho,rfl,?_⟩) _;have qN:=oe (esc:=true) jL ho rfl;rw[hR.Pq h0.2 jL ho]at qN;exact(hS _ qN).trans (hR.bx i b' jL ho).blk
end
def ru(l:List az)(i:Nat):az:=match l,i with
 | [],_=>undef
 | v::_,0=>v
 | _::r,i+1=>ru r i
def zp:List Nat->List az->List (Nat×az)
 | i::r,v::s=>(i,v)::zp r s
 | _,_=>[]
def We:List (Nat×SV)->List Nat
 | []=>[]
 | p::r=>p.1::We r
def Rt:List (Nat×SV)->List SV
 | []=>[]
 | p::r=>p.2::Rt r
theorem YV β:∀l,zp (We l) (cD β (Rt l))=C2 β l
 | []=>rfl
 | p::r=>by
  have:=YV β r;simp[cD]at this;simp[We,Rt,cD,zp,C2,this]
def afO(P:Program)(t:TypeId):Bool:=match P.underlying t with
 | some (.pointer _)=>true
 | _=>false
def afP:Operand->Bool
 | .const _=>true
 | _=>false
def ptS:SV->Bool
 | .ptr _=>true
 | .ad _=>true
 | _=>false
def jy(P:Program):Op->Bool
 | .move _=>true
 | .assign _=>true
 | .pick _ _ _=>true
 | .binOp _ t x y _=>!(afO P t)||afP x||afP y
 | .unOp _ _ _=>true
 | .extract _ _=>true
 | .build _ _=>true
 | .makeFunc _ _ _=>true
 | .makeInterface _ _=>true
 | .nilCheck _=>true
 | .fieldAddr _ _ _=>true
 | .field _ _ _=>true
 | .indexAddr _ _ _=>true
 | .load _ _=>true
 | .index _ _ _=>true
 | .slice _ _ _ _ _=>true
 | .convert s d _=>(match P.underlying s,P.underlying d with
  | some (.int _),some (.int _)=>true
  | some .string,some .string=>true
  | some (.slice e),some .string=>(match P.underlying e with
   | some (.int .u8)=>true
   | _=>false)
  | _,_=>false)
 | .call c=>(match c.callee with
  | .builtin .len=>(match c.argTypes.toList with
   | [t]=>(match P.underlying t with
    | some (.slice _)=>true
    | some .string=>true
    | _=>false)
   | _=>false)
  | .builtin .cap=>true
  | .builtin .min=>true
  | .builtin .max=>true
  | _=>false)
 | _=>false
def y9:Op->Bool
 | .store _ _ _=>true
 | _=>false
def afQ(P:Program)(X:XT)(st:St)(o:Oper)(b:Builtin)(ts:Array TypeId)(vs:List SV)(K:St->Prop):Prop:=match b with
 | .append=>rZ P X st o.dst (Ey P o.type) vs (λl=>Builtin.append_ ts o.type l.toArray) K
 | .copy=>rZ P X st o.dst (Ey P o.type) vs (λl=>Builtin.copy_ ts o.type l.toArray) K
 | .delete=>rZ P X st o.dst (Ey P o.type) vs (λl=>Builtin.delete_ ts o.type l.toArray) K
 | .clear=>rZ P X st o.dst (Ey P o.type) vs (λl=>Builtin.clear_ ts o.type l.toArray) K
 | .len=>rZ P X st o.dst (Ey P o.type) vs (λl=>Builtin.len_ ts o.type l.toArray) K
 | .unsafeSliceData=>rZ P X st o.dst (Ey P o.type) vs (λl=>Builtin.unsafeSliceData_ ts o.type l.toArray) K
 | .unsafeString=>rZ P X st o.dst (Ey P o.type) vs (λl=>Builtin.unsafeString_ ts o.type l.toArray) K
 | _=>False
def Ol(f:FuncId)(args:Array az):Sem az:=do
 match <-callFunc f args with
 | .value v=>pure v
 | _=>stuck "extV"
theorem Ru{P}{f}{args}{w w1}{v}(h:(Ol f args).run P w=.ok v w1):(callFunc f args).run P w=.ok (.value v) w1:=by
 unfold Ol at h;rw[Sem.run_bind]at h;cases hc:(callFunc f args).run P w with
 | ok n w2=>
  rw[hc,Result.andThen_ok]at h;cases n<;>first | (simp at h;done) | (simp at h;obtain⟨rfl,rfl⟩:=h;rfl) | (simp at h)
 | _=>rw[hc]at h;simp at h
theorem aa1{P}{a:Act}{w w1}{v}{dst}{x}{f}{first captured}{xs:List Operand}{ats}{t'}{p}{af}{g}{args}
  (hx:a.eval x=.func (.func f) first.toArray captured.toArray)
  (ha:first++xs.map a.eval++captured=args) (hc:(callFunc f args.toArray).run P w=.ok (.value v) w1):
  (execOp a.eval ⟨dst,.call ⟨.value x,xs.toArray,ats⟩,t',p,af,g⟩).run P w=.ok (.value v) w1:=by
 subst ha;simp only[execOp,resolve,hx,Deferred.ofValue,invoke]
 grind
def aa2(P:Program)(X:XT)(st:St)(o:Oper)(fv:SV)(vs:List SV)(K:St->Prop):Prop:=match fv with
 | .fn g fs cs=>bif Cy fs&&Cy cs&&Rl P g then eZ (st.esc (mN fs++vs++mN cs)) λst=>Rm P X st o.dst (afN P g) g (mN fs++vs++mN cs) [] K
  else bif Cy fs&&Cy cs then eZ (st.esc (mN fs++vs++mN cs)) λst=>rZ P X st o.dst (afN P g) (mN fs++vs++mN cs) (λl=>Ol g l.toArray) K else False
 | .raw v=>eZ (st.esc vs) λst=>∃(g:FuncId) (fst cap:List az),v.v=.func (.func g) fst.toArray cap.toArray/\(∀args w,(callFunc g args).run P w=.ok (.enter g args) w)/\Rq P X st o.dst (Ey P o.type) g fst vs cap K
 | _=>False
abbrev YT:=Option Nat->Prop->Prop
def afR(P:Program)(X:XT)(Y:YT)(st:St)(o:Oper)(p s:SV)(vs:List SV)(K:St->Prop):Prop:=match p with
 | .box i off=>cj (dc st.bx i) λb=>bif b.ok&&Nat.ble (off+vs.length) b.cells.length then Y b.blk (K ((st.tR i b (spl b.cells off vs)).put o.dst .un))else False
 | .ad p=>eZ (st.esc vs) λst=>∃(bk off:Nat) (cells:List az) (ety:TypeId),p=(⟨bk,off,none⟩)/\Blk st.w0 bk ety cells/\off+vs.length<=cells.length/\
  bif iq st.Kz vs&&qj st.bx then neB bk st.bx (∀w1,Only [bk] st.w0 w1->Blk w1 bk ety (cz cells off (cD st.bl vs))->X st.w0 w1 (K (St.put {st with w0:=w1} o.dst .un)))else False
 | _=>False
def afS(P:Program)(st:St)(o:Oper)(fv:SV)(vs:List SV)(K:St->Prop):Prop:=match fv with
 | .fn g fs cs=>bif Cy fs&&Cy cs&&Rl P g then eZ (st.esc (mN fs++vs++mN cs)) λst=>bif iq st.Kz (mN fs++vs)&&iq st.Kz (mN cs)then
  K (St.put {st with df:=(g,cD st.bl (mN fs++vs),cD st.bl (mN cs))::st.df} o.dst .un)else False else False
 | _=>False
def loud(P:Program)(X:XT)(Y:YT)(st:St)(o:Oper)(K:St->Prop):Prop:=match o.op with
 | .binOp op t x y _=>cj (st.ev x) λa=>cj (st.ev y) λb=>bif ptS a&&ptS b then eZ (st.esc [a,b]) λst=>rZ P X st o.dst [o.type] [a,b] (λvs=>Go.binOp op t (ru vs 0) (ru vs 1)) K else False
 | .alloc t=>cj (zc P t) λzs=>bif chk st zs then K (st.FM o.dst t zs)else False
 | .box t x=>cj (st.ev x) λs=>cj (AA s) λzs=>bif chk st zs then K (st.FM o.dst t zs)else False
 | .store t x y=>cj (st.ev x) λp=>cj (st.ev y) λs=>cj (AA s) λvs=>bif sz P t vs.length then afR P X Y st o p s vs K else False
 | .call c=>cj (st.ND c.args.toList) λvs=>(match c.callee with
  | .value f=>cj (st.ev f) λfv=>aa2 P X st o fv vs K
  | .builtin b=>eZ (st.esc vs) λst=>afQ P X st o b c.argTypes vs K
  | _=>False)
 | .defer c=>cj (st.ND c.args.toList) λvs=>(match c.callee with
  | .value f=>cj (st.ev f) λfv=>afS P st o fv vs K
  | _=>False)
 | .buildSlice t n ps=>cj (st.Vv ps.toList) λl=>eZ (st.esc (Rt l)) λst=>rZ P X st o.dst [t] (Rt l) (λvs=>Instr.buildSlice t n (zp (We l) vs).toArray) K
 | .makeSlice t x y=>cj (st.ev x) λa=>cj (st.ev y) λb=>eZ st λst=>rZ P X st o.dst [t] [a,b] (λvs=>Instr.makeSlice t (ru vs 0) (ru vs 1)) K
 | .makeMap t none=>eZ st λst=>rZ P X st o.dst [t] [] (λ_=>Instr.makeMap t none) K
 | .makeMap t (some x)=>cj (st.ev x) λa=>eZ st λst=>rZ P X st o.dst [t] [a] (λvs=>Instr.makeMap t (some (ru vs 0))) K
 | .lookup t x i ok=>cj (st.ev x) λa=>cj (st.ev i) λb=>eZ st λst=>rZ P X st o.dst (Ey P o.type) [a,b] (λvs=>Instr.lookup t (ru vs 0) (ru vs 1) ok) K
 | .mapUpdate t x y z=>cj (st.ev x) λa=>cj (st.ev y) λb=>cj (st.ev z) λc=>eZ (st.esc [a,b,c]) λst=>Wc P X st o.dst [a,b,c] (λvs=>Instr.mapUpdate t (ru vs 0) (ru vs 1) (ru vs 2)) K
 | .insert t x y z=>cj (st.ev x) λa=>cj (st.ev y) λb=>cj (st.ev z) λc=>eZ (st.esc [a,b,c]) λst=>Wc P X st o.dst [a,b,c] (λvs=>Instr.mapUpdate t (ru vs 0) (ru vs 1) (ru vs 2)) K
 | .convert s d x=>cj (st.ev x) λa=>eZ (st.esc [a]) λst=>rZ P X st o.dst [d] [a] (λvs=>convert s d (ru vs 0)) K
 | .range t x=>cj (st.ev x) λa=>eZ st λst=>∃p,Rs P X st o.dst [a] (λvs=>Instr.range t (ru vs 0)) (.ptr p) K
 | .next x false=>cj (st.ev x) λa=>eZ st λst=>Rs P X st o.dst [a] (λvs=>Instr.next (ru vs 0) false o.type) (.tup (mO [.bl false])) K∨
  V1 [.raw,.raw] λrs=>Rs P X st o.dst [a] (λvs=>Instr.next (ru vs 0) false o.type) (.tup (mO (.bl true::rs))) K
 | .entry x=>cj (st.ev x) λa=>eZ st λst=>V1 [.raw,.raw] λrs=>Rs P X st o.dst [a] (λvs=>Instr.entry (ru vs 0)) (.tup (mO rs)) K
 | _=>False
section
variable {P:Program} {β:Nat->Nat} {st:St} {a:Act} {w w1:ay} {X:XT} {Y:YT} {E:ay->ay->Prop} {K:St->Prop} {Q:Exit->Act->ay->Prop}
abbrev YW(E:ay->ay->Prop)(st:St)(K:St->Prop)(w:ay)(a':Act)(w':ay):Prop:=∃β' cK,K cK/\Ext st cK/\E w w'/\Rep β' cK a' w'
theorem lg(hX:∀w0 w1 p,X w0 w1 p->p/\E w0 w1){o}{FX}{args l}{run}(h:eZ (st.esc l) λst=>rZ P X st o.dst FX args run K)(hR:Rep β st a w)
  (hx:∀v w1,(run (cD β args)).run P w=.ok v w1->(execOp a.eval o).run P w=.ok (.value v) w1):o.wp P a w (YW E st K w) Q:=by
 obtain⟨s1,h1,e1,ik,hm,_⟩:=dV h (hR.esc l);obtain⟨v,w',hr,cK,k1,k2,k3,k4⟩:=Ly hX h1 hm ik;exact yD v (hx v w' hr) rfl ⟨β,cK,k1,(Ext.esc st l).trans (e1.trans k2),k3,k4⟩
theorem wg(hX:∀w0 w1 p,X w0 w1 p->p/\E w0 w1){o}{FX}{args}{run}(h:eZ st λst=>rZ P X st o.dst FX args run K)(hR:Rep β st a w)
  (hx:∀v w1,(run (cD β args)).run P w=.ok v w1->(execOp a.eval o).run P w=.ok (.value v) w1):o.wp P a w (YW E st K w) Q:=by
 obtain⟨s1,h1,e1,ik,hm,_⟩:=dV h hR;obtain⟨v,w',hr,cK,k1,k2,k3,k4⟩:=Ly hX h1 hm ik;exact yD v (hx v w' hr) rfl ⟨β,cK,k1,e1.trans k2,k3,k4⟩
theorem G2(hX:∀w0 w1 p,X w0 w1 p->p/\E w0 w1){o}{args l}{run}(h:eZ (st.esc l) λst=>Wc P X st o.dst args run K)(hR:Rep β st a w)
  (hx:∀w1,(run (cD β args)).run P w=.ok () w1->(execOp a.eval o).run P w=.ok .skip w1):o.wp P a w (YW E st K w) Q:=by
 obtain⟨s1,h1,e1,ik,hm,_⟩:=dV h (hR.esc l);obtain⟨w',hr,cK,k1,k2,k3,k4⟩:=Wd hX h1 hm ik;exact QV (hx w' hr) rfl ⟨β,cK,k1,(Ext.esc st l).trans (e1.trans k2),k3,k4⟩
theorem Lz(hE:∀w w1,Only [] w w1->E w w1){d}{t}{zs}(hc:chk st zs=true)(h:K (st.FM d t zs))(hR:Rep β st a w){b}(hb:w.heap.size<=b)(hO:Only [] w w1)(hB:Blk w1 b t (cD β zs)):
  YW E st K w (a.put d (.pointer (some ⟨b,0,none⟩))) w1:=by
 simp[chk]at hc;exact⟨_,_,h,Ext.FM _ _ _ _,hE _ _ hO,hR.FM hc.1.1.1 hc.1.1.2 hc.1.2 hb hO hB hc.2⟩
theorem Rv(hX:∀w0 w1 p,X w0 w1 p->p/\E w0 w1){o}{FX}{f}{args}{oJ}{s1}(h:Rm P X s1 o.dst FX f args oJ K)(hm:s1.mv=false)(e1:Ext st s1)(hR:Rep β s1 a w)
  (hx:(execOp a.eval o).run P w=.ok (.enter f (cD β args++oJ).toArray) w):o.wp P a w (YW E st K w) Q:=by
 refine Ed hx ((Rn hX h hm hR).mono ?_);rintro e w' ⟨v,rfl,cK,k1,k2,k3,k4⟩;exact⟨v,_,rfl,rfl,β,cK,k1,e1.trans k2,k3,k4⟩
theorem Om(hX:∀w0 w1 p,X w0 w1 p->p/\E w0 w1){o}{FX}{f}{fst}{args}{oJ}{s1}(h:Rq P X s1 o.dst FX f fst args oJ K)(hm:s1.mv=false)(e1:Ext st s1)(hR:Rep β s1 a w)
  (hx:(execOp a.eval o).run P w=.ok (.enter f (uB (uB fst (cD β args)) oJ).toArray) w):o.wp P a w (YW E st K w) Q:=by
 refine Ed hx ((Rr hX h hm hR).mono ?_);rintro e w' ⟨v,rfl,cK,k1,k2,k3,k4⟩;exact⟨v,_,rfl,rfl,β,cK,k1,e1.trans k2,k3,k4⟩
theorem Rw{s}(h:ptS s=true) β:∃q,val β s=.pointer q:=by
 cases s<;>first | (cases h;done) | exact⟨_,rfl⟩
theorem Wf{a:Act}{dst}{op}{t ty}{x y}{t'}{p}{af}{g}{u v r}(hu:∃q,u=.pointer q)(hv:∃q,v=.pointer q)(hx:a.eval x=u)(hy:a.eval y=v){w w1}
  (hr:(Go.binOp op t u v).run P w=.ok r w1):(execOp a.eval ⟨dst,.binOp op t x y ty,t',p,af,g⟩).run P w=.ok (.value r) w1:=by
 obtain⟨q,rfl⟩:=hu;obtain⟨q',rfl⟩:=hv;have hg:eqGuard op t x y (.pointer q) (.pointer q')=pure ():=by cases op<;>rfl
 simp[execOp,hx,hy,hg,hr]
theorem Wg{a:Act}{dst}{x}{fn}{first captured:List az}{xs:List Operand}{ats}{t'}{p}{af}{g}{args}{w}
  (hx:a.eval x=.func fn first.toArray captured.toArray) (ha:first++xs.map a.eval=args):
  (execOp a.eval ⟨dst,.defer ⟨.value x,xs.toArray,ats⟩,t',p,af,g⟩).run P w=.ok (.defer {target:=.fn fn captured.toArray,args:=args.toArray}) w:=by
 subst ha;simp only[execOp,resolve,hx,Deferred.ofValue];simp
theorem Rx{a:Act}{dst}{t}{x}{t'}{p}{af}{g}{u v}{w w1}(hx:a.eval x=u)(hr:(Instr.range t u).run P w=.ok v w1):
  (execOp a.eval ⟨dst,.range t x,t',p,af,g⟩).run P w=.ok (.value v) w1:=by
 simp[execOp,hx,hr]
theorem LA{a:Act}{dst}{x}{t'}{p}{af}{g}{u v}{w w1}(hx:a.eval x=u)(hr:(Instr.next u false t').run P w=.ok v w1):
  (execOp a.eval ⟨dst,.next x false,t',p,af,g⟩).run P w=.ok (.value v) w1:=by
 simp[execOp,hx,hr]
theorem Ry{a:Act}{dst}{x}{t'}{p}{af}{g}{u v}{w w1}(hx:a.eval x=u)(hr:(Instr.entry u).run P w=.ok v w1):
  (execOp a.eval ⟨dst,.entry x,t',p,af,g⟩).run P w=.ok (.value v) w1:=by
 simp[execOp,hx,hr]
theorem lh β l m:cD β (l++m)=cD β l++cD β m:=by simp[cD]
theorem Ez(hX:∀w0 w1 p,X w0 w1 p->p/\E w0 w1){o:Oper}(hE:∀w w1,Only [] w w1->E w w1)(hS:y9 o.op=true->∀bk k w w1 p,Y bk p->(∀j,bk=some j->k=j)->Only [k] w w1->p/\E w w1)(h:loud P X Y st o K)(hR:Rep β st a w):o.wp P a w (YW E st K w) Q:=by
 obtain⟨dst,op,t',p,af,g⟩:=o;unfold loud at h;dsimp only at h;split at h
 ·obtain⟨x,hx,h⟩:=bC h;obtain⟨y,hy,h⟩:=bC h;obtain⟨hp,h⟩:=dD h;simp only[aR]at hp;exact lg hX h hR λv w1 hr=>Wf (Rw hp.1 β) (Rw hp.2 β) (hR.ev hx) (hR.ev hy) hr
 ·obtain⟨zs,hz,h⟩:=bC h;obtain⟨hc,h⟩:=dD h;obtain⟨z,z1,z2⟩:=YU hz w;exact An z1 (z2 β) (λ_=>rfl) λb w1 hb hO hB=>Lz hE hc h hR hb hO hB
 ·obtain⟨s,hs,h⟩:=bC h;obtain⟨zs,hz,h⟩:=bC h;obtain⟨hc,h⟩:=dD h;exact QW (by rw[hR.ev hs];exact(xC hz β).1) (λ_=>rfl) λb w1 hb hO hB=>Lz hE hc h hR hb hO hB
 ·obtain⟨q,hx,h⟩:=bC h;obtain⟨s,hy,h⟩:=bC h;obtain⟨vs,hv,h⟩:=bC h;obtain⟨hsz,h⟩:=dD h;obtain⟨c1,c2⟩:=xC hv β;have hE':=hS rfl;cases q with
  | box i off=>
   obtain⟨b,hb,h⟩:=bC h;obtain⟨h1,h⟩:=dD h;simp only[aR]at h1;have h2:=cH h1.2;refine Am (pG hsz w) (hR.ev hx) (by rw[hR.ev hy];exact c1) (fF β vs) c2 (hR.bx i b hb h1.1).blk (by rw[fF,fF];exact h2) rfl rfl λw1 hO hB=>?_;rw[<-GU]at hB;obtain⟨h,he⟩:=hE' _ (β i) _ w1 _ h (λj hj=>(hR.bx i b hb h1.1).at_ j hj) hO;exact⟨β,_,h,(Ext.tR hb).trans (Ext.put _ _ _),he,(hR.tR hb h1.1 hO hB).put dst .un⟩
  | ad ad=>
   simp only[afR]at h;obtain⟨s1,h1,e1,ik,hm,_⟩:=dV h (hR.esc vs);obtain⟨bk,off,cells,ety,rfl,hB,FU,h2⟩:=h1;obtain⟨h3,h2⟩:=dD h2;simp only[aR]at h3;obtain⟨h2,gq⟩:=JD h2;have hw:=ik.still hm;rw[<-hw,ik.tQ h3.1]at h2;rw[<-hw]at hB;refine Am (pG hsz w) (hR.ev hx) (by rw[hR.ev hy];exact c1) (fF β vs) c2 hB (by rw[fF];exact FU) rfl rfl λw1 hO u7=>?_;obtain⟨h4,h5⟩:=hX _ _ _ (h2 w1 hO u7);refine⟨β,_,h4,((Ext.esc st vs).trans e1).trans (Ext.trans (t:={s1 with w0:=w1}) ⟨rfl,ba _,λ_ _ _ h _=>h,λi b' jL ho hs=>⟨b',jL,ho,rfl,rfl,rfl,λ_ h=>h⟩,Ra,Gk⟩ (Ext.put _ _ _)),h5,?_⟩;refine Rep.put (v:=.un) (Rep.next (ct':=s1.ct) ik hm h3.2 λi b' jL ho=>⟨b',jL,ho,rfl,?_⟩) _;have eD:=ik.Pq h3.2 jL ho;have:=gq i b' jL ho;rw[eD]at this;exact hO.blk (ik.bx i b' jL ho).blk (by simpa using this)
  | _=>exact h.elim
 ·rename_i c;obtain⟨callee,⟨xs⟩,ts⟩:=c;obtain⟨vs,hv,h⟩:=bC h;have yV:=hR.ND hv;dsimp only at h;cases callee with
  | value f=>
   obtain⟨fv,hf,h⟩:=bC h;cases fv with
   | fn g' fs cs=>
    have ef:Cy fs=true->Cy cs=true->a.eval f=.func (.func g') (cD β (mN fs)).toArray (cD β (mN cs)).toArray:=λk1 k2=>by
     rw[hR.ev hf];show Value.func (.func g') (qe β fs).toArray (qe β cs).toArray=_;rw[mC β k1,mC β k2]
    have h':=h;unfold aa2 at h';rcases mP h' with⟨h0,h1⟩ | ⟨_,h1⟩
    ·simp only[aR]at h0;obtain⟨s1,h1,e1,ik,hm,_⟩:=dV h1 (hR.esc _);refine Rv hX h1 hm ((Ext.esc _ _).trans e1) ik ?_;exact Ai (ef h0.1.1 h0.1.2) (eU h0.2) (by rw[yV,lh,lh,bQ])
    obtain⟨h0,h1⟩:=dD h1;simp only[aR]at h0;exact lg hX h1 hR λv w1 hr=>aa1 (ef h0.1 h0.2) (by rw[yV,lh,lh]) (Ru hr)
   | raw v=>
    simp only[aa2]at h;obtain⟨s1,⟨g',fst,cap,h1,h2,h3⟩,e1,ik,hm,_⟩:=dV h (hR.esc vs);refine Om hX h3 hm ((Ext.esc _ _).trans e1) ik ?_;have ef:a.eval f=.func (.func g') fst.toArray cap.toArray:=(hR.ev hf).trans h1;exact Ai ef h2 (by rw[yV];rfl)
   | _=>exact h.elim
  | builtin b=>
   unfold afQ at h;cases b with
   | append=>exact lg hX h hR λv w1 hr=>xy yV hr
   | copy=>exact lg hX h hR λv w1 hr=>Ah yV hr
   | delete=>exact lg hX h hR λv w1 hr=>xz yV hr
   | clear=>exact lg hX h hR λv w1 hr=>yY yV hr
   | len=>exact lg hX h hR λv w1 hr=>Cu yV hr
   | unsafeSliceData=>exact lg hX h hR λv w1 hr=>(by rw[<-yV]at hr;exact lS (λ_=>rfl) hr)
   | unsafeString=>exact lg hX h hR λv w1 hr=>(by rw[<-yV]at hr;exact lS (λ_=>rfl) hr)
   | _=>
    obtain⟨s1,h1,_⟩:=dV h (hR.esc vs);exact h1.elim
  | _=>exact h.elim
 ·rename_i c;obtain⟨callee,⟨xs⟩,ts⟩:=c;obtain⟨vs,hv,h⟩:=bC h;have yV:=hR.ND hv;dsimp only at h;cases callee with
  | value f=>
   obtain⟨fv,hf,h⟩:=bC h;cases fv with
   | fn g' fs cs=>
    unfold afS at h;obtain⟨h0,h1⟩:=dD h;simp only[aR]at h0;have ef:a.eval f=.func (.func g') (cD β (mN fs)).toArray (cD β (mN cs)).toArray:=by
     rw[hR.ev hf];show Value.func (.func g') (qe β fs).toArray (qe β cs).toArray=_;rw[mC β h0.1.1,mC β h0.1.2]
    obtain⟨s1,h1,e1,ik,hm,_⟩:=dV h1 (hR.esc _);obtain⟨hc,h1⟩:=dD h1;simp only[aR]at hc;rw[ik.tQ hc.1,ik.tQ hc.2]at h1;have hr:=Wg (P:=P) (dst:=dst) (ats:=ts) (t':=t') (p:=p) (af:=af) (g:=g) (w:=w) ef (by rw[yV,<-lh]);unfold Oper.wp;rw[hr,Oper.upon_defer];have Uo:Rep β {s1 with df:=(g',cD β (mN fs++vs),cD β (mN cs))::s1.df} {a with defers:={target:=.fn (.func g') (cD β (mN cs)).toArray,args:=(cD β (mN fs++vs)).toArray}::a.defers} w:=by
     obtain⟨us,hu⟩:=ik.fr;exact⟨⟨us,by rw[hu];rfl⟩,ik.bx,ik.ne,ik.only,ik.still⟩
    exact⟨β,_,h1,((Ext.esc _ _).trans e1).trans (Ext.trans (t:={s1 with df:=(g',cD β (mN fs++vs),cD β (mN cs))::s1.df}) ⟨rfl,ba _,λ_ _ _ h _=>h,λi b' jL ho hs=>⟨b',jL,ho,rfl,rfl,rfl,λ_ h=>h⟩,Ra,⟨[_],rfl⟩⟩ (Ext.put _ _ _)),hE _ _ (Only.refl _ _),Uo.put dst .un⟩
   | _=>exact h.elim
  | _=>exact h.elim
 ·rename_i t n ps;obtain⟨l,hl,h1⟩:=bC h;clear h;obtain⟨ps⟩:=ps;refine lg hX h1 hR λv w1 hr=>?_;rw[YV]at hr;exact D5 (hR.Vv hl) hr
 ·obtain⟨u,hx,h⟩:=bC h;obtain⟨v,hy,h⟩:=bC h;exact wg hX h hR λ_ w1 hr=>GB (hR.ev hx) (hR.ev hy) hr
 ·exact wg hX h hR λ_ w1 hr=>N7 hr
 ·obtain⟨u,hx,h⟩:=bC h;exact wg hX h hR λ_ w1 hr=>Ji (hR.ev hx) hr
 ·obtain⟨u,hx,h⟩:=bC h;obtain⟨v,hy,h⟩:=bC h;exact wg hX h hR λ_ w1 hr=>QQ (hR.ev hx) (hR.ev hy) hr
 ·obtain⟨u,hx,h⟩:=bC h;obtain⟨v,hy,h⟩:=bC h;obtain⟨z,hz,h⟩:=bC h;exact G2 hX h hR λw1 hr=>GC (hR.ev hx) (hR.ev hy) (hR.ev hz) hr
 ·obtain⟨u,hx,h⟩:=bC h;obtain⟨v,hy,h⟩:=bC h;obtain⟨z,hz,h⟩:=bC h;exact G2 hX h hR λw1 hr=>QS (hR.ev hx) (hR.ev hy) (hR.ev hz) hr
 ·obtain⟨u,hx,h⟩:=bC h;exact lg hX h hR λ_ w1 hr=>N8 (hR.ev hx) hr
 ·obtain⟨u,hx,h⟩:=bC h;obtain⟨s1,⟨q,h1⟩,e1,ik,hm,_⟩:=dV h hR;obtain⟨v,w',hr,cK,k1,k2,k3,k4⟩:=zK hX h1 hm ik;exact yD v (Rx (hR.ev hx) hr) rfl ⟨β,cK,k1,e1.trans k2,k3,k4⟩
 ·obtain⟨u,hx,h⟩:=bC h;obtain⟨s1,h1,e1,ik,hm,_⟩:=dV h hR;rcases h1 with h1 | h1
  ·obtain⟨v,w',hr,cK,k1,k2,k3,k4⟩:=zK hX h1 hm ik;exact yD v (LA (hR.ev hx) hr) rfl ⟨β,cK,k1,e1.trans k2,k3,k4⟩
  obtain⟨_,h1,_⟩:=sY h1;obtain⟨v,w',hr,cK,k1,k2,k3,k4⟩:=zK hX h1 hm ik;exact yD v (LA (hR.ev hx) hr) rfl ⟨β,cK,k1,e1.trans k2,k3,k4⟩
 ·obtain⟨u,hx,h⟩:=bC h;obtain⟨s1,h1,e1,ik,hm,_⟩:=dV h hR;obtain⟨_,h1,_⟩:=sY h1;obtain⟨v,w',hr,cK,k1,k2,k3,k4⟩:=zK hX h1 hm ik;exact yD v (Ry (hR.ev hx) hr) rfl ⟨β,cK,k1,e1.trans k2,k3,k4⟩
 exact h.elim
end
def nd(P:Program)(st:St)(o:Op):Bool:=match o with
 | .load _ x=>(match st.ev x with
  | some (.ad _)=>true
  | _=>false)
 | .convert s _ _=>(match P.underlying s with
  | some (.slice _)=>true
  | _=>false)
 | _=>false
def exI(b:Bool)(st:St)(K:St->Prop):Prop:=bif b&&st.mv then eZ st K else K st
theorem xH{b}{st}{K}(h:exI b st K){β}{a}{w}(hR:Rep β st a w):∃cK,K cK/\Ext st cK/\Rep β cK a w/\cK.fr=st.fr/\cK.n=st.n:=by
 rcases mP h with⟨_,h⟩ | ⟨_,h⟩
 ·obtain⟨s,h1,h2,h3,h4,h5,h6,_⟩:=dV h hR;exact⟨s,h1,h2,h3,h5,h6⟩
 exact⟨st,h,Ext.refl _,hR,rfl,rfl⟩
def EA(P:Program):List Oper->Bool
 | []=>true
 | o::r=>jy P o.op&&EA P r
def JE:List Oper->Bool
 | []=>false
 | o::r=>mem o.op||JE r
def X0:XT:=λ_ _ p=>p
def Y0:YT:=λ_ p=>p
def agT(P:Program)(t:TypeId):Bool:=match P.underlying t with
 | some d=>lX d
 | none=>false
def aa4(P:Program)(o:Oper)(v:SV)(K:SV->Prop):Prop:=match o.op,v with
 | .extract _ _,.raw x=>(match Rb P 12 o.type with
  | []=>K (.raw x)
  | [.raw]=>K (.raw x)
  | ls=>V1 ls λvs=>x.v=val β0 (Og (agT P o.type) vs)/\K (Og (agT P o.type) vs))
 | _,v=>K v
theorem Wh{P}{o}{v}{K:SV->Prop}(h:aa4 P o v K):∃u,K u/\∀β,val β u=val β v:=by
 unfold aa4 at h;split at h
 ·split at h
  ·exact⟨_,h,λ_=>rfl⟩
  ·exact⟨_,h,λ_=>rfl⟩
  obtain⟨vs,⟨e,h⟩,_,hc⟩:=sY h;refine⟨_,h,λβ=>Eq.trans ?_ e.symm⟩;exact(iO (g:=λ_=>false) (λi h=>aal) _ (Lw _ _ (hc _))).symm
 exact⟨_,h,λ_=>rfl⟩
def LB(P:Program)(st:St)(o:Oper)(K:St->Prop):Prop:=
 bif jy P o.op then exI (nd P st o.op) st λst=>pur P [] st o.op λv=>aa4 P o v λv=>K (st.put o.dst v)else loud P X0 Y0 st o K
def za(P:Program)(ops:List Oper):Nat->List Oper->St->(St->Prop)->Prop
 | 0,_,_,_=>False
 | _+1,[],st,K=>K st
 | f+1,o::rest,st,K=>match o.guard with
  | none=>LB P st o λst=>za P ops f rest st K
  | some (j,want)=>(match tst st ops j with
   | some (_,.un)=>za P ops f rest (st.put o.dst .un) K
   | some (_,.bl b)=>bif b==want then LB P st o λst=>za P ops f rest st K else za P ops f rest (st.put o.dst .un) K
   | some (d,.bt t)=>bif EA P ((o::rest).take (y0 ops j (o::rest)+1))
    then exI (JE ((o::rest).take (y0 ops j (o::rest)+1))) st λst=>xE P ops f [] ((o::rest).take (y0 ops j (o::rest)+1)) st λst=>za P ops f ((o::rest).drop (y0 ops j (o::rest)+1)) st K
    else((t=true->za P ops f (o::rest) (st.put (some d) (.bl true)) K)/\(t=false->za P ops f (o::rest) (st.put (some d) (.bl false)) K))
   | _=>False)
section
variable {P:Program} {ops:List Oper} {Q:Exit->Act->ay->Prop}
theorem Rz{st}{o}{rest}{K}{β}{a}{w}(h:LB P st o K)(hR:Rep β st a w)(hw:Region.wanted o (yielded ops.toArray a.tmps)=true)
  (hK:∀β' cK a' w',K cK->Ext st cK->Rep β' cK a' w'->wpList P ops.toArray Q rest a' w'):wpList P ops.toArray Q (o::rest) a w:=by
 rcases mP h with⟨_,h⟩ | ⟨_,h⟩
 ·obtain⟨s,h1,h2,h3,h4,h5⟩:=xH h hR;obtain⟨v,hv,hy⟩:=Jz h1;obtain⟨u,hv,ev⟩:=Wh hv;exact Ag _ hw (hy trivial β a w h3 _ _ _ _ _ w λ_=>rfl) rfl (hK β _ _ w hv (h2.trans (Ext.put _ _ _)) (ev β▸h3.put o.dst u))
 refine sU hw (Oper.wp_mono ?_ (Ez (E:=λ_ _=>True) (λ_ _ _ h=>⟨h,trivial⟩) (λ_ _ _=>trivial) (λ_ _ _ _ _ _ h _ _=>⟨h,trivial⟩) h hR));rintro a' w' ⟨β',cK,k1,k2,_,k4⟩;exact hK β' cK a' w' k1 k2 k4
theorem uc:∀{f:Nat} {l:List Oper} {st:St} {K:St->Prop},za P ops f l st K->∀{β:Nat->Nat} {a:Act} {w:ay},Rep β st a w->
  (∀β' cK a' w',K cK->Ext st cK->Rep β' cK a' w'->Q .normal a' w')->wpList P ops.toArray Q l a w
 | 0,_,_,_,h,_,_,_,_,_=>h.elim
 | _+1,[],st,K,h,β,a,w,hR,hK=>hK β st a w h (Ext.refl _) hR
 | f+1,o::rest,st,K,h,β,a,w,hR,hK=>by
  have no:za P ops f rest _ K->Region.wanted o _=false->wpList P ops.toArray Q _ a w:=λh hw=>
   QO hw rfl (uc h (hR.put o.dst .un) λβ' cK a' w' k1 k2 k3=>hK β' cK a' w' k1 ((Ext.put _ _ _).trans k2) k3)
  have Vy:(LB P st o λst=>za P ops f rest st K)->Region.wanted o _=true->wpList P ops.toArray Q _ a w:=λh hw=>
   Rz h hR hw λβ' cK a' w' k1 k2 k3=>uc k1 k3 λβ2 vF a2 w2 m1 m2 m3=>hK β2 vF a2 w2 m1 (k2.trans m2) m3
  unfold za at h;split at h
  ·rename_i hg;exact Vy h (wn hg)
  rename_i j want hg;split at h
  ·rename_i d ht;exact no h (xD hR hg ht)
  ·rename_i d b ht;have hw:=qg hR hg ht (b:=b) rfl;rcases mP h with⟨e,h⟩ | ⟨e,h⟩
   ·exact Vy h (hw.trans e)
   exact no h (hw.trans e)
  ·rename_i d t ht;obtain⟨oj,Qq,ZX,Vx⟩:=AE ht;rcases mP h with⟨_,h⟩ | ⟨_,h⟩
   ·generalize y0 ops j _+1=m at h;obtain⟨s,h1,h2,h3,h4,h5⟩:=xH h hR;obtain⟨s2,k1,k2,k3,k4⟩:=rn h1;obtain⟨a',g1,g2⟩:=k4 trivial β a w h3;have:=El (Q:=Q) (rest:=(o::rest).drop m) g1 (uc k1 g2 λβ2 vF a2 w2 m1 m2 m3=>hK β2 vF a2 w2 m1 ((h2.trans k2).trans m2) m3);rwa[dl]at this
   cases t with
   | true=>exact uc (h.1 rfl) (hR.set Vx rfl) λβ' cK a' w' k1 k2 k3=>hK β' cK a' w' k1 ((Ext.put _ _ _).trans k2) k3
   | false=>exact uc (h.2 rfl) (hR.set Vx rfl) λβ' cK a' w' k1 k2 k3=>hK β' cK a' w' k1 ((Ext.put _ _ _).trans k2) k3
  exact h.elim
end
def JT:List Lf->Type
 | []=>ay->Prop
 | l::r=>l.T->JT r
def G3:(ls:List Lf)->JT ls->(List SV->ay->Prop)->Prop
 | [],J,K=>∀w,J w->K [] w
 | l::r,J,K=>∀x,G3 r (J x) λvs w=>K (l.sv x::vs) w
def unI(k:IntKind)(s:SV):Option Int:=match qf s with
 | some (k',n)=>bif decide (k'=k)then some n else none
 | none=>none
def unP(bl:Nat->Nat)(s:SV):Option (Option Addr):=match s with
 | .box i o=>some (some ⟨bl i,o,none⟩)
 | s=>vJ s
def unM(s:SV):Option (Option Nat):=match s with
 | .map m=>some m
 | _=>none
def unR(bl:Nat->Nat)(s:SV):Option OV:=match s with
 | .raw v=>some v
 | .fn f fs cs=>some ⟨.func (.func f) (qe bl fs).toArray (qe bl cs).toArray,rfl⟩
 | _=>none
def un(bl:Nat->Nat):(l:Lf)->SV->Option l.T
 | .int k=>unI k
 | .bool=>Az
 | .str=>vm
 | .ptr=>unP bl
 | .sl=>Lp
 | .map=>unM
 | .raw=>unR bl
theorem afT{bl}{l}{s}{x}(h:un bl l s=some x) β:val β (l.sv x)=val bl s:=by
 cases l with
 | int k=>
  have h:unI k s=some x:=h;unfold unI at h;split at h
  ·rename_i k' n ho;obtain⟨e,rfl⟩:=Ej h;have e:=aP e;subst e;rw[dw ho];rfl
  cases h
 | bool=>rw[lY h];rfl
 | str=>rw[ir h];rfl
 | ptr=>
  have h:unP bl s=some x:=h;unfold unP at h;split at h
  ·injection h with h;subst h;rfl
  rw[V2 h];rfl
 | sl=>rw[jZ h];rfl
 | map=>
  have h:unM s=some x:=h;unfold unM at h;split at h
  ·injection h with h;subst h;rfl
  cases h
 | raw=>
  have h:unR bl s=some x:=h;unfold unR at h;split at h
  ·injection h with h;subst h;rfl
  ·injection h with h;subst h;rfl
  cases h
def apJ:(ls:List Lf)->(Nat->Nat)->JT ls->List SV->ay->Prop
 | [],_,J,[],w=>J w
 | l::r,bl,J,s::ss,w=>(match un bl l s with
  | some x=>apJ r bl (J x) ss w
  | none=>False)
 | _,_,_,_,_=>False
theorem RA{bl}{w}:∀{ls:List Lf} {J:JT ls} {ss:List SV} {K:List SV->ay->Prop},apJ ls bl J ss w->G3 ls J K->∃vs,K vs w/\vs.length=ls.length/\(∀β,cD β vs=cD bl ss)/\∀g,iq g vs=true
 | [],J,[],K,h,k=>⟨[],k w h,rfl,λ_=>rfl,λ_=>rfl⟩
 | l::r,J,s::ss,K,h,k=>by
  unfold apJ at h;split at h
  ·rename_i x hx;obtain⟨vs,h1,h2,h3,h4⟩:=RA h (k x);refine⟨_,h1,by simp[h2],λβ=>?_,λg=>by simp[iq,Lf.cln,h4 g,nB]⟩;have:=h3 β;simp only[cD,bH]at this⊢;rw[this,afT hx]
  exact h.elim
 | [],_,_::_,_,h,_=>h.elim
 | _::_,_,[],_,h,_=>h.elim
inductive MI where
 | s (slot:Nat) (l:Lf)
 | a (slot:Nat) (ls:List Lf)
 | b (slot:Nat) (ls:List Lf)
def mLs:List MI->List Lf
 | []=>[]
 | .s _ l::r=>l::mLs r
 | .a _ ls::r=>ls++mLs r
 | .b _ ls::r=>ls++mLs r
def bxi(st:St)(i:Nat):Option Nat:=match st.get i with
 | some (.box j _)=>some j
 | _=>none
def RB:List SV->List SV
 | []=>[]
 | .box j o::r=>.box j o::RB r
 | _::r=>RB r
def AU(st:St):List MI->List SV
 | []=>[]
 | .b i _::r=>(match bxi st i with
  | some j=>(match dc st.bx j with
   | some b=>RB b.cells++AU st r
   | none=>AU st r)
  | none=>AU st r)
 | .s i _::r=>(match st.get i with
  | some (.box j o)=>.box j o::AU st r
  | _=>AU st r)
 | _::r=>AU st r
def qk(st s:St):List MI->Option (List SV)
 | []=>some []
 | .s i _::r=>(match s.get i,qk st s r with
  | some v,some l=>some (v::l)
  | _,_=>none)
 | .a i ls::r=>(match s.get i,qk st s r with
  | some (.agg l),some m=>bif Cy l&&Nat.beq (mN l).length ls.length then some (mN l++m)else none
  | _,_=>none)
 | .b i ls::r=>(match bxi st i with
  | some j=>(match dc s.bx j,qk st s r with
   | some b,some m=>bif Nat.beq b.cells.length ls.length then some (b.cells++m)else none
   | _,_=>none)
  | none=>none)
def JF(ct:Nat):List MI->List SV->List (Nat×Nat×SV)
 | .s i _::r,v::vs=>(i,ct,v)::JF ct r vs
 | .a i ls::r,vs=>(i,ct,.agg (mO (vs.take ls.length)))::JF ct r (vs.drop ls.length)
 | .b _ ls::r,vs=>JF ct r (vs.drop ls.length)
 | _,_=>[]
def JG(st:St):List MI->List SV->List ki->List ki
 | .s _ _::r,_::vs,bx=>JG st r vs bx
 | .a _ ls::r,vs,bx=>JG st r (vs.drop ls.length) bx
 | .b i ls::r,vs,bx=>(match bxi st i with
  | some j=>(match dc bx j with
   | some b=>JG st r (vs.drop ls.length) (Oe bx j {b with cells:=vs.take ls.length,stp:=st.ct})
   | none=>JG st r (vs.drop ls.length) bx)
  | none=>JG st r (vs.drop ls.length) bx)
 | _,_,bx=>bx
def YX:List MI->List Nat
 | []=>[]
 | .s i _::r=>i::YX r
 | .a i _::r=>i::YX r
 | .b _ _::r=>YX r
def RC(st:St):List MI->List Nat
 | []=>[]
 | .b i _::r=>(match bxi st i with
  | some j=>j::RC st r
  | none=>RC st r)
 | _::r=>RC st r
def kFr(fr:List (Nat×Nat×SV)):List Nat->List (Nat×Nat×SV)
 | []=>[]
 | i::r=>match dQ fr i with
  | some p=>(i,p)::kFr fr r
  | none=>kFr fr r
def ma(st:St)(kp:List Nat)(ms:List MI)(vs:List SV)(w:ay):St:=
 {n:=st.n,fr:=JF st.ct ms vs++kFr st.fr kp,bx:=JG st ms vs st.bx,w0:=w,mv:=false,dt:=[],ct:=st.ct+1,df:=st.df}
def Wi(st s:St)(sl:List Nat):List Nat->Bool
 | []=>true
 | i::r=>(match dQ st.fr i with
  | some (k,v)=>(match dQ s.fr i with
   | some (k',_)=>Nat.beq k k'&&Nat.blt k st.ct&&!sl.elem i&&cln (GY st.bx) v
   | none=>false)
  | none=>true)&&Wi st s sl r
def Oo(st:St)(I8:List Nat):Nat->List ki->List ki->Bool
 | _,[],_=>true
 | i,b::r,c::q=>(!b.ok||(b.blk.isSome&&(I8.elem i||(Nat.blt c.stp st.ct&&iq (GY st.bx) b.cells))))&&Oo st I8 (i+1) r q
 | _,_::_,[]=>false
def Oq(st:St)(kp:List Nat) ms (J:JT (mLs ms)) (s:St):Prop:=
 bif Wi st s (YX ms) kp&&Oo st (RC st ms) 0 st.bx s.bx&&Nat.beq s.df.length st.df.length then
  cj (qk st s ms) λvs=>bif iq (GY s.bx) vs then apJ _ (I4 s.bx) J vs s.w0 else False
 else False
theorem ud:∀l m i,dQ (l++m) i=match dQ l i with
  | some p=>some p
  | none=>dQ m i
 | [],_,_=>rfl
 | (k,p)::r,m,i=>by
  simp[cp,dQ];cases Nat.beq k i with
  | true=>rfl
  | false=>exact ud r m i
theorem zL{fr}:∀{kp:List Nat} {i:Nat} {p:Nat×SV},dQ (kFr fr kp) i=some p->i∈kp/\dQ fr i=some p
 | j::r,i,p,h=>by
  unfold kFr at h;split at h
  ·rename_i q hq;simp[dQ]at h;cases hb:Nat.beq j i with
   | true=>
    rw[hb]at h;simp at h;subst h;have:=cd hb;subst this;exact⟨aac,hq⟩
   | false=>
    rw[hb]at h;obtain⟨h1,h2⟩:=zL aaA;exact⟨aeP,h2⟩
  obtain⟨h1,h2⟩:=zL h;exact⟨aeP,h2⟩
theorem G4{fr}{p}:∀{kp:List Nat} {i:Nat},i∈kp->dQ fr i=some p->dQ (kFr fr kp) i=some p
 | j::r,i,hi,h=>by
  unfold kFr;cases hb:Nat.beq j i with
  | true=>
   have:=cd hb;subst this;rw[h];simp[dQ,Nat.beq_refl,my]
  | false=>
   have B7:i∈r:=by
    rcases aV.1 hi with e | e
    ·subst e;simp at hb
    exact e
   have ih:=G4 (p:=p) B7 h;split
   ·simp[dQ,hb,uL];exact ih
   exact ih
theorem ue{ct}:∀{ms:List MI} {vs:List SV} {i:Nat},(YX ms).elem i=false->dQ (JF ct ms vs) i=none
 | [],vs,i,_=>rfl
 | .s j l::r,[],i,_=>rfl
 | .s j l::r,v::vs,i,h=>by
  simp only[YX,lA]at h;split at h
  ·cases h
  rename_i gq;simp[JF,dQ];have:Nat.beq j i=false:=by
   cases hb:Nat.beq j i with
   | false=>rfl
   | true=>have:=cd hb;subst this;simp at gq
  rw[this,uL];exact ue h
 | .a j ls::r,vs,i,h=>by
  simp only[YX,lA]at h;split at h
  ·cases h
  rename_i gq;simp[JF,dQ];have:Nat.beq j i=false:=by
   cases hb:Nat.beq j i with
   | false=>rfl
   | true=>have:=cd hb;subst this;simp at gq
  rw[this,uL];exact ue h
 | .b j ls::r,vs,i,h=>by
  simp[JF];exact ue h
theorem uf{ct}:∀{ms:List MI} {vs:List SV} {i:Nat} {p:Nat×SV},dQ (JF ct ms vs) i=some p->p.1=ct
 | [],vs,i,p,h=>by cases vs<;>cases h
 | .s j l::r,[],i,p,h=>aal
 | .s j l::r,v::vs,i,p,h=>by
  simp[JF,dQ]at h;cases hb:Nat.beq j i with
  | true=>rw[hb]at h;simp at h;subst h;rfl
  | false=>rw[hb]at h;exact uf aaA
 | .a j ls::r,vs,i,p,h=>by
  simp[JF,dQ]at h;cases hb:Nat.beq j i with
  | true=>rw[hb]at h;simp at h;subst h;rfl
  | false=>rw[hb]at h;exact uf aaA
 | .b j ls::r,vs,i,p,h=>by
  simp[JF]at h;exact uf h
theorem iP{st}:∀ms vs bx i b,dc bx i=some b->∃b',dc (JG st ms vs bx) i=some b'/\b'.ty=b.ty/\b'.ok=b.ok/\b'.blk=b.blk/\((RC st ms).elem i=false->b'=b)/\(b'=b∨b'.stp=st.ct)
 | [],vs,bx,i,b,h=>⟨b,by cases vs<;>exact h,rfl,rfl,rfl,λ_=>rfl,.inl rfl⟩
 | .s j l::r,[],bx,i,b,h=>⟨b,h,rfl,rfl,rfl,λ_=>rfl,.inl rfl⟩
 | .s j l::r,v::vs,bx,i,b,h=>iP r vs bx i b h
 | .a j ls::r,vs,bx,i,b,h=>iP r _ bx i b h
 | .b s ls::r,vs,bx,i,b,h=>by
  simp only[JG,RC];cases hj:bxi st s with
  | none=>exact iP r _ bx i b h
  | some j=>
   dsimp only;cases hc:dc bx j with
   | none=>
    obtain⟨b',h1,h2,h3,h4,h5,h6⟩:=iP (st:=st) r _ bx i b h;refine⟨b',h1,h2,h3,h4,λhe=>h5 ?_,h6⟩;simp only[lA]at he;split at he
    ·cases he
    exact he
   | some c=>
    by_cases sD:i=j
    ·subst sD;rw[hc]at h;injection h with h;subst h;obtain⟨b',h1,h2,h3,h4,h5,h6⟩:=iP (st:=st) r _ _ i _ (by rw[jl hc,bc rfl]);refine⟨b',h1,h2,h3,h4,λhe=>?_,?_⟩
     ·simp at he
     rcases h6 with rfl | h6
     ·exact .inr rfl
     exact .inr h6
    obtain⟨b',h1,h2,h3,h4,h5,h6⟩:=iP (st:=st) r _ (Oe bx j {c with cells:=vs.take ls.length,stp:=st.ct}) i b (by rw[jl hc,aY sD];exact h);refine⟨b',h1,h2,h3,h4,λhe=>h5 ?_,h6⟩;simp only[lA]at he;split at he
    ·cases he
    exact he
theorem om{st}:∀ms vs bx i,dc bx i=none->dc (JG st ms vs bx) i=none
 | [],vs,bx,i,h=>by cases vs<;>exact h
 | .s j l::r,[],bx,i,h=>h
 | .s j l::r,v::vs,bx,i,h=>om r vs bx i h
 | .a j ls::r,vs,bx,i,h=>om r _ bx i h
 | .b s ls::r,vs,bx,i,h=>by
  simp[JG];cases hj:bxi st s with
  | none=>exact om r _ bx i h
  | some j=>
   dsimp only;cases hc:dc bx j with
   | none=>exact om r _ bx i h
   | some c=>
    refine om r _ _ i ?_;rw[jl hc,aY]
    ·exact h
    rintro rfl;rw[h]at hc;cases hc
theorem Ext.T7{st}{kp}{ms}{vs}{w}:Ext st (ma st kp ms vs w):=by
 refine⟨rfl,iM _,λi k v hl bT=>?_,λi b' hb ho hs=>?_,λi b hb=>?_,Gk⟩
 ·simp[ma]at hl;rw[ud]at hl;split at hl
  ·rename_i p hp;have:=uf hp;simp at hl;subst hl;omega
  exact(zL hl).2
 ·simp[ma]at hb;cases hn:dc st.bx i with
  | none=>rw[om _ _ _ _ hn]at hb;cases hb
  | some b=>
   obtain⟨b2,h1,h2,h3,h4,h5,h6⟩:=iP (st:=st) ms vs st.bx i b hn;rw[h1]at hb;injection hb with hb;subst hb;rcases h6 with rfl | h6
   ·exact⟨b2,rfl,ho,rfl,rfl,rfl,λ_ h=>h⟩
   omega
 obtain⟨b2,h1,h2,h3,h4,_⟩:=iP (st:=st) ms vs st.bx i b hb;exact⟨b2,h1,h2,h3,λk hk=>by rw[h4];exact hk⟩
def RD(st:St)(kp:List Nat)(ms:List MI)(s:St):Prop:=Ext st s∨∃vs w,Ext (ma st kp ms vs w) s
section
variable {st s:St} {kp:List Nat} {ms:List MI} {β:Nat->Nat} {a:Act} {w:ay}
theorem RD.n(h:RD st kp ms s):s.n=st.n:=by
 rcases h with h | ⟨vs,w,h⟩
 ·exact h.n
 exact h.n
theorem RD.df(h:RD st kp ms s):∃l,s.df=l++st.df:=by
 rcases h with h | ⟨vs,w,h⟩
 ·exact h.df
 exact h.df
theorem RD.slot(h:RD st kp ms s){i k}{v v'}(hi:i∈kp)(h1:dQ st.fr i=some (k,v))(h2:dQ s.fr i=some (k,v'))(hk:k<st.ct)(hs:(YX ms).elem i=false):v'=v:=by
 rcases h with h | ⟨vs,w,h⟩
 ·have:=h.fr i k v' h2 hk;rw[h1]at this;simpa using this.symm
 have:=h.fr i k v' h2 (Nat.lt_succ_of_lt hk);simp[ma]at this;rw[ud,ue hs]at this;rw[G4 hi h1]at this;simpa using this.symm
theorem RD.ps(h:RD st kp ms s){i}{b}(hb:dc st.bx i=some b):∃c,dc s.bx i=some c/\c.ty=b.ty/\c.ok=b.ok/\∀k,b.blk=some k->c.blk=some k:=by
 rcases h with h | ⟨vs,w,h⟩
 ·exact h.ps i b hb
 obtain⟨b2,h1,h2,h3,h4,_⟩:=iP (st:=st) ms vs st.bx i b hb;obtain⟨c,k1,k2,k3,k4⟩:=h.ps i b2 h1;exact⟨c,k1,k2.trans h2,k3.trans h3,λk hk=>k4 k (by rw[h4];exact hk)⟩
theorem RD.cells(h:RD st kp ms s){i}{b c}(hb:dc st.bx i=some b)(hc:dc s.bx i=some c)(ho:b.ok=true)(hl:(RC st ms).elem i=false)(hs:c.stp<st.ct):c.cells=b.cells:=by
 rcases h with h | ⟨vs,w,h⟩
 ·obtain⟨c',k1,k2,k3,k4⟩:=h.ps i b hb;rw[hc]at k1;injection k1 with k1;subst k1;obtain⟨b3,m1,m2,m3,_⟩:=h.bx i c hc (k3.trans ho) hs;rw[hb]at m1;injection m1 with m1;rw[m1,m3]
 obtain⟨b2,h1,h2,h3,h4,h5,_⟩:=iP (st:=st) ms vs st.bx i b hb;obtain⟨c',k1,k2,k3,k4⟩:=h.ps i b2 h1;rw[hc]at k1;injection k1 with k1;subst k1;obtain⟨b3,m1,m2,m3,m4,m5,m6⟩:=h.bx i c hc (k3.trans (h3.trans ho)) (Nat.lt_succ_of_lt hs);rw[show dc (ma st kp ms vs w).bx i=dc (JG st ms vs st.bx) i from rfl,h1]at m1;injection m1 with m1;subst m1;rw[<-m3,h5 hl]
theorem LC{sl}:∀{kp:List Nat},Wi st s sl kp=true->∀i∈kp,∀k v,dQ st.fr i=some (k,v)->∃v',dQ s.fr i=some (k,v')/\k<st.ct/\sl.elem i=false/\cln (GY st.bx) v=true
 | j::r,h,i,hi,k,v,hl=>by
  simp only[Wi,aR]at h;rcases aV.1 hi with rfl | hi
  ·have h1:=h.1;rw[hl]at h1;dsimp only at h1;split at h1
   ·rename_i k' v' hs;simp only[aR,da]at h1;have e:=cd h1.1.1.1;subst e;exact⟨v',hs,cH h1.1.1.2,h1.1.2,h1.2⟩
   cases h1
  exact LC h.2 i hi k v hl
theorem EB{I8}:∀{l m:List ki} {n:Nat},Oo st I8 n l m=true->∀i b,dc l i=some b->b.ok=true->b.blk.isSome=true/\(I8.elem (n+i)=true∨∃c,dc m i=some c/\c.stp<st.ct/\iq (GY st.bx) b.cells=true)
 | b::r,[],n,h,_,_,_,_=>by simp[Oo]at h
 | b::r,c::q,n,h,0,b',hb,ho=>by
  simp only[Oo,aR,bU,da]at h;simp[dc,be]at hb;subst hb;rcases h.1 with h1 | ⟨h1,h2⟩
  ·rw[ho]at h1;cases h1
  refine⟨h1,?_⟩;rcases h2 with h2 | h2
  ·exact .inl h2
  exact .inr ⟨c,rfl,cH h2.1,h2.2⟩
 | b::r,c::q,n,h,i+1,b',hb,ho=>by
  simp[Oo,aR]at h;have:=EB h.2 i b' hb ho;rwa[show n+1+i=n+(i+1) by omega]at this
theorem Rep.at(hR:Rep β s a w){i}{v}(h:s.get i=some v):i<s.n/\a.tmps[i]? =some (V.val β v):=by
 unfold St.get at h;cases hb:Nat.blt i s.n with
 | false=>rw[hb]at h;cases h
 | true=>
  rw[hb,my]at h;cases hl:dQ s.fr i with
  | none=>rw[hl]at h;cases h
  | some p=>
   rw[hl]at h;simp at h;subst h;exact⟨cH hb,hR.ok.at_ i p hl (cH hb)⟩
theorem tj{g}:∀{l m:List SV},iq g (l++m)=true->iq g l=true/\iq g m=true
 | [],m,h=>⟨rfl,h⟩
 | s::r,m,h=>by
  simp[cp,iq,aR]at h⊢;obtain⟨h1,h2⟩:=tj h.2;exact⟨⟨h.1,h1⟩,h2⟩
theorem rv{γ b}{vs l m}{n}(hv:V.cD γ vs=V.cD b l++V.cD b m)(hl:l.length=n):V.cD γ (vs.take n)=V.cD b l/\V.cD γ (vs.drop n)=V.cD b m:=by
 have h1:(V.cD γ vs).take n=V.cD γ (vs.take n):=by simp[V.cD,nC]
 have h2:(V.cD γ vs).drop n=V.cD γ (vs.drop n):=by simp[V.cD,ra]
 have hn:(V.cD b l).length=n:=by rw[fF,hl]
 rw[<-h1,<-h2,hv,<-hn];exact⟨CR,List.drop_left⟩
theorem EC(hR:Rep β s a w){ct}{γ}:∀{ms:List MI} {ss vs:List SV},qk st s ms=some ss->iq (GY s.bx) ss=true->V.cD γ vs=V.cD (I4 s.bx) ss->∀i p,dQ (JF ct ms vs) i=some p->a.tmps[i]? =some (V.val γ p.2)
 | [],ss,vs,_,_,_,i,p,h=>by cases vs<;>cases h
 | .s j l::r,ss,[],_,_,_,i,p,h=>aal
 | .s j l::r,ss,v::vs,ha,hc,hv,i,p,h=>by
  simp[qk]at ha;split at ha
  ·rename_i v0 l0 h1 h2;simp at ha;subst ha;simp[iq,aR]at hc;simp[V.cD,bH,sK]at hv;simp[JF,dQ]at h;cases hb:Nat.beq j i with
   | true=>
    rw[hb]at h;simp at h;subst h;have:=cd hb;subst this;rw[(hR.at h1).2,hv.1,hR.ahT hc.1]
   | false=>
    rw[hb]at h;exact EC hR h2 hc.2 hv.2 i p aaA
  cases ha
 | .a j ls::r,ss,vs,ha,hc,hv,i,p,h=>by
  simp[qk]at ha;split at ha
  ·rename_i l0 m0 h1 h2;obtain⟨h3,rfl⟩:=Ej ha;simp only[aR]at h3;obtain⟨c1,c2⟩:=tj hc;rw[lh]at hv;obtain⟨e1,e2⟩:=rv hv (cd h3.2);simp[JF,dQ]at h;cases hb:Nat.beq j i with
   | true=>
    rw[hb]at h;simp at h;subst h;have:=cd hb;subst this;rw[(hR.at h1).2];show some (Value.agg (qe β l0).toArray)=some (Value.agg (qe γ _).toArray);rw[rl,e1,mC β h3.1,hR.tQ c1]
   | false=>
    rw[hb]at h;exact EC hR h2 c2 e2 i p aaA
  cases ha
 | .b j ls::r,ss,vs,ha,hc,hv,i,p,h=>by
  simp[qk]at ha;split at ha
  ·split at ha
   ·rename_i b m0 h1 h2;obtain⟨h3,rfl⟩:=Ej ha;obtain⟨c1,c2⟩:=tj hc;rw[lh]at hv;obtain⟨e1,e2⟩:=rv hv (cd h3);exact EC hR h2 c2 e2 i p h
   cases ha
  cases ha
theorem AV(hR:Rep β s a w){γ:Nat->Nat}(I7:∀i b,dc st.bx i=some b->∃c,dc s.bx i=some c/\c.ty=b.ty/\c.ok=b.ok)(hγ:∀i b,dc st.bx i=some b->b.ok=true->γ i=β i):∀{ms:List MI} {ss vs:List SV} {bx:List ki},qk st s ms=some ss->iq (GY s.bx) ss=true->V.cD γ vs=V.cD (I4 s.bx) ss->
  (∀j b',dc bx j=some b'->∃b,dc st.bx j=some b/\b'.ty=b.ty/\b'.ok=b.ok)->(∀j b',dc bx j=some b'->b'.ok=true->Blk w (γ j) b'.ty (V.cD γ b'.cells)∨(RC st ms).elem j=true)->
  ∀j b',dc (JG st ms vs bx) j=some b'->b'.ok=true->Blk w (γ j) b'.ty (V.cD γ b'.cells)
 | [],ss,vs,bx,_,_,_,_,hi,j,b',hb,ho=>by
  have:JG st [] vs bx=bx:=by cases vs<;>rfl
  rw[this]at hb;rcases hi j b' hb ho with h | h
  ·exact h
  cases h
 | .s k l::r,ss,[],bx,ha,hc,hv,h0,hi,j,b',hb,ho=>by
  simp only[qk]at ha;split at ha
  ·simp only[be]at ha;subst ha;simp[V.cD]at hv
  cases ha
 | .s k l::r,ss,v::vs,bx,ha,hc,hv,h0,hi,j,b',hb,ho=>by
  simp only[qk]at ha;split at ha
  ·rename_i v0 l0 h1 h2;simp only[be]at ha;subst ha;simp only[iq,aR]at hc;simp only[V.cD,bH,sK]at hv;exact AV hR I7 hγ h2 hc.2 hv.2 h0 hi j b' hb ho
  cases ha
 | .a k ls::r,ss,vs,bx,ha,hc,hv,h0,hi,j,b',hb,ho=>by
  simp only[qk]at ha;split at ha
  ·rename_i l0 m0 h1 h2;obtain⟨h3,rfl⟩:=Ej ha;simp only[aR]at h3;have fy:=cd h3.2;obtain⟨c1,c2⟩:=tj hc;rw[lh]at hv;obtain⟨e1,e2⟩:=rv hv fy;exact AV hR I7 hγ h2 c2 e2 h0 hi j b' hb ho
  cases ha
 | .b k ls::r,ss,vs,bx,ha,hc,hv,h0,hi,j,b',hb,ho=>by
  simp[qk]at ha;split at ha
  ·rename_i q hq;split at ha
   ·rename_i c m0 h1 h2;obtain⟨h3,rfl⟩:=Ej ha;have fy:=cd h3;obtain⟨c1,c2⟩:=tj hc;rw[lh]at hv;obtain⟨e1,e2⟩:=rv hv fy;simp only[JG,hq]at hb;cases hn:dc bx q with
    | none=>
     rw[hn]at hb;refine AV hR I7 hγ h2 c2 e2 h0 (λi b I9 ho5=>?_) j b' hb ho;rcases hi i b I9 ho5 with h | h
     ·exact .inl h
     simp only[RC,hq,lA]at h;split at h
     ·rename_i e;have e:=by simpa using e
      rw[e,hn]at I9;cases I9
     exact .inr h
    | some b=>
     rw[hn]at hb;obtain⟨bs,g1,g2,g3⟩:=h0 q b hn;refine AV hR I7 hγ h2 c2 e2 (λi b2 tV=>?_) (λi b2 tV ho2=>?_) j b' hb ho
     ·rw[jl hn]at tV;split at tV
      ·rename_i e;subst e;injection tV with tV;subst tV;exact⟨bs,g1,g2,g3⟩
      exact h0 i b2 tV
     rw[jl hn]at tV;split at tV
     ·rename_i e;subst e;injection tV with tV;subst tV;left;have Gu:bs.ok=true:=by rw[<-g3];exact ho2
      obtain⟨c',k1,k2,k3⟩:=I7 i bs g1;rw[h1]at k1;injection k1 with k1;subst k1;have hB:=(hR.bx i c h1 (k3.trans Gu)).blk;rw[hγ i bs g1 Gu,g2,<-k2,e1,hR.tQ c1];exact hB
     rename_i gq;rcases hi i b2 tV ho2 with h | h
     ·exact .inl h
     simp only[RC,hq,lA]at h;split at h
     ·rename_i e;exact absurd (by simpa using e) gq
     exact .inr h
   cases ha
  cases ha
theorem tq{J}(h:Oq st kp ms J s)(hR:Rep β s a w)(hm:s.mv=false)(KG:RD st kp ms s){K}(hK:G3 _ J K):
  ∃vs,K vs w/\Rep (I4 st.bx) (ma st kp ms vs w) a w:=by
 obtain⟨h0,h⟩:=dD h;obtain⟨ss,hss,h⟩:=bC h;obtain⟨hc,h⟩:=dD h;simp only[aR]at h0;obtain⟨h0,zm⟩:=h0;have hdf:s.df=st.df:=by
  obtain⟨l,hl⟩:=KG.df;have:=cd zm;rw[hl,aW]at this;have:l=[]:=ol.1 aG;rw[hl,this,cF]
 rw[<-hR.still hm]at h;obtain⟨vs,k1,k2,k3,k4⟩:=RA h hK;have I7:∀i b,dc st.bx i=some b->∃c,dc s.bx i=some c/\c.ty=b.ty/\c.ok=b.ok:=λi b hb=>by
  obtain⟨c,h1,h2,h3,_⟩:=KG.ps hb;exact⟨c,h1,h2,h3⟩
 have DY:∀i b,dc st.bx i=some b->b.ok=true->b.blk=some (β i):=λi b hb ho=>by
  obtain⟨hs,_⟩:=EB h0.2 i b hb ho;obtain⟨c,h1,h2,h3,h4⟩:=KG.ps hb;cases hk:b.blk with
  | none=>rw[hk]at hs;cases hs
  | some k=>rw[(hR.bx i c h1 (h3.trans ho)).at_ k (h4 k hk)]
 have hγ:∀i b,dc st.bx i=some b->b.ok=true->I4 st.bx i=β i:=λi b hb ho=>by
  unfold I4;rw[hb];dsimp only;rw[DY i b hb ho];rfl
 have pC:∀i,GY st.bx i=true->I4 st.bx i=β i:=λi hi=>by
  unfold GY at hi;cases hb:dc st.bx i with
  | none=>rw[hb]at hi;cases hi
  | some b=>
   rw[hb]at hi;simp at hi;exact hγ i b hb hi.1
 have KH:∀i b',dc (JG st ms vs st.bx) i=some b'->b'.ok=true->∃b,dc st.bx i=some b/\b.ok=true/\b'.blk=b.blk:=λi b' hb ho=>by
  cases hn:dc st.bx i with
  | none=>rw[om _ _ _ _ hn]at hb;cases hb
  | some b=>
   obtain⟨b2,h1,h2,h3,h4,_⟩:=iP (st:=st) ms vs st.bx i b hn;rw[h1]at hb;injection hb with hb;subst hb;exact⟨b,rfl,by rw[<-h3];exact ho,h4⟩
 refine⟨vs,k1,rm ⟨hR.ok.sz.trans KG.n,hR.ok.df.trans (bm YN hdf),λi p hl hi=>?_⟩,λi b' hb ho=>?_,λi j bi bj g1 g2 g3 g4 sD=>?_,Only.refl _ _,λ_=>rfl⟩
 ·simp[ma]at hl;rw[ud]at hl;split at hl
  ·rename_i q hq;simp at hl;subst hl;exact EC hR hss hc (k3 _) i q hq
  obtain⟨m1,m2⟩:=zL hl;obtain⟨k,v⟩:=p;obtain⟨v',n1,n2,n3,n4⟩:=LC h0.1 i m1 k v m2;have:=KG.slot m1 m2 n1 n2 n3;subst this;rw[hR.ok.at_ i _ n1 (by rw[KG.n];exact hi)];congr 1;exact(iO (g:=GY st.bx) pC _ n4).symm
 ·have hB:=AV hR I7 hγ hss hc (k3 _) (bx:=st.bx) (λj b hb=>⟨b,hb,rfl,rfl⟩) (λj b hb ho=>by
   obtain⟨_,h1⟩:=EB h0.2 j b hb ho;rw[bO]at h1;rcases h1 with h1 | ⟨c,h1,h2,h3⟩
   ·exact .inr h1
   cases hl:(RC st ms).elem j with
   | true=>exact .inr rfl
   | false=>
    left;obtain⟨c',e1,e2,e3⟩:=I7 j b hb;rw[h1]at e1;injection e1 with e1;subst e1;have:=(hR.bx j c h1 (e3.trans ho)).blk;rw[hγ j b hb ho,<-e2,gW (g:=GY st.bx) pC _ h3,<-KG.cells hb h1 ho hl h2];exact this) i b' hb ho
  obtain⟨b,g1,g2,g3⟩:=KH i b' hb ho;refine⟨hB,λk hk=>?_,λhk=>?_⟩
  ·rw[hγ i b g1 g2];rw[g3,DY i b g1 g2]at hk;simpa using hk
  rw[g3,DY i b g1 g2]at hk;cases hk
 obtain⟨b,e1,e2,_⟩:=KH i bi g1 g3;obtain⟨c,f1,f2,_⟩:=KH j bj g2 g4;obtain⟨b',p1,_,p3⟩:=I7 i b e1;obtain⟨c',q1,_,q3⟩:=I7 j c f1;rw[hγ i b e1 e2,hγ j c f1 f2];exact hR.ne i j b' c' p1 q1 (p3.trans e2) (q3.trans f2) sD
end
def bS(S:Nat->Prop)(w w':ay):Prop:=∀k,S k->k<w.heap.size->w'.heap[k]? =w.heap[k]?
theorem bS.refl S w:bS S w w:=λ_ _ _=>rfl
theorem bS.only{S}{w w'}(h:Only [] w w'):bS S w w':=λk _ hk=>h.block k hk aac
def xI(S:Nat->Prop)(k:Nat):Prop:=¬S k
def EE(P:Program)(ops:List Oper)(mb ms:Bool)(S:Nat->Prop)(j:Nat)(w w':ay):Prop:=match gR ops j with
 | some o=>bif jy P o.op then w'.heap=w.heap else bif mb&&(ms||!y9 o.op)then bS S w w' else True
 | none=>False
def XB(mb ms:Bool)(S:Nat->Prop)(o:Op):XT:=λw0 w1 p=>bif mb&&(ms||!y9 o)then bS S w0 w1/\p else p
def YB(mb ms:Bool)(S:Nat->Prop):YT:=λbk p=>bif mb&&ms then(match bk with
 | some k=>xI S k/\p
 | none=>False)else p
def ry(P:Program):Nat->List Oper->List Nat
 | _,[]=>[]
 | i,o::r=>bif jy P o.op then ry P (i+1) r else i::ry P (i+1) r
def YY(q:Nat)(seen:List Nat):List Edge->Bool
 | []=>false
 | e::r=>(Region.binds .any e&&(Nat.beq e.on q||seen.elem e.on))||YY q seen r
def RE(q:Nat):Nat->List Nat->List Oper->List Nat
 | _,seen,[]=>seen
 | i,seen,o::r=>bif YY q seen o.after.toList then RE q (i+1) (i::seen) r else RE q (i+1) seen r
def Vj(bG:Array Bool):Nat->List Oper->List Nat
 | _,[]=>[]
 | i,_::r=>bif bG.getD i true then i::Vj bG (i+1) r else Vj bG (i+1) r
def Ot(D N:List Nat):List Nat->List Nat
 | []=>[]
 | j::r=>bif D.elem j||N.elem j then Ot D N r else j::Ot D N r
def LD(ops:List Oper):List Nat->Bool
 | []=>true
 | j::r=>(match gR ops j with
  | some o=>!y9 o.op
  | none=>false)&&LD ops r
def Dq(ops:List Oper)(q:Nat):List Nat:=(RE q 0 [] ops).reverse
def aa6(P:Program)(ops:List Oper)(bG:Array Bool)(q:Nat):List Nat:=Ot (Dq ops q) (Vj bG 0 ops) (ry P 0 ops)
def aa7{α:Type}:List α->Bool
 | []=>true
 | _=>false
def okT(ops:List Oper)(bG:Array Bool)(q:Nat):Bool:=
 Region.noSelect ops.toArray&&Region.free .any ops.toArray bG q&&vR .any ops.toArray bG&&sV .any ops.toArray q [] (Dq ops q)&&(Vj bG 0 ops).all (λk=>bG.getD k true)
def Wj(st:St)(ops:List Oper)(o:Oper)(Vy no:St->Prop):Prop:=match o.guard with
 | none=>Vy st
 | some (j,want)=>(match tst st ops j with
  | some (_,.un)=>no st
  | some (_,.bl b)=>bif b==want then Vy st else no st
  | some (d,.bt t)=>((t=true->bif true==want then Vy (st.put (some d) (.bl true))else no (st.put (some d) (.bl true)))/\
   (t=false->bif false==want then Vy (st.put (some d) (.bl false))else no (st.put (some d) (.bl false))))
  | _=>False)
def ldB(P:Program)(S:Nat->Prop)(st:St)(t:TypeId)(a:SV)(K:SV->Prop):Prop:=match P.underlying t with
 | none=>False
 | some d=>(match a with
  | .box i o=>cj (dc st.bx i) λb=>bif b.ok&&b.blk.isSome&&sz P t ((b.cells.drop o).take (nE P t)).length&&(lX d||Nat.beq ((b.cells.drop o).take (nE P t)).length 1)then S (b.blk.getD 0)/\K (Og (lX d) ((b.cells.drop o).take (nE P t)))else False
  | .ad p=>bif !st.mv&&sz P t (Rb P 12 t).length&&(lX d||Nat.beq (Rb P 12 t).length 1)then S p.block/\V1 (Rb P 12 t) λvs=>Cells st.w0 p (cD β0 vs)/\K (Og (lX d) vs)else False
  | _=>False)
def cvB(P:Program)(S:Nat->Prop)(st:St)(s d:TypeId)(a:SV)(K:SV->Prop):Prop:=match P.underlying s,P.underlying d with
 | some (.slice e),some .string=>(match P.underlying e with
  | some (.int .u8)=>cj (Lp a) λu=>bif st.mv then False else ∃l,(∀ad,u.a=some ad->S ad.block)/\Af st.w0 u l/\K (.str ⟨l.toArray⟩)
  | _=>False)
 | _,_=>False
def afU(P:Program):Op->Bool
 | .load _ _=>true
 | .convert s d _=>(match P.underlying s,P.underlying d with
  | some (.slice _),some .string=>true
  | _,_=>false)
 | _=>false
def cvI(P:Program):Op->Bool
 | .convert s d _=>(match P.underlying s,P.underlying d with
  | some (.int _),some (.int _)=>true
  | some .string,some .string=>true
  | _,_=>false)
 | _=>false
def cvZ(P:Program)(s d:TypeId)(a:SV)(K:SV->Prop):Prop:=match P.underlying s,P.underlying d with
 | some (.int _),some (.int kd)=>cj (qf a) λp=>K (.int kd (kd.wrap p.2))
 | some .string,some .string=>cj (vm a) λu=>K (.str u)
 | _,_=>False
def qP(P:Program)(ops:List Oper)(mb ms:Bool)(S:Nat->Prop)(bG:Array Bool)(q:Nat)(o:Oper)(st:St)(K:St->Prop):Prop:=
 bif jy P o.op then
  bif cvI P o.op then(match o.op with
   | .convert s d x=>cj (st.ev x) λa=>cvZ P s d a λv=>K (st.put o.dst v)
   | _=>False)
  else bif !mem o.op||aa7 (aa6 P ops bG q)then exI (nd P st o.op) st λst=>pur P [] st o.op λv=>K (st.put o.dst v)
  else bif mb&&(ms||LD ops (aa6 P ops bG q))then(match o.op with
   | .load t x=>exI (nd P st o.op) st λst=>cj (st.ev x) λa=>ldB P S st t a λv=>K (st.put o.dst v)
   | .convert s d x=>exI (nd P st o.op) st λst=>cj (st.ev x) λa=>cvB P S st s d a λv=>K (st.put o.dst v)
   | _=>False)else False
 else False
def fq(P:Program)(ops:List Oper):List Nat->Option Nat
 | []=>none
 | i::r=>match gR ops i with
  | some o=>bif jy P o.op then some i else fq P ops r
  | none=>none
def G5(P:Program)(ops:List Oper)(mb ms:Bool)(S:Nat->Prop):Nat->Array Bool->St->(St->Prop)->Prop
 | 0,bG,st,K=>(match Region.ready .any ops.toArray bG with
  | []=>K st
  | _=>False)
 | g+1,bG,st,K=>(match Region.ready .any ops.toArray bG with
  | []=>K st
  | i::r=>(match fq P ops (i::r)with
   | some q=>cj (gR ops q) λo=>bif okT ops bG q&&(i::r).contains q then
    Wj st ops o (λst=>qP P ops mb ms S bG q o st λst=>G5 P ops mb ms S g (bG.setIfInBounds q true) st K) (λst=>G5 P ops mb ms S g (bG.setIfInBounds q true) (st.put o.dst .un) K)else False
   | none=>(match r with
    | []=>cj (gR ops i) λo=>bif jy P o.op then False else
     Wj st ops o (λst=>loud P (XB mb ms S o.op) (YB mb ms S) st o λst=>G5 P ops mb ms S g (bG.setIfInBounds i true) st K) (λst=>G5 P ops mb ms S g (bG.setIfInBounds i true) (st.put o.dst .un) K)
    | [j]=>cj (gR ops i) λo=>cj (gR ops j) λo'=>bif jy P o.op||jy P o'.op then False else
     Wj st ops o (λst=>loud P (XB mb ms S o.op) (YB mb ms S) st o λst=>G5 P ops mb ms S g (bG.setIfInBounds i true) st K) (λst=>G5 P ops mb ms S g (bG.setIfInBounds i true) (st.put o.dst .un) K)/\
     Wj st ops o' (λst=>loud P (XB mb ms S o'.op) (YB mb ms S) st o' λst=>G5 P ops mb ms S g (bG.setIfInBounds j true) st K) (λst=>G5 P ops mb ms S g (bG.setIfInBounds j true) (st.put o'.dst .un) K)
    | _=>False)))
def mbN(P:Program)(ops:List Oper):Nat->List Oper->Bool
 | _,[]=>false
 | i,o::r=>(bif afU P o.op then(ry P 0 ops).any λj=>!(Dq ops i).elem j&&!(Dq ops j).elem i
  else false)||mbN P ops (i+1) r
def msN(P:Program)(ops:List Oper):Nat->List Oper->Bool
 | _,[]=>false
 | i,o::r=>(bif afU P o.op then(ry P 0 ops).any λj=>!(Dq ops i).elem j&&!(Dq ops j).elem i&&(match gR ops j with
   | some o'=>y9 o'.op
   | none=>false)
  else false)||msN P ops (i+1) r
section
variable {P:Program} {ops:List Oper} {mb ms:Bool} {S:Nat->Prop} {β:Nat->Nat} {a:Act} {w:ay}
theorem AW{st}{o}{Vy no}(h:Wj st ops o Vy no)(hR:Rep β st a w):
  ∃s,Ext st s/\Rep β s a w/\((Region.wanted o (yielded ops.toArray a.tmps)=true/\Vy s)∨(Region.wanted o (yielded ops.toArray a.tmps)=false/\no s)):=by
 unfold Wj at h;split at h
 ·rename_i hg;exact⟨st,Ext.refl _,hR,.inl ⟨wn hg,h⟩⟩
 rename_i j want hg;split at h
 ·rename_i d ht;exact⟨st,Ext.refl _,hR,.inr ⟨xD hR hg ht,h⟩⟩
 ·rename_i d b ht;have hw:=qg hR hg ht (b:=b) rfl;rcases mP h with⟨e,h⟩ | ⟨e,h⟩
  ·exact⟨st,Ext.refl _,hR,.inl ⟨hw.trans e,h⟩⟩
  exact⟨st,Ext.refl _,hR,.inr ⟨hw.trans e,h⟩⟩
 ·rename_i d t ht;obtain⟨oj,Qq,ZX,Vx⟩:=AE ht;have hw:=qg hR hg ht (b:=t) rfl;cases t with
  | true=>
   refine⟨_,Ext.put _ _ (.bl true),hR.set Vx rfl,?_⟩;rcases mP (h.1 rfl)with⟨e,h⟩ | ⟨e,h⟩
   ·exact .inl ⟨hw.trans e,h⟩
   exact .inr ⟨hw.trans e,h⟩
  | false=>
   refine⟨_,Ext.put _ _ (.bl false),hR.set Vx rfl,?_⟩;rcases mP (h.2 rfl)with⟨e,h⟩ | ⟨e,h⟩
   ·exact .inl ⟨hw.trans e,h⟩
   exact .inr ⟨hw.trans e,h⟩
 exact h.elim
theorem JH{st:St}{d}{t}{x}{l}{ad}{w'}(hu:P.underlying t=some d)(hsz:sz P t l.length=true)(kT:lX d=true∨Nat.beq l.length 1=true)
  (NN:a.eval x=.pointer (some ad)) (hC:Cells w' ad (cD β l)) dst t' p af g:
  (execOp a.eval ⟨dst,.load t x,t',p,af,g⟩).run P w'=.ok (.value (val β (Og (lX d) l))) w':=by
 rcases kT with rX | kT
 ·rw[pe rX];have:=kG (P:=P) hu w';rw[rX]at this;exact ua this (pG hsz w') (fF β l) NN hC
 cases rX:lX d with
 | true=>
  have e:=pe rX β l;rw[rX]at e;rw[e];have:=kG (P:=P) hu w';rw[rX]at this;exact ua this (pG hsz w') (fF β l) NN hC
 | false=>
  obtain⟨s,rfl⟩:=AD kT;have:=kG (P:=P) hu w';rw[rX]at this;exact zF this NN (Cells.one hC)
theorem vp:∀{l:List Oper} {i j:Nat} {o:Oper},gR l j=some o->jy P o.op=false->i+j∈ry P i l
 | [],_,_,_,h,_=>aal
 | c::r,i,0,o,h,hp=>by
  simp[gR,be]at h;subst h;simp[ry,hp]
 | c::r,i,j+1,o,h,hp=>by
  have:=vp (l:=r) (i:=i+1) (j:=j) h hp;rw[show i+1+j=i+(j+1) by omega]at this;simp[ry];cases jy P c.op with
  | true=>exact this
  | false=>exact dj _ this
theorem wh{D N}:∀{l:List Nat} {j:Nat},j∈l->j∉D->j∉N->j∈Ot D N l
 | c::r,j,h,h1,h2=>by
  simp only[Ot];rcases aV.1 h with rfl | h
  ·have e1:D.elem j=false:=abB
   have e2:N.elem j=false:=acM
   rw[e1,e2];simp
  cases(D.elem c||N.elem c)with
  | true=>exact wh h h1 h2
  | false=>exact dj _ (wh h h1 h2)
theorem G6:∀{l:List Nat} {j:Nat} {o:Oper},LD ops l=true->j∈l->gR ops j=some o->y9 o.op=false
 | [],j,o,_,hj,_=>by cases hj
 | c::r,j,o,h,hj,ho=>by
  simp[LD,aR]at h;rcases aV.1 hj with hc | hj
  ·have h1:=h.1;rw[<-hc,ho]at h1;cases he:y9 o.op with
   | false=>rfl
   | true=>dsimp only at h1;rw[he]at h1;cases h1
  exact G6 h.2 hj ho
def Sta(P:Program)(ops:List Oper)(mb ms:Bool)(S:Nat->Prop)(D N:List Nat)(F:ay->Prop):Prop:=∀j w w',j∉D->j∉N->F w->EE P ops mb ms S j w w'->F w'
theorem YZ{bG}{q}{o}{st}{K}(h:qP P ops mb ms S bG q o st K)(hR:Rep β st a w):
  ∃(v:az) (s':St) (F:ay->Prop),K s'/\Ext st s'/\Rep β s' (a.put o.dst v) w/\F w/\Sta P ops mb ms S (Dq ops q) (Vj bG 0 ops) F/\jy P o.op=true/\∀w',F w'->(execOp a.eval o).run P w'=.ok (.value v) w':=by
 rcases mP h with⟨hp,h⟩ | ⟨_,h⟩
 case inr=>exact h.elim
 rcases mP h with⟨_,h⟩ | ⟨_,h⟩
 ·obtain⟨dst,op,t',p,af,g⟩:=o;cases op with
  | convert s d x=>
   dsimp only at h;obtain⟨ax,hx,h1⟩:=bC h;unfold cvZ at h1;split at h1
   ·rename_i ks kd h2 h3;obtain⟨⟨k,n⟩,KI,h1⟩:=bC h1;exact⟨_,_,λ_=>True,h1,Ext.put _ _ _,hR.put _ _,trivial,λ_ _ _ _ _ _ _=>trivial,hp,λw' _=>CW (run_underlying h2 w') (run_underlying h3 w') ((hR.ev hx).trans (dw KI β))⟩
   ·rename_i h2 h3;obtain⟨u,KI,h1⟩:=bC h1;exact⟨_,_,λ_=>True,h1,Ext.put _ _ _,hR.put _ _,trivial,λ_ _ _ _ _ _ _=>trivial,hp,λw' _=>CX (run_underlying h2 w') (run_underlying h3 w') ((hR.ev hx).trans (ir KI β))⟩
   exact h1.elim
  | _=>exact h.elim
 rcases mP h with⟨hb,h⟩ | ⟨hb,h⟩
 ·obtain⟨s1,h1,e1,ik,_⟩:=xH h hR;obtain⟨v,hv,hy⟩:=Jz h1;have hy:=hy trivial β a w ik;obtain⟨dst,op,t',p,af,g⟩:=o;cases hm:mem op with
  | false=>
   exact⟨val β v,_,λ_=>True,hv,e1.trans (Ext.put _ _ _),ik.put _ v,trivial,λ_ _ _ _ _ _ _=>trivial,hp,λw' _=>hy _ _ _ _ _ w' λe=>by rw[hm]at e;cases e⟩
  | true=>
   have hn:=by simpa[hm]using hb
   refine⟨val β v,_,λw'=>w'.heap=w.heap,hv,e1.trans (Ext.put _ _ _),ik.put _ v,rfl,λj w1 w2 hD hN hF hE=>?_,hp,λw' hF=>hy _ _ _ _ _ w' λ_=>hF⟩;unfold EE at hE;split at hE
   ·rename_i oj hj;rcases mP hE with⟨_,e⟩ | ⟨e,_⟩
    ·exact e.trans hF
    have:=wh (by have:=vp (i:=0) hj e;rwa[bO]at this) hD hN;unfold aa6 at hn;revert hn this;generalize Ot (Dq ops q) (Vj bG 0 ops) (ry P 0 ops)=m;intro hn this;cases m with
    | nil=>cases this
    | cons=>cases hn
   exact hE.elim
 obtain⟨h0,h⟩:=dD h;simp only[aR]at h0;obtain⟨dst,op,t',p,af,g⟩:=o;have lH:∀F:ay->Prop,∀k:Nat,S k->(∀w1 w2:ay,F w1->w2.heap[k]? =w1.heap[k]? ->F w2)->(∀w1,F w1->k<w1.heap.size)->Sta P ops mb ms S (Dq ops q) (Vj bG 0 ops) F:=by
  intro F k hk Qs hF2 j w1 w2 hD hN hF hE;unfold EE at hE;split at hE
  ·rename_i oj hj;rcases mP hE with⟨_,e⟩ | ⟨e,hE⟩
   ·exact Qs w1 w2 hF (by rw[e])
   have:=wh (by have:=vp (i:=0) hj e;rwa[bO]at this) hD hN;have hs:(ms||!y9 oj.op)=true:=by
    rcases bU _ _▸h0.2 with h2 | h2
    ·rw[h2];rfl
    rw[G6 h2 this hj,Bool.not_false,K6]
   rw[h0.1,hs]at hE;exact Qs w1 w2 hF (hE k hk (hF2 _ hF))
  exact hE.elim
 cases op with
 | load t x=>
  dsimp only at h;obtain⟨s1,h1,e1,ik,_⟩:=xH h hR;obtain⟨ax,hx,h1⟩:=bC h1;unfold ldB at h1;split at h1
  ·exact h1.elim
  rename_i d hu;split at h1
  ·rename_i i off;obtain⟨b,pD,h1⟩:=bC h1;obtain⟨hc,hS,hK⟩:=dD h1;simp only[aR,bU]at hc;obtain⟨⟨⟨mr,Qr⟩,hsz⟩,kT⟩:=hc;have hBO:=ik.bx i b pD mr;have hB:=hBO.blk;have hbe:b.blk.getD 0=β i:=by
    cases hk:b.blk with
    | none=>rw[hk]at Qr;cases Qr
    | some k=>rw[hBO.at_ k hk];rfl
   rw[hbe]at hS;have NN:=ik.ev hx;refine⟨_,_,λw'=>Blk w' _ b.ty _,hK,e1.trans (Ext.put _ _ _),ik.put _ _,hB,lH _ _ hS (λw1 w2 hF e=>by unfold Blk at hF⊢;rw[e];exact hF) (λw1 hF=>hF.lt),hp,λw' hF=>?_⟩;generalize hl:(b.cells.drop off).take (nE P t)=l at*
   have hC:Cells w' ⟨β i,off,none⟩ (cD β l):=hF.FL off _ (by
    rw[fF,<-hl];simp only[cD,nC,ra];rw[cJ,pX];simp only[cP,bA];omega)
   exact JH (st:=st) hu hsz kT NN hC _ _ _ _ _
  ·rename_i ad;obtain⟨hc,hS,h2⟩:=dD h1;simp only[aR,bU,da]at hc;obtain⟨⟨sR,hsz⟩,kT⟩:=hc;obtain⟨vs,⟨hF,hK⟩,fy,pC⟩:=sY h2;rw[<-ik.still sR]at hF;have hv:∀w',Cells w' ad _->Cells w' ad (cD β vs):=λw' h=>by
    rw[gW (β:=β) (β':=β0) (g:=λ_=>false) (λi h=>aal) vs (pC _)];exact h
   rw[<-fy]at hsz kT;by_cases X5:cD β0 vs=[]
   ·refine⟨_,_,λ_=>True,hK,e1.trans (Ext.put _ _ _),ik.put _ _,trivial,λ_ _ _ _ _ _ _=>trivial,hp,λw' _=>?_⟩;exact JH (st:=st) hu hsz kT (ik.ev hx) (hv w' (by rw[X5];intro j v hj;simp at hj)) _ _ _ _ _
   exact⟨_,_,λw'=>Cells w' ad _,hK,e1.trans (Ext.put _ _ _),ik.put _ _,hF,lH _ ad.block hS (λw1 w2 hF e=>hF.keep e) (λw1 hF=>hF.lt' X5),hp,λw' hF=>JH (st:=st) hu hsz kT (ik.ev hx) (hv w' hF) _ _ _ _ _⟩
  exact h1.elim
 | convert s d x=>
  dsimp only at h;obtain⟨s1,h1,e1,ik,_⟩:=xH h hR;obtain⟨ax,hx,h1⟩:=bC h1;unfold cvB at h1;split at h1
  ·rename_i e hu1 hu2;split at h1
   ·rename_i hu3;obtain⟨u,KI,h1⟩:=bC h1;cases hm:s1.mv with
    | true=>rw[hm]at h1;exact h1.elim
    | false=>
     rw[hm]at h1;obtain⟨l,hS,hF,hK⟩:=h1;rw[<-(ik.still hm)]at hF;refine⟨_,_,λw'=>Af w' u l,hK,e1.trans (Ext.put _ _ _),ik.put _ _,hF,?_,hp,λw' hF'=>Aj hu1 hu3 hu2 ((ik.ev hx).trans (jZ KI β)) hF'⟩;by_cases hl:l=[]
     ·subst hl;exact λj w1 w2 _ _ Qs _=>⟨Qs.1,λhh=>absurd rfl hh⟩
     obtain⟨ad,ha,_⟩:=hF.2 hl;refine lH _ ad.block (hS ad ha) (λw1 w2 Qs e=>⟨Qs.1,λhh=>?_⟩) (λw1 Qs=>?_)
     ·obtain⟨FV,FY,hC⟩:=Qs.2 hh;rw[ha]at FY;injection FY with FY;subst FY;exact⟨ad,ha,hC.keep e⟩
     obtain⟨FV,FY,hC⟩:=Qs.2 hl;rw[ha]at FY;injection FY with FY;subst FY;exact hC.lt' (by cases l with
      | nil=>exact absurd rfl hl
      | cons c l=>simp)
   exact h1.elim
  exact h1.elim
 | _=>exact h.elim
theorem rz{j}{o}(hj:gR ops j=some o) w:EE P ops mb ms S j w w:=by
 unfold EE;rw[hj];dsimp only;cases jy P o.op with
 | true=>rfl
 | false=>
  cases(mb&&_)with
  | true=>exact bS.refl _ _
  | false=>exact trivial
theorem G7{Q}{j}{o}{st}{K}(hj:gR ops j=some o)(hp:jy P o.op=false)(h:loud P (XB mb ms S o.op) (YB mb ms S) st o K)(hR:Rep β st a w):o.wp P a w (YW (EE P ops mb ms S j) st K w) Q:=by
 have hEE:EE P ops mb ms S j=λw w'=>bif mb&&(ms||!y9 o.op)then bS S w w' else True:=by
  unfold EE;rw[hj];dsimp only;rw[hp];rfl
 refine Ez (λw0 w1 p hx=>?_) (λw w1 hO=>?_) (λhs bk k w w1 p hy hk hO=>?_) h hR
 ·rw[hEE];unfold XB at hx;cases hb:(mb&&_)with
  | true=>rw[hb]at hx;exact⟨hx.2,hx.1⟩
  | false=>rw[hb]at hx;exact⟨hx,trivial⟩
 ·rw[hEE];cases(mb&&_)with
  | true=>exact bS.only hO
  | false=>exact trivial
 rw[hEE];rw[hs,Bool.not_true,Bool.or_false];unfold YB at hy;cases hb:(mb&&ms)with
 | true=>
  rw[hb]at hy;cases bk with
  | none=>exact hy.elim
  | some j=>
   refine⟨hy.2,λq hq bT=>hO.block q bT ?_⟩;have:=hk j rfl;subst this;simp;rintro rfl;exact hy.1 hq
 | false=>rw[hb]at hy;exact⟨hy,trivial⟩
theorem tt{Q}(hQ:∀c a w,¬Q (.panic c) a w):∀{g:Nat} {bG:Array Bool} {st:St} {K:St->Prop} {β:Nat->Nat} {a:Act} {w:ay},G5 P ops mb ms S g bG st K->Rep β st a w->
  (∀β' cK a' w',K cK->Ext st cK->Rep β' cK a' w'->Q .normal a' w')->fK P .any ops.toArray Q (EE P ops mb ms S) g bG a w
 | 0,bG,st,K,β,a,w,h,hR,hK=>by
  unfold G5 at h;split at h
  ·rename_i hr;exact⟨hr,hK β st a w h (Ext.refl _) hR⟩
  exact h.elim
 | g+1,bG,st,K,β,a,w,h,hR,hK=>by
  have L:∀{j:Nat} {o:Oper},gR ops j=some o->jy P o.op=false->
    Wj st ops o (λst=>loud P (XB mb ms S o.op) (YB mb ms S) st o λst=>G5 P ops mb ms S g (bG.setIfInBounds j true) st K) (λst=>G5 P ops mb ms S g (bG.setIfInBounds j true) (st.put o.dst .un) K)->
    if Region.wanted o (yielded ops.toArray a.tmps)then o.wp P a w (λa' w'=>EE P ops mb ms S j w w'/\fK P .any ops.toArray Q (EE P ops mb ms S) g (bG.setIfInBounds j true) a' w') Q∨(o.asks P a w/\LetsOut Q)
    else(λa' w'=>EE P ops mb ms S j w w'/\fK P .any ops.toArray Q (EE P ops mb ms S) g (bG.setIfInBounds j true) a' w') (a.put o.dst undef) w:=by
   intro j o ho hp h;obtain⟨s,e1,ik,h1⟩:=AW h hR;rcases h1 with⟨hw,h1⟩ | ⟨hw,h1⟩
   ·rw[bc hw];refine .inl (Oper.wp_mono ?_ (G7 ho hp h1 ik));rintro a' w' ⟨β',cK,k1,k2,k3,k4⟩;exact⟨k3,tt hQ k1 k4 λβ2 vF a2 w2 m1 m2 m3=>hK β2 vF a2 w2 m1 ((e1.trans k2).trans m2) m3⟩
   rw[aY (by simp[hw])];exact⟨rz ho w,tt hQ h1 (ik.put o.dst .un) λβ2 vF a2 w2 m1 m2 m3=>hK β2 vF a2 w2 m1 ((e1.trans (Ext.put _ _ _)).trans m2) m3⟩
  unfold G5 at h;split at h
  ·rename_i hr;exact aaJ hr (hK β st a w h (Ext.refl _) hR)
  rename_i i r hr;split at h
  ·rename_i q hq;obtain⟨o,ho,h⟩:=bC h;obtain⟨hc,h⟩:=dD h;simp only[aR,okT]at hc;obtain⟨⟨⟨⟨⟨c1,c2⟩,c3⟩,c4⟩,c5⟩,c6⟩:=hc;obtain⟨s,e1,ik,h1⟩:=AW h hR;rcases h1 with⟨hw,h1⟩ | ⟨hw,h1⟩
   ·obtain⟨v,s2,F,k1,k2,k3,k4,k5,k6,k7⟩:=YZ h1 ik;have hE:∀w1,F w1->EE P ops mb ms S q w1 w1:=λw1 _=>rz ho w1;exact Jr q _ _ v F ho c1 c2 (by rw[hr];exact c6) c3 c4 c5 (λc a w hp=>(hQ _ _ _ hp).elim) k5 hE k4 (YJ hw k7) rfl
     (tt hQ k1 k3 λβ2 vF a2 w2 m1 m2 m3=>hK β2 vF a2 w2 m1 ((e1.trans k2).trans m2) m3)
   exact Jr q _ _ undef _ ho c1 c2 (by rw[hr];exact c6) c3 c4 c5 (λc a w hp=>(hQ _ _ _ hp).elim) (λ_ _ _ _ _ _ _=>trivial) (λw1 _=>rz ho w1) trivial (afy hw) rfl
    (tt hQ h1 (ik.put o.dst .un) λβ2 vF a2 w2 m1 m2 m3=>hK β2 vF a2 w2 m1 ((e1.trans (Ext.put _ _ _)).trans m2) m3)
  split at h
  ·obtain⟨o,ho,h⟩:=bC h;rcases mP h with⟨_,h⟩ | ⟨hp,h⟩
   ·exact h.elim
   obtain⟨s,e1,ik,h1⟩:=AW h hR;rcases h1 with⟨hw,h1⟩ | ⟨hw,h1⟩
   ·refine afw i ho hr hw (Oper.wp_mono ?_ (G7 ho hp h1 ik));rintro a' w' ⟨β',cK,k1,k2,k3,k4⟩;exact⟨k3,tt hQ k1 k4 λβ2 vF a2 w2 m1 m2 m3=>hK β2 vF a2 w2 m1 ((e1.trans k2).trans m2) m3⟩
   exact VU i ho hr hw (rz ho w) rfl (tt hQ h1 (ik.put o.dst .un) λβ2 vF a2 w2 m1 m2 m3=>hK β2 vF a2 w2 m1 ((e1.trans (Ext.put _ _ _)).trans m2) m3)
  ·rename_i j _;obtain⟨o,ho,h⟩:=bC h;obtain⟨o',Qt,h⟩:=bC h;rcases mP h with⟨_,h⟩ | ⟨hp,h⟩
   ·exact h.elim
   simp at hp;exact afx i j ho Qt hr (L ho hp.1 h.1) (L Qt hp.2 h.2)
  exact h.elim
end
end Go.Kt.V
