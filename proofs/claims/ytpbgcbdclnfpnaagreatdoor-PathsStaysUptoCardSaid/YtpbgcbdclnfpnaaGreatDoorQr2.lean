import Derived.Test.YtpbgcbdclnfpnaaGreatDoorQr1
import Derived.Shelf.Strings.Builder1
import Derived.Shelf.Strings.Builder2
import Derived.Shelf.Strings.OnBuilder
import Derived.Shelf.Small.Bits
import Derived.Shelf.Strings.BuilderF
import Derived.Shelf.Strconv.Itoa0
import Derived.Shelf.Strconv.Itoa1
import Derived.Shelf.LaysM
import Derived.Shelf.Strconv.Itoa2
import Derived.Shelf.Strconv.Itoa3
import Derived.Shelf.Strconv.ParseIntEmpty
import Derived.Shelf.Strconv.Clone
import Derived.Shelf.Strconv.SyntaxError
import Derived.Shelf.LaysC
import Derived.Shelf.Strconv.ToError
import Derived.Shelf.Strconv.Lower
import Derived.Shelf.Strconv.ParseUint10
import Derived.Shelf.Strconv.ParseUint10Empty
import Derived.Shelf.Strconv.ParseUint10Any
import Derived.Shelf.Strconv.ParseInt10
import Derived.Shelf.Strconv.RangeError
import Derived.Shelf.Strconv.ToErrorRange
import Derived.Shelf.Strconv.ParseUintEmpty
import Derived.Shelf.Strconv.ParseUint10b64
import Derived.Shelf.Strconv.ParseUint10b32
import Derived.Shelf.Strconv.ParseUint10b16
import Derived.Shelf.Strconv.ParseUint10b8
import Derived.Shelf.Strconv.ParseUint10At
import Derived.Shelf.Strconv.ParseInt10At64
import Derived.Shelf.Strconv.ParseInt10At32
import Derived.Shelf.Strconv.ParseInt10At16
import Derived.Shelf.Strconv.ParseInt10At8
import Derived.Shelf.Strconv.ParseInt10All
import Derived.Shelf.Strconv.ParseIntPublic10
import Derived.Shelf.Strconv.ErrVarParseInt
import Derived.Shelf.Strings.Search1
import Derived.Shelf.Strings.Search2
import Derived.Shelf.Strings.Cut
import Derived.Shelf.Strings.Shaped
import Derived.Shelf.Sort.Plain
import Derived.Shelf.Strings.Prefix
import Derived.Shelf.Bits.Mul64
import Derived.Shelf.Strings.Repeat
import Derived.Shelf.Slices.Clone
import Derived.Shelf.Slices.CompactI
import Derived.Shelf.Slices.SearchI
import Derived.Shelf.Slices.Cells
import Derived.Shelf.Slices.In.SortNone
import Derived.Shelf.Slices.Empties
import Derived.Shelf.SlicesE.Clone
import Derived.Shelf.SlicesG.Cmp
import Derived.Shelf.SlIterI.Nil
import Derived.Shelf.SortM.Plain
import Derived.Shelf.SortM.SortNone
import Derived.Shelf.SlSortCmp.NoneTotal
set_option linter.unusedSectionVars false
set_option linter.unusedSimpArgs false
set_option linter.unusedVariables false
namespace Go.Kt.V
open Go renaming World->ay,Value->az
open Go Go.RowKit Go.Kt
def sz(P:Program)(t:TypeId)(n:Nat):Bool:=match P.info? t with
 | some i=>Nat.beq i.size n
 | none=>false
theorem pu{P}{t}{n}(h:sz P t n=true) w:(sizeOf t).run P w=.ok n w:=by
 unfold sz at h;cases hi:P.info? t with
 | none=>rw[hi]at h;cases h
 | some i=>
  rw[hi]at h;rw[<-bZ h];simp[sizeOf,typeInfo,hi]
def nu(P:Program)(t:TypeId):Nat:=match P.info? t with
 | some i=>i.size
 | none=>0
theorem ky{P}{t}{d}(h:P.underlying t=some d) w:(isAgg t).run P w=.ok (lQ d) w:=by
 unfold isAgg;rw[Sem.run_bind,run_underlying h,Result.andThen_ok];cases d<;>rfl
def Iz(b:SV)(K:Nat->(Prop->Prop)->Prop):Prop:=match b with
 | .il _ n=>bif decide (0<=n)then K n.toNat id else False
 | .int _ n=>∃v,K v λp=>n=v/\p
 | _=>False
theorem lS{b}{K}(h:Iz b K):∃(v:Nat) (e:Prop->Prop) (k:IntKind) (n:Int),K v e/\pU b=some (k,n)/\(∀p,e p->n=v/\p):=by
 unfold Iz at h;split at h
 ·rename_i k n;obtain⟨h1,h2⟩:=dD h;have h1:=aP h1;exact⟨_,_,k,n,h2,rfl,λp hp=>⟨aG,hp⟩⟩
 ·rename_i k n;obtain⟨v,hv⟩:=h;exact⟨v,_,k,n,hv,rfl,λp hp=>hp⟩
 exact h.elim
def slS(gs:List (Bool×Bool))(s:Sl)(es:Nat)(st:St)(lo hi mx:Option Operand)(K:SV->Prop):Prop:=match lo,hi,mx with
 | some lo,none,none=>ck (st.ev lo) λa=>Iz a λl e=>gi gs (e (l<=s.n/\s.n<=s.c))/\K (.sl (s.cut l s.n s.c es))
 | none,some hi,none=>ck (st.ev hi) λa=>Iz a λh e=>gi gs (e (h<=s.c))/\K (.sl (s.cut 0 h s.c es))
 | some lo,some hi,none=>ck (st.ev lo) λa=>ck (st.ev hi) λb=>Iz a λl e=>Iz b λh f=>gi gs (e (f (l<=h/\h<=s.c)))/\K (.sl (s.cut l h s.c es))
 | none,some hi,some mx=>ck (st.ev hi) λb=>ck (st.ev mx) λc=>Iz b λh e=>Iz c λm f=>gi gs (e (f (h<=m/\m<=s.c)))/\K (.sl (s.cut 0 h m es))
 | some lo,some hi,some mx=>ck (st.ev lo) λa=>ck (st.ev hi) λb=>ck (st.ev mx) λc=>Iz a λl e=>Iz b λh f=>Iz c λm g=>gi gs (e (f (g (l<=h/\h<=m/\m<=s.c))))/\K (.sl (s.cut l h m es))
 | _,_,_=>False
def slT(gs:List (Bool×Bool))(s:ByteArray)(st:St)(lo hi mx:Option Operand)(K:SV->Prop):Prop:=match lo,hi,mx with
 | some lo,none,none=>ck (st.ev lo) λa=>Iz a λl e=>gi gs (e (l<=s.size))/\K (.str (s.extract l s.size))
 | none,some hi,none=>ck (st.ev hi) λa=>Iz a λh e=>gi gs (e (h<=s.size))/\K (.str (s.extract 0 h))
 | some lo,some hi,none=>ck (st.ev lo) λa=>ck (st.ev hi) λb=>Iz a λl e=>Iz b λh f=>gi gs (e (f (l<=h/\h<=s.size)))/\K (.str (s.extract l h))
 | _,_,_=>False
def FX(P:Program)(b:Builtin)(xs:List Operand)(ts:List TypeId)(st:St)(K:SV->Prop):Prop:=match b,xs,ts with
 | .len,[x],[t]=>ck (st.ev x) λa=>(match P.underlying t with
  | some (.slice _)=>ck (Kq a) λs=>K (.int .i64 s.n)
  | some .string=>ck (uG a) λs=>K (.int .i64 s.size)
  | _=>False)
 | .cap,[x],[t]=>ck (st.ev x) λa=>(match P.underlying t with
  | some (.slice _)=>ck (Kq a) λs=>K (.int .i64 s.c)
  | _=>False)
 | .min,[x,y],_=>ck (st.ev x) λa=>ck (st.ev y) λb=>ck (pU a) λp=>ck (pU b) λq=>K (.int p.1 (if q.2<p.2 then q.2 else p.2))
 | .max,[x,y],_=>ck (st.ev x) λa=>ck (st.ev y) λb=>ck (pU a) λp=>ck (pU b) λq=>K (.int p.1 (if q.2>p.2 then q.2 else p.2))
 | _,_,_=>False
def nif:TypeDesc->Bool
 | .interface _=>false
 | _=>true
def cvP(P:Program)(gs:List (Bool×Bool))(st:St)(s d:TypeId)(a:SV)(K:SV->Prop):Prop:=match P.underlying s,P.underlying d with
 | some (.int _),some (.int kd)=>ck (pU a) λp=>K (.int kd (kd.wrap p.2))
 | some .string,some .string=>ck (uG a) λu=>K (.str u)
 | some (.slice e),some .string=>(match P.underlying e with
  | some (.int .u8)=>ck (Kq a) λu=>bif st.mv then False else ∃l,gi gs (zz st.w0 u l)/\K (.str ⟨l.toArray⟩)
  | _=>False)
 | _,_=>False
def ldP(P:Program)(gs:List (Bool×Bool))(st:St)(t:TypeId)(a:SV)(K:SV->Prop):Prop:=match P.underlying t with
 | none=>False
 | some d=>(match a with
  | .box i o=>ck (cZ st.bx i) λb=>bif b.ok&&sz P t ((b.cells.drop o).take (nu P t)).length&&(lQ d||Nat.beq ((b.cells.drop o).take (nu P t)).length 1)then K (Nl (lQ d) ((b.cells.drop o).take (nu P t)))else False
  | .ad p=>bif !st.mv&&sz P t (P9 P 12 t).length&&(lQ d||Nat.beq (P9 P 12 t).length 1)then UJ (P9 P 12 t) λvs=>gi gs (Cells st.w0 p (cz β0 vs))/\K (Nl (lQ d) vs)else False
  | _=>False)
def Ks:Operand->Bool
 | .const .nilIface=>true
 | _=>false
def niV:az->Bool
 | .nilIface=>true
 | _=>false
def Ifc(v:az):Prop:=v=.nilIface∨∃t x,v=.iface t x
def niP(P:Program)(gs:List (Bool×Bool))(op:BinOp)(t:TypeId)(a:SV)(K:SV->Prop):Prop:=match a,P.underlying t,op with
 | .raw v,some (.interface _),.eql=>gi gs (Ifc v.v)/\K (.bt (niV v.v))
 | .raw v,some (.interface _),.neq=>gi gs (Ifc v.v)/\K (.bt (!niV v.v))
 | _,_,_=>False
theorem Qc{y}(h:Ks y=true):y=.const .nilIface:=by
 unfold Ks at h;split at h
 ·rfl
 cases h
theorem Xq{P}{t}{ms}{v}(hu:P.underlying t=some (.interface ms))(hv:Ifc v) w:(Op.equal t v .nilIface).run P w=.ok (niV v) w:=by
 unfold Op.equal Op.maxDepth Op.equalIn;rcases hv with rfl | ⟨tx,x,rfl⟩<;>simp[Sem.run_bind,run_underlying hu,Result.andThen_ok]<;>rfl
theorem FY{P}{op}{t}{x}{v}(hv:Ifc v) w:(eqGuard op t x (.const .nilIface) v .nilIface).run P w=.ok () w:=by
 unfold eqGuard;rcases hv with rfl | ⟨tx,x,rfl⟩<;>first | rfl | simp
theorem Zs{P}{gs}{st}{K}{op}{t ty}{x}{a}(hx:st.ev x=some a)(h:niP P gs op t a K):∃v,K v/\(gh gs->∀β c w,Rep β st c w->∀d t' p af g w',
  (execOp c.eval ⟨d,.binOp op t x (.const .nilIface) ty,t',p,af,g⟩).run P w'=.ok (.value (val β v)) w'):=by
 unfold niP at h;split at h
 ·rename_i v ms hu;refine⟨_,h.2,λhg β c w hR d t' p af g w'=>?_⟩;have hv:=gQ h.1 hg;have e:c.eval x=v.v:=hR.ev hx;have e2:c.eval (.const .nilIface)=.nilIface:=rfl;have hb:binOp .eql t v.v .nilIface=(do pure (.bool (<-Op.equal t v.v .nilIface))):=by
   rcases hv with h | ⟨tx,x,h⟩<;>rw[h]<;>rfl
  simp[execOp,e,e2,hb,Sem.run_bind,FY hv,Result.andThen_ok,Xq hu hv,Sem.run_pure];rfl
 ·rename_i v ms hu;refine⟨_,h.2,λhg β c w hR d t' p af g w'=>?_⟩;have hv:=gQ h.1 hg;have e:c.eval x=v.v:=hR.ev hx;have e2:c.eval (.const .nilIface)=.nilIface:=rfl;have hb:binOp .neq t v.v .nilIface=(do pure (.bool (!(<-Op.equal t v.v .nilIface)))):=by
   rcases hv with h | ⟨tx,x,h⟩<;>rw[h]<;>rfl
  simp[execOp,e,e2,hb,Sem.run_bind,FY hv,Result.andThen_ok,Xq hu hv,Sem.run_pure];rfl
 exact h.elim
def Ku(p:Addr)(i:Int)(len size:Nat)(q:Addr):Prop:=0<=i/\i<len/\p.add (i.toNat*size)=q
def Zu(n:Int)(F:Nat->Prop):Nat->Prop
 | 0=>True
 | 1=>n=0->F 0
 | j+2=>Zu n F (j+1)/\(n=((j+1))->F (j+1))
theorem Kv{n}{F}:∀{m:Nat},Zu n F m->0<=n->n<m->F n.toNat
 | 0,_,h0,h1=>aG
 | 1,h,h0,h1=>by
  have e:n=0:=aG
  subst e;exact h rfl
 | j+2,h,h0,h1=>by
  by_cases e:n=((j+1))
  ·have:=h.2 e;rw[e];exact this
  exact Kv h.1 h0 aG
def Zv(P:Program)(gs:List (Bool×Bool))(st:St)(o:Op)(K:SV->Prop):Prop:=match o with
 | .move x=>ck (st.ev x) K
 | .assign x=>ck (st.ev x) K
 | .pick c x y=>ck (st.ev c) λc=>(match c with
  | .bl true=>ck (st.ev x) K
  | .bl false=>ck (st.ev y) K
  | _=>False)
 | .binOp op t x y _=>ck (st.ev x) λa=>ck (st.ev y) λb=>bif Ks y then niP P gs op t a K else Zp P gs op t a b K
 | .unOp .not _ x=>ck (st.ev x) λa=>(match a with
  | .bl b=>K (.bl (!b))
  | .bt b=>K (.bt (!b))
  | _=>False)
 | .unOp .neg _ x=>ck (st.ev x) λa=>ck (pU a) λp=>K (.int p.1 (p.1.wrap (0-p.2)))
 | .convert s d x=>ck (st.ev x) λa=>cvP P gs st s d a K
 | .extract x i=>ck (st.ev x) λa=>(match a with
  | .tup l=>bif BJ l then ck ((mF l)[i]?) K else False
  | _=>False)
 | .build t parts=>ck (st.Ug parts.toList) λps=>ck (Zr P t ps) λr=>K (.agg (nq r))
 | .makeFunc fn fs cs=>(match fn with
  | .func f=>ck (st.ME fs.toList) λa=>ck (st.ME cs.toList) λb=>K (.fn f (nq a) (nq b))
  | _=>False)
 | .makeInterface t x=>ck (st.ev x) λa=>ck (P.underlying t) λd=>bif nif d&&cln (λ_=>false) a then K (.raw ⟨.iface t (val β0 a),rfl⟩)else False
 | .nilCheck x=>ck (st.ev x) λa=>(match a with
  | .ad p=>K (.ad p)
  | .box i o=>K (.box i o)
  | .ptr p=>∃q,gi gs (p=some q)/\K (.ad q)
  | .fn f .e cs=>K (.fn f .e cs)
  | _=>False)
 | .fieldAddr s x k=>ck (st.ev x) λa=>(match P.underlying s with
  | some (.struct fs)=>ck (fs[k]?) λf=>bif Nat.ble 1 (nu P f.type)then(match a with
   | .ad p=>K (.ad (p.add f.offset))
   | .box i o=>K (.box i (o+f.offset))
   | _=>False)else False
  | _=>False)
 | .field t x k=>ck (st.ev x) λa=>(match a,P.underlying t with
  | .agg l,some (.struct fs)=>ck (fs[k]?) λf=>ck (P.underlying f.type) λd=>bif BJ l&&sz P f.type (((mF l).drop f.offset).take (nu P f.type)).length&&(lQ d||Nat.beq (((mF l).drop f.offset).take (nu P f.type)).length 1)
   then K (Nl (lQ d) (((mF l).drop f.offset).take (nu P f.type)))else False
  | _,_=>False)
 | .indexAddr t x i=>ck (st.ev x) λa=>ck (st.ev i) λj=>ck (pU j) λn=>(match P.underlying t with
  | some (.slice e)=>ck (Kq a) λs=>bif (P.info? e).isSome then ∃q,gi gs (dI s n.2 (nu P e) q)/\K (.ad q)else False
  | some (.array len e)=>bif (P.info? e).isSome then(match a,j with
   | .box b o,.il _ n=>bif decide (0<=n)&&decide (n<len)then K (.box b (o+n.toNat*nu P e))else False
   | .ad p,.il _ n=>bif decide (0<=n)&&decide (n<len)then K (.ad (p.add (n.toNat*nu P e)))else False
   | .ad p,_=>∃q,gi gs (Ku p n.2 len (nu P e) q)/\K (.ad q)
   | .box b o,_=>bif Nat.ble len 8 then(0<=n.2/\n.2<len)/\Zu n.2 (λj=>K (.box b (o+j*nu P e))) len else False
   | _,_=>False)else False
  | _=>False)
 | .load t x=>ck (st.ev x) λa=>ldP P gs st t a K
 | .index t x i=>ck (st.ev x) λa=>ck (st.ev i) λj=>ck (pU j) λn=>(match P.underlying t with
  | some .string=>ck (uG a) λs=>∃c,gi gs (0<=n.2/\s[n.2.toNat]? =some c)/\K (.int .u8 c.toNat)
  | _=>False)
 | .slice t x lo hi mx=>ck (st.ev x) λa=>(match P.underlying t with
  | some (.slice e)=>ck (Kq a) λs=>bif (P.info? e).isSome then slS gs s (nu P e) st lo hi mx K else False
  | some .string=>ck (uG a) λs=>slT gs s st lo hi mx K
  | _=>False)
 | .call c=>(match c.callee with
  | .builtin b=>FX P b c.args.toList c.argTypes.toList st K
  | _=>False)
 | _=>False
def mem:Op->Bool
 | .load _ _=>true
 | .convert _ _ _=>true
 | _=>false
def Y(P:Program)(st:St)(o:Op)(v:SV):Prop:=∀β a w,Rep β st a w->∀d t p af g w',(mem o=true->w'.heap=w.heap)->
 (execOp a.eval ⟨d,o,t,p,af,g⟩).run P w'=.ok (.value (val β v)) w'
theorem kz{P}{t}(h:(P.info? t).isSome=true) w:(sizeOf t).run P w=.ok (nu P t) w:=by
 unfold nu;cases hi:P.info? t with
 | none=>rw[hi]at h;cases h
 | some i=>simp[sizeOf,typeInfo,hi]
theorem Dz b o n:(⟨b,o,none⟩:Addr).add n=⟨b,o+n,none⟩:=by unfold Addr.add;split<;>simp_all
theorem oX{d}(h:lQ d=true) β l:val β (Nl (lQ d) l)=.agg (cz β l).toArray:=by
 rw[h];show Value.agg (pT β _).toArray=_;rw[qS]
theorem zV{l:List SV}(h:Nat.beq l.length 1=true):∃s,l=[s]:=by
 have:=bZ h
 match l,this with
 | [s],_=>exact⟨s,rfl⟩
section
variable {P:Program} {gs:List (Bool×Bool)} {st:St} {K:SV->Prop}
theorem Zw{t}{x}{a}(hx:st.ev x=some a)(h:ldP P gs st t a K):∃v,K v/\(gh gs->Y P st (.load t x) v):=by
 unfold ldP at h;split at h
 ·exact h.elim
 rename_i d hu;split at h
 ·rename_i i o;obtain⟨b,hb,h⟩:=bC h;obtain⟨h1,h2⟩:=dD h;simp only[aU,bU]at h1;obtain⟨⟨mP,hsz⟩,kJ⟩:=h1;refine⟨_,h2,λ_ β act w hR dst t' p af g w' hh=>?_⟩;have hB:=(hR.bx i b hb mP).blk;have hB':Blk w' (β i) b.ty (cz β b.cells):=by unfold Blk at hB⊢;rw[hh rfl];exact hB
  have MR:=hR.ev hx;generalize hl:(b.cells.drop o).take _=l at*
  have hC:Cells w' _ (cz β l):=hB'.EV o _ (by
   rw[fx,<-hl];simp only[cz,nj,qN];rw[cK,pN];simp only[cM,bA];omega)
  rcases kJ with rF | kJ
  ·rw[oX rF];have:=ky (P:=P) hu w';rw[rF]at this;exact tw this (pu hsz w') (fx β l) MR hC
  cases rF:lQ d with
  | true=>
   have e:=oX rF β l;rw[rF]at e;rw[e];have:=ky (P:=P) hu w';rw[rF]at this;exact tw this (pu hsz w') (fx β l) MR hC
  | false=>
   obtain⟨s,rfl⟩:=zV kJ;have:=ky (P:=P) hu w';rw[rF]at this;exact yU this MR (Cells.one hC)
 ·rename_i ad;obtain⟨h1,h2⟩:=dD h;simp only[aU,bU,dj]at h1;obtain⟨⟨rW,hsz⟩,kJ⟩:=h1;obtain⟨vs,⟨hF,hK⟩,fl,pJ⟩:=sf h2;refine⟨_,hK,λhg β act w hR dst t' p af g w' hh=>?_⟩;have hw:=hR.still rW;subst hw;have hC:Cells w' ad (cz β vs):=by
   rw[gP (β:=β) (β':=β0) (g:=λ_=>false) (λi h=>aaH) vs (pJ _)];exact(gQ hF hg).keep (by rw[hh rfl])
  have MR:=hR.ev hx;rw[<-fl]at hsz kJ;rcases kJ with rF | kJ
  ·rw[oX rF];have:=ky (P:=P) hu w';rw[rF]at this;exact tw this (pu hsz w') (fx β vs) MR hC
  cases rF:lQ d with
  | true=>
   have e:=oX rF β vs;rw[rF]at e;rw[e];have:=ky (P:=P) hu w';rw[rF]at this;exact tw this (pu hsz w') (fx β vs) MR hC
  | false=>
   obtain⟨s,rfl⟩:=zV kJ;have:=ky (P:=P) hu w';rw[rF]at this;exact yU this MR (Cells.one hC)
 exact h.elim
theorem Zx{s d}{x}{a}(hx:st.ev x=some a)(h:cvP P gs st s d a K):∃v,K v/\(gh gs->Y P st (.convert s d x) v):=by
 unfold cvP at h;split at h
 ·rename_i ks kd h1 h2;obtain⟨⟨k,n⟩,hp,h⟩:=bC h;exact⟨_,h,λ_ β act w hR dst t' p af g w' hh=>B6 (run_underlying h1 w') (run_underlying h2 w') ((hR.ev hx).trans (dx hp β))⟩
 ·rename_i h1 h2;obtain⟨u,hp,h⟩:=bC h;exact⟨_,h,λ_ β act w hR dst t' p af g w' hh=>B7 (run_underlying h1 w') (run_underlying h2 w') ((hR.ev hx).trans (ic hp β))⟩
 ·rename_i e h1 h2;split at h
  ·rename_i h3;obtain⟨u,hp,h⟩:=bC h;cases hm:st.mv with
   | true=>rw[hm]at h;exact h.elim
   | false=>
    rw[hm]at h;obtain⟨l,hF,hK⟩:=h;refine⟨_,hK,λhg β act w hR dst t' p af g w' hh=>?_⟩;have hw:=hR.still hm;subst hw;exact zE h1 h3 h2 ((hR.ev hx).trans (jQ hp β)) (It _ _ (by rw[hh rfl]) (gQ hF hg))
  exact h.elim
 exact h.elim
theorem Zy{b}{xs}{ts}(h:FX P b xs ts st K):∃v,K v/\(gh gs->Y P st (.call ⟨.builtin b,xs.toArray,ts.toArray⟩) v):=by
 unfold FX at h;split at h
 ·obtain⟨a,hx,h⟩:=bC h;split at h
  ·rename_i hu;obtain⟨s,hs,h⟩:=bC h;exact⟨_,h,λ_ β act w hR dst t' p af g w' hh=>Xh (run_underlying hu w') ((hR.ev hx).trans (jQ hs β))⟩
  ·rename_i hu;obtain⟨s,hs,h⟩:=bC h;exact⟨_,h,λ_ β act w hR dst t' p af g w' hh=>PR (run_underlying hu w') ((hR.ev hx).trans (ic hs β))⟩
  exact h.elim
 ·obtain⟨a,hx,h⟩:=bC h;split at h
  ·rename_i hu;obtain⟨s,hs,h⟩:=bC h;exact⟨_,h,λ_ β act w hR dst t' p af g w' hh=>ad4 (run_underlying hu w') ((hR.ev hx).trans (jQ hs β))⟩
  exact h.elim
 ·obtain⟨a,hx,h⟩:=bC h;obtain⟨b,hy,h⟩:=bC h;obtain⟨⟨k,m⟩,hp,h⟩:=bC h;obtain⟨_,hq,h⟩:=bC h;exact⟨_,h,λ_ β act w hR dst t' p af g w' hh=>ad5 ((hR.ev hx).trans (dx hp β)) ((hR.ev hy).trans (dx hq β))⟩
 ·obtain⟨a,hx,h⟩:=bC h;obtain⟨b,hy,h⟩:=bC h;obtain⟨⟨k,m⟩,hp,h⟩:=bC h;obtain⟨_,hq,h⟩:=bC h;exact⟨_,h,λ_ β act w hR dst t' p af g w' hh=>ad6 ((hR.ev hx).trans (dx hp β)) ((hR.ev hy).trans (dx hq β))⟩
 exact h.elim
theorem Zz{t e}{x}{lo hi mx}{a}{s}(hu:P.underlying t=some (.slice e))(Bp:(P.info? e).isSome=true)(hx:st.ev x=some a)(hs:Kq a=some s)(h:slS gs s (nu P e) st lo hi mx K):∃v,K v/\(gh gs->Y P st (.slice t x lo hi mx) v):=by
 unfold slS at h;split at h
 ·obtain⟨a1,h1,h⟩:=bC h;obtain⟨l,e1,k1,n1,⟨hF,hK⟩,o1,u1⟩:=lS h;refine⟨_,hK,λhg β act w hR dst t' p af g w' hh=>?_⟩;obtain⟨rfl,f1,f2⟩:=u1 _ (gQ hF hg);exact zG (run_underlying hu w') (kz Bp w') ((hR.ev hx).trans (jQ hs β)) ((hR.ev h1).trans (dx o1 β)) f1 f2 (ba _)
 ·obtain⟨a1,h1,h⟩:=bC h;obtain⟨l,e1,k1,n1,⟨hF,hK⟩,o1,u1⟩:=lS h;refine⟨_,hK,λhg β act w hR dst t' p af g w' hh=>?_⟩;obtain⟨rfl,f1⟩:=u1 _ (gQ hF hg);exact Ik (run_underlying hu w') (kz Bp w') ((hR.ev hx).trans (jQ hs β)) ((hR.ev h1).trans (dx o1 β)) (bB _) f1 (ba _)
 ·obtain⟨a1,h1,h⟩:=bC h;obtain⟨a2,h2,h⟩:=bC h;obtain⟨l,e1,k1,n1,h,o1,u1⟩:=lS h;obtain⟨m,e2,k2,n2,⟨hF,hK⟩,o2,u2⟩:=lS h;refine⟨_,hK,λhg β act w hR dst t' p af g w' hh=>?_⟩;obtain⟨rfl,f1⟩:=u1 _ (gQ hF hg);obtain⟨rfl,f1,f2⟩:=u2 _ f1;exact Il (run_underlying hu w') (kz Bp w') ((hR.ev hx).trans (jQ hs β)) ((hR.ev h1).trans (dx o1 β)) ((hR.ev h2).trans (dx o2 β)) f1 f2 (ba _)
 ·obtain⟨a1,h1,h⟩:=bC h;obtain⟨a2,h2,h⟩:=bC h;obtain⟨l,e1,k1,n1,h,o1,u1⟩:=lS h;obtain⟨m,e2,k2,n2,⟨hF,hK⟩,o2,u2⟩:=lS h;refine⟨_,hK,λhg β act w hR dst t' p af g w' hh=>?_⟩;obtain⟨rfl,f1⟩:=u1 _ (gQ hF hg);obtain⟨rfl,f1,f2⟩:=u2 _ f1;exact Im (run_underlying hu w') (kz Bp w') ((hR.ev hx).trans (jQ hs β)) ((hR.ev h1).trans (dx o1 β)) ((hR.ev h2).trans (dx o2 β)) (bB _) f1 f2
 ·obtain⟨a1,h1,h⟩:=bC h;obtain⟨a2,h2,h⟩:=bC h;obtain⟨a3,h3,h⟩:=bC h;obtain⟨l,e1,k1,n1,h,o1,u1⟩:=lS h;obtain⟨m,e2,k2,n2,h,o2,u2⟩:=lS h;obtain⟨q,e3,k3,n3,⟨hF,hK⟩,o3,u3⟩:=lS h;refine⟨_,hK,λhg β act w hR dst t' p af g w' hh=>?_⟩;obtain⟨rfl,f1⟩:=u1 _ (gQ hF hg);obtain⟨rfl,f1⟩:=u2 _ f1;obtain⟨rfl,f1,f2,f3⟩:=u3 _ f1;exact Io (run_underlying hu w') (kz Bp w') ((hR.ev hx).trans (jQ hs β)) ((hR.ev h1).trans (dx o1 β)) ((hR.ev h2).trans (dx o2 β)) ((hR.ev h3).trans (dx o3 β)) f1 f2 f3
 exact h.elim
theorem ZA{t}{x}{lo hi mx}{a}{s}(hu:P.underlying t=some .string)(hx:st.ev x=some a)(hs:uG a=some s)(h:slT gs s st lo hi mx K):∃v,K v/\(gh gs->Y P st (.slice t x lo hi mx) v):=by
 unfold slT at h;split at h
 ·obtain⟨a1,h1,h⟩:=bC h;obtain⟨l,e1,k1,n1,⟨hF,hK⟩,o1,u1⟩:=lS h;refine⟨_,hK,λhg β act w hR dst t' p af g w' hh=>?_⟩;obtain⟨rfl,f1⟩:=u1 _ (gQ hF hg);exact Dg (run_underlying hu w') ((hR.ev hx).trans (ic hs β)) ((hR.ev h1).trans (dx o1 β)) f1 (ba _)
 ·obtain⟨a1,h1,h⟩:=bC h;obtain⟨l,e1,k1,n1,⟨hF,hK⟩,o1,u1⟩:=lS h;refine⟨_,hK,λhg β act w hR dst t' p af g w' hh=>?_⟩;obtain⟨rfl,f1⟩:=u1 _ (gQ hF hg);exact Dh (run_underlying hu w') ((hR.ev hx).trans (ic hs β)) ((hR.ev h1).trans (dx o1 β)) (bB _) f1
 ·obtain⟨a1,h1,h⟩:=bC h;obtain⟨a2,h2,h⟩:=bC h;obtain⟨l,e1,k1,n1,h,o1,u1⟩:=lS h;obtain⟨m,e2,k2,n2,⟨hF,hK⟩,o2,u2⟩:=lS h;refine⟨_,hK,λhg β act w hR dst t' p af g w' hh=>?_⟩;obtain⟨rfl,f1⟩:=u1 _ (gQ hF hg);obtain⟨rfl,f1,f2⟩:=u2 _ f1;exact Di (run_underlying hu w') ((hR.ev hx).trans (ic hs β)) ((hR.ev h1).trans (dx o1 β)) ((hR.ev h2).trans (dx o2 β)) f1 f2
 exact h.elim
theorem UR{t}{d}{l:List az}{off n}(hu:P.underlying t=some d)(hn:sz P t n=true)(rF:lQ d=true) w:(part t l.toArray off).run P w=.ok (.agg ((l.drop off).take n).toArray) w:=by
 have h:=ky (P:=P) hu w;rw[rF]at h;unfold part;simp only[Sem.run_bind,h,Result.andThen_ok,yS,pu hn w,Sem.run_pure];rw[List.extract_toArray,List.extract_eq_take_drop,ez]
theorem Qd{t}{d}{l:List az}{off}{v}(hu:P.underlying t=some d)(rF:lQ d=false)(hv:l[off]? =some v) w:(part t l.toArray off).run P w=.ok v w:=by
 have h:=ky (P:=P) hu w;rw[rF]at h;unfold part;simp[Sem.run_bind,h,Result.andThen_ok];simp[hv]
theorem IA{o:Op}(h:Zv P gs st o K):∃v,K v/\(gh gs->Y P st o v):=by
 unfold Zv at h;split at h
 ·obtain⟨v,hx,hK⟩:=bC h;exact⟨v,hK,λ_ β act w hR dst t' p af g w' hh=>by simp only[execOp,hR.ev hx,Sem.run_pure]⟩
 ·obtain⟨v,hx,hK⟩:=bC h;exact⟨v,hK,λ_ β act w hR dst t' p af g w' hh=>by simp only[execOp,hR.ev hx,Sem.run_pure]⟩
 ·obtain⟨c,hc,h⟩:=bC h;split at h
  ·obtain⟨v,hx,hK⟩:=bC h;exact⟨v,hK,λ_ β act w hR dst t' p af g w' hh=>Ki (hR.ev hc) (hR.ev hx)⟩
  ·obtain⟨v,hx,hK⟩:=bC h;exact⟨v,hK,λ_ β act w hR dst t' p af g w' hh=>Kj (hR.ev hc) (hR.ev hx)⟩
  exact h.elim
 ·rename_i op t x y ty;obtain⟨a,hx,h⟩:=bC h;obtain⟨b,hy,h⟩:=bC h;cases hn:Ks y with
  | true=>
   rw[hn]at h;have e:=Qc hn;subst e;obtain⟨v,hK,hr⟩:=Zs hx h;exact⟨v,hK,λhg β act w hR dst t' p af g w' hh=>hr hg β act w hR _ _ _ _ _ _⟩
  | false=>
  rw[hn]at h;obtain⟨v,hK,hr⟩:=UN h;exact⟨v,hK,λhg β act w hR dst t' p af g w' hh=>hr hg β act _ _ _ _ _ _ _ _ _ (hR.ev hx) (hR.ev hy)⟩
 ·obtain⟨a,hx,h⟩:=bC h;split at h
  ·exact⟨_,h,λ_ β act w hR dst t' p af g w' hh=>by simp only[execOp,hR.ev hx];rfl⟩
  ·exact⟨_,h,λ_ β act w hR dst t' p af g w' hh=>by simp only[execOp,hR.ev hx];rfl⟩
  exact h.elim
 ·obtain⟨a,hx,h⟩:=bC h;obtain⟨⟨k,n⟩,hp,h⟩:=bC h;exact⟨_,h,λ_ β act w hR dst t' p af g w' hh=>by simp only[execOp,hR.ev hx,dx hp];rfl⟩
 ·obtain⟨a,hx,h⟩:=bC h;exact Zx hx h
 ·rename_i x i;obtain⟨a,hx,h⟩:=bC h;split at h
  ·rename_i l;obtain⟨h1,h⟩:=dD h;obtain⟨v,hv,hK⟩:=bC h;refine⟨v,hK,λ_ β act w hR dst t' p af g w' hh=>?_⟩;have e:=(hR.ev hx).trans (by
    show Value.tuple (pT β l).toArray=_;rw[mq β h1])
   have e2:(cz β (mF l))[i]? =some (val β v):=by rw[cz,bW,hv];rfl
   simp only[execOp,e,Instr.extract];simp[e2]
  exact h.elim
 ·rename_i t parts;obtain⟨ps,hp,h⟩:=bC h;obtain⟨r,hr,hK⟩:=bC h;refine⟨_,hK,λ_ β act w hR dst t' p af g w' hh=>?_⟩;have e:val β (.agg (nq r))=.agg (cz β r).toArray:=by
   show Value.agg (pT β (nq r)).toArray=_;rw[qS]
  rw[e];obtain⟨pl⟩:=parts;exact UB (hR.Ug hp) (UQ hr β w')
 ·rename_i fn fs cs;split at h
  ·rename_i f;obtain⟨a,ha,h⟩:=bC h;obtain⟨b,hb,hK⟩:=bC h;refine⟨_,hK,λ_ β act w hR dst t' p af g w' hh=>?_⟩;obtain⟨cl⟩:=cs;have:=zF (P:=P) (w:=w') (dst:=dst) (t':=t') (p:=p) (af:=af) (g:=g) (fn:=.func f) (hR.ME ha) (hR.ME hb);rw[<-qS,<-qS]at this;exact this
  exact h.elim
 ·obtain⟨a,hx,h⟩:=bC h;obtain⟨d,hu,h⟩:=bC h;obtain⟨h1,hK⟩:=dD h;simp at h1;refine⟨_,hK,λ_ β act w hR dst t' p af g w' hh=>?_⟩;have e:val β a=val β0 a:=iE (g:=λ_=>false) (λi h=>aaH) a h1.2;exact UC (run_underlying hu w') (by unfold nif at h1;cases d<;>first | rfl | exact h1.1) ((hR.ev hx).trans e)
 ·obtain⟨a,hx,h⟩:=bC h;split at h
  ·exact⟨_,h,λ_ β act w hR dst t' p af g w' hh=>PM (hR.ev hx)⟩
  ·exact⟨_,h,λ_ β act w hR dst t' p af g w' hh=>PM (hR.ev hx)⟩
  ·obtain⟨q,hF,hK⟩:=h;refine⟨_,hK,λhg β act w hR dst t' p af g w' hh=>PM ((hR.ev hx).trans ?_)⟩;have:=gQ hF hg;subst this;rfl
  ·exact⟨_,h,λ_ β act w hR dst t' p af g w' hh=>by
    have e:=hR.ev hx;simp only[execOp,e,Sem.run_pure,val,pT,zv]⟩
  exact h.elim
 ·obtain⟨a,hx,h⟩:=bC h;split at h
  ·rename_i fs hu;obtain⟨f,hf,h⟩:=bC h;obtain⟨hs,h⟩:=dD h;have hs:=cG hs;have hso:(P.info? f.type).isSome=true:=by
    unfold nu at hs;split at hs
    ·rename_i hi;rw[hi];rfl
    omega
   obtain⟨m,hm⟩:∃m,nu P f.type=m+1:=⟨nu P f.type-1,aG⟩
   split at h
   ·exact⟨_,h,λ_ β act w hR dst t' p af g w' hh=>Kh (run_underlying hu w') hf (by rw[kz hso,hm]) (hR.ev hx) rfl⟩
   ·exact⟨_,h,λ_ β act w hR dst t' p af g w' hh=>Kh (run_underlying hu w') hf (by rw[kz hso,hm]) (hR.ev hx) (Dz _ _ _)⟩
   exact h.elim
  exact h.elim
 ·obtain⟨a,hx,h⟩:=bC h;split at h
  ·rename_i l fs hu;obtain⟨f,hf,h⟩:=bC h;obtain⟨d,hd,h⟩:=bC h;obtain⟨h1,hK⟩:=dD h;simp only[aU,bU]at h1;obtain⟨⟨hl,hsz⟩,kJ⟩:=h1;refine⟨_,hK,λ_ β act w hR dst t' p af g w' hh=>?_⟩;have e:=(hR.ev hx).trans (by
    show Value.agg (pT β l).toArray=_;rw[mq β hl])
   have hv:cz β (((mF l).drop f.offset).take (nu P f.type))=((cz β (mF l)).drop f.offset).take (nu P f.type):=by
    simp only[cz,nj,qN]
   have key:(part f.type (cz β (mF l)).toArray f.offset).run P w'=.ok (val β (Nl (lQ d) (((mF l).drop f.offset).take (nu P f.type)))) w':=by
    cases rF:lQ d with
    | true=>
     have e2:=oX rF β (((mF l).drop f.offset).take (nu P f.type));rw[rF]at e2;rw[e2,hv];rw[UR (l:=cz β (mF l)) (off:=f.offset) hd hsz rF w'];congr 3;rw[pN];simp only[cK,cM,fx];omega
    | false=>
     rcases kJ with kJ | kJ
     ·rw[rF]at kJ;cases kJ
     obtain⟨s,hs⟩:=zV kJ;rw[hs];refine Qd hd rF ?_ w';have h4:(((mF l).drop f.offset).take (nu P f.type))[0]? =some s:=by rw[hs];rfl
     rw[List.getElem?_take]at h4;split at h4
     ·rw[iQ,fE]at h4;rw[cz,bW,h4];rfl
     cases h4
   simp only[execOp,e,Instr.field,Sem.run_bind,run_underlying hu,Result.andThen_ok,hf,asAgg,Sem.run_pure,key]
  exact h.elim
 ·obtain⟨a,hx,h⟩:=bC h;obtain⟨j,hj,h⟩:=bC h;obtain⟨⟨k,n⟩,hn,h⟩:=bC h;split at h
  ·rename_i e hu;obtain⟨s,hs,h⟩:=bC h;obtain⟨hi,h⟩:=dD h;obtain⟨q,hF,hK⟩:=h;exact⟨_,hK,λhg β act w hR dst t' p af g w' hh=>FE (run_underlying hu w') (kz hi w') ((hR.ev hx).trans (jQ hs β)) ((hR.ev hj).trans (dx hn β)) (gQ hF hg)⟩
  ·rename_i len e hu;obtain⟨hi,h⟩:=dD h;split at h
   ·obtain⟨h1,hK⟩:=dD h;simp at h1;exact⟨_,hK,λhg β act w hR dst t' p af g w' hh=>ve (run_underlying hu w') (kz hi w') (hR.ev hx) (hR.ev hj) h1.1 h1.2 (Dz _ _ _)⟩
   ·obtain⟨h1,hK⟩:=dD h;simp at h1;exact⟨_,hK,λhg β act w hR dst t' p af g w' hh=>ve (run_underlying hu w') (kz hi w') (hR.ev hx) (hR.ev hj) h1.1 h1.2 rfl⟩
   ·obtain⟨q,hF,hK⟩:=h;exact⟨_,hK,λhg β act w hR dst t' p af g w' hh=>ve (run_underlying hu w') (kz hi w') (hR.ev hx) ((hR.ev hj).trans (dx hn β)) (gQ hF hg).1 (gQ hF hg).2.1 (gQ hF hg).2.2⟩
   ·obtain⟨_,⟨h0,h1⟩,hK⟩:=dD h;exact⟨_,Kv hK h0 h1,λhg β act w hR dst t' p af g w' hh=>ve (run_underlying hu w') (kz hi w') (hR.ev hx) ((hR.ev hj).trans (dx hn β)) h0 h1 (Dz _ _ _)⟩
   exact h.elim
  exact h.elim
 ·obtain⟨a,hx,h⟩:=bC h;exact Zw hx h
 ·obtain⟨a,hx,h⟩:=bC h;obtain⟨j,hj,h⟩:=bC h;obtain⟨⟨k,n⟩,hn,h⟩:=bC h;split at h
  ·rename_i hu;obtain⟨s,hs,h⟩:=bC h;obtain⟨c,hF,hK⟩:=h;exact⟨_,hK,λhg β act w hR dst t' p af g w' hh=>Ij (run_underlying hu w') ((hR.ev hx).trans (ic hs β)) ((hR.ev hj).trans (dx hn β)) (gQ hF hg).1 (gQ hF hg).2⟩
  exact h.elim
 ·obtain⟨a,hx,h⟩:=bC h;split at h
  ·rename_i e hu;obtain⟨s,hs,h⟩:=bC h;obtain⟨hi,h⟩:=dD h;exact Zz hu hi hx hs h
  ·rename_i hu;obtain⟨s,hs,h⟩:=bC h;exact ZA hu hx hs h
  exact h.elim
 ·rename_i c;obtain⟨callee,⟨xs⟩,⟨ts⟩⟩:=c;split at h
  ·rename_i b hb;subst hb;exact Zy h
  exact h.elim
 exact h.elim
end
structure Wx (β:Nat->Nat) (n:Nat) (fr:List (Nat×Nat×SV)) (D:List Deferred) (a:Act):Prop where
 sz:a.tmps.size=n
 df:a.defers=D
 at_:∀i p,dQ fr i=some p->i<n->a.tmps[i]? =some (val β p.2)
theorem qT{β}{n}{fr}{D}{a}(h:Wx β n fr D a):∃us,a=frD n us (cv β fr) D:=by
 refine⟨λi=>(a.tmps[i]?).getD undef,?_⟩;obtain⟨tmps,df⟩:=a;obtain⟨h1,h2,h3⟩:=h;dsimp only at h1 h2 h3;congr 1;apply Array.ext';apply gf;intro i;by_cases hi:i<n
 ·rw[jP _ _ _ _ _ hi,bM];cases hl:dQ fr i with
  | none=>
   rw[yV (l:=cv β fr) adw];have:i<tmps.size:=aG
   simp[this]
  | some p=>
   rw[oW (l:=cv β fr) (v:=val β p.2) adw];have:=h3 i p hl hi;simpa using this
 rw[cF aab,cF (by rw[kx];exact qL hi)]
theorem US{β}{n}{fr}{D}{us}:Wx β n fr D (frD n us (cv β fr) D):=by
 refine⟨by simp[frD,kx],rfl,λi p hl hi=>?_⟩;simp[frD,iT];rw[jP _ _ _ _ _ hi,bM,oW (l:=cv β fr) (v:=val β p.2) adw]
theorem Rep.ok{β}{st}{a}{w}(h:Rep β st a w):Wx β st.n st.fr (Xm st.df) a:=by
 obtain⟨us,rfl⟩:=h.fr;exact US
def ZB(st:St)(ops:List Oper)(j:Nat):Option (Nat×SV):=match gU ops j with
 | some o=>(match o.dst with
  | some d=>(st.get d).map λs=>(d,s)
  | none=>none)
 | none=>none
theorem zW{st}{ops}{j d}{s}(h:ZB st ops j=some (d,s)):∃oj,gU ops j=some oj/\oj.dst=some d/\st.get d=some s:=by
 unfold ZB at h;split at h
 ·rename_i o ho;split at h
  ·rename_i e he;cases hg:st.get e with
   | none=>rw[hg]at h;cases h
   | some u=>
    rw[hg]at h;obtain⟨rfl,rfl⟩:=h;exact⟨o,ho,he,hg⟩
  cases h
 cases h
section
variable {β:Nat->Nat} {st:St} {a:Act} {w:ay} {ops:List Oper} {o:Oper} {j d:Nat} {want b:Bool}
theorem pV(hR:Rep β st a w)(hg:o.guard=some (j,want)){s}(ht:ZB st ops j=some (d,s))(hs:val β s=.bool b):Region.wanted o (yielded ops.toArray a.tmps)=(b==want):=by
 obtain⟨oj,h1,h2,h3⟩:=zW ht;obtain⟨us,rfl⟩:=hR.fr;exact uF hg h1 h2 (by rw[<-hs];exact St.evO β h3) rfl
theorem wQ(hR:Rep β st a w)(hg:o.guard=some (j,want))(ht:ZB st ops j=some (d,.un)):Region.wanted o (yielded ops.toArray a.tmps)=false:=by
 obtain⟨oj,h1,h2,h3⟩:=zW ht;obtain⟨us,rfl⟩:=hR.fr;exact wuF hg h1 h2 (St.evO β (x:=.tmp d) (s:=.un) h3)
theorem Rep.set(hR:Rep β st a w){s s'}(hg:st.get d=some s)(hv:val β s=val β s'):Rep β (st.put (some d) s') a w:=by
 refine⟨qT ⟨hR.ok.sz,hR.ok.df,λi p hl hi=>?_⟩,hR.bx,hR.ne,hR.only,hR.still⟩;simp[St.put,dQ]at hl;cases hb:Nat.beq d i with
 | true=>
  rw[hb]at hl;simp at hl;subst hl;have:=bZ hb;subst this;unfold St.get at hg;cases cd:Nat.blt d st.n with
  | false=>rw[cd]at hg;cases hg
  | true=>
   rw[cd,mj]at hg;cases hq:dQ st.fr d with
   | none=>rw[hq]at hg;cases hg
   | some q=>
    rw[hq]at hg;simp at hg;rw[hR.ok.at_ d q hq hi,hg,hv]
 | false=>rw[hb]at hl;exact hR.ok.at_ i p adH hi
end
section
variable {P:Program} {ops:List Oper} {w:ay}
def vq(P:Program)(ops:List Oper)(w:ay):List Oper->Act->Act->Prop
 | [],a,a'=>a'=a
 | o::r,a,a'=>(Region.wanted o (yielded ops.toArray a.tmps)=true/\∃v,(∀w',w'.heap=w.heap->(execOp a.eval o).run P w'=.ok (.value v) w')/\vq P ops w r (a.put o.dst v) a')∨
  (Region.wanted o (yielded ops.toArray a.tmps)=false/\vq P ops w r (a.put o.dst undef) a')
theorem zX:∀{l m:List Oper} {a b c:Act},vq P ops w l a b->vq P ops w m b c->vq P ops w (l++m) a c
 | [],_,_,_,_,h,k=>by
  subst h;exact k
 | o::r,m,a,b,c,h,k=>by
  rcases h with⟨h1,v,h2,h3⟩ | ⟨h1,h3⟩
  ·exact .inl ⟨h1,v,h2,zX (l:=r) h3 k⟩
  exact .inr ⟨h1,zX (l:=r) h3 k⟩
theorem DA{Q}:∀{l rest:List Oper} {a a':Act},vq P ops w l a a'->wpList P ops.toArray Q rest a' w->wpList P ops.toArray Q (l++rest) a w
 | [],_,_,_,h,k=>by
  subst h;exact k
 | o::r,m,a,b,h,k=>by
  rcases h with⟨h1,v,h2,h3⟩ | ⟨h1,h3⟩
  ·exact zA v h1 (h2 w rfl) rfl (DA (l:=r) h3 k)
  exact PL h1 rfl (DA (l:=r) h3 k)
theorem IB{Q}:∀{l rest:List Oper} {a a':Act},vq P ops w l a a'->wpQuiet P ops.toArray (λw'=>∃n,w'=w.drewN n) Q rest a'->wpQuiet P ops.toArray (λw'=>∃n,w'=w.drewN n) Q (l++rest) a
 | [],_,_,_,h,k=>by
  subst h;exact k
 | o::r,m,a,b,h,k=>by
  rcases h with⟨h1,v,h2,h3⟩ | ⟨h1,h3⟩
  ·exact ad7 v h1 (by rintro _ ⟨n,rfl⟩;exact h2 _ rfl) rfl (IB (l:=r) h3 k)
  exact akw h1 rfl (IB (l:=r) h3 k)
def DB:List Oper->List Nat
 | []=>[]
 | o::r=>match o.dst with
  | some d=>d::DB r
  | none=>DB r
theorem kb(a:Act) d v:(a.put d v).tmps.size=a.tmps.size/\(a.put d v).defers=a.defers/\∀i,d≠some i->(a.put d v).tmps[i]? =a.tmps[i]? :=by
 cases d with
 | none=>exact⟨rfl,rfl,λ_ _=>rfl⟩
 | some k=>
  refine⟨by simp[Act.put],rfl,λi hi=>?_⟩;simp[Act.put];rw[gz (λe=>hi (by rw[e]))]
theorem zY:∀{l:List Oper} {a a':Act},vq P ops w l a a'->a'.tmps.size=a.tmps.size/\a'.defers=a.defers/\∀i,(DB l).elem i=false->a'.tmps[i]? =a.tmps[i]?
 | [],_,_,h=>by
  subst h;exact⟨rfl,rfl,λ_ _=>rfl⟩
 | o::r,a,b,h=>by
  have key:∀v,vq P ops w r _ b->b.tmps.size=a.tmps.size/\b.defers=a.defers/\∀i,(DB (o::r)).elem i=false->b.tmps[i]? =a.tmps[i]? :=λv h3=>by
   obtain⟨k1,k2,k3⟩:=zY h3;obtain⟨p1,p2,p3⟩:=kb a o.dst v;refine⟨k1.trans p1,k2.trans p2,λi hi=>?_⟩;cases hd:o.dst with
   | none=>
    simp only[DB,hd]at hi;rw[k3 i hi,p3 i (by rw[hd];simp)]
   | some d=>
    simp only[DB,hd,lu]at hi;split at hi
    ·cases hi
    rename_i fX;rw[k3 i hi,p3 i (by rw[hd];intro e;simp at e;subst e;simp at fX)]
  rcases h with⟨h1,v,h2,h3⟩ | ⟨h1,h3⟩
  ·exact key v h3
  exact key _ h3
end
def aem(ops:List Oper):Nat->Nat->Nat->Bool
 | 0,_,_=>false
 | f+1,q,j=>bif Nat.beq q j then true else match gU ops q with
  | some o=>(match o.guard with
   | some (r,_)=>aem ops f r j
   | none=>false)
  | none=>false
def yz(ops:List Oper)(j:Nat):List Oper->Nat
 | []=>0
 | o::r=>match o.guard with
  | some (q,_)=>bif aem ops 50 q j then yz ops j r+1 else 0
  | none=>0
def mrg(t:Bool)(a b:SV):Option SV:=match a,b with
 | .bl true,.bl false=>some (.bt t)
 | .bl true,.bt y=>some (.bt (t||y))
 | .bt x,.bl false=>some (.bt (t&&x))
 | .bl false,.bl true=>some (.bt (!t))
 | .bl false,.bt y=>some (.bt (!t&&y))
 | .bt x,.bl true=>some (.bt (!t||x))
 | .bt x,.bt y=>some (.bt (bif t then x else y))
 | .bl true,.bl true=>some (.bl true)
 | .bl false,.bl false=>some (.bl false)
 | _,_=>none
theorem Qe{t}{a b v}(h:mrg t a b=some v) β:(t=true->val β v=val β a)/\(t=false->val β v=val β b):=by
 unfold mrg at h;split at h<;>simp at h<;>subst h<;>refine⟨λe=>?_,λe=>?_⟩<;>subst e<;>simp[val,pT]
def zZ(ds:List Nat):List (Nat×Nat×SV)->List (Nat×Nat×SV)
 | []=>[]
 | p::r=>bif ds.elem p.1 then zZ ds r else p::zZ ds r
theorem kD{ds}:∀{l:List _} {i:Nat},(ds.elem i=true->dQ (zZ ds l) i=none)/\(ds.elem i=false->dQ (zZ ds l) i=dQ l i)
 | [],i=>⟨λ_=>rfl,λ_=>rfl⟩
 | (k,p)::r,i=>by
  obtain⟨h1,h2⟩:=kD (ds:=ds) (l:=r) (i:=i);simp only[zZ];cases hk:ds.elem k with
  | true=>
   simp only[mj];refine⟨h1,λhi=>?_⟩;rw[h2 hi];simp[dQ];cases hb:Nat.beq k i with
   | true=>have:=bZ hb;subst this;rw[hi]at hk;cases hk
   | false=>rfl
  | false=>
   simp only[ui,dQ];cases hb:Nat.beq k i with
   | true=>
    have:=bZ hb;subst this;exact⟨λhi=>(by rw[hi]at hk;cases hk),λ_=>rfl⟩
   | false=>exact⟨h1,h2⟩
def St.oy(st:St)(ds:List Nat):St:={st with fr:=zZ ds st.fr}
theorem Ext.oy st ds:Ext st (st.oy ds):=
 ⟨rfl,ba _,λi k v hl _=>by
  cases he:ds.elem i with
  | true=>rw[show dQ (st.oy ds).fr i=none from(kD (l:=st.fr)).1 he]at hl;cases hl
  | false=>rw[show dQ (st.oy ds).fr i=dQ st.fr i from(kD (l:=st.fr)).2 he]at hl;exact hl,λi b h ho _=>⟨b,h,ho,rfl,rfl,rfl,λ_ h=>h⟩,P8,Fs⟩
structure Alike (s t:St):Prop where
 bx:t.bx=s.bx
 w0:t.w0=s.w0
 mv:t.mv=s.mv
 dt:t.dt=s.dt
 n:t.n=s.n
 df:t.df=s.df
theorem Alike.refl s:Alike s s:=⟨rfl,rfl,rfl,rfl,rfl,rfl⟩
theorem Alike.trans{s t u}(h:Alike s t)(k:Alike t u):Alike s u:=⟨k.bx.trans h.bx,k.w0.trans h.w0,k.mv.trans h.mv,k.dt.trans h.dt,k.n.trans h.n,k.df.trans h.df⟩
theorem Alike.put s d v:Alike s (s.put d v):=by cases d<;>exact⟨rfl,rfl,rfl,rfl,rfl,rfl⟩
theorem Rep.alike{β}{s t}{a a'}{w}(h:Rep β s a w)(k:Alike s t)(hf:Wx β t.n t.fr (Xm t.df) a'):Rep β t a' w:=by
 obtain⟨k1,k2,k3,k4,k5,k6⟩:=k;refine⟨qT hf,λi b hb ho=>?_,λi j bi bj h1 h2 h3 h4=>?_,?_,λhm=>?_⟩
 ·rw[k1]at hb;obtain⟨g1,g2,g3⟩:=h.bx i b hb ho;exact⟨g1,g2,λe=>by rw[k2];exact g3 e⟩
 ·rw[k1]at h1 h2;exact h.ne i j bi bj h1 h2 h3 h4
 ·rw[k2,k4];exact h.only
 rw[k2];exact h.still (by rw[<-k3];exact hm)
def wR(P:Program)(ops:List Oper):Nat->List (Bool×Bool)->List Oper->St->(St->Prop)->Prop
 | 0,_,_,_,_=>False
 | _+1,_,[],st,K=>K st
 | f+1,gs,o::rest,st,K=>match o.guard with
  | none=>Zv P gs st o.op λv=>wR P ops f gs rest (st.put o.dst v) K
  | some (j,want)=>(match ZB st ops j with
   | some (_,.un)=>wR P ops f gs rest (st.put o.dst .un) K
   | some (_,.bl b)=>bif b==want then Zv P gs st o.op λv=>wR P ops f gs rest (st.put o.dst v) K else wR P ops f gs rest (st.put o.dst .un) K
   | some (d,.bt t)=>(match(o::rest)[yz ops j (o::rest)]? with
    | some pk=>(match pk.dst with
     | some k=>
      wR P ops f (gs++[(t,true)]) ((o::rest).take (yz ops j (o::rest)+1)) (st.put (some d) (.bl true)) λsa=>
      ck (sa.get k) λva=>
      wR P ops f (gs++[(t,false)]) ((o::rest).take (yz ops j (o::rest)+1)) (st.put (some d) (.bl false)) λsb=>
      ck (sb.get k) λvb=>
      ck (mrg t va vb) λv=>
      wR P ops f gs ((o::rest).drop (yz ops j (o::rest)+1)) ((st.oy (DB ((o::rest).take (yz ops j (o::rest)+1)))).put (some k) v) K
     | none=>False)
    | none=>False)
   | _=>False)
theorem IC:∀{gs:List _} {t b:Bool},gh gs->t=b->gh (gs++[(t,b)])
 | [],_,_,_,h=>⟨h,trivial⟩
 | _::r,_,_,h,k=>⟨h.1,IC (gs:=r) h.2 k⟩
theorem qU{P}{ops}:∀{f:Nat} {gs:List _} {l:List Oper} {st:St} {K:St->Prop},wR P ops f gs l st K->
  ∃cN,K cN/\Ext st cN/\Alike st cN/\(gh gs->∀β a w,Rep β st a w->∃a',vq P ops w l a a'/\Rep β cN a' w)
 | 0,_,_,_,_,h=>h.elim
 | _+1,gs,[],st,K,h=>⟨st,h,Ext.refl _,Alike.refl _,λ_ β a w hR=>⟨a,rfl,hR⟩⟩
 | f+1,gs,o::rest,st,K,h=>by
  have one:(Region.wanted o=λ_=>true)∨True->∀{K:St->Prop},(Zv P gs st o.op λv=>wR P ops f gs rest (st.put o.dst v) K)->
    (gh gs->∀β a w,Rep β st a w->Region.wanted o _=true)->
    ∃cN,K cN/\Ext st cN/\Alike st cN/\(gh gs->∀β a w,Rep β st a w->∃a',vq P ops w (o::rest) a a'/\Rep β cN a' w):=λ_ K h hw=>by
   obtain⟨v,h1,hy⟩:=IA h;obtain⟨cN,k1,k2,k3,k4⟩:=qU h1;refine⟨cN,k1,(Ext.put _ _ _).trans k2,(Alike.put _ _ _).trans k3,λhg β a w hR=>?_⟩;obtain⟨a',g1,g2⟩:=k4 hg β _ w (hR.put o.dst v);exact⟨a',.inl ⟨hw hg β a w hR,_,λw' hh=>hy hg β a w hR _ _ _ _ _ w' λ_=>hh,g1⟩,g2⟩
  have no:∀{K:St->Prop},wR P ops f gs rest (st.put o.dst .un) K->(gh gs->∀β a w,Rep β st a w->Region.wanted o _=false)->
    ∃cN,K cN/\Ext st cN/\Alike st cN/\(gh gs->∀β a w,Rep β st a w->∃a',vq P ops w (o::rest) a a'/\Rep β cN a' w):=λh1 hw=>by
   obtain⟨cN,k1,k2,k3,k4⟩:=qU h1;refine⟨cN,k1,(Ext.put _ _ _).trans k2,(Alike.put _ _ _).trans k3,λhg β a w hR=>?_⟩;obtain⟨a',g1,g2⟩:=k4 hg β _ w (hR.put o.dst .un);exact⟨a',.inr ⟨hw hg β a w hR,g1⟩,g2⟩
  unfold wR at h;split at h
  ·rename_i hg0;exact one (.inr trivial) h λ_ β a w hR=>wn hg0
  rename_i j want hg0;split at h
  ·rename_i d ht;exact no h λ_ β a w hR=>wQ hR hg0 ht
  ·rename_i d b ht;cases hb:(b==want)with
   | true=>
    rw[hb]at h;exact one (.inr trivial) h λ_ β a w hR=>by rw[pV hR hg0 ht (b:=b) rfl,hb]
   | false=>
    rw[hb]at h;exact no h λ_ β a w hR=>by rw[pV hR hg0 ht (b:=b) rfl,hb]
  ·rename_i d t ht;obtain⟨oj,Pj,Yw,Ui⟩:=zW ht;split at h
   ·rename_i pk Wy;split at h
    ·rename_i k hk;generalize yz ops j _=m at h Wy;obtain⟨sa,ha,ea1,ea2,ea3⟩:=qU h;obtain⟨va,hva,ha⟩:=bC ha;obtain⟨sb,hb,eb1,eb2,eb3⟩:=qU ha;obtain⟨vb,hvb,hb⟩:=bC hb;obtain⟨v,hv,hb⟩:=bC hb;obtain⟨cN,k1,k2,k3,k4⟩:=qU hb;refine⟨cN,k1,((Ext.oy _ _).trans (Ext.put _ _ _)).trans k2,((⟨rfl,rfl,rfl,rfl,rfl,rfl⟩:Alike st (st.oy _)).trans (Alike.put _ _ _)).trans k3,λhg β a w hR=>?_⟩;have fin:∀(s:SV) u x,Rep β u a w->(∃a',vq P ops w ((o::rest).take (m+1)) a a'/\∃u',Rep β u' a' w/\u'.n=st.n/\u'.get k=some x/\val β v=val β x)->∃a',vq P ops w (o::rest) a a'/\Rep β cN a' w:=by
      rintro s u x hu ⟨a1,g1,u',r1,r2,r3,r4⟩;obtain⟨f1,f2,f3⟩:=zY g1;have gY:Rep β ((st.oy (DB ((o::rest).take (m+1)))).put (some k) v) a1 w:=by
       refine hR.alike ((⟨rfl,rfl,rfl,rfl,rfl,rfl⟩:Alike st (st.oy _)).trans (Alike.put _ _ _)) ⟨f1.trans hR.ok.sz,f2.trans hR.ok.df,λi p hl hi=>?_⟩;simp only[St.put,dQ]at hl;cases Pk:Nat.beq k i with
       | true=>
        rw[Pk]at hl;simp at hl;subst hl;have:=bZ Pk;subst this;rw[r4,<-r1.get r3];have hs:k<a1.tmps.size:=by rw[f1,hR.ok.sz];exact hi
        simp[Act.eval,hs]
       | false=>
        rw[Pk]at hl;cases he:(DB _).elem i with
        | true=>rw[show dQ (st.oy _).fr i=none from(kD (l:=st.fr)).1 he]at hl;cases hl
        | false=>
         rw[show dQ (st.oy _).fr i=dQ st.fr i from(kD (l:=st.fr)).2 he]at hl;rw[f3 i he];exact hR.ok.at_ i p hl hi
      obtain⟨a2,g2,g3⟩:=k4 hg β a1 w gY;refine⟨a2,?_,g3⟩;have:=zX g1 g2;rwa[du]at this
     cases t with
     | true=>
      have hu:Rep β (st.put _ (.bl true)) a w:=hR.set Ui rfl;obtain⟨a1,g1,g2⟩:=ea3 (IC hg rfl) β a w hu;exact fin (.bl true) _ va hu ⟨a1,g1,sa,g2,ea2.n.trans rfl,hva,(Qe hv β).1 rfl⟩
     | false=>
      have hu:Rep β (st.put _ (.bl false)) a w:=hR.set Ui rfl;obtain⟨a1,g1,g2⟩:=eb3 (IC hg rfl) β a w hu;exact fin (.bl false) _ vb hu ⟨a1,g1,sb,g2,eb2.n.trans rfl,hvb,(Qe hv β).2 rfl⟩
    exact h.elim
   exact h.elim
  exact h.elim
theorem kc:∀l b i,cZ (l++[b]) i=if i=l.length then some b else cZ l i
 | [],b,0=>rfl
 | [],b,i+1=>rfl
 | a::r,b,0=>rfl
 | a::r,b,i+1=>by
  simp;exact kc r b i
theorem qV:∀{l:List j8} {i:Nat} {b:j8},cZ l i=some b->i<l.length
 | a::r,0,_,_=>aaa
 | a::r,i+1,b,h=>by simp[cZ]at h;have:=qV h;simp;omega
theorem ja:∀{l:List j8} {i:Nat} {b c:j8},cZ l i=some b->∀j,cZ (Nk l i c) j=if j=i then some c else cZ l j
 | a::r,0,b,c,_,0=>rfl
 | a::r,0,b,c,_,j+1=>rfl
 | a::r,i+1,b,c,h,0=>rfl
 | a::r,i+1,b,c,h,j+1=>by
  simp[cZ]at h;simp;exact ja h j
theorem mG{b}{p q}(h:bif b then p else q):(b=true/\p)∨(b=false/\q):=by
 cases b with
 | true=>exact .inl ⟨rfl,h⟩
 | false=>exact .inr ⟨rfl,h⟩
def H2(bx:List j8)(i:Nat):Nat:=match cZ bx i with
 | some b=>b.blk.getD 0
 | none=>0
def FZ(bx:List j8)(i:Nat):Bool:=match cZ bx i with
 | some b=>b.ok&&b.blk.isSome
 | none=>false
abbrev St.bl(st:St)(i:Nat):Nat:=H2 st.bx i
abbrev St.Jv(st:St)(i:Nat):Bool:=FZ st.bx i
theorem Rep.bl{β}{st}{a}{w}(h:Rep β st a w) i (hg:st.Jv i=true):st.bl i=β i:=by
 unfold St.Jv FZ at hg;unfold St.bl H2;cases hb:cZ st.bx i with
 | none=>rw[hb]at hg;cases hg
 | some b=>
  rw[hb]at hg;simp at hg;cases hk:b.blk with
  | none=>rw[hk]at hg;cases hg.2
  | some k=>
   have:=(h.bx i b hb hg.1).at_ k hk;simp[hk,this]
theorem Rep.th{β}{st}{a}{w}(h:Rep β st a w){l}(hc:ia st.Jv l=true):cz st.bl l=cz β l:=gP (g:=st.Jv) h.bl l hc
theorem Rep.agk{β}{st}{a}{w}(h:Rep β st a w){s}(hc:cln st.Jv s=true):val st.bl s=val β s:=iE (g:=st.Jv) h.bl s hc
def F0:List j8->(List j8->Prop)->Prop
 | [],K=>K []
 | b::r,K=>match b.ok,b.blk with
  | true,none=>∀k,F0 r λr'=>K ({b with blk:=some k}::r')
  | _,_=>F0 r λr'=>K (b::r')
def sA(k:Nat)(b:j8):j8:=match b.ok,b.blk with
 | true,none=>{b with blk:=some k}
 | _,_=>b
def mH(β:Nat->Nat):Nat->List j8->List j8
 | _,[]=>[]
 | n,b::r=>sA (β n) b::mH β (n+1) r
theorem Aa β:∀{bs:List j8} n {K:List j8->Prop},F0 bs K->K (mH β n bs)
 | [],_,_,h=>h
 | b::r,n,K,h=>by
  unfold F0 at h;unfold mH;split at h
  ·have:=Aa β (n+1) (h (β n));have e:sA (β n) b={b with blk:=some (β n)}:=by unfold sA<;>simp_all
   rw[e];exact this
  rename_i h1;have:=Aa β (n+1) h;have e:sA (β n) b=b:=by
   unfold sA;split
   ·rename_i e1 e2;exact absurd e2 (λe2=>h1 e1 e2)
   rfl
  rw[e];exact this
theorem Ab β:∀bs n i,cZ (mH β n bs) i=(cZ bs i).map (sA (β (n+i)))
 | [],_,_=>rfl
 | b::r,n,0=>rfl
 | b::r,n,i+1=>by
  simp[mH,cZ];rw[Ab β r _ i,show n+1+i=n+(i+1) by omega]
def F1(w0 w:ay):List j8->List j8->Prop->Prop
 | b::r,b'::r',p=>match b.ok,b.blk with
  | true,none=>w0.heap.size<=b'.blk.getD 0->b'.blk.getD 0<w.heap.size->F1 w0 w r r' p
  | _,_=>F1 w0 w r r' p
 | _,_,p=>p
theorem Ad{β}{w0 w}:∀{bs:List j8} n {p:Prop},F1 w0 w bs (mH β n bs) p->(∀i b,cZ bs i=some b->b.ok=true->b.blk=none->w0.heap.size<=β (n+i)/\β (n+i)<w.heap.size)->p
 | [],_,_,h,_=>h
 | b::r,n,p,h,hb=>by
  simp[mH]at h;unfold F1 at h;split at h
  ·rename_i h1 h2;obtain⟨e1,e2⟩:=hb 0 b rfl h1 h2;have e:(sA (β n) b).blk.getD 0=β n:=by unfold sA;rw[h1,h2];rfl
   rw[e]at h;exact Ad _ (h e1 e2) λi c hc=>by have:=hb (i+1) c hc;rwa[show n+_=n+1+i by omega]at this
  exact Ad _ h λi c hc=>by have:=hb (i+1) c hc;rwa[show n+_=n+1+i by omega]at this
def shB(g:Nat->Bool)(bl:Nat->Nat)(w:ay)(all:Bool):List j8->Prop->Prop
 | [],p=>p
 | b::r,p=>bif b.ok&&b.blk.isSome&&b.esc&&(all||!b.sh)&&ia g b.cells then Blk w (b.blk.getD 0) b.ty (cz bl b.cells)->shB g bl w all r p else shB g bl w all r p
theorem DC{g}{bl}{w}{all}:∀{bs:List j8} {p:Prop},shB g bl w all bs p->(∀i b,cZ bs i=some b->b.ok=true->b.blk.isSome=true->ia g b.cells=true->Blk w (b.blk.getD 0) b.ty (cz bl b.cells))->p
 | [],_,h,_=>h
 | b::r,p,h,hb=>by
  unfold shB at h;cases hc:(b.ok&&b.blk.isSome&&b.esc&&_&&ia g b.cells)with
  | true=>
   rw[hc]at h;simp at hc;exact DC (h (hb 0 b rfl hc.1.1.1.1 hc.1.1.1.2 hc.2)) λi c hi=>hb (i+1) c hi
  | false=>
   rw[hc]at h;exact DC h λi c hi=>hb (i+1) c hi
def vt:List j8->List j8
 | []=>[]
 | b::r=>{b with sh:=b.esc}::vt r
theorem pW:∀l i,cZ (vt l) i=(cZ l i).map λb=>{b with sh:=b.esc}
 | [],_=>rfl
 | b::r,0=>rfl
 | b::r,i+1=>pW r i
def Ae(bs:List j8):List Nat->Bool
 | []=>true
 | i::r=>(match cZ bs i with
  | some b=>b.ok
  | none=>false)&&Ae bs r
theorem tz{bs}:∀{l:List Nat},Ae bs l=true->∀i∈l,∃b,cZ bs i=some b/\b.ok=true
 | i::r,h,j,hj=>by
  simp[Ae,aU]at h;rcases aR.1 hj with rfl | hj
  ·split at h
   ·rename_i b hb;exact⟨b,hb,h.1⟩
   cases h.1
  exact tz h.2 j hj
def Nn:List j8->List j8->List (Nat×Bool)
 | b::r,b'::r'=>bif b.ok&&b.blk.isNone then(b'.blk.getD 0,b.esc)::Nn r r' else Nn r r'
 | _,_=>[]
def Qf(k:Nat):List (Nat×Bool)->Prop->Prop
 | [],p=>p
 | x::r,p=>bif x.2 then Qf k r p else(x.1≠k->Qf k r p)
def Qg(all:List (Nat×Bool)):List (Nat×Bool)->Prop->Prop
 | [],p=>p
 | x::r,p=>bif x.2 then Qf x.1 all (Qg all r p)else Qg all r p
theorem DD{k}:∀{l:List _} {p:Prop},Qf k l p->(∀y,y∈l->y.2=false->y.1≠k)->p
 | [],_,h,_=>h
 | x::r,p,h,hd=>by
  unfold Qf at h;cases hx:x.2 with
  | true=>rw[hx]at h;exact DD h λy hy=>hd y (dd _ hy)
  | false=>rw[hx]at h;exact DD (h (hd x eh hx)) λy hy=>hd y (dd _ hy)
theorem DE{all}:∀{l:List _} {p:Prop},Qg all l p->(∀x,x∈l->x.2=true->∀y,y∈all->y.2=false->y.1≠x.1)->p
 | [],_,h,_=>h
 | x::r,p,h,hd=>by
  unfold Qg at h;cases hx:x.2 with
  | true=>rw[hx]at h;exact DE (DD h λy hy hf=>hd x eh hx y hy hf) λz hz=>hd z (dd _ hz)
  | false=>rw[hx]at h;exact DE h λz hz=>hd z (dd _ hz)
theorem vu{β}:∀{bs:List j8} n {x:Nat×Bool},x∈Nn bs (mH β n bs)->∃i b,cZ bs i=some b/\b.ok=true/\x=(β (n+i),b.esc)
 | [],_,_,h=>aaH
 | b::r,n,x,h=>by
  simp[mH,Nn]at h;cases hc:(b.ok&&b.blk.isNone)with
  | true=>
   rw[hc]at h;simp at hc;rcases aR.1 h with rfl | h
   ·refine⟨0,b,rfl,hc.1,?_⟩;have:(sA (β n) b).blk.getD 0=β n:=by unfold sA;rw[hc.1,hc.2];rfl
    rw[this];rfl
   obtain⟨i,c,h1,h2,h3⟩:=vu _ h;exact⟨i+1,c,h1,h2,by rw[h3,show n+1+i=n+(i+1) by omega]⟩
  | false=>
   rw[hc]at h;obtain⟨i,c,h1,h2,h3⟩:=vu _ h;exact⟨i+1,c,h1,h2,by rw[h3,show n+1+i=n+(i+1) by omega]⟩
def Af:List j8->List Nat
 | []=>[]
 | b::r=>bif b.ok&&b.blk.isSome&&b.esc&&!b.sh then b.blk.getD 0::Af r else Af r
def Ag:List j8->List Nat
 | []=>[]
 | b::r=>bif b.ok&&b.blk.isSome&&!b.esc then b.blk.getD 0::Ag r else Ag r
def ZC(k:Nat):List Nat->Prop->Prop
 | [],p=>p
 | x::r,p=>x≠k->ZC k r p
def UT(Te:List Nat):List Nat->Prop->Prop
 | [],p=>p
 | k::r,p=>ZC k Te (UT Te r p)
theorem Kw{k}:∀{l:List Nat} {p:Prop},ZC k l p->(∀y,y∈l->y≠k)->p
 | [],_,h,_=>h
 | x::r,p,h,hd=>Kw (h (hd x eh)) λy hy=>hd y (dd _ hy)
theorem DF{Te}:∀{l:List Nat} {p:Prop},UT Te l p->(∀k,k∈l->∀y,y∈Te->y≠k)->p
 | [],_,h,_=>h
 | k::r,p,h,hd=>DF (Kw h λy hy=>hd k eh y hy) λz hz=>hd z (dd _ hz)
theorem wS:∀{bs:List j8} {x:Nat},x∈Af bs->∃i b,cZ bs i=some b/\b.ok=true/\b.esc=true/\b.blk=some x
 | [],_,h=>aaH
 | b::r,x,h=>by
  simp[Af]at h;cases hc:(b.ok&&b.blk.isSome&&b.esc&&!b.sh)with
  | true=>
   rw[hc]at h;simp at hc;rcases aR.1 h with rfl | h
   ·obtain⟨k,hk⟩:=dW.1 hc.1.1.2;exact⟨0,b,rfl,hc.1.1.1,hc.1.2,by rw[hk];rfl⟩
   obtain⟨i,c,h1,h2⟩:=wS h;exact⟨i+1,c,h1,h2⟩
  | false=>
   rw[hc]at h;obtain⟨i,c,h1,h2⟩:=wS h;exact⟨i+1,c,h1,h2⟩
theorem wT:∀{bs:List j8} {x:Nat},x∈Ag bs->∃i b,cZ bs i=some b/\b.ok=true/\b.esc=false/\b.blk=some x
 | [],_,h=>aaH
 | b::r,x,h=>by
  simp[Ag]at h;cases hc:(b.ok&&b.blk.isSome&&!b.esc)with
  | true=>
   rw[hc]at h;simp at hc;rcases aR.1 h with rfl | h
   ·obtain⟨k,hk⟩:=dW.1 hc.1.2;exact⟨0,b,rfl,hc.1.1,hc.2,by rw[hk];rfl⟩
   obtain⟨i,c,h1,h2⟩:=wT h;exact⟨i+1,c,h1,h2⟩
  | false=>
   rw[hc]at h;obtain⟨i,c,h1,h2⟩:=wT h;exact⟨i+1,c,h1,h2⟩
theorem F2{β}{st}{a}{w}(hR:Rep β st a w):∀k,k∈Af st.bx->∀y,y∈Ag st.bx->y≠k:=λk hk y hy=>by
 obtain⟨i,b,i1,i2,i3,i4⟩:=wS hk;obtain⟨j,c,j1,j2,j3,j4⟩:=wT hy;rw[<-(hR.bx i b i1 i2).at_ k i4,<-(hR.bx j c j1 j2).at_ y j4];refine hR.ne j i c b j1 i1 j2 i2 λe=>?_;subst e;rw[i1]at j1;injection j1 with j1;subst j1;rw[i3]at j3;cases j3
def eV(st:St)(K:St->Prop):Prop:=
 bif st.mv then
  bif Ae st.bx st.dt then
   F0 st.bx λbx=>∀w,F1 st.w0 w st.bx bx (Only (st.dt.map (H2 bx)) st.w0 w->
    shB (FZ bx) (H2 bx) w true bx (Qg (Nn st.bx bx) (Nn st.bx bx) (UT (Ag st.bx) (Af st.bx) (K {st with bx:=vt bx,w0:=w,mv:=false,dt:=[]}))))
  else False
 else shB st.Jv st.bl st.w0 false st.bx (UT (Ag st.bx) (Af st.bx) (K {st with bx:=vt st.bx}))
theorem dX{st}{K}(h:eV st K){β}{a}{w}(hR:Rep β st a w):∃cN,K cN/\Ext st cN/\Rep β cN a w/\cN.mv=false/\cN.fr=st.fr/\cN.n=st.n/\cN.ct=st.ct/\cN.bx.length=st.bx.length:=by
 rcases mG h with⟨hm,h⟩ | ⟨hm,h⟩
 case inr=>
  have hk:=DC h λi b hb ho hs hc=>by
   have:=(hR.bx i b hb ho).blk;cases hk:b.blk with
   | none=>rw[hk]at hs;cases hs
   | some k=>
    have e:=(hR.bx i b hb ho).at_ k hk;rw[hR.th hc,<-hR.still hm];rw[e]at this;exact this
  have hk:=DF hk (F2 hR);have key:∀i b',cZ (vt st.bx) i=some b'->∃b,cZ st.bx i=some b/\b'={b with sh:=b.esc}:=λi b' hb=>by
   rw[pW]at hb;cases hn:cZ st.bx i with
   | none=>rw[hn]at hb;cases hb
   | some b=>rw[hn]at hb;exact⟨b,rfl,by simpa using hb.symm⟩
  refine⟨_,hk,⟨rfl,ba _,λ_ _ _ h _=>h,λi b' hb ho _=>?_,λi b hb=>?_,Fs⟩,⟨hR.fr,λi b' hb ho=>?_,λi j bi bj h1 h2 h3 h4 rO=>?_,hR.only,hR.still⟩,hm,rfl,rfl,rfl,?_⟩
  ·obtain⟨b,h1,rfl⟩:=key i b' hb;exact⟨b,h1,ho,rfl,rfl,rfl,λ_ h=>h⟩
  ·exact⟨{b with sh:=b.esc},by rw[pW,hb];rfl,rfl,rfl,λ_ h=>h⟩
  ·obtain⟨b,h1,rfl⟩:=key i b' hb;have:=hR.bx i b h1 ho;exact⟨this.blk,this.at_,this.new⟩
  ·obtain⟨b,g1,rfl⟩:=key i bi h1;obtain⟨c,g2,rfl⟩:=key j bj h2;exact hR.ne i j b c g1 g2 h3 h4 rO
  have:∀l:List j8,(vt l).length=l.length:=λl=>by
   induction l with
   | nil=>rfl
   | cons b r ih=>simp[vt,ih]
  exact this _
 case inl=>
  obtain⟨iW,h⟩:=dD h;have h:=Aa β 0 h w;have xG:∀i,cZ _ i=(cZ st.bx i).map (sA (β i)):=λi=>by rw[Ab,bM]
  have C8:∀i b,cZ st.bx i=some b->b.ok=true->∃b',cZ _ i=some b'/\b'.ok=true/\b'.blk=some _/\b'.cells=b.cells/\b'.ty=b.ty/\b'.stp=b.stp:=λi b hb ho=>by
   refine⟨sA _ b,by rw[xG,hb];rfl,?_⟩;unfold sA;split
   ·exact⟨ho,rfl,rfl,rfl,rfl⟩
   rename_i fX;refine⟨ho,?_,rfl,rfl,rfl⟩;cases hk:b.blk with
   | none=>exact absurd hk (λe=>fX ho e)
   | some k=>rw[(hR.bx i b hb ho).at_ k hk]
  have Tf:∀i b',cZ (mH β 0 st.bx) i=some b'->b'.ok=true->∃b,cZ st.bx i=some b/\b.ok=true/\b'.blk=some _/\b'.cells=b.cells/\b'.ty=b.ty/\b'.stp=b.stp:=λi b' hb ho=>by
   rw[xG]at hb;cases hn:cZ st.bx i with
   | none=>rw[hn]at hb;cases hb
   | some b=>
    rw[hn]at hb;simp at hb;subst hb;have hob:=by
     unfold sA at ho;split at ho
     ·assumption
     exact ho
    obtain⟨b2,e1,e2,e3,e4,e5,e6⟩:=C8 i b hn hob;rw[xG,hn]at e1;simp at e1;subst e1;exact⟨b,rfl,hob,e3,e4,e5,e6⟩
  have h:=Ad 0 h λi b hb ho hk=>by
   rw[bM];exact⟨(hR.bx i b hb ho).new hk,(hR.bx i b hb ho).blk.lt⟩
  have edt:st.dt.map (H2 (mH β 0 st.bx))=st.dt.map β:=by
   refine rU λi hi=>?_;obtain⟨b,h1,h2⟩:=tz iW i hi;obtain⟨b',e1,e2,e3,_⟩:=C8 i b h1 h2;unfold H2;rw[e1];simp[e3]
  have h:=h (by rw[edt];exact hR.only);have pJ:∀i,FZ (mH β 0 st.bx) i=true->H2 (mH β 0 st.bx) i=β i:=λi hg=>by
   unfold FZ at hg;unfold H2;cases hn:cZ (mH β 0 st.bx) i with
   | none=>rw[hn]at hg;cases hg
   | some b'=>
    rw[hn]at hg;simp at hg;obtain⟨b,_,_,e3,_⟩:=Tf i b' hn hg.1;simp[e3]
  have hk:=DC h λi b' hb ho hs hc=>by
   obtain⟨b,e1,e2,e3,e4,e5,e6⟩:=Tf i b' hb ho;rw[gP pJ _ hc,e3,e4,e5];exact(hR.bx i b e1 e2).blk
  have hk:=DE hk λx hx Ow y hy hye=>by
   obtain⟨i,b,i1,i2,rfl⟩:=vu 0 hx;obtain⟨j,c,j1,j2,rfl⟩:=vu 0 hy;rw[bM,bM];refine hR.ne j i c b j1 i1 j2 i2 λe=>?_;subst e;rw[i1]at j1;injection j1 with j1;subst j1;rw[Ow]at hye;cases hye
  have hk:=DF hk (F2 hR);have key:∀i b',cZ _ i=some b'->b'.ok=true->∃b,cZ st.bx i=some b/\b.ok=true/\b'.blk=some _/\b'.cells=b.cells/\b'.ty=b.ty/\b'.stp=b.stp:=λi b' hb ho=>by
   rw[pW]at hb;cases hn:cZ (mH β 0 st.bx) i with
   | none=>rw[hn]at hb;cases hb
   | some c=>
    rw[hn]at hb;simp at hb;subst hb;exact Tf i c hn ho
  refine⟨_,hk,⟨rfl,ba _,λ_ _ _ h _=>h,λi b' hb ho _=>?_,λi b hb=>?_,Fs⟩,⟨hR.fr,λi b' hb ho=>?_,λi j bi bj h1 h2 h3 h4 rO=>?_,Only.refl _ _,λ_=>rfl⟩,rfl,rfl,rfl,rfl,?_⟩
  ·obtain⟨b,e1,e2,e3,e4,e5,e6⟩:=key i b' hb ho;exact⟨b,e1,e2,e4.symm,e5.symm,e6.symm,λk hk=>by rw[e3,(hR.bx i b e1 e2).at_ k hk]⟩
  ·refine⟨{sA _ b with sh:=(sA _ b).esc},by rw[pW,xG,hb];rfl,?_⟩;unfold sA;split
   ·rename_i e1 e2;exact⟨rfl,rfl,λk hk=>by rw[e2]at hk;cases hk⟩
   exact⟨rfl,rfl,λ_ h=>h⟩
  ·obtain⟨b,e1,e2,e3,e4,e5,e6⟩:=key i b' hb ho;refine⟨by rw[e4,e5];exact(hR.bx i b e1 e2).blk,λk hk=>by rw[e3]at hk;simpa using hk,λhk=>by rw[e3]at hk;cases hk⟩
  ·obtain⟨b,e1,e2,_⟩:=key i bi h1 h3;obtain⟨c,f1,f2,_⟩:=key j bj h2 h4;exact hR.ne i j b c e1 f1 e2 f2 rO
  have l1:∀l:List j8,(vt l).length=l.length:=λl=>by
   induction l with
   | nil=>rfl
   | cons b r ih=>simp[vt,ih]
  have l2:∀(l:List j8) n,(mH β n l).length=l.length:=λl=>by
   induction l with
   | nil=>intro n;rfl
   | cons b r ih=>intro n;simp[mH,ih]
  exact(l1 _).trans (l2 _ _)
def noB(n:Nat)(s:SV):Bool:=cln (λj=>!Nat.beq j n) s
def UU(n:Nat)(l:List SV):Bool:=ia (λj=>!Nat.beq j n) l
def Np(n:Nat):List (Nat×Nat×SV)->Bool
 | []=>true
 | p::r=>noB n p.2.2&&Np n r
def IE(n:Nat):List j8->Bool
 | []=>true
 | b::r=>(!b.ok||UU n b.cells)&&IE n r
theorem DG{n}:∀{l:List _},Np n l=true->∀i p,dQ l i=some p->noB n p.2=true
 | [],_,i,p,h=>aaH
 | (k,q)::r,h,i,p,hl=>by
  simp[Np,aU]at h;simp[dQ]at hl;cases hb:Nat.beq k i with
  | true=>rw[hb]at hl;simp at hl;subst hl;exact h.1
  | false=>rw[hb]at hl;exact DG h.2 i p adH
theorem DH{n}:∀{l:List j8},IE n l=true->∀i b,cZ l i=some b->b.ok=true->UU n b.cells=true
 | c::r,h,0,b,hb,ho=>by
  simp[IE,aU,bU,dj]at h;simp[cZ,bc]at hb;subst hb;rcases h.1 with h1 | h1
  ·rw[ho]at h1;cases h1
  exact h1
 | c::r,h,i+1,b,hb,ho=>by
  simp[IE,aU]at h;exact DH h.2 i b hb ho
def BB(β:Nat->Nat)(n b:Nat):Nat->Nat:=λi=>if i=n then b else β i
theorem Ah{β}{n b:Nat}:∀i,(!Nat.beq i n)=true->β i=BB β n b i:=λi h=>by
 unfold BB;rw[aX];rintro rfl;simp at h
section
variable {β:Nat->Nat} {st:St} {a:Act} {w w1:ay}
def St.EW(st:St)(d:Option Tmp)(t:TypeId)(zs:List SV):St:=
 St.put {st with bx:=st.bx++[⟨none,t,zs,st.ct,true,false,false⟩],mv:=true,ct:=st.ct+1} d (.box st.bx.length 0)
theorem Ext.EW st d t zs:Ext st (st.EW d t zs):=by
 refine Ext.trans (t:={st with bx:=st.bx++[_],mv:=true,ct:=st.ct+1}) ⟨rfl,iC _,λ_ _ _ h _=>h,λi b' hb ho hs=>?_,λi b hb=>?_,Fs⟩ (Ext.put _ _ _)
 ·rw[kc]at hb;split at hb
  ·simp at hb;subst hb;dsimp only at hs;omega
  exact⟨b',hb,ho,rfl,rfl,rfl,λ_ h=>h⟩
 exact⟨b,by dsimp only;rw[kc,aX (by have:=qV hb;omega)];exact hb,rfl,rfl,λ_ h=>h⟩
theorem Rep.EW(hR:Rep β st a w){d}{t}{zs}{b:Nat}(h1:Np st.bx.length st.fr=true)(h2:IE st.bx.length st.bx=true)(h3:UU st.bx.length zs=true)
  (hb:w.heap.size<=b) (hO:Only [] w w1) (hB:Blk w1 b t (cz β zs)) (hdt:Ae st.bx st.dt=true):
  Rep (BB β st.bx.length b) (st.EW d t zs) (a.put d (.pointer (some ⟨b,0,none⟩))) w1:=by
 have uv:BB β st.bx.length b st.bx.length=b:=by unfold BB;rw[aZ rfl]
 have cd:∀{i c},cZ st.bx i=some c->BB β st.bx.length b i=β i:=fun{i c} h=>by
  unfold BB;rw[aX];have:=qV h;omega
 have base:Rep (BB β st.bx.length b) {st with bx:=st.bx++[⟨none,t,zs,st.ct,true,false,false⟩],mv:=true,ct:=st.ct+1} a w1:=by
  refine⟨qT ⟨hR.ok.sz,hR.ok.df,λi p hl hi=>?_⟩,λi c hc ho=>?_,λi j bi bj g1 g2 g3 g4 rO=>?_,?_,λh=>aaH⟩
  ·rw[hR.ok.at_ i p hl hi];congr 1;exact iE (g:=λj=>!Nat.beq j st.bx.length) Ah _ (DG h1 i p hl)
  ·rw[kc]at hc;split at hc
   ·rename_i he;simp at hc;subst hc;subst he;refine⟨?_,λk hk=>adS,λ_=>?_⟩
    ·rw[uv];rw[<-gP (g:=λj=>!Nat.beq j st.bx.length) (β:=β) (β':=BB β st.bx.length b) Ah _ h3];exact hB
    rw[uv];exact bf hR.only.size hb
   have e:=cd hc;obtain⟨k1,k2,k3⟩:=hR.bx i c hc ho;refine⟨?_,λk hk=>by rw[e];exact k2 k hk,λhk=>by rw[e];exact k3 hk⟩;rw[e,<-gP (g:=λj=>!Nat.beq j st.bx.length) (β:=β) (β':=BB β st.bx.length b) Ah _ (DH h2 i c hc ho)];exact hO.blk k1 aaa
  ·rw[kc]at g1 g2;split at g1
   ·rename_i e1;split at g2
    ·omega
    subst e1;rw[uv,cd g2];have:=(hR.bx j bj g2 g4).blk.lt;omega
   split at g2
   ·rename_i e2;subst e2;rw[uv,cd g1];have:=(hR.bx i bi g1 g3).blk.lt;omega
   rw[cd g1,cd g2];exact hR.ne i j bi bj g1 g2 g3 g4 rO
  have e:=rU λi hi=>by
   obtain⟨c,hc,_⟩:=tz hdt i hi;exact cd hc
  rw[e];exact hR.only.cy hO
 have:=base.put d (.box st.bx.length 0);rw[show val (BB β st.bx.length b) _=.pointer _ by
  show Value.pointer _=_;rw[uv]]at this
 exact this
def St.tj(st:St)(i:Nat)(b:j8)(cs:List SV):St:=
 {st with bx:=Nk st.bx i {b with cells:=cs,stp:=st.ct,sh:=false},mv:=true,dt:=(bif b.blk.isSome&&!st.dt.elem i then i::st.dt else st.dt),ct:=st.ct+1}
theorem Ext.tj{st}{i}{b}{cs}(h:cZ st.bx i=some b):Ext st (st.tj i b cs):=by
 refine⟨rfl,iC _,λ_ _ _ h _=>h,λj b' hb ho hs=>?_,λj c hc=>?_,Fs⟩
 ·simp[St.tj]at hb;rw[ja h]at hb;split at hb
  ·simp at hb;subst hb;dsimp only at hs;omega
  exact⟨b',hb,ho,rfl,rfl,rfl,λ_ h=>h⟩
 simp[St.tj];rw[ja h];split
 ·rename_i e;subst e;rw[h]at hc;simp at hc;subst hc;exact⟨_,rfl,rfl,rfl,λ_ h=>h⟩
 exact⟨c,hc,rfl,rfl,λ_ h=>h⟩
theorem Rep.tj(hR:Rep β st a w){i}{b}{cs}(h:cZ st.bx i=some b)(ho:b.ok=true)(hO:Only [β i] w w1)(hB:Blk w1 (β i) b.ty (cz β cs)):Rep β (st.tj i b cs) a w1:=by
 have hk:=hR.bx i b h ho;refine⟨hR.fr,λj c hc mP=>?_,λj l bj bl g1 g2 g3 g4 rO=>?_,?_,λh=>aaH⟩
 ·simp[St.tj]at hc;rw[ja h]at hc;split at hc
  ·rename_i e;subst e;simp at hc;subst hc;exact⟨hB,hk.at_,hk.new⟩
  rename_i fX;obtain⟨k1,k2,k3⟩:=hR.bx j c hc mP;exact⟨hO.blk k1 (by simpa using hR.ne j i c b hc h mP ho fX),k2,k3⟩
 ·simp[St.tj]at g1 g2;rw[ja h]at g1 g2;have key:∀{j c},(if j=i then some {b with cells:=cs,stp:=st.ct,sh:=false}else cZ st.bx j)=some c->c.ok=true->∃c',cZ st.bx j=some c'/\c'.ok=true:=fun{j c} g hc=>by
   split at g
   ·rename_i e;subst e;exact⟨b,h,ho⟩
   exact⟨c,g,hc⟩
  obtain⟨c1,e1,e2⟩:=key g1 g3;obtain⟨c2,f1,f2⟩:=key g2 g4;exact hR.ne j l c1 c2 e1 f1 e2 f2 rO
 show Only ((bif b.blk.isSome&&!st.dt.elem i then i::st.dt else st.dt).map β) st.w0 w1;cases hb:(b.blk.isSome&&!st.dt.elem i)with
 | true=>exact hR.only.cons hO
 | false=>
  simp only[Bool.and_eq_false_iff,HY]at hb;rcases hb with hb | hb
  ·refine hR.only.new hO (hk.new ?_);cases hn:b.blk with
   | none=>rfl
   | some k=>rw[hn]at hb;cases hb
  refine hR.only.mem hO (cP.2 ⟨i,?_,rfl⟩);simpa using hb
structure Flg (l l':List j8):Prop where
 fw:∀i b,cZ l' i=some b->∃c,cZ l i=some c/\c.blk=b.blk/\c.ty=b.ty/\c.cells=b.cells/\c.stp=b.stp/\c.ok=b.ok
 bw:∀i b,cZ l i=some b->∃c,cZ l' i=some c/\c.ty=b.ty/\c.ok=b.ok/\∀k,b.blk=some k->c.blk=some k
theorem Flg.refl l:Flg l l:=⟨λi b h=>⟨b,h,rfl,rfl,rfl,rfl,rfl⟩,P8⟩
theorem Flg.trans{l m n}(h:Flg l m)(k:Flg m n):Flg l n:=⟨λi b hb=>by
 obtain⟨c,c1,c2,c3,c4,c5,c6⟩:=k.fw i b hb;obtain⟨d,d1,d2,d3,d4,d5,d6⟩:=h.fw i c c1;exact⟨d,d1,d2.trans c2,d3.trans c3,d4.trans c4,d5.trans c5,d6.trans c6⟩,λi b hb=>by
 obtain⟨c,c1,c2,c3,c4⟩:=h.bw i b hb;obtain⟨d,d1,d2,d3,d4⟩:=k.bw i c c1;exact⟨d,d1,d2.trans c2,d3.trans c3,λm hm=>d4 m (c4 m hm)⟩⟩
theorem Ext.flg{l'}(h:Flg st.bx l'):Ext st {st with bx:=l'}:=⟨rfl,ba _,λ_ _ _ h _=>h,λi b' hb ho _=>by
 obtain⟨c,c1,c2,c3,c4,c5,c6⟩:=h.fw i b' hb;exact⟨c,c1,c6.trans ho,c4,c3,c5,λk hk=>by rw[<-c2];exact hk⟩,h.bw,Fs⟩
theorem Rep.flg{l'}(hR:Rep β st a w)(h:Flg st.bx l'):Rep β {st with bx:=l'} a w:=by
 refine⟨hR.fr,λi b hb ho=>?_,λi j bi bj g1 g2 g3 g4 rO=>?_,hR.only,hR.still⟩
 ·obtain⟨c,c1,c2,c3,c4,c5,c6⟩:=h.fw i b hb;obtain⟨k1,k2,k3⟩:=hR.bx i c c1 (c6.trans ho);exact⟨by rw[<-c3,<-c4];exact k1,λk hk=>k2 k (c2.trans hk),λhk=>k3 (c2.trans hk)⟩
 obtain⟨c,c1,_,_,_,_,c6⟩:=h.fw i bi g1;obtain⟨d,d1,_,_,_,_,d6⟩:=h.fw j bj g2;exact hR.ne i j c d c1 d1 (c6.trans g3) (d6.trans g4) rO
def Xr:SV->List Nat
 | .box i _=>[i]
 | .fn _ fs cs=>Xr fs++Xr cs
 | .agg l=>Xr l
 | .tup l=>Xr l
 | .c h t=>Xr h++Xr t
 | _=>[]
def Nq:Nat->List Nat->List j8->List j8
 | 0,_,bx=>bx
 | _+1,[],bx=>bx
 | f+1,i::r,bx=>match cZ bx i with
  | some b=>bif b.esc then Nq f r bx else Nq f (flat Xr b.cells++r) (Nk bx i {b with esc:=true,sh:=false})
  | none=>Nq f r bx
theorem sB:∀f l bx,Flg bx (Nq f l bx)
 | 0,_,bx=>Flg.refl _
 | _+1,[],bx=>Flg.refl _
 | f+1,i::r,bx=>by
  unfold Nq;split
  ·rename_i b hb;cases he:b.esc with
   | true=>exact sB f r bx
   | false=>
    refine Flg.trans ⟨λj c hc=>?_,λj c hc=>?_⟩ (sB f _ _);rotate_left
    ·rw[ja hb];split
     ·rename_i e;subst e;rw[hb]at hc;simp at hc;subst hc;exact⟨_,rfl,rfl,rfl,λ_ h=>h⟩
     exact⟨c,hc,rfl,rfl,λ_ h=>h⟩
    rw[ja hb]at hc;split at hc
    ·rename_i e;subst e;simp at hc;subst hc;exact⟨b,hb,rfl,rfl,rfl,rfl,rfl⟩
    exact⟨c,hc,rfl,rfl,rfl,rfl,rfl⟩
  exact sB f r bx
def St.esc(st:St)(l:List SV):St:={st with bx:=Nq 1000 (flat Xr l) st.bx}
theorem Ext.esc st l:Ext st (st.esc l):=Ext.flg (sB _ _ _)
theorem Rep.esc(hR:Rep β st a w) l:Rep β (st.esc l) a w:=hR.flg (sB _ _ _)
end
def zc(P:Program)(t:TypeId):Option (List SV):=match P.info? t with
 | some i=>(match i.zero with
  | some z=>Iy z.cells.toList
  | none=>none)
 | none=>none
theorem Xs{P}{t}{zs}(h:zc P t=some zs) w:∃z,(zeroValue t).run P w=.ok z w/\∀β,z.cells=(cz β zs).toArray:=by
 unfold zc at h;split at h
 ·rename_i i hi;split at h
  ·rename_i z hz;exact⟨z,by simp[zeroValue,typeInfo,hi,hz],λβ=>by rw[yX β h]⟩
  cases h
 cases h
def chk(st:St)(zs:List SV):Bool:=Np st.bx.length st.fr&&IE st.bx.length st.bx&&UU st.bx.length zs&&Ae st.bx st.dt
def pX:List j8->Bool
 | []=>true
 | b::r=>(!b.ok||b.blk.isSome)&&pX r
theorem vv:∀{l:List j8},pX l=true->∀i b,cZ l i=some b->b.ok=true->b.blk.isSome=true
 | c::r,h,0,b,hb,ho=>by
  simp[pX,aU,bU,dj]at h;simp[cZ,bc]at hb;subst hb;rcases h.1 with h1 | h1
  ·rw[ho]at h1;cases h1
  exact h1
 | c::r,h,i+1,b,hb,ho=>by
  simp[pX,aU]at h;exact vv h.2 i b hb ho
def neB(bk:Nat):List j8->Prop->Prop
 | [],p=>p
 | b::r,p=>bif b.ok then b.blk.getD 0≠bk/\neB bk r p else neB bk r p
theorem IG{bk}:∀{l:List j8} {p:Prop},neB bk l p->p/\∀i b,cZ l i=some b->b.ok=true->b.blk.getD 0≠bk
 | [],p,h=>⟨h,λi b hb=>adI⟩
 | c::r,p,h=>by
  rcases mG h with⟨hc,h⟩ | ⟨hc,h⟩
  ·obtain⟨h1,h2⟩:=h;obtain⟨h3,h4⟩:=IG h2;refine⟨h3,λi b hb ho=>?_⟩;cases i with
   | zero=>simp[cZ,bc]at hb;subst hb;exact h1
   | succ i=>exact h4 i b hb ho
  obtain⟨h3,h4⟩:=IG h;refine⟨h3,λi b hb ho=>?_⟩;cases i with
  | zero=>simp[cZ,bc]at hb;subst hb;rw[hc]at ho;cases ho
  | succ i=>exact h4 i b hb ho
def uj(esc:Bool):List j8->List Nat
 | []=>[]
 | b::r=>bif b.ok&&(esc||!b.esc)then b.blk.getD 0::uj esc r else uj esc r
theorem nV{esc}:∀{l:List j8} {i:Nat} {b:j8},cZ l i=some b->b.ok=true->(esc||!b.esc)=true->b.blk.getD 0∈uj esc l
 | c::r,0,b,h,ho,he=>by
  simp[cZ,bc]at h;subst h;simp[uj,ho,he]
 | c::r,i+1,b,h,ho,he=>by
  have:=nV (l:=r) (i:=i) h ho he;simp[uj];cases(c.ok&&_)with
  | true=>simp[this]
  | false=>exact this
def Ai(l:List Nat)(w0 w1:ay)(p:Prop):Prop:=match l with
 | []=>p
 | _=>cj l w0 w1/\p
theorem sC{l}{w0 w1}{p}(h:Ai l w0 w1 p):p/\cj l w0 w1:=by
 unfold Ai at h;split at h
 ·exact⟨h,PX⟩
 exact⟨h.2,h.1⟩
def Qh(P:Program)(w1:ay)(ct:Nat):List j8->(List j8->Prop)->Prop
 | [],K=>K []
 | b::r,K=>bif b.ok&&b.esc then UJ (P9 P 12 b.ty) λvs=>Blk w1 (b.blk.getD 0) b.ty (cz β0 vs)/\Qh P w1 ct r λr'=>K ({b with cells:=vs,stp:=ct,sh:=true}::r')
  else Qh P w1 ct r λr'=>K (b::r')
theorem yY{P}{w1}{ct}:∀{l:List j8} {K:List j8->Prop},Qh P w1 ct l K->∃l',K l'/\(∀i b',cZ l' i=some b'->∃b,cZ l i=some b/\b'.ok=b.ok/\b'.blk=b.blk/\b'.ty=b.ty/\
  ((b'=b/\(b.ok&&b.esc)=false)∨(b'.stp=ct/\(∀β,cz β b'.cells=cz β0 b'.cells)/\Blk w1 (b.blk.getD 0) b.ty (cz β0 b'.cells))))/\
  ∀i b,cZ l i=some b->∃b',cZ l' i=some b'/\b'.ty=b.ty/\b'.ok=b.ok/\∀k,b.blk=some k->b'.blk=some k
 | [],K,h=>⟨[],h,λi b' hb=>adI,λi b hb=>adI⟩
 | c::r,K,h=>by
  rcases mG h with⟨hc,h⟩ | ⟨hc,h⟩
  ·obtain⟨vs,⟨hB,h⟩,_,pJ⟩:=sf h;obtain⟨l',h1,h2,h3⟩:=yY h;refine⟨_,h1,λi b' hb=>?_,λi b hb=>?_⟩;rotate_left
   ·cases i with
    | zero=>simp[cZ,bc]at hb;subst hb;exact⟨_,rfl,rfl,rfl,λ_ h=>h⟩
    | succ i=>exact h3 i b hb
   cases i with
   | zero=>
    simp[cZ,bc]at hb;subst hb;exact⟨c,rfl,rfl,rfl,rfl,.inr ⟨rfl,λβ=>gP (g:=λ_=>false) (λi h=>aaH) vs (pJ _),hB⟩⟩
   | succ i=>exact h2 i b' hb
  obtain⟨l',h1,h2,h3⟩:=yY h;refine⟨_,h1,λi b' hb=>?_,λi b hb=>?_⟩;rotate_left
  ·cases i with
   | zero=>simp[cZ,bc]at hb;subst hb;exact⟨_,rfl,rfl,rfl,λ_ h=>h⟩
   | succ i=>exact h3 i b hb
  cases i with
  | zero=>
   simp[cZ,bc]at hb;subst hb;exact⟨c,rfl,rfl,rfl,rfl,.inl ⟨rfl,hc⟩⟩
  | succ i=>exact h2 i b' hb
def exR(P:Program):List TypeId->(List SV->Prop)->Prop
 | [],K=>K []
 | t::r,K=>UJ (P9 P 12 t) λvs=>exR P r λrs=>K (Nl (match P.underlying t with | some d=>lQ d | none=>false) vs::rs)
theorem DI g:∀l,cln g (nq l)=ia g l
 | []=>rfl
 | s::r=>by simp[nq,cln,ia,DI g r]
theorem Kx g ag {l} (h:ia g l=true):cln g (Nl ag l)=true:=by
 cases ag with
 | true=>show cln g (nq l)=true;rw[DI];exact h
 | false=>
  cases l with
  | nil=>rfl
  | cons s r=>simp[ia,aU]at h;exact h.1
theorem DJ{P}:∀{ts:List TypeId} {K:List SV->Prop},exR P ts K->∃rs,K rs/\∀g,ia g rs=true
 | [],K,h=>⟨[],h,λ_=>rfl⟩
 | t::r,K,h=>by
  obtain⟨vs,h,_,h2⟩:=sf h;obtain⟨rs,h3,h4⟩:=DJ h;exact⟨_,h3,λg=>by simp[ia,Kx g _ (h2 g),h4 g,ni]⟩
def Aj(rs:List SV):SV:=match rs with
 | [r]=>r
 | rs=>.tup (nq rs)
theorem vw{g}{rs}(h:ia g rs=true):cln g (Aj rs)=true:=by
 unfold Aj;split
 ·simp only[ia,aU]at h;exact h.1
 show cln g (nq _)=true;rw[DI];exact h
def DK(P:Program)(t:TypeId):List TypeId:=match P.underlying t with
 | some (.tuple ts)=>ts.toList
 | _=>[t]
def Qi(P:Program)(f:FuncId):Bool:=match P.funcs[f]? with
 | some fn=>!(fn.name== "runtime.NumGoroutine")&&fn.body.isSome
 | none=>false
theorem fC{P}{f}(h:Qi P f=true) args w:(callFunc f args).run P w=.ok (.enter f args) w:=by
 unfold Qi at h;split at h
 ·rename_i fn hf;simp at h;have hb:fn.body≠none:=by
   intro hq;rw[hq]at h;cases h.2
  have hn:fn.name≠ "runtime.NumGoroutine" :=by
   intro hq;rw[hq]at h;simp at h
  simp[callFunc,hf,hn,hb]
 cases h
def aeo(P:Program)(f:FuncId):List TypeId:=match P.funcs[f]? with
 | some fn=>fn.resultTypes.toList
 | none=>[]
abbrev XT:=ay->ay->Prop->Prop
section
variable {P:Program} {β:Nat->Nat} {st:St} {a:Act} {w w1:ay}
theorem Rep.next(hR:Rep β st a w)(hm:st.mv=false)(hb:pX st.bx=true){bx'}{ct'}
  (h:∀i b',cZ bx' i=some b'->b'.ok=true->∃b,cZ st.bx i=some b/\b.ok=true/\b'.blk=b.blk/\Blk w1 (β i) b'.ty (cz β b'.cells)):Rep β {st with bx:=bx',w0:=w1,ct:=ct'} a w1:=by
 have key:∀i b,cZ st.bx i=some b->b.ok=true->b.blk=some (β i):=λi b h1 h2=>by
  have:=vv hb i b h1 h2;cases hk:b.blk with
  | none=>rw[hk]at this;cases this
  | some k=>rw[(hR.bx i b h1 h2).at_ k hk]
 refine⟨hR.fr,λi b' jC ho=>?_,λi j bi bj g1 g2 g3 g4 rO=>?_,Only.refl _ _,λ_=>rfl⟩
 ·obtain⟨b,h1,h2,h3,h4⟩:=h i b' jC ho;exact⟨h4,λk hk=>by rw[h3,key i b h1 h2]at hk;simpa using hk,λhk=>by rw[h3,key i b h1 h2]at hk;cases hk⟩
 obtain⟨b,h1,h2,_⟩:=h i bi g1 g3;obtain⟨c,k1,k2,_⟩:=h j bj g2 g4;exact hR.ne i j b c h1 k1 h2 k2 rO
theorem Rep.Oi(hR:Rep β st a w)(hb:pX st.bx=true){i}{b}(h1:cZ st.bx i=some b)(h2:b.ok=true):b.blk.getD 0=β i:=by
 have:=vv hb i b h1 h2;cases hk:b.blk with
 | none=>rw[hk]at this;cases this
 | some k=>rw[(hR.bx i b h1 h2).at_ k hk];rfl
def Qj(P:Program)(X:XT)(st:St)(d:Option Tmp)(E6:List TypeId)(f:FuncId)(args:List SV)(oz:List az)(K:St->Prop):Prop:=
 bif ia st.Jv args&&pX st.bx then
  Calls P f (cz st.bl args++oz).toArray st.w0 λe w1=>exR P E6 λrs=>e=.returned (val β0 (Aj rs))/\
   Ai (uj false st.bx) st.w0 w1 (Qh P w1 st.ct st.bx λbx=>X st.w0 w1 (K (St.put {st with bx:=bx,w0:=w1,ct:=st.ct+1} d (Aj rs))))
 else False
theorem Qk{X}{E:ay->ay->Prop}(hX:∀w0 w1 p,X w0 w1 p->p/\E w0 w1){d}{E6}{f}{args}{oz}{K}(h:Qj P X st d E6 f args oz K)(hm:st.mv=false)(hR:Rep β st a w):
  Calls P f (cz β args++oz).toArray w λe w'=>∃v,e=.returned v/\∃cN,K cN/\Ext st cN/\E w w'/\Rep β cN (a.put d v) w':=by
 obtain⟨h0,h⟩:=dD h;simp at h0;rw[hR.th h0.1,<-hR.still hm]at h;refine h.mono ?_;rintro e w1 h;obtain⟨rs,⟨rfl,h1⟩,pJ⟩:=DJ h;obtain⟨h2,hS⟩:=sC h1;obtain⟨bx',h3,hb,H6⟩:=yY h2;obtain⟨h,hE⟩:=hX _ _ _ h3;have ev:val β0 _=val β _:=iE (g:=λ_=>false) (λi h=>aaH) _ (vw (pJ _));refine⟨_,rfl,_,h,?_,hE,?_⟩
 ·refine Ext.trans (t:={st with bx:=bx',w0:=w1,ct:=st.ct+1}) ⟨rfl,iC _,λ_ _ _ h _=>h,λi b' jC ho hs=>?_,H6,Fs⟩ (Ext.put _ _ _);obtain⟨b,h1,h2,h3,h4,h5⟩:=hb i b' jC;rcases h5 with⟨rfl,_⟩ | _
  ·exact⟨b',h1,ho,rfl,rfl,rfl,λ_ h=>h⟩
  omega
 rw[ev];refine Rep.put (Rep.next hR hm h0.2 λi b' jC ho=>?_) _ _;obtain⟨b,h1,h2,h3,h4,h5⟩:=hb i b' jC;have Fy:b.ok=true:=by rw[<-h2];exact ho
 refine⟨b,h1,Fy,h3,?_⟩;have eD:=hR.Oi h0.2 h1 Fy;rcases h5 with⟨rfl,h6⟩ | ⟨_,h6,h7⟩
 ·have mZ:=nV (esc:=false) h1 Fy (by rw[Fy]at h6;simpa using h6);rw[eD]at mZ;exact(hS _ mZ).trans (hR.bx i b' h1 Fy).blk
 rw[h4,h6 β,<-eD];exact h7
def vA(a b:List az):List az:=a++b
def Ql(P:Program)(X:XT)(st:St)(d:Option Tmp)(E6:List TypeId)(f:FuncId)(fst:List az)(args:List SV)(oz:List az)(K:St->Prop):Prop:=
 bif ia st.Jv args&&pX st.bx then
  Calls P f (vA (vA fst (cz st.bl args)) oz).toArray st.w0 λe w1=>exR P E6 λrs=>e=.returned (val β0 (Aj rs))/\
   Ai (uj false st.bx) st.w0 w1 (Qh P w1 st.ct st.bx λbx=>X st.w0 w1 (K (St.put {st with bx:=bx,w0:=w1,ct:=st.ct+1} d (Aj rs))))
 else False
theorem Qm{X}{E:ay->ay->Prop}(hX:∀w0 w1 p,X w0 w1 p->p/\E w0 w1){d}{E6}{f}{fst}{args}{oz}{K}(h:Ql P X st d E6 f fst args oz K)(hm:st.mv=false)(hR:Rep β st a w):
  Calls P f (vA (vA fst (cz β args)) oz).toArray w λe w'=>∃v,e=.returned v/\∃cN,K cN/\Ext st cN/\E w w'/\Rep β cN (a.put d v) w':=by
 obtain⟨h0,h⟩:=dD h;simp at h0;rw[hR.th h0.1,<-hR.still hm]at h;refine h.mono ?_;rintro e w1 h;obtain⟨rs,⟨rfl,h1⟩,pJ⟩:=DJ h;obtain⟨h2,hS⟩:=sC h1;obtain⟨bx',h3,hb,H6⟩:=yY h2;obtain⟨h,hE⟩:=hX _ _ _ h3;have ev:val β0 _=val β _:=iE (g:=λ_=>false) (λi h=>aaH) _ (vw (pJ _));refine⟨_,rfl,_,h,?_,hE,?_⟩
 ·refine Ext.trans (t:={st with bx:=bx',w0:=w1,ct:=st.ct+1}) ⟨rfl,iC _,λ_ _ _ h _=>h,λi b' jC ho hs=>?_,H6,Fs⟩ (Ext.put _ _ _);obtain⟨b,h1,h2,h3,h4,h5⟩:=hb i b' jC;rcases h5 with⟨rfl,_⟩ | _
  ·exact⟨b',h1,ho,rfl,rfl,rfl,λ_ h=>h⟩
  omega
 rw[ev];refine Rep.put (Rep.next hR hm h0.2 λi b' jC ho=>?_) _ _;obtain⟨b,h1,h2,h3,h4,h5⟩:=hb i b' jC;have Fy:b.ok=true:=by rw[<-h2];exact ho
 refine⟨b,h1,Fy,h3,?_⟩;have eD:=hR.Oi h0.2 h1 Fy;rcases h5 with⟨rfl,h6⟩ | ⟨_,h6,h7⟩
 ·have mZ:=nV (esc:=false) h1 Fy (by rw[Fy]at h6;simpa using h6);rw[eD]at mZ;exact(hS _ mZ).trans (hR.bx i b' h1 Fy).blk
 rw[h4,h6 β,<-eD];exact h7
def rH(P:Program)(X:XT)(st:St)(d:Option Tmp)(E6:List TypeId)(args:List SV)(run:List az->Sem az)(K:St->Prop):Prop:=
 bif ia st.Jv args&&pX st.bx then
  exR P E6 λrs=>∃w1,(run (cz st.bl args)).run P st.w0=.ok (val β0 (Aj rs)) w1/\Ai (uj true st.bx) st.w0 w1 (X st.w0 w1 (K (St.put {st with w0:=w1} d (Aj rs))))
 else False
theorem Ky{X}{E:ay->ay->Prop}(hX:∀w0 w1 p,X w0 w1 p->p/\E w0 w1){d}{E6}{args}{run}{K}(h:rH P X st d E6 args run K)(hm:st.mv=false)(hR:Rep β st a w):
  ∃v w',(run (cz β args)).run P w=.ok v w'/\∃cN,K cN/\Ext st cN/\E w w'/\Rep β cN (a.put d v) w':=by
 obtain⟨h0,h⟩:=dD h;simp at h0;rw[hR.th h0.1,<-hR.still hm]at h;obtain⟨rs,⟨w1,hr,h⟩,pJ⟩:=DJ h;obtain⟨h,hS⟩:=sC h;obtain⟨h,hE⟩:=hX _ _ _ h;have ev:val β0 _=val β _:=iE (g:=λ_=>false) (λi h=>aaH) _ (vw (pJ _));refine⟨_,w1,hr,_,h,?_,hE,?_⟩
 ·refine Ext.trans (t:={st with w0:=w1}) ⟨rfl,ba _,λ_ _ _ h _=>h,λi b' jC ho hs=>⟨b',jC,ho,rfl,rfl,rfl,λ_ h=>h⟩,P8,Fs⟩ (Ext.put _ _ _)
 rw[ev];refine Rep.put (Rep.next (ct':=st.ct) hR hm h0.2 λi b' jC ho=>⟨b',jC,ho,rfl,?_⟩) _ _;have mZ:=nV (esc:=true) jC ho rfl;rw[hR.Oi h0.2 jC ho]at mZ;exact(hS _ mZ).trans (hR.bx i b' jC ho).blk
def Qn(P:Program)(X:XT)(st:St)(d:Option Tmp)(args:List SV)(run:List az->Sem az)(rs:SV)(K:St->Prop):Prop:=
 bif ia st.Jv args&&pX st.bx&&cln (λ_=>false) rs then
  ∃w1,(run (cz st.bl args)).run P st.w0=.ok (val β0 rs) w1/\Ai (uj true st.bx) st.w0 w1 (X st.w0 w1 (K (St.put {st with w0:=w1} d rs)))
 else False
theorem yZ{X}{E:ay->ay->Prop}(hX:∀w0 w1 p,X w0 w1 p->p/\E w0 w1){d}{args}{run}{rs}{K}(h:Qn P X st d args run rs K)(hm:st.mv=false)(hR:Rep β st a w):
  ∃v w',(run (cz β args)).run P w=.ok v w'/\∃cN,K cN/\Ext st cN/\E w w'/\Rep β cN (a.put d v) w':=by
 obtain⟨h0,h⟩:=dD h;simp at h0;rw[hR.th h0.1.1,<-hR.still hm]at h;obtain⟨w1,hr,h⟩:=h;obtain⟨h,hS⟩:=sC h;obtain⟨h,hE⟩:=hX _ _ _ h;have ev:val β0 rs=val β rs:=iE (g:=λ_=>false) (λi h=>aaH) _ h0.2;refine⟨_,w1,hr,_,h,?_,hE,?_⟩
 ·refine Ext.trans (t:={st with w0:=w1}) ⟨rfl,ba _,λ_ _ _ h _=>h,λi b' jC ho hs=>⟨b',jC,ho,rfl,rfl,rfl,λ_ h=>h⟩,P8,Fs⟩ (Ext.put _ _ _)
 rw[ev];refine Rep.put (Rep.next (ct':=st.ct) hR hm h0.1.2 λi b' jC ho=>⟨b',jC,ho,rfl,?_⟩) _ _;have mZ:=nV (esc:=true) jC ho rfl;rw[hR.Oi h0.1.2 jC ho]at mZ;exact(hS _ mZ).trans (hR.bx i b' jC ho).blk
def UW(P:Program)(X:XT)(st:St)(d:Option Tmp)(args:List SV)(run:List az->Sem Unit)(K:St->Prop):Prop:=
 bif ia st.Jv args&&pX st.bx then
  ∃w1,(run (cz st.bl args)).run P st.w0=.ok () w1/\Ai (uj true st.bx) st.w0 w1 (X st.w0 w1 (K (St.put {st with w0:=w1} d .un)))
 else False
theorem UX{X}{E:ay->ay->Prop}(hX:∀w0 w1 p,X w0 w1 p->p/\E w0 w1){d}{args}{run}{K}(h:UW P X st d args run K)(hm:st.mv=false)(hR:Rep β st a w):
  ∃w',(run (cz β args)).run P w=.ok () w'/\∃cN,K cN/\Ext st cN/\E w w'/\Rep β cN (a.put d undef) w':=by
 obtain⟨h0,h⟩:=dD h;simp at h0;rw[hR.th h0.1,<-hR.still hm]at h;obtain⟨w1,hr,h⟩:=h;obtain⟨h,hS⟩:=sC h;obtain⟨h,hE⟩:=hX _ _ _ h;refine⟨w1,hr,_,h,?_,hE,?_⟩
 ·refine Ext.trans (t:={st with w0:=w1}) ⟨rfl,ba _,λ_ _ _ h _=>h,λi b' jC ho hs=>⟨b',jC,ho,rfl,rfl,rfl,λ_ h=>h⟩,P8,Fs⟩ (Ext.put _ _ _)
 refine Rep.put (v:=.un) (Rep.next (ct':=st.ct) hR hm h0.2 λi b' jC ho=>⟨b',jC,ho,rfl,?_⟩) _;have mZ:=nV (esc:=true) jC ho rfl;rw[hR.Oi h0.2 jC ho]at mZ;exact(hS _ mZ).trans (hR.bx i b' jC ho).blk
end
def qW(l:List az)(i:Nat):az:=match l,i with
 | [],_=>undef
 | v::_,0=>v
 | _::r,i+1=>qW r i
def zp:List Nat->List az->List (Nat×az)
 | i::r,v::s=>(i,v)::zp r s
 | _,_=>[]
def UY:List (Nat×SV)->List Nat
 | []=>[]
 | p::r=>p.1::UY r
def Qo:List (Nat×SV)->List SV
 | []=>[]
 | p::r=>p.2::Qo r
theorem Xt β:∀l,zp (UY l) (cz β (Qo l))=Cg β l
 | []=>rfl
 | p::r=>by
  have:=Xt β r;simp[cz]at this;simp[UY,Qo,cz,zp,Cg,this]
def aep(P:Program)(t:TypeId):Bool:=match P.underlying t with
 | some (.pointer _)=>true
 | _=>false
def aeq:Operand->Bool
 | .const _=>true
 | _=>false
def ptS:SV->Bool
 | .ptr _=>true
 | .ad _=>true
 | _=>false
def jh(P:Program):Op->Bool
 | .move _=>true
 | .assign _=>true
 | .pick _ _ _=>true
 | .binOp _ t x y _=>!(aep P t)||aeq x||aeq y
 | .unOp _ _ _=>true
 | .extract _ _=>true
 | .build _ _=>true
 | .makeFunc _ _ _=>true
 | .makeInterface _ _=>true
 | .nilCheck _=>true
 | .fieldAddr _ _ _=>true
 | .field _ _ _=>true
 | .indexAddr _ _ _=>true
 | .load _ _=>true
 | .index _ _ _=>true
 | .slice _ _ _ _ _=>true
 | .convert s d _=>(match P.underlying s,P.underlying d with
  | some (.int _),some (.int _)=>true
  | some .string,some .string=>true
  | some (.slice e),some .string=>(match P.underlying e with
   | some (.int .u8)=>true
   | _=>false)
  | _,_=>false)
 | .call c=>(match c.callee with
  | .builtin .len=>(match c.argTypes.toList with
   | [t]=>(match P.underlying t with
    | some (.slice _)=>true
    | some .string=>true
    | _=>false)
   | _=>false)
  | .builtin .cap=>true
  | .builtin .min=>true
  | .builtin .max=>true
  | _=>false)
 | _=>false
def yA:Op->Bool
 | .store _ _ _=>true
 | _=>false
def aer(P:Program)(X:XT)(st:St)(o:Oper)(b:Builtin)(ts:Array TypeId)(vs:List SV)(K:St->Prop):Prop:=match b with
 | .append=>rH P X st o.dst (DK P o.type) vs (λl=>Builtin.append_ ts o.type l.toArray) K
 | .copy=>rH P X st o.dst (DK P o.type) vs (λl=>Builtin.copy_ ts o.type l.toArray) K
 | .delete=>rH P X st o.dst (DK P o.type) vs (λl=>Builtin.delete_ ts o.type l.toArray) K
 | .clear=>rH P X st o.dst (DK P o.type) vs (λl=>Builtin.clear_ ts o.type l.toArray) K
 | .len=>rH P X st o.dst (DK P o.type) vs (λl=>Builtin.len_ ts o.type l.toArray) K
 | .unsafeSliceData=>rH P X st o.dst (DK P o.type) vs (λl=>Builtin.unsafeSliceData_ ts o.type l.toArray) K
 | .unsafeString=>rH P X st o.dst (DK P o.type) vs (λl=>Builtin.unsafeString_ ts o.type l.toArray) K
 | _=>False
def Nr(f:FuncId)(args:Array az):Sem az:=do
 match <-callFunc f args with
 | .value v=>pure v
 | _=>stuck "extV"
theorem Qp{P}{f}{args}{w w1}{v}(h:(Nr f args).run P w=.ok v w1):(callFunc f args).run P w=.ok (.value v) w1:=by
 unfold Nr at h;rw[Sem.run_bind]at h;cases hc:(callFunc f args).run P w with
 | ok n w2=>
  rw[hc,Result.andThen_ok]at h;cases n<;>first | (simp at h;done) | (simp at h;obtain⟨rfl,rfl⟩:=h;rfl) | (simp at h)
 | _=>rw[hc]at h;simp at h
theorem ZD{P}{a:Act}{w w1}{v}{dst}{x}{f}{first captured}{xs:List Operand}{ats}{t'}{p}{af}{g}{args}
  (hx:a.eval x=.func (.func f) first.toArray captured.toArray)
  (ha:first++xs.map a.eval++captured=args) (hc:(callFunc f args.toArray).run P w=.ok (.value v) w1):
  (execOp a.eval ⟨dst,.call ⟨.value x,xs.toArray,ats⟩,t',p,af,g⟩).run P w=.ok (.value v) w1:=by
 subst ha;simp only[execOp,resolve,hx,Deferred.ofValue,invoke]
 grind
def ZE(P:Program)(X:XT)(st:St)(o:Oper)(fv:SV)(vs:List SV)(K:St->Prop):Prop:=match fv with
 | .fn g fs cs=>bif BJ fs&&BJ cs&&Qi P g then eV (st.esc (mF fs++vs++mF cs)) λst=>Qj P X st o.dst (aeo P g) g (mF fs++vs++mF cs) [] K
  else bif BJ fs&&BJ cs then eV (st.esc (mF fs++vs++mF cs)) λst=>rH P X st o.dst (aeo P g) (mF fs++vs++mF cs) (λl=>Nr g l.toArray) K else False
 | .raw v=>eV (st.esc vs) λst=>∃(g:FuncId) (fst cap:List az),v.v=.func (.func g) fst.toArray cap.toArray/\(∀args w,(callFunc g args).run P w=.ok (.enter g args) w)/\Ql P X st o.dst (DK P o.type) g fst vs cap K
 | _=>False
abbrev YT:=Option Nat->Prop->Prop
def aes(P:Program)(X:XT)(Y:YT)(st:St)(o:Oper)(p s:SV)(vs:List SV)(K:St->Prop):Prop:=match p with
 | .box i off=>ck (cZ st.bx i) λb=>bif b.ok&&Nat.ble (off+vs.length) b.cells.length then Y b.blk (K ((st.tj i b (spl b.cells off vs)).put o.dst .un))else False
 | .ad p=>eV (st.esc vs) λst=>∃(bk off:Nat) (cells:List az) (ety:TypeId),p=(⟨bk,off,none⟩)/\Blk st.w0 bk ety cells/\off+vs.length<=cells.length/\
  bif ia st.Jv vs&&pX st.bx then neB bk st.bx (∀w1,Only [bk] st.w0 w1->Blk w1 bk ety (cx cells off (cz st.bl vs))->X st.w0 w1 (K (St.put {st with w0:=w1} o.dst .un)))else False
 | _=>False
def aet(P:Program)(st:St)(o:Oper)(fv:SV)(vs:List SV)(K:St->Prop):Prop:=match fv with
 | .fn g fs cs=>bif BJ fs&&BJ cs&&Qi P g then eV (st.esc (mF fs++vs++mF cs)) λst=>bif ia st.Jv (mF fs++vs)&&ia st.Jv (mF cs)then
  K (St.put {st with df:=(g,cz st.bl (mF fs++vs),cz st.bl (mF cs))::st.df} o.dst .un)else False else False
 | _=>False
def loud(P:Program)(X:XT)(Y:YT)(st:St)(o:Oper)(K:St->Prop):Prop:=match o.op with
 | .binOp op t x y _=>ck (st.ev x) λa=>ck (st.ev y) λb=>bif ptS a&&ptS b then eV (st.esc [a,b]) λst=>rH P X st o.dst [o.type] [a,b] (λvs=>Go.binOp op t (qW vs 0) (qW vs 1)) K else False
 | .alloc t=>ck (zc P t) λzs=>bif chk st zs then K (st.EW o.dst t zs)else False
 | .box t x=>ck (st.ev x) λs=>ck (zT s) λzs=>bif chk st zs then K (st.EW o.dst t zs)else False
 | .store t x y=>ck (st.ev x) λp=>ck (st.ev y) λs=>ck (zT s) λvs=>bif sz P t vs.length then aes P X Y st o p s vs K else False
 | .call c=>ck (st.ME c.args.toList) λvs=>(match c.callee with
  | .value f=>ck (st.ev f) λfv=>ZE P X st o fv vs K
  | .builtin b=>eV (st.esc vs) λst=>aer P X st o b c.argTypes vs K
  | _=>False)
 | .defer c=>ck (st.ME c.args.toList) λvs=>(match c.callee with
  | .value f=>ck (st.ev f) λfv=>aet P st o fv vs K
  | _=>False)
 | .buildSlice t n ps=>ck (st.Ug ps.toList) λl=>eV (st.esc (Qo l)) λst=>rH P X st o.dst [t] (Qo l) (λvs=>Instr.buildSlice t n (zp (UY l) vs).toArray) K
 | .makeSlice t x y=>ck (st.ev x) λa=>ck (st.ev y) λb=>eV st λst=>rH P X st o.dst [t] [a,b] (λvs=>Instr.makeSlice t (qW vs 0) (qW vs 1)) K
 | .makeMap t none=>eV st λst=>rH P X st o.dst [t] [] (λ_=>Instr.makeMap t none) K
 | .makeMap t (some x)=>ck (st.ev x) λa=>eV st λst=>rH P X st o.dst [t] [a] (λvs=>Instr.makeMap t (some (qW vs 0))) K
 | .lookup t x i ok=>ck (st.ev x) λa=>ck (st.ev i) λb=>eV st λst=>rH P X st o.dst (DK P o.type) [a,b] (λvs=>Instr.lookup t (qW vs 0) (qW vs 1) ok) K
 | .mapUpdate t x y z=>ck (st.ev x) λa=>ck (st.ev y) λb=>ck (st.ev z) λc=>eV (st.esc [a,b,c]) λst=>UW P X st o.dst [a,b,c] (λvs=>Instr.mapUpdate t (qW vs 0) (qW vs 1) (qW vs 2)) K
 | .insert t x y z=>ck (st.ev x) λa=>ck (st.ev y) λb=>ck (st.ev z) λc=>eV (st.esc [a,b,c]) λst=>UW P X st o.dst [a,b,c] (λvs=>Instr.mapUpdate t (qW vs 0) (qW vs 1) (qW vs 2)) K
 | .convert s d x=>ck (st.ev x) λa=>eV (st.esc [a]) λst=>rH P X st o.dst [d] [a] (λvs=>convert s d (qW vs 0)) K
 | .range t x=>ck (st.ev x) λa=>eV st λst=>∃p,Qn P X st o.dst [a] (λvs=>Instr.range t (qW vs 0)) (.ptr p) K
 | .next x false=>ck (st.ev x) λa=>eV st λst=>Qn P X st o.dst [a] (λvs=>Instr.next (qW vs 0) false o.type) (.tup (nq [.bl false])) K∨
  UJ [.raw,.raw] λrs=>Qn P X st o.dst [a] (λvs=>Instr.next (qW vs 0) false o.type) (.tup (nq (.bl true::rs))) K
 | .entry x=>ck (st.ev x) λa=>eV st λst=>UJ [.raw,.raw] λrs=>Qn P X st o.dst [a] (λvs=>Instr.entry (qW vs 0)) (.tup (nq rs)) K
 | _=>False
section
variable {P:Program} {β:Nat->Nat} {st:St} {a:Act} {w w1:ay} {X:XT} {Y:YT} {E:ay->ay->Prop} {K:St->Prop} {Q:Exit->Act->ay->Prop}
abbrev Xu(E:ay->ay->Prop)(st:St)(K:St->Prop)(w:ay)(a':Act)(w':ay):Prop:=∃β' cN,K cN/\Ext st cN/\E w w'/\Rep β' cN a' w'
theorem kX(hX:∀w0 w1 p,X w0 w1 p->p/\E w0 w1){o}{E6}{args l}{run}(h:eV (st.esc l) λst=>rH P X st o.dst E6 args run K)(hR:Rep β st a w)
  (hx:∀v w1,(run (cz β args)).run P w=.ok v w1->(execOp a.eval o).run P w=.ok (.value v) w1):o.wp P a w (Xu E st K w) Q:=by
 obtain⟨s1,h1,e1,gY,hm,_⟩:=dX h (hR.esc l);obtain⟨v,w',hr,cN,k1,k2,k3,k4⟩:=Ky hX h1 hm gY;exact xU v (hx v w' hr) rfl ⟨β,cN,k1,(Ext.esc st l).trans (e1.trans k2),k3,k4⟩
theorem vB(hX:∀w0 w1 p,X w0 w1 p->p/\E w0 w1){o}{E6}{args}{run}(h:eV st λst=>rH P X st o.dst E6 args run K)(hR:Rep β st a w)
  (hx:∀v w1,(run (cz β args)).run P w=.ok v w1->(execOp a.eval o).run P w=.ok (.value v) w1):o.wp P a w (Xu E st K w) Q:=by
 obtain⟨s1,h1,e1,gY,hm,_⟩:=dX h hR;obtain⟨v,w',hr,cN,k1,k2,k3,k4⟩:=Ky hX h1 hm gY;exact xU v (hx v w' hr) rfl ⟨β,cN,k1,e1.trans k2,k3,k4⟩
theorem F3(hX:∀w0 w1 p,X w0 w1 p->p/\E w0 w1){o}{args l}{run}(h:eV (st.esc l) λst=>UW P X st o.dst args run K)(hR:Rep β st a w)
  (hx:∀w1,(run (cz β args)).run P w=.ok () w1->(execOp a.eval o).run P w=.ok .skip w1):o.wp P a w (Xu E st K w) Q:=by
 obtain⟨s1,h1,e1,gY,hm,_⟩:=dX h (hR.esc l);obtain⟨w',hr,cN,k1,k2,k3,k4⟩:=UX hX h1 hm gY;exact PS (hx w' hr) rfl ⟨β,cN,k1,(Ext.esc st l).trans (e1.trans k2),k3,k4⟩
theorem Kz(hE:∀w w1,Only [] w w1->E w w1){d}{t}{zs}(hc:chk st zs=true)(h:K (st.EW d t zs))(hR:Rep β st a w){b}(hb:w.heap.size<=b)(hO:Only [] w w1)(hB:Blk w1 b t (cz β zs)):
  Xu E st K w (a.put d (.pointer (some ⟨b,0,none⟩))) w1:=by
 simp[chk]at hc;exact⟨_,_,h,Ext.EW _ _ _ _,hE _ _ hO,hR.EW hc.1.1.1 hc.1.1.2 hc.1.2 hb hO hB hc.2⟩
theorem Qq(hX:∀w0 w1 p,X w0 w1 p->p/\E w0 w1){o}{E6}{f}{args}{oz}{s1}(h:Qj P X s1 o.dst E6 f args oz K)(hm:s1.mv=false)(e1:Ext st s1)(hR:Rep β s1 a w)
  (hx:(execOp a.eval o).run P w=.ok (.enter f (cz β args++oz).toArray) w):o.wp P a w (Xu E st K w) Q:=by
 refine Dr hx ((Qk hX h hm hR).mono ?_);rintro e w' ⟨v,rfl,cN,k1,k2,k3,k4⟩;exact⟨v,_,rfl,rfl,β,cN,k1,e1.trans k2,k3,k4⟩
theorem Ns(hX:∀w0 w1 p,X w0 w1 p->p/\E w0 w1){o}{E6}{f}{fst}{args}{oz}{s1}(h:Ql P X s1 o.dst E6 f fst args oz K)(hm:s1.mv=false)(e1:Ext st s1)(hR:Rep β s1 a w)
  (hx:(execOp a.eval o).run P w=.ok (.enter f (vA (vA fst (cz β args)) oz).toArray) w):o.wp P a w (Xu E st K w) Q:=by
 refine Dr hx ((Qm hX h hm hR).mono ?_);rintro e w' ⟨v,rfl,cN,k1,k2,k3,k4⟩;exact⟨v,_,rfl,rfl,β,cN,k1,e1.trans k2,k3,k4⟩
theorem Qr{s}(h:ptS s=true) β:∃q,val β s=.pointer q:=by
 cases s<;>first | (cases h;done) | exact⟨_,rfl⟩
theorem UZ{a:Act}{dst}{op}{t ty}{x y}{t'}{p}{af}{g}{u v r}(hu:∃q,u=.pointer q)(hv:∃q,v=.pointer q)(hx:a.eval x=u)(hy:a.eval y=v){w w1}
  (hr:(Go.binOp op t u v).run P w=.ok r w1):(execOp a.eval ⟨dst,.binOp op t x y ty,t',p,af,g⟩).run P w=.ok (.value r) w1:=by
 obtain⟨q,rfl⟩:=hu;obtain⟨q',rfl⟩:=hv;have hg:eqGuard op t x y (.pointer q) (.pointer q')=pure ():=by cases op<;>rfl
 simp[execOp,hx,hy,hg,hr]
theorem U0{a:Act}{dst}{x}{fn}{first captured:List az}{xs:List Operand}{ats}{t'}{p}{af}{g}{args}{w}
  (hx:a.eval x=.func fn first.toArray captured.toArray) (ha:first++xs.map a.eval=args):
  (execOp a.eval ⟨dst,.defer ⟨.value x,xs.toArray,ats⟩,t',p,af,g⟩).run P w=.ok (.defer {target:=.fn fn captured.toArray,args:=args.toArray}) w:=by
 subst ha;simp only[execOp,resolve,hx,Deferred.ofValue];simp
theorem Qs{a:Act}{dst}{t}{x}{t'}{p}{af}{g}{u v}{w w1}(hx:a.eval x=u)(hr:(Instr.range t u).run P w=.ok v w1):
  (execOp a.eval ⟨dst,.range t x,t',p,af,g⟩).run P w=.ok (.value v) w1:=by
 simp[execOp,hx,hr]
theorem KA{a:Act}{dst}{x}{t'}{p}{af}{g}{u v}{w w1}(hx:a.eval x=u)(hr:(Instr.next u false t').run P w=.ok v w1):
  (execOp a.eval ⟨dst,.next x false,t',p,af,g⟩).run P w=.ok (.value v) w1:=by
 simp[execOp,hx,hr]
theorem Qt{a:Act}{dst}{x}{t'}{p}{af}{g}{u v}{w w1}(hx:a.eval x=u)(hr:(Instr.entry u).run P w=.ok v w1):
  (execOp a.eval ⟨dst,.entry x,t',p,af,g⟩).run P w=.ok (.value v) w1:=by
 simp[execOp,hx,hr]
theorem kY β l m:cz β (l++m)=cz β l++cz β m:=by simp[cz]
theorem DL(hX:∀w0 w1 p,X w0 w1 p->p/\E w0 w1){o:Oper}(hE:∀w w1,Only [] w w1->E w w1)(hS:yA o.op=true->∀bk k w w1 p,Y bk p->(∀j,bk=some j->k=j)->Only [k] w w1->p/\E w w1)(h:loud P X Y st o K)(hR:Rep β st a w):o.wp P a w (Xu E st K w) Q:=by
 obtain⟨dst,op,t',p,af,g⟩:=o;unfold loud at h;dsimp only at h;split at h
 ·obtain⟨x,hx,h⟩:=bC h;obtain⟨y,hy,h⟩:=bC h;obtain⟨hp,h⟩:=dD h;simp only[aU]at hp;exact kX hX h hR λv w1 hr=>UZ (Qr hp.1 β) (Qr hp.2 β) (hR.ev hx) (hR.ev hy) hr
 ·obtain⟨zs,hz,h⟩:=bC h;obtain⟨hc,h⟩:=dD h;obtain⟨z,z1,z2⟩:=Xs hz w;exact zI z1 (z2 β) (λ_=>rfl) λb w1 hb hO hB=>Kz hE hc h hR hb hO hB
 ·obtain⟨s,hs,h⟩:=bC h;obtain⟨zs,hz,h⟩:=bC h;obtain⟨hc,h⟩:=dD h;exact PT (by rw[hR.ev hs];exact(wP hz β).1) (λ_=>rfl) λb w1 hb hO hB=>Kz hE hc h hR hb hO hB
 ·obtain⟨q,hx,h⟩:=bC h;obtain⟨s,hy,h⟩:=bC h;obtain⟨vs,hv,h⟩:=bC h;obtain⟨hsz,h⟩:=dD h;obtain⟨c1,c2⟩:=wP hv β;have hE':=hS rfl;cases q with
  | box i off=>
   obtain⟨b,hb,h⟩:=bC h;obtain⟨h1,h⟩:=dD h;simp only[aU]at h1;have h2:=cG h1.2;refine zH (pu hsz w) (hR.ev hx) (by rw[hR.ev hy];exact c1) (fx β vs) c2 (hR.bx i b hb h1.1).blk (by rw[fx,fx];exact h2) rfl rfl λw1 hO hB=>?_;rw[<-FV]at hB;obtain⟨h,he⟩:=hE' _ (β i) _ w1 _ h (λj hj=>(hR.bx i b hb h1.1).at_ j hj) hO;exact⟨β,_,h,(Ext.tj hb).trans (Ext.put _ _ _),he,(hR.tj hb h1.1 hO hB).put dst .un⟩
  | ad ad=>
   simp only[aes]at h;obtain⟨s1,h1,e1,gY,hm,_⟩:=dX h (hR.esc vs);obtain⟨bk,off,cells,ety,rfl,hB,E4,h2⟩:=h1;obtain⟨h3,h2⟩:=dD h2;simp only[aU]at h3;obtain⟨h2,fX⟩:=IG h2;have hw:=gY.still hm;rw[<-hw,gY.th h3.1]at h2;rw[<-hw]at hB;refine zH (pu hsz w) (hR.ev hx) (by rw[hR.ev hy];exact c1) (fx β vs) c2 hB (by rw[fx];exact E4) rfl rfl λw1 hO uw=>?_;obtain⟨h4,h5⟩:=hX _ _ _ (h2 w1 hO uw);refine⟨β,_,h4,((Ext.esc st vs).trans e1).trans (Ext.trans (t:={s1 with w0:=w1}) ⟨rfl,ba _,λ_ _ _ h _=>h,λi b' jC ho hs=>⟨b',jC,ho,rfl,rfl,rfl,λ_ h=>h⟩,P8,Fs⟩ (Ext.put _ _ _)),h5,?_⟩;refine Rep.put (v:=.un) (Rep.next (ct':=s1.ct) gY hm h3.2 λi b' jC ho=>⟨b',jC,ho,rfl,?_⟩) _;have eD:=gY.Oi h3.2 jC ho;have:=fX i b' jC ho;rw[eD]at this;exact hO.blk (gY.bx i b' jC ho).blk (by simpa using this)
  | _=>exact h.elim
 ·rename_i c;obtain⟨callee,⟨xs⟩,ts⟩:=c;obtain⟨vs,hv,h⟩:=bC h;have yu:=hR.ME hv;dsimp only at h;cases callee with
  | value f=>
   obtain⟨fv,hf,h⟩:=bC h;cases fv with
   | fn g' fs cs=>
    have ef:BJ fs=true->BJ cs=true->a.eval f=.func (.func g') (cz β (mF fs)).toArray (cz β (mF cs)).toArray:=λk1 k2=>by
     rw[hR.ev hf];show Value.func (.func g') (pT β fs).toArray (pT β cs).toArray=_;rw[mq β k1,mq β k2]
    have h':=h;unfold ZE at h';rcases mG h' with⟨h0,h1⟩ | ⟨_,h1⟩
    ·simp only[aU]at h0;obtain⟨s1,h1,e1,gY,hm,_⟩:=dX h1 (hR.esc _);refine Qq hX h1 hm ((Ext.esc _ _).trans e1) gY ?_;exact zD (ef h0.1.1 h0.1.2) (fC h0.2) (by rw[yu,kY,kY,bS])
    obtain⟨h0,h1⟩:=dD h1;simp only[aU]at h0;exact kX hX h1 hR λv w1 hr=>ZD (ef h0.1 h0.2) (by rw[yu,kY,kY]) (Qp hr)
   | raw v=>
    simp only[ZE]at h;obtain⟨s1,⟨g',fst,cap,h1,h2,h3⟩,e1,gY,hm,_⟩:=dX h (hR.esc vs);refine Ns hX h3 hm ((Ext.esc _ _).trans e1) gY ?_;have ef:a.eval f=.func (.func g') fst.toArray cap.toArray:=(hR.ev hf).trans h1;exact zD ef h2 (by rw[yu];rfl)
   | _=>exact h.elim
  | builtin b=>
   unfold aer at h;cases b with
   | append=>exact kX hX h hR λv w1 hr=>wK yu hr
   | copy=>exact kX hX h hR λv w1 hr=>zC yu hr
   | delete=>exact kX hX h hR λv w1 hr=>wL yu hr
   | clear=>exact kX hX h hR λv w1 hr=>yx yu hr
   | len=>exact kX hX h hR λv w1 hr=>BF yu hr
   | unsafeSliceData=>exact kX hX h hR λv w1 hr=>(by rw[<-yu]at hr;exact lM (λ_=>rfl) hr)
   | unsafeString=>exact kX hX h hR λv w1 hr=>(by rw[<-yu]at hr;exact lM (λ_=>rfl) hr)
   | _=>
    obtain⟨s1,h1,_⟩:=dX h (hR.esc vs);exact h1.elim
  | _=>exact h.elim
 ·rename_i c;obtain⟨callee,⟨xs⟩,ts⟩:=c;obtain⟨vs,hv,h⟩:=bC h;have yu:=hR.ME hv;dsimp only at h;cases callee with
  | value f=>
   obtain⟨fv,hf,h⟩:=bC h;cases fv with
   | fn g' fs cs=>
    unfold aet at h;obtain⟨h0,h1⟩:=dD h;simp only[aU]at h0;have ef:a.eval f=.func (.func g') (cz β (mF fs)).toArray (cz β (mF cs)).toArray:=by
     rw[hR.ev hf];show Value.func (.func g') (pT β fs).toArray (pT β cs).toArray=_;rw[mq β h0.1.1,mq β h0.1.2]
    obtain⟨s1,h1,e1,gY,hm,_⟩:=dX h1 (hR.esc _);obtain⟨hc,h1⟩:=dD h1;simp only[aU]at hc;rw[gY.th hc.1,gY.th hc.2]at h1;have hr:=U0 (P:=P) (dst:=dst) (ats:=ts) (t':=t') (p:=p) (af:=af) (g:=g) (w:=w) ef (by rw[yu,<-kY]);unfold Oper.wp;rw[hr,Oper.upon_defer];have Tg:Rep β {s1 with df:=(g',cz β (mF fs++vs),cz β (mF cs))::s1.df} {a with defers:={target:=.fn (.func g') (cz β (mF cs)).toArray,args:=(cz β (mF fs++vs)).toArray}::a.defers} w:=by
     obtain⟨us,hu⟩:=gY.fr;exact⟨⟨us,by rw[hu];rfl⟩,gY.bx,gY.ne,gY.only,gY.still⟩
    exact⟨β,_,h1,((Ext.esc _ _).trans e1).trans (Ext.trans (t:={s1 with df:=(g',cz β (mF fs++vs),cz β (mF cs))::s1.df}) ⟨rfl,ba _,λ_ _ _ h _=>h,λi b' jC ho hs=>⟨b',jC,ho,rfl,rfl,rfl,λ_ h=>h⟩,P8,⟨[_],rfl⟩⟩ (Ext.put _ _ _)),hE _ _ (Only.refl _ _),Tg.put dst .un⟩
   | _=>exact h.elim
  | _=>exact h.elim
 ·rename_i t n ps;obtain⟨l,hl,h1⟩:=bC h;clear h;obtain⟨ps⟩:=ps;refine kX hX h1 hR λv w1 hr=>?_;rw[Xt]at hr;exact Df (hR.Ug hl) hr
 ·obtain⟨u,hx,h⟩:=bC h;obtain⟨v,hy,h⟩:=bC h;exact vB hX h hR λ_ w1 hr=>FF (hR.ev hx) (hR.ev hy) hr
 ·exact vB hX h hR λ_ w1 hr=>Na hr
 ·obtain⟨u,hx,h⟩:=bC h;exact vB hX h hR λ_ w1 hr=>Ii (hR.ev hx) hr
 ·obtain⟨u,hx,h⟩:=bC h;obtain⟨v,hy,h⟩:=bC h;exact vB hX h hR λ_ w1 hr=>PN (hR.ev hx) (hR.ev hy) hr
 ·obtain⟨u,hx,h⟩:=bC h;obtain⟨v,hy,h⟩:=bC h;obtain⟨z,hz,h⟩:=bC h;exact F3 hX h hR λw1 hr=>FG (hR.ev hx) (hR.ev hy) (hR.ev hz) hr
 ·obtain⟨u,hx,h⟩:=bC h;obtain⟨v,hy,h⟩:=bC h;obtain⟨z,hz,h⟩:=bC h;exact F3 hX h hR λw1 hr=>PO (hR.ev hx) (hR.ev hy) (hR.ev hz) hr
 ·obtain⟨u,hx,h⟩:=bC h;exact kX hX h hR λ_ w1 hr=>Nc (hR.ev hx) hr
 ·obtain⟨u,hx,h⟩:=bC h;obtain⟨s1,⟨q,h1⟩,e1,gY,hm,_⟩:=dX h hR;obtain⟨v,w',hr,cN,k1,k2,k3,k4⟩:=yZ hX h1 hm gY;exact xU v (Qs (hR.ev hx) hr) rfl ⟨β,cN,k1,e1.trans k2,k3,k4⟩
 ·obtain⟨u,hx,h⟩:=bC h;obtain⟨s1,h1,e1,gY,hm,_⟩:=dX h hR;rcases h1 with h1 | h1
  ·obtain⟨v,w',hr,cN,k1,k2,k3,k4⟩:=yZ hX h1 hm gY;exact xU v (KA (hR.ev hx) hr) rfl ⟨β,cN,k1,e1.trans k2,k3,k4⟩
  obtain⟨_,h1,_⟩:=sf h1;obtain⟨v,w',hr,cN,k1,k2,k3,k4⟩:=yZ hX h1 hm gY;exact xU v (KA (hR.ev hx) hr) rfl ⟨β,cN,k1,e1.trans k2,k3,k4⟩
 ·obtain⟨u,hx,h⟩:=bC h;obtain⟨s1,h1,e1,gY,hm,_⟩:=dX h hR;obtain⟨_,h1,_⟩:=sf h1;obtain⟨v,w',hr,cN,k1,k2,k3,k4⟩:=yZ hX h1 hm gY;exact xU v (Qt (hR.ev hx) hr) rfl ⟨β,cN,k1,e1.trans k2,k3,k4⟩
 exact h.elim
end
def nd(P:Program)(st:St)(o:Op):Bool:=match o with
 | .load _ x=>(match st.ev x with
  | some (.ad _)=>true
  | _=>false)
 | .convert s _ _=>(match P.underlying s with
  | some (.slice _)=>true
  | _=>false)
 | _=>false
def ZF(b:Bool)(st:St)(K:St->Prop):Prop:=bif b&&st.mv then eV st K else K st
theorem wU{b}{st}{K}(h:ZF b st K){β}{a}{w}(hR:Rep β st a w):∃cN,K cN/\Ext st cN/\Rep β cN a w/\cN.fr=st.fr/\cN.n=st.n:=by
 rcases mG h with⟨_,h⟩ | ⟨_,h⟩
 ·obtain⟨s,h1,h2,h3,h4,h5,h6,_⟩:=dX h hR;exact⟨s,h1,h2,h3,h5,h6⟩
 exact⟨st,h,Ext.refl _,hR,rfl,rfl⟩
def DM(P:Program):List Oper->Bool
 | []=>true
 | o::r=>jh P o.op&&DM P r
def IH:List Oper->Bool
 | []=>false
 | o::r=>mem o.op||IH r
def X0:XT:=λ_ _ p=>p
def Y0:YT:=λ_ p=>p
def agT(P:Program)(t:TypeId):Bool:=match P.underlying t with
 | some d=>lQ d
 | none=>false
def ZG(P:Program)(o:Oper)(v:SV)(K:SV->Prop):Prop:=match o.op,v with
 | .extract _ _,.raw x=>(match P9 P 12 o.type with
  | []=>K (.raw x)
  | [.raw]=>K (.raw x)
  | ls=>UJ ls λvs=>x.v=val β0 (Nl (agT P o.type) vs)/\K (Nl (agT P o.type) vs))
 | _,v=>K v
theorem U1{P}{o}{v}{K:SV->Prop}(h:ZG P o v K):∃u,K u/\∀β,val β u=val β v:=by
 unfold ZG at h;split at h
 ·split at h
  ·exact⟨_,h,λ_=>rfl⟩
  ·exact⟨_,h,λ_=>rfl⟩
  obtain⟨vs,⟨e,h⟩,_,hc⟩:=sf h;refine⟨_,h,λβ=>Eq.trans ?_ e.symm⟩;exact(iE (g:=λ_=>false) (λi h=>aaH) _ (Kx _ _ (hc _))).symm
 exact⟨_,h,λ_=>rfl⟩
def KB(P:Program)(st:St)(o:Oper)(K:St->Prop):Prop:=
 bif jh P o.op then ZF (nd P st o.op) st λst=>Zv P [] st o.op λv=>ZG P o v λv=>K (st.put o.dst v)else loud P X0 Y0 st o K
def yB(P:Program)(ops:List Oper):Nat->List Oper->St->(St->Prop)->Prop
 | 0,_,_,_=>False
 | _+1,[],st,K=>K st
 | f+1,o::rest,st,K=>match o.guard with
  | none=>KB P st o λst=>yB P ops f rest st K
  | some (j,want)=>(match ZB st ops j with
   | some (_,.un)=>yB P ops f rest (st.put o.dst .un) K
   | some (_,.bl b)=>bif b==want then KB P st o λst=>yB P ops f rest st K else yB P ops f rest (st.put o.dst .un) K
   | some (d,.bt t)=>bif DM P ((o::rest).take (yz ops j (o::rest)+1))
    then ZF (IH ((o::rest).take (yz ops j (o::rest)+1))) st λst=>wR P ops f [] ((o::rest).take (yz ops j (o::rest)+1)) st λst=>yB P ops f ((o::rest).drop (yz ops j (o::rest)+1)) st K
    else((t=true->yB P ops f (o::rest) (st.put (some d) (.bl true)) K)/\(t=false->yB P ops f (o::rest) (st.put (some d) (.bl false)) K))
   | _=>False)
section
variable {P:Program} {ops:List Oper} {Q:Exit->Act->ay->Prop}
theorem Qu{st}{o}{rest}{K}{β}{a}{w}(h:KB P st o K)(hR:Rep β st a w)(hw:Region.wanted o (yielded ops.toArray a.tmps)=true)
  (hK:∀β' cN a' w',K cN->Ext st cN->Rep β' cN a' w'->wpList P ops.toArray Q rest a' w'):wpList P ops.toArray Q (o::rest) a w:=by
 rcases mG h with⟨_,h⟩ | ⟨_,h⟩
 ·obtain⟨s,h1,h2,h3,h4,h5⟩:=wU h hR;obtain⟨v,hv,hy⟩:=IA h1;obtain⟨u,hv,ev⟩:=U1 hv;exact zA _ hw (hy trivial β a w h3 _ _ _ _ _ w λ_=>rfl) rfl (hK β _ _ w hv (h2.trans (Ext.put _ _ _)) (ev β▸h3.put o.dst u))
 refine rX hw (Oper.wp_mono ?_ (DL (E:=λ_ _=>True) (λ_ _ _ h=>⟨h,trivial⟩) (λ_ _ _=>trivial) (λ_ _ _ _ _ _ h _ _=>⟨h,trivial⟩) h hR));rintro a' w' ⟨β',cN,k1,k2,_,k4⟩;exact hK β' cN a' w' k1 k2 k4
theorem tA:∀{f:Nat} {l:List Oper} {st:St} {K:St->Prop},yB P ops f l st K->∀{β:Nat->Nat} {a:Act} {w:ay},Rep β st a w->
  (∀β' cN a' w',K cN->Ext st cN->Rep β' cN a' w'->Q .normal a' w')->wpList P ops.toArray Q l a w
 | 0,_,_,_,h,_,_,_,_,_=>h.elim
 | _+1,[],st,K,h,β,a,w,hR,hK=>hK β st a w h (Ext.refl _) hR
 | f+1,o::rest,st,K,h,β,a,w,hR,hK=>by
  have no:yB P ops f rest _ K->Region.wanted o _=false->wpList P ops.toArray Q _ a w:=λh hw=>
   PL hw rfl (tA h (hR.put o.dst .un) λβ' cN a' w' k1 k2 k3=>hK β' cN a' w' k1 ((Ext.put _ _ _).trans k2) k3)
  have Uj:(KB P st o λst=>yB P ops f rest st K)->Region.wanted o _=true->wpList P ops.toArray Q _ a w:=λh hw=>
   Qu h hR hw λβ' cN a' w' k1 k2 k3=>tA k1 k3 λβ2 uU a2 w2 m1 m2 m3=>hK β2 uU a2 w2 m1 (k2.trans m2) m3
  unfold yB at h;split at h
  ·rename_i hg;exact Uj h (wn hg)
  rename_i j want hg;split at h
  ·rename_i d ht;exact no h (wQ hR hg ht)
  ·rename_i d b ht;have hw:=pV hR hg ht (b:=b) rfl;rcases mG h with⟨e,h⟩ | ⟨e,h⟩
   ·exact Uj h (hw.trans e)
   exact no h (hw.trans e)
  ·rename_i d t ht;obtain⟨oj,Pj,Yw,Ui⟩:=zW ht;rcases mG h with⟨_,h⟩ | ⟨_,h⟩
   ·generalize yz ops j _+1=m at h;obtain⟨s,h1,h2,h3,h4,h5⟩:=wU h hR;obtain⟨s2,k1,k2,k3,k4⟩:=qU h1;obtain⟨a',g1,g2⟩:=k4 trivial β a w h3;have:=DA (Q:=Q) (rest:=(o::rest).drop m) g1 (tA k1 g2 λβ2 uU a2 w2 m1 m2 m3=>hK β2 uU a2 w2 m1 ((h2.trans k2).trans m2) m3);rwa[du]at this
   cases t with
   | true=>exact tA (h.1 rfl) (hR.set Ui rfl) λβ' cN a' w' k1 k2 k3=>hK β' cN a' w' k1 ((Ext.put _ _ _).trans k2) k3
   | false=>exact tA (h.2 rfl) (hR.set Ui rfl) λβ' cN a' w' k1 k2 k3=>hK β' cN a' w' k1 ((Ext.put _ _ _).trans k2) k3
  exact h.elim
end
def JT:List Lf->Type
 | []=>ay->Prop
 | l::r=>l.T->JT r
def F4:(ls:List Lf)->JT ls->(List SV->ay->Prop)->Prop
 | [],J,K=>∀w,J w->K [] w
 | l::r,J,K=>∀x,F4 r (J x) λvs w=>K (l.sv x::vs) w
def unI(k:IntKind)(s:SV):Option Int:=match pU s with
 | some (k',n)=>bif decide (k'=k)then some n else none
 | none=>none
def unP(bl:Nat->Nat)(s:SV):Option (Option Addr):=match s with
 | .box i o=>some (some ⟨bl i,o,none⟩)
 | s=>uZ s
def unM(s:SV):Option (Option Nat):=match s with
 | .map m=>some m
 | _=>none
def unR(bl:Nat->Nat)(s:SV):Option OV:=match s with
 | .raw v=>some v
 | .fn f fs cs=>some ⟨.func (.func f) (pT bl fs).toArray (pT bl cs).toArray,rfl⟩
 | _=>none
def un(bl:Nat->Nat):(l:Lf)->SV->Option l.T
 | .int k=>unI k
 | .bool=>zR
 | .str=>uG
 | .ptr=>unP bl
 | .sl=>Kq
 | .map=>unM
 | .raw=>unR bl
theorem aeu{bl}{l}{s}{x}(h:un bl l s=some x) β:val β (l.sv x)=val bl s:=by
 cases l with
 | int k=>
  have h:unI k s=some x:=h;unfold unI at h;split at h
  ·rename_i k' n ho;obtain⟨e,rfl⟩:=Dy h;have e:=aP e;subst e;rw[dx ho];rfl
  cases h
 | bool=>rw[lR h];rfl
 | str=>rw[ic h];rfl
 | ptr=>
  have h:unP bl s=some x:=h;unfold unP at h;split at h
  ·injection h with h;subst h;rfl
  rw[UK h];rfl
 | sl=>rw[jQ h];rfl
 | map=>
  have h:unM s=some x:=h;unfold unM at h;split at h
  ·injection h with h;subst h;rfl
  cases h
 | raw=>
  have h:unR bl s=some x:=h;unfold unR at h;split at h
  ·injection h with h;subst h;rfl
  ·injection h with h;subst h;rfl
  cases h
def apJ:(ls:List Lf)->(Nat->Nat)->JT ls->List SV->ay->Prop
 | [],_,J,[],w=>J w
 | l::r,bl,J,s::ss,w=>(match un bl l s with
  | some x=>apJ r bl (J x) ss w
  | none=>False)
 | _,_,_,_,_=>False
theorem Qv{bl}{w}:∀{ls:List Lf} {J:JT ls} {ss:List SV} {K:List SV->ay->Prop},apJ ls bl J ss w->F4 ls J K->∃vs,K vs w/\vs.length=ls.length/\(∀β,cz β vs=cz bl ss)/\∀g,ia g vs=true
 | [],J,[],K,h,k=>⟨[],k w h,rfl,λ_=>rfl,λ_=>rfl⟩
 | l::r,J,s::ss,K,h,k=>by
  unfold apJ at h;split at h
  ·rename_i x hx;obtain⟨vs,h1,h2,h3,h4⟩:=Qv h (k x);refine⟨_,h1,by simp[h2],λβ=>?_,λg=>by simp[ia,Lf.cln,h4 g,ni]⟩;have:=h3 β;simp only[cz,bG]at this⊢;rw[this,aeu hx]
  exact h.elim
 | [],_,_::_,_,h,_=>h.elim
 | _::_,_,[],_,h,_=>h.elim
inductive MI where
 | s (slot:Nat) (l:Lf)
 | a (slot:Nat) (ls:List Lf)
 | b (slot:Nat) (ls:List Lf)
def mLs:List MI->List Lf
 | []=>[]
 | .s _ l::r=>l::mLs r
 | .a _ ls::r=>ls++mLs r
 | .b _ ls::r=>ls++mLs r
def bxi(st:St)(i:Nat):Option Nat:=match st.get i with
 | some (.box j _)=>some j
 | _=>none
def Qw:List SV->List SV
 | []=>[]
 | .box j o::r=>.box j o::Qw r
 | _::r=>Qw r
def Ak(st:St):List MI->List SV
 | []=>[]
 | .b i _::r=>(match bxi st i with
  | some j=>(match cZ st.bx j with
   | some b=>Qw b.cells++Ak st r
   | none=>Ak st r)
  | none=>Ak st r)
 | .s i _::r=>(match st.get i with
  | some (.box j o)=>.box j o::Ak st r
  | _=>Ak st r)
 | _::r=>Ak st r
def pY(st s:St):List MI->Option (List SV)
 | []=>some []
 | .s i _::r=>(match s.get i,pY st s r with
  | some v,some l=>some (v::l)
  | _,_=>none)
 | .a i ls::r=>(match s.get i,pY st s r with
  | some (.agg l),some m=>bif BJ l&&Nat.beq (mF l).length ls.length then some (mF l++m)else none
  | _,_=>none)
 | .b i ls::r=>(match bxi st i with
  | some j=>(match cZ s.bx j,pY st s r with
   | some b,some m=>bif Nat.beq b.cells.length ls.length then some (b.cells++m)else none
   | _,_=>none)
  | none=>none)
def II(ct:Nat):List MI->List SV->List (Nat×Nat×SV)
 | .s i _::r,v::vs=>(i,ct,v)::II ct r vs
 | .a i ls::r,vs=>(i,ct,.agg (nq (vs.take ls.length)))::II ct r (vs.drop ls.length)
 | .b _ ls::r,vs=>II ct r (vs.drop ls.length)
 | _,_=>[]
def IJ(st:St):List MI->List SV->List j8->List j8
 | .s _ _::r,_::vs,bx=>IJ st r vs bx
 | .a _ ls::r,vs,bx=>IJ st r (vs.drop ls.length) bx
 | .b i ls::r,vs,bx=>(match bxi st i with
  | some j=>(match cZ bx j with
   | some b=>IJ st r (vs.drop ls.length) (Nk bx j {b with cells:=vs.take ls.length,stp:=st.ct})
   | none=>IJ st r (vs.drop ls.length) bx)
  | none=>IJ st r (vs.drop ls.length) bx)
 | _,_,bx=>bx
def Xv:List MI->List Nat
 | []=>[]
 | .s i _::r=>i::Xv r
 | .a i _::r=>i::Xv r
 | .b _ _::r=>Xv r
def Qx(st:St):List MI->List Nat
 | []=>[]
 | .b i _::r=>(match bxi st i with
  | some j=>j::Qx st r
  | none=>Qx st r)
 | _::r=>Qx st r
def ZH(fr:List (Nat×Nat×SV)):List Nat->List (Nat×Nat×SV)
 | []=>[]
 | i::r=>match dQ fr i with
  | some p=>(i,p)::ZH fr r
  | none=>ZH fr r
def lU(st:St)(kp:List Nat)(ms:List MI)(vs:List SV)(w:ay):St:=
 {n:=st.n,fr:=II st.ct ms vs++ZH st.fr kp,bx:=IJ st ms vs st.bx,w0:=w,mv:=false,dt:=[],ct:=st.ct+1,df:=st.df}
def U2(st s:St)(sl:List Nat):List Nat->Bool
 | []=>true
 | i::r=>(match dQ st.fr i with
  | some (k,v)=>(match dQ s.fr i with
   | some (k',_)=>Nat.beq k k'&&Nat.blt k st.ct&&!sl.elem i&&cln (FZ st.bx) v
   | none=>false)
  | none=>true)&&U2 st s sl r
def Nt(st:St)(H7:List Nat):Nat->List j8->List j8->Bool
 | _,[],_=>true
 | i,b::r,c::q=>(!b.ok||(b.blk.isSome&&(H7.elem i||(Nat.blt c.stp st.ct&&ia (FZ st.bx) b.cells))))&&Nt st H7 (i+1) r q
 | _,_::_,[]=>false
def Nu(st:St)(kp:List Nat) ms (J:JT (mLs ms)) (s:St):Prop:=
 bif U2 st s (Xv ms) kp&&Nt st (Qx st ms) 0 st.bx s.bx&&Nat.beq s.df.length st.df.length then
  ck (pY st s ms) λvs=>bif ia (FZ s.bx) vs then apJ _ (H2 s.bx) J vs s.w0 else False
 else False
theorem tB:∀l m i,dQ (l++m) i=match dQ l i with
  | some p=>some p
  | none=>dQ m i
 | [],_,_=>rfl
 | (k,p)::r,m,i=>by
  simp[cp,dQ];cases Nat.beq k i with
  | true=>rfl
  | false=>exact tB r m i
theorem y0{fr}:∀{kp:List Nat} {i:Nat} {p:Nat×SV},dQ (ZH fr kp) i=some p->i∈kp/\dQ fr i=some p
 | j::r,i,p,h=>by
  unfold ZH at h;split at h
  ·rename_i q hq;simp[dQ]at h;cases hb:Nat.beq j i with
   | true=>
    rw[hb]at h;simp at h;subst h;have:=bZ hb;subst this;exact⟨aaa,hq⟩
   | false=>
    rw[hb]at h;obtain⟨h1,h2⟩:=y0 abi;exact⟨adT,h2⟩
  obtain⟨h1,h2⟩:=y0 h;exact⟨adT,h2⟩
theorem F5{fr}{p}:∀{kp:List Nat} {i:Nat},i∈kp->dQ fr i=some p->dQ (ZH fr kp) i=some p
 | j::r,i,hi,h=>by
  unfold ZH;cases hb:Nat.beq j i with
  | true=>
   have:=bZ hb;subst this;rw[h];simp[dQ,Nat.beq_refl,mj]
  | false=>
   have Bp:i∈r:=by
    rcases aR.1 hi with e | e
    ·subst e;simp at hb
    exact e
   have ih:=F5 (p:=p) Bp h;split
   ·simp[dQ,hb,ui];exact ih
   exact ih
theorem tC{ct}:∀{ms:List MI} {vs:List SV} {i:Nat},(Xv ms).elem i=false->dQ (II ct ms vs) i=none
 | [],vs,i,_=>rfl
 | .s j l::r,[],i,_=>rfl
 | .s j l::r,v::vs,i,h=>by
  simp only[Xv,lu]at h;split at h
  ·cases h
  rename_i fX;simp[II,dQ];have:Nat.beq j i=false:=by
   cases hb:Nat.beq j i with
   | false=>rfl
   | true=>have:=bZ hb;subst this;simp at fX
  rw[this,ui];exact tC h
 | .a j ls::r,vs,i,h=>by
  simp only[Xv,lu]at h;split at h
  ·cases h
  rename_i fX;simp[II,dQ];have:Nat.beq j i=false:=by
   cases hb:Nat.beq j i with
   | false=>rfl
   | true=>have:=bZ hb;subst this;simp at fX
  rw[this,ui];exact tC h
 | .b j ls::r,vs,i,h=>by
  simp[II];exact tC h
theorem tD{ct}:∀{ms:List MI} {vs:List SV} {i:Nat} {p:Nat×SV},dQ (II ct ms vs) i=some p->p.1=ct
 | [],vs,i,p,h=>by cases vs<;>cases h
 | .s j l::r,[],i,p,h=>aaH
 | .s j l::r,v::vs,i,p,h=>by
  simp[II,dQ]at h;cases hb:Nat.beq j i with
  | true=>rw[hb]at h;simp at h;subst h;rfl
  | false=>rw[hb]at h;exact tD abi
 | .a j ls::r,vs,i,p,h=>by
  simp[II,dQ]at h;cases hb:Nat.beq j i with
  | true=>rw[hb]at h;simp at h;subst h;rfl
  | false=>rw[hb]at h;exact tD abi
 | .b j ls::r,vs,i,p,h=>by
  simp[II]at h;exact tD h
theorem iG{st}:∀ms vs bx i b,cZ bx i=some b->∃b',cZ (IJ st ms vs bx) i=some b'/\b'.ty=b.ty/\b'.ok=b.ok/\b'.blk=b.blk/\((Qx st ms).elem i=false->b'=b)/\(b'=b∨b'.stp=st.ct)
 | [],vs,bx,i,b,h=>⟨b,by cases vs<;>exact h,rfl,rfl,rfl,λ_=>rfl,.inl rfl⟩
 | .s j l::r,[],bx,i,b,h=>⟨b,h,rfl,rfl,rfl,λ_=>rfl,.inl rfl⟩
 | .s j l::r,v::vs,bx,i,b,h=>iG r vs bx i b h
 | .a j ls::r,vs,bx,i,b,h=>iG r _ bx i b h
 | .b s ls::r,vs,bx,i,b,h=>by
  simp only[IJ,Qx];cases hj:bxi st s with
  | none=>exact iG r _ bx i b h
  | some j=>
   dsimp only;cases hc:cZ bx j with
   | none=>
    obtain⟨b',h1,h2,h3,h4,h5,h6⟩:=iG (st:=st) r _ bx i b h;refine⟨b',h1,h2,h3,h4,λhe=>h5 ?_,h6⟩;simp only[lu]at he;split at he
    ·cases he
    exact he
   | some c=>
    by_cases rO:i=j
    ·subst rO;rw[hc]at h;injection h with h;subst h;obtain⟨b',h1,h2,h3,h4,h5,h6⟩:=iG (st:=st) r _ _ i _ (by rw[ja hc,aZ rfl]);refine⟨b',h1,h2,h3,h4,λhe=>?_,?_⟩
     ·simp at he
     rcases h6 with rfl | h6
     ·exact .inr rfl
     exact .inr h6
    obtain⟨b',h1,h2,h3,h4,h5,h6⟩:=iG (st:=st) r _ (Nk bx j {c with cells:=vs.take ls.length,stp:=st.ct}) i b (by rw[ja hc,aX rO];exact h);refine⟨b',h1,h2,h3,h4,λhe=>h5 ?_,h6⟩;simp only[lu]at he;split at he
    ·cases he
    exact he
theorem oc{st}:∀ms vs bx i,cZ bx i=none->cZ (IJ st ms vs bx) i=none
 | [],vs,bx,i,h=>by cases vs<;>exact h
 | .s j l::r,[],bx,i,h=>h
 | .s j l::r,v::vs,bx,i,h=>oc r vs bx i h
 | .a j ls::r,vs,bx,i,h=>oc r _ bx i h
 | .b s ls::r,vs,bx,i,h=>by
  simp[IJ];cases hj:bxi st s with
  | none=>exact oc r _ bx i h
  | some j=>
   dsimp only;cases hc:cZ bx j with
   | none=>exact oc r _ bx i h
   | some c=>
    refine oc r _ _ i ?_;rw[ja hc,aX]
    ·exact h
    rintro rfl;rw[h]at hc;cases hc
theorem Ext.SU{st}{kp}{ms}{vs}{w}:Ext st (lU st kp ms vs w):=by
 refine⟨rfl,iC _,λi k v hl cd=>?_,λi b' hb ho hs=>?_,λi b hb=>?_,Fs⟩
 ·simp[lU]at hl;rw[tB]at hl;split at hl
  ·rename_i p hp;have:=tD hp;simp at hl;subst hl;omega
  exact(y0 hl).2
 ·simp[lU]at hb;cases hn:cZ st.bx i with
  | none=>rw[oc _ _ _ _ hn]at hb;cases hb
  | some b=>
   obtain⟨b2,h1,h2,h3,h4,h5,h6⟩:=iG (st:=st) ms vs st.bx i b hn;rw[h1]at hb;injection hb with hb;subst hb;rcases h6 with rfl | h6
   ·exact⟨b2,rfl,ho,rfl,rfl,rfl,λ_ h=>h⟩
   omega
 obtain⟨b2,h1,h2,h3,h4,_⟩:=iG (st:=st) ms vs st.bx i b hb;exact⟨b2,h1,h2,h3,λk hk=>by rw[h4];exact hk⟩
def Qy(st:St)(kp:List Nat)(ms:List MI)(s:St):Prop:=Ext st s∨∃vs w,Ext (lU st kp ms vs w) s
section
variable {st s:St} {kp:List Nat} {ms:List MI} {β:Nat->Nat} {a:Act} {w:ay}
theorem Qy.n(h:Qy st kp ms s):s.n=st.n:=by
 rcases h with h | ⟨vs,w,h⟩
 ·exact h.n
 exact h.n
theorem Qy.df(h:Qy st kp ms s):∃l,s.df=l++st.df:=by
 rcases h with h | ⟨vs,w,h⟩
 ·exact h.df
 exact h.df
theorem Qy.slot(h:Qy st kp ms s){i k}{v v'}(hi:i∈kp)(h1:dQ st.fr i=some (k,v))(h2:dQ s.fr i=some (k,v'))(hk:k<st.ct)(hs:(Xv ms).elem i=false):v'=v:=by
 rcases h with h | ⟨vs,w,h⟩
 ·have:=h.fr i k v' h2 hk;rw[h1]at this;simpa using this.symm
 have:=h.fr i k v' h2 (Nat.lt_succ_of_lt hk);simp[lU]at this;rw[tB,tC hs]at this;rw[F5 hi h1]at this;simpa using this.symm
theorem Qy.ps(h:Qy st kp ms s){i}{b}(hb:cZ st.bx i=some b):∃c,cZ s.bx i=some c/\c.ty=b.ty/\c.ok=b.ok/\∀k,b.blk=some k->c.blk=some k:=by
 rcases h with h | ⟨vs,w,h⟩
 ·exact h.ps i b hb
 obtain⟨b2,h1,h2,h3,h4,_⟩:=iG (st:=st) ms vs st.bx i b hb;obtain⟨c,k1,k2,k3,k4⟩:=h.ps i b2 h1;exact⟨c,k1,k2.trans h2,k3.trans h3,λk hk=>k4 k (by rw[h4];exact hk)⟩
theorem Qy.cells(h:Qy st kp ms s){i}{b c}(hb:cZ st.bx i=some b)(hc:cZ s.bx i=some c)(ho:b.ok=true)(hl:(Qx st ms).elem i=false)(hs:c.stp<st.ct):c.cells=b.cells:=by
 rcases h with h | ⟨vs,w,h⟩
 ·obtain⟨c',k1,k2,k3,k4⟩:=h.ps i b hb;rw[hc]at k1;injection k1 with k1;subst k1;obtain⟨b3,m1,m2,m3,_⟩:=h.bx i c hc (k3.trans ho) hs;rw[hb]at m1;injection m1 with m1;rw[m1,m3]
 obtain⟨b2,h1,h2,h3,h4,h5,_⟩:=iG (st:=st) ms vs st.bx i b hb;obtain⟨c',k1,k2,k3,k4⟩:=h.ps i b2 h1;rw[hc]at k1;injection k1 with k1;subst k1;obtain⟨b3,m1,m2,m3,m4,m5,m6⟩:=h.bx i c hc (k3.trans (h3.trans ho)) (Nat.lt_succ_of_lt hs);rw[show cZ (lU st kp ms vs w).bx i=cZ (IJ st ms vs st.bx) i from rfl,h1]at m1;injection m1 with m1;subst m1;rw[<-m3,h5 hl]
theorem KC{sl}:∀{kp:List Nat},U2 st s sl kp=true->∀i∈kp,∀k v,dQ st.fr i=some (k,v)->∃v',dQ s.fr i=some (k,v')/\k<st.ct/\sl.elem i=false/\cln (FZ st.bx) v=true
 | j::r,h,i,hi,k,v,hl=>by
  simp only[U2,aU]at h;rcases aR.1 hi with rfl | hi
  ·have h1:=h.1;rw[hl]at h1;dsimp only at h1;split at h1
   ·rename_i k' v' hs;simp only[aU,dj]at h1;have e:=bZ h1.1.1.1;subst e;exact⟨v',hs,cG h1.1.1.2,h1.1.2,h1.2⟩
   cases h1
  exact KC h.2 i hi k v hl
theorem DN{H7}:∀{l m:List j8} {n:Nat},Nt st H7 n l m=true->∀i b,cZ l i=some b->b.ok=true->b.blk.isSome=true/\(H7.elem (n+i)=true∨∃c,cZ m i=some c/\c.stp<st.ct/\ia (FZ st.bx) b.cells=true)
 | b::r,[],n,h,_,_,_,_=>by simp[Nt]at h
 | b::r,c::q,n,h,0,b',hb,ho=>by
  simp only[Nt,aU,bU,dj]at h;simp[cZ,bc]at hb;subst hb;rcases h.1 with h1 | ⟨h1,h2⟩
  ·rw[ho]at h1;cases h1
  refine⟨h1,?_⟩;rcases h2 with h2 | h2
  ·exact .inl h2
  exact .inr ⟨c,rfl,cG h2.1,h2.2⟩
 | b::r,c::q,n,h,i+1,b',hb,ho=>by
  simp[Nt,aU]at h;have:=DN h.2 i b' hb ho;rwa[show n+1+i=n+(i+1) by omega]at this
theorem Rep.at(hR:Rep β s a w){i}{v}(h:s.get i=some v):i<s.n/\a.tmps[i]? =some (V.val β v):=by
 unfold St.get at h;cases hb:Nat.blt i s.n with
 | false=>rw[hb]at h;cases h
 | true=>
  rw[hb,mj]at h;cases hl:dQ s.fr i with
  | none=>rw[hl]at h;cases h
  | some p=>
   rw[hl]at h;simp at h;subst h;exact⟨cG hb,hR.ok.at_ i p hl (cG hb)⟩
theorem sD{g}:∀{l m:List SV},ia g (l++m)=true->ia g l=true/\ia g m=true
 | [],m,h=>⟨rfl,h⟩
 | s::r,m,h=>by
  simp[cp,ia,aU]at h⊢;obtain⟨h1,h2⟩:=sD h.2;exact⟨⟨h.1,h1⟩,h2⟩
theorem qX{γ b}{vs l m}{n}(hv:V.cz γ vs=V.cz b l++V.cz b m)(hl:l.length=n):V.cz γ (vs.take n)=V.cz b l/\V.cz γ (vs.drop n)=V.cz b m:=by
 have h1:(V.cz γ vs).take n=V.cz γ (vs.take n):=by simp[V.cz,nj]
 have h2:(V.cz γ vs).drop n=V.cz γ (vs.drop n):=by simp[V.cz,qN]
 have hn:(V.cz b l).length=n:=by rw[fx,hl]
 rw[<-h1,<-h2,hv,<-hn];exact⟨List.take_left,List.drop_left⟩
theorem DP(hR:Rep β s a w){ct}{γ}:∀{ms:List MI} {ss vs:List SV},pY st s ms=some ss->ia (FZ s.bx) ss=true->V.cz γ vs=V.cz (H2 s.bx) ss->∀i p,dQ (II ct ms vs) i=some p->a.tmps[i]? =some (V.val γ p.2)
 | [],ss,vs,_,_,_,i,p,h=>by cases vs<;>cases h
 | .s j l::r,ss,[],_,_,_,i,p,h=>aaH
 | .s j l::r,ss,v::vs,ha,hc,hv,i,p,h=>by
  simp[pY]at ha;split at ha
  ·rename_i v0 l0 h1 h2;simp at ha;subst ha;simp[ia,aU]at hc;simp[V.cz,bG,rT]at hv;simp[II,dQ]at h;cases hb:Nat.beq j i with
   | true=>
    rw[hb]at h;simp at h;subst h;have:=bZ hb;subst this;rw[(hR.at h1).2,hv.1,hR.agk hc.1]
   | false=>
    rw[hb]at h;exact DP hR h2 hc.2 hv.2 i p abi
  cases ha
 | .a j ls::r,ss,vs,ha,hc,hv,i,p,h=>by
  simp[pY]at ha;split at ha
  ·rename_i l0 m0 h1 h2;obtain⟨h3,rfl⟩:=Dy ha;simp only[aU]at h3;obtain⟨c1,c2⟩:=sD hc;rw[kY]at hv;obtain⟨e1,e2⟩:=qX hv (bZ h3.2);simp[II,dQ]at h;cases hb:Nat.beq j i with
   | true=>
    rw[hb]at h;simp at h;subst h;have:=bZ hb;subst this;rw[(hR.at h1).2];show some (Value.agg (pT β l0).toArray)=some (Value.agg (pT γ _).toArray);rw[qS,e1,mq β h3.1,hR.th c1]
   | false=>
    rw[hb]at h;exact DP hR h2 c2 e2 i p abi
  cases ha
 | .b j ls::r,ss,vs,ha,hc,hv,i,p,h=>by
  simp[pY]at ha;split at ha
  ·split at ha
   ·rename_i b m0 h1 h2;obtain⟨h3,rfl⟩:=Dy ha;obtain⟨c1,c2⟩:=sD hc;rw[kY]at hv;obtain⟨e1,e2⟩:=qX hv (bZ h3);exact DP hR h2 c2 e2 i p h
   cases ha
  cases ha
theorem Al(hR:Rep β s a w){γ:Nat->Nat}(H6:∀i b,cZ st.bx i=some b->∃c,cZ s.bx i=some c/\c.ty=b.ty/\c.ok=b.ok)(hγ:∀i b,cZ st.bx i=some b->b.ok=true->γ i=β i):∀{ms:List MI} {ss vs:List SV} {bx:List j8},pY st s ms=some ss->ia (FZ s.bx) ss=true->V.cz γ vs=V.cz (H2 s.bx) ss->
  (∀j b',cZ bx j=some b'->∃b,cZ st.bx j=some b/\b'.ty=b.ty/\b'.ok=b.ok)->(∀j b',cZ bx j=some b'->b'.ok=true->Blk w (γ j) b'.ty (V.cz γ b'.cells)∨(Qx st ms).elem j=true)->
  ∀j b',cZ (IJ st ms vs bx) j=some b'->b'.ok=true->Blk w (γ j) b'.ty (V.cz γ b'.cells)
 | [],ss,vs,bx,_,_,_,_,hi,j,b',hb,ho=>by
  have:IJ st [] vs bx=bx:=by cases vs<;>rfl
  rw[this]at hb;rcases hi j b' hb ho with h | h
  ·exact h
  cases h
 | .s k l::r,ss,[],bx,ha,hc,hv,h0,hi,j,b',hb,ho=>by
  simp only[pY]at ha;split at ha
  ·simp only[bc]at ha;subst ha;simp[V.cz]at hv
  cases ha
 | .s k l::r,ss,v::vs,bx,ha,hc,hv,h0,hi,j,b',hb,ho=>by
  simp only[pY]at ha;split at ha
  ·rename_i v0 l0 h1 h2;simp only[bc]at ha;subst ha;simp only[ia,aU]at hc;simp only[V.cz,bG,rT]at hv;exact Al hR H6 hγ h2 hc.2 hv.2 h0 hi j b' hb ho
  cases ha
 | .a k ls::r,ss,vs,bx,ha,hc,hv,h0,hi,j,b',hb,ho=>by
  simp only[pY]at ha;split at ha
  ·rename_i l0 m0 h1 h2;obtain⟨h3,rfl⟩:=Dy ha;simp only[aU]at h3;have fl:=bZ h3.2;obtain⟨c1,c2⟩:=sD hc;rw[kY]at hv;obtain⟨e1,e2⟩:=qX hv fl;exact Al hR H6 hγ h2 c2 e2 h0 hi j b' hb ho
  cases ha
 | .b k ls::r,ss,vs,bx,ha,hc,hv,h0,hi,j,b',hb,ho=>by
  simp[pY]at ha;split at ha
  ·rename_i q hq;split at ha
   ·rename_i c m0 h1 h2;obtain⟨h3,rfl⟩:=Dy ha;have fl:=bZ h3;obtain⟨c1,c2⟩:=sD hc;rw[kY]at hv;obtain⟨e1,e2⟩:=qX hv fl;simp only[IJ,hq]at hb;cases hn:cZ bx q with
    | none=>
     rw[hn]at hb;refine Al hR H6 hγ h2 c2 e2 h0 (λi b H8 ho5=>?_) j b' hb ho;rcases hi i b H8 ho5 with h | h
     ·exact .inl h
     simp only[Qx,hq,lu]at h;split at h
     ·rename_i e;have e:=by simpa using e
      rw[e,hn]at H8;cases H8
     exact .inr h
    | some b=>
     rw[hn]at hb;obtain⟨bs,g1,g2,g3⟩:=h0 q b hn;refine Al hR H6 hγ h2 c2 e2 (λi b2 ux=>?_) (λi b2 ux ho2=>?_) j b' hb ho
     ·rw[ja hn]at ux;split at ux
      ·rename_i e;subst e;injection ux with ux;subst ux;exact⟨bs,g1,g2,g3⟩
      exact h0 i b2 ux
     rw[ja hn]at ux;split at ux
     ·rename_i e;subst e;injection ux with ux;subst ux;left;have Fy:bs.ok=true:=by rw[<-g3];exact ho2
      obtain⟨c',k1,k2,k3⟩:=H6 i bs g1;rw[h1]at k1;injection k1 with k1;subst k1;have hB:=(hR.bx i c h1 (k3.trans Fy)).blk;rw[hγ i bs g1 Fy,g2,<-k2,e1,hR.th c1];exact hB
     rename_i fX;rcases hi i b2 ux ho2 with h | h
     ·exact .inl h
     simp only[Qx,hq,lu]at h;split at h
     ·rename_i e;exact absurd (by simpa using e) fX
     exact .inr h
   cases ha
  cases ha
theorem sE{J}(h:Nu st kp ms J s)(hR:Rep β s a w)(hm:s.mv=false)(JD:Qy st kp ms s){K}(hK:F4 _ J K):
  ∃vs,K vs w/\Rep (H2 st.bx) (lU st kp ms vs w) a w:=by
 obtain⟨h0,h⟩:=dD h;obtain⟨ss,hss,h⟩:=bC h;obtain⟨hc,h⟩:=dD h;simp only[aU]at h0;obtain⟨h0,yL⟩:=h0;have hdf:s.df=st.df:=by
  obtain⟨l,hl⟩:=JD.df;have:=bZ yL;rw[hl,aW]at this;have:l=[]:=ob.1 aG;rw[hl,this,cE]
 rw[<-hR.still hm]at h;obtain⟨vs,k1,k2,k3,k4⟩:=Qv h hK;have H6:∀i b,cZ st.bx i=some b->∃c,cZ s.bx i=some c/\c.ty=b.ty/\c.ok=b.ok:=λi b hb=>by
  obtain⟨c,h1,h2,h3,_⟩:=JD.ps hb;exact⟨c,h1,h2,h3⟩
 have C8:∀i b,cZ st.bx i=some b->b.ok=true->b.blk=some (β i):=λi b hb ho=>by
  obtain⟨hs,_⟩:=DN h0.2 i b hb ho;obtain⟨c,h1,h2,h3,h4⟩:=JD.ps hb;cases hk:b.blk with
  | none=>rw[hk]at hs;cases hs
  | some k=>rw[(hR.bx i c h1 (h3.trans ho)).at_ k (h4 k hk)]
 have hγ:∀i b,cZ st.bx i=some b->b.ok=true->H2 st.bx i=β i:=λi b hb ho=>by
  unfold H2;rw[hb];dsimp only;rw[C8 i b hb ho];rfl
 have pJ:∀i,FZ st.bx i=true->H2 st.bx i=β i:=λi hi=>by
  unfold FZ at hi;cases hb:cZ st.bx i with
  | none=>rw[hb]at hi;cases hi
  | some b=>
   rw[hb]at hi;simp at hi;exact hγ i b hb hi.1
 have JE:∀i b',cZ (IJ st ms vs st.bx) i=some b'->b'.ok=true->∃b,cZ st.bx i=some b/\b.ok=true/\b'.blk=b.blk:=λi b' hb ho=>by
  cases hn:cZ st.bx i with
  | none=>rw[oc _ _ _ _ hn]at hb;cases hb
  | some b=>
   obtain⟨b2,h1,h2,h3,h4,_⟩:=iG (st:=st) ms vs st.bx i b hn;rw[h1]at hb;injection hb with hb;subst hb;exact⟨b,rfl,by rw[<-h3];exact ho,h4⟩
 refine⟨vs,k1,qT ⟨hR.ok.sz.trans JD.n,hR.ok.df.trans (bh Xm hdf),λi p hl hi=>?_⟩,λi b' hb ho=>?_,λi j bi bj g1 g2 g3 g4 rO=>?_,Only.refl _ _,λ_=>rfl⟩
 ·simp[lU]at hl;rw[tB]at hl;split at hl
  ·rename_i q hq;simp at hl;subst hl;exact DP hR hss hc (k3 _) i q hq
  obtain⟨m1,m2⟩:=y0 hl;obtain⟨k,v⟩:=p;obtain⟨v',n1,n2,n3,n4⟩:=KC h0.1 i m1 k v m2;have:=JD.slot m1 m2 n1 n2 n3;subst this;rw[hR.ok.at_ i _ n1 (by rw[JD.n];exact hi)];congr 1;exact(iE (g:=FZ st.bx) pJ _ n4).symm
 ·have hB:=Al hR H6 hγ hss hc (k3 _) (bx:=st.bx) (λj b hb=>⟨b,hb,rfl,rfl⟩) (λj b hb ho=>by
   obtain⟨_,h1⟩:=DN h0.2 j b hb ho;rw[bM]at h1;rcases h1 with h1 | ⟨c,h1,h2,h3⟩
   ·exact .inr h1
   cases hl:(Qx st ms).elem j with
   | true=>exact .inr rfl
   | false=>
    left;obtain⟨c',e1,e2,e3⟩:=H6 j b hb;rw[h1]at e1;injection e1 with e1;subst e1;have:=(hR.bx j c h1 (e3.trans ho)).blk;rw[hγ j b hb ho,<-e2,gP (g:=FZ st.bx) pJ _ h3,<-JD.cells hb h1 ho hl h2];exact this) i b' hb ho
  obtain⟨b,g1,g2,g3⟩:=JE i b' hb ho;refine⟨hB,λk hk=>?_,λhk=>?_⟩
  ·rw[hγ i b g1 g2];rw[g3,C8 i b g1 g2]at hk;simpa using hk
  rw[g3,C8 i b g1 g2]at hk;cases hk
 obtain⟨b,e1,e2,_⟩:=JE i bi g1 g3;obtain⟨c,f1,f2,_⟩:=JE j bj g2 g4;obtain⟨b',p1,_,p3⟩:=H6 i b e1;obtain⟨c',q1,_,q3⟩:=H6 j c f1;rw[hγ i b e1 e2,hγ j c f1 f2];exact hR.ne i j b' c' p1 q1 (p3.trans e2) (q3.trans f2) rO
end
def bP(S:Nat->Prop)(w w':ay):Prop:=∀k,S k->k<w.heap.size->w'.heap[k]? =w.heap[k]?
theorem bP.refl S w:bP S w w:=λ_ _ _=>rfl
theorem bP.only{S}{w w'}(h:Only [] w w'):bP S w w':=λk _ hk=>h.block k hk aaa
def wV(S:Nat->Prop)(k:Nat):Prop:=¬S k
def EE(P:Program)(ops:List Oper)(mb ms:Bool)(S:Nat->Prop)(j:Nat)(w w':ay):Prop:=match gU ops j with
 | some o=>bif jh P o.op then w'.heap=w.heap else bif mb&&(ms||!yA o.op)then bP S w w' else True
 | none=>False
def XB(mb ms:Bool)(S:Nat->Prop)(o:Op):XT:=λw0 w1 p=>bif mb&&(ms||!yA o)then bP S w0 w1/\p else p
def YB(mb ms:Bool)(S:Nat->Prop):YT:=λbk p=>bif mb&&ms then(match bk with
 | some k=>wV S k/\p
 | none=>False)else p
def qY(P:Program):Nat->List Oper->List Nat
 | _,[]=>[]
 | i,o::r=>bif jh P o.op then qY P (i+1) r else i::qY P (i+1) r
def Xw(q:Nat)(seen:List Nat):List Edge->Bool
 | []=>false
 | e::r=>(Region.binds .any e&&(Nat.beq e.on q||seen.elem e.on))||Xw q seen r
def QA(q:Nat):Nat->List Nat->List Oper->List Nat
 | _,seen,[]=>seen
 | i,seen,o::r=>bif Xw q seen o.after.toList then QA q (i+1) (i::seen) r else QA q (i+1) seen r
def T7(bI:Array Bool):Nat->List Oper->List Nat
 | _,[]=>[]
 | i,_::r=>bif bI.getD i true then i::T7 bI (i+1) r else T7 bI (i+1) r
def Nv(D N:List Nat):List Nat->List Nat
 | []=>[]
 | j::r=>bif D.elem j||N.elem j then Nv D N r else j::Nv D N r
def KD(ops:List Oper):List Nat->Bool
 | []=>true
 | j::r=>(match gU ops j with
  | some o=>!yA o.op
  | none=>false)&&KD ops r
def Dq(ops:List Oper)(q:Nat):List Nat:=(QA q 0 [] ops).reverse
def ZI(P:Program)(ops:List Oper)(bI:Array Bool)(q:Nat):List Nat:=Nv (Dq ops q) (T7 bI 0 ops) (qY P 0 ops)
def ZJ{α:Type}:List α->Bool
 | []=>true
 | _=>false
def okT(ops:List Oper)(bI:Array Bool)(q:Nat):Bool:=
 Region.noSelect ops.toArray&&Region.free .any ops.toArray bI q&&Du .any ops.toArray bI&&wM .any ops.toArray q [] (Dq ops q)&&(T7 bI 0 ops).all (λk=>bI.getD k true)
def U3(st:St)(ops:List Oper)(o:Oper)(Uj no:St->Prop):Prop:=match o.guard with
 | none=>Uj st
 | some (j,want)=>(match ZB st ops j with
  | some (_,.un)=>no st
  | some (_,.bl b)=>bif b==want then Uj st else no st
  | some (d,.bt t)=>((t=true->bif true==want then Uj (st.put (some d) (.bl true))else no (st.put (some d) (.bl true)))/\
   (t=false->bif false==want then Uj (st.put (some d) (.bl false))else no (st.put (some d) (.bl false))))
  | _=>False)
def ldB(P:Program)(S:Nat->Prop)(st:St)(t:TypeId)(a:SV)(K:SV->Prop):Prop:=match P.underlying t with
 | none=>False
 | some d=>(match a with
  | .box i o=>ck (cZ st.bx i) λb=>bif b.ok&&b.blk.isSome&&sz P t ((b.cells.drop o).take (nu P t)).length&&(lQ d||Nat.beq ((b.cells.drop o).take (nu P t)).length 1)then S (b.blk.getD 0)/\K (Nl (lQ d) ((b.cells.drop o).take (nu P t)))else False
  | .ad p=>bif !st.mv&&sz P t (P9 P 12 t).length&&(lQ d||Nat.beq (P9 P 12 t).length 1)then S p.block/\UJ (P9 P 12 t) λvs=>Cells st.w0 p (cz β0 vs)/\K (Nl (lQ d) vs)else False
  | _=>False)
def cvB(P:Program)(S:Nat->Prop)(st:St)(s d:TypeId)(a:SV)(K:SV->Prop):Prop:=match P.underlying s,P.underlying d with
 | some (.slice e),some .string=>(match P.underlying e with
  | some (.int .u8)=>ck (Kq a) λu=>bif st.mv then False else ∃l,(∀ad,u.a=some ad->S ad.block)/\zz st.w0 u l/\K (.str ⟨l.toArray⟩)
  | _=>False)
 | _,_=>False
def aev(P:Program):Op->Bool
 | .load _ _=>true
 | .convert s d _=>(match P.underlying s,P.underlying d with
  | some (.slice _),some .string=>true
  | _,_=>false)
 | _=>false
def cvI(P:Program):Op->Bool
 | .convert s d _=>(match P.underlying s,P.underlying d with
  | some (.int _),some (.int _)=>true
  | some .string,some .string=>true
  | _,_=>false)
 | _=>false
def cvZ(P:Program)(s d:TypeId)(a:SV)(K:SV->Prop):Prop:=match P.underlying s,P.underlying d with
 | some (.int _),some (.int kd)=>ck (pU a) λp=>K (.int kd (kd.wrap p.2))
 | some .string,some .string=>ck (uG a) λu=>K (.str u)
 | _,_=>False
def qP(P:Program)(ops:List Oper)(mb ms:Bool)(S:Nat->Prop)(bI:Array Bool)(q:Nat)(o:Oper)(st:St)(K:St->Prop):Prop:=
 bif jh P o.op then
  bif cvI P o.op then(match o.op with
   | .convert s d x=>ck (st.ev x) λa=>cvZ P s d a λv=>K (st.put o.dst v)
   | _=>False)
  else bif !mem o.op||ZJ (ZI P ops bI q)then ZF (nd P st o.op) st λst=>Zv P [] st o.op λv=>K (st.put o.dst v)
  else bif mb&&(ms||KD ops (ZI P ops bI q))then(match o.op with
   | .load t x=>ZF (nd P st o.op) st λst=>ck (st.ev x) λa=>ldB P S st t a λv=>K (st.put o.dst v)
   | .convert s d x=>ZF (nd P st o.op) st λst=>ck (st.ev x) λa=>cvB P S st s d a λv=>K (st.put o.dst v)
   | _=>False)else False
 else False
def fq(P:Program)(ops:List Oper):List Nat->Option Nat
 | []=>none
 | i::r=>match gU ops i with
  | some o=>bif jh P o.op then some i else fq P ops r
  | none=>none
def F6(P:Program)(ops:List Oper)(mb ms:Bool)(S:Nat->Prop):Nat->Array Bool->St->(St->Prop)->Prop
 | 0,bI,st,K=>(match Region.ready .any ops.toArray bI with
  | []=>K st
  | _=>False)
 | g+1,bI,st,K=>(match Region.ready .any ops.toArray bI with
  | []=>K st
  | i::r=>(match fq P ops (i::r)with
   | some q=>ck (gU ops q) λo=>bif okT ops bI q&&(i::r).contains q then
    U3 st ops o (λst=>qP P ops mb ms S bI q o st λst=>F6 P ops mb ms S g (bI.setIfInBounds q true) st K) (λst=>F6 P ops mb ms S g (bI.setIfInBounds q true) (st.put o.dst .un) K)else False
   | none=>(match r with
    | []=>ck (gU ops i) λo=>bif jh P o.op then False else
     U3 st ops o (λst=>loud P (XB mb ms S o.op) (YB mb ms S) st o λst=>F6 P ops mb ms S g (bI.setIfInBounds i true) st K) (λst=>F6 P ops mb ms S g (bI.setIfInBounds i true) (st.put o.dst .un) K)
    | [j]=>ck (gU ops i) λo=>ck (gU ops j) λo'=>bif jh P o.op||jh P o'.op then False else
     U3 st ops o (λst=>loud P (XB mb ms S o.op) (YB mb ms S) st o λst=>F6 P ops mb ms S g (bI.setIfInBounds i true) st K) (λst=>F6 P ops mb ms S g (bI.setIfInBounds i true) (st.put o.dst .un) K)/\
     U3 st ops o' (λst=>loud P (XB mb ms S o'.op) (YB mb ms S) st o' λst=>F6 P ops mb ms S g (bI.setIfInBounds j true) st K) (λst=>F6 P ops mb ms S g (bI.setIfInBounds j true) (st.put o'.dst .un) K)
    | _=>False)))
def mbN(P:Program)(ops:List Oper):Nat->List Oper->Bool
 | _,[]=>false
 | i,o::r=>(bif aev P o.op then(qY P 0 ops).any λj=>!(Dq ops i).elem j&&!(Dq ops j).elem i
  else false)||mbN P ops (i+1) r
def ZK(P:Program)(ops:List Oper):Nat->List Oper->Bool
 | _,[]=>false
 | i,o::r=>(bif aev P o.op then(qY P 0 ops).any λj=>!(Dq ops i).elem j&&!(Dq ops j).elem i&&(match gU ops j with
   | some o'=>yA o'.op
   | none=>false)
  else false)||ZK P ops (i+1) r
section
variable {P:Program} {ops:List Oper} {mb ms:Bool} {S:Nat->Prop} {β:Nat->Nat} {a:Act} {w:ay}
theorem Am{st}{o}{Uj no}(h:U3 st ops o Uj no)(hR:Rep β st a w):
  ∃s,Ext st s/\Rep β s a w/\((Region.wanted o (yielded ops.toArray a.tmps)=true/\Uj s)∨(Region.wanted o (yielded ops.toArray a.tmps)=false/\no s)):=by
 unfold U3 at h;split at h
 ·rename_i hg;exact⟨st,Ext.refl _,hR,.inl ⟨wn hg,h⟩⟩
 rename_i j want hg;split at h
 ·rename_i d ht;exact⟨st,Ext.refl _,hR,.inr ⟨wQ hR hg ht,h⟩⟩
 ·rename_i d b ht;have hw:=pV hR hg ht (b:=b) rfl;rcases mG h with⟨e,h⟩ | ⟨e,h⟩
  ·exact⟨st,Ext.refl _,hR,.inl ⟨hw.trans e,h⟩⟩
  exact⟨st,Ext.refl _,hR,.inr ⟨hw.trans e,h⟩⟩
 ·rename_i d t ht;obtain⟨oj,Pj,Yw,Ui⟩:=zW ht;have hw:=pV hR hg ht (b:=t) rfl;cases t with
  | true=>
   refine⟨_,Ext.put _ _ (.bl true),hR.set Ui rfl,?_⟩;rcases mG (h.1 rfl)with⟨e,h⟩ | ⟨e,h⟩
   ·exact .inl ⟨hw.trans e,h⟩
   exact .inr ⟨hw.trans e,h⟩
  | false=>
   refine⟨_,Ext.put _ _ (.bl false),hR.set Ui rfl,?_⟩;rcases mG (h.2 rfl)with⟨e,h⟩ | ⟨e,h⟩
   ·exact .inl ⟨hw.trans e,h⟩
   exact .inr ⟨hw.trans e,h⟩
 exact h.elim
theorem IK{st:St}{d}{t}{x}{l}{ad}{w'}(hu:P.underlying t=some d)(hsz:sz P t l.length=true)(kJ:lQ d=true∨Nat.beq l.length 1=true)
  (MR:a.eval x=.pointer (some ad)) (hC:Cells w' ad (cz β l)) dst t' p af g:
  (execOp a.eval ⟨dst,.load t x,t',p,af,g⟩).run P w'=.ok (.value (val β (Nl (lQ d) l))) w':=by
 rcases kJ with rF | kJ
 ·rw[oX rF];have:=ky (P:=P) hu w';rw[rF]at this;exact tw this (pu hsz w') (fx β l) MR hC
 cases rF:lQ d with
 | true=>
  have e:=oX rF β l;rw[rF]at e;rw[e];have:=ky (P:=P) hu w';rw[rF]at this;exact tw this (pu hsz w') (fx β l) MR hC
 | false=>
  obtain⟨s,rfl⟩:=zV kJ;have:=ky (P:=P) hu w';rw[rF]at this;exact yU this MR (Cells.one hC)
theorem uH:∀{l:List Oper} {i j:Nat} {o:Oper},gU l j=some o->jh P o.op=false->i+j∈qY P i l
 | [],_,_,_,h,_=>aaH
 | c::r,i,0,o,h,hp=>by
  simp[gU,bc]at h;subst h;simp[qY,hp]
 | c::r,i,j+1,o,h,hp=>by
  have:=uH (l:=r) (i:=i+1) (j:=j) h hp;rw[show i+1+j=i+(j+1) by omega]at this;simp[qY];cases jh P c.op with
  | true=>exact this
  | false=>exact dd _ this
theorem vC{D N}:∀{l:List Nat} {j:Nat},j∈l->j∉D->j∉N->j∈Nv D N l
 | c::r,j,h,h1,h2=>by
  simp only[Nv];rcases aR.1 h with rfl | h
  ·have e1:D.elem j=false:=abv
   have e2:N.elem j=false:=acD
   rw[e1,e2];simp
  cases(D.elem c||N.elem c)with
  | true=>exact vC h h1 h2
  | false=>exact dd _ (vC h h1 h2)
theorem F7:∀{l:List Nat} {j:Nat} {o:Oper},KD ops l=true->j∈l->gU ops j=some o->yA o.op=false
 | [],j,o,_,hj,_=>by cases hj
 | c::r,j,o,h,hj,ho=>by
  simp[KD,aU]at h;rcases aR.1 hj with hc | hj
  ·have h1:=h.1;rw[<-hc,ho]at h1;cases he:yA o.op with
   | false=>rfl
   | true=>dsimp only at h1;rw[he]at h1;cases h1
  exact F7 h.2 hj ho
def Sta(P:Program)(ops:List Oper)(mb ms:Bool)(S:Nat->Prop)(D N:List Nat)(F:ay->Prop):Prop:=∀j w w',j∉D->j∉N->F w->EE P ops mb ms S j w w'->F w'
theorem Xx{bI}{q}{o}{st}{K}(h:qP P ops mb ms S bI q o st K)(hR:Rep β st a w):
  ∃(v:az) (s':St) (F:ay->Prop),K s'/\Ext st s'/\Rep β s' (a.put o.dst v) w/\F w/\Sta P ops mb ms S (Dq ops q) (T7 bI 0 ops) F/\jh P o.op=true/\∀w',F w'->(execOp a.eval o).run P w'=.ok (.value v) w':=by
 rcases mG h with⟨hp,h⟩ | ⟨_,h⟩
 case inr=>exact h.elim
 rcases mG h with⟨_,h⟩ | ⟨_,h⟩
 ·obtain⟨dst,op,t',p,af,g⟩:=o;cases op with
  | convert s d x=>
   dsimp only at h;obtain⟨ax,hx,h1⟩:=bC h;unfold cvZ at h1;split at h1
   ·rename_i ks kd h2 h3;obtain⟨⟨k,n⟩,JF,h1⟩:=bC h1;exact⟨_,_,λ_=>True,h1,Ext.put _ _ _,hR.put _ _,trivial,λ_ _ _ _ _ _ _=>trivial,hp,λw' _=>B6 (run_underlying h2 w') (run_underlying h3 w') ((hR.ev hx).trans (dx JF β))⟩
   ·rename_i h2 h3;obtain⟨u,JF,h1⟩:=bC h1;exact⟨_,_,λ_=>True,h1,Ext.put _ _ _,hR.put _ _,trivial,λ_ _ _ _ _ _ _=>trivial,hp,λw' _=>B7 (run_underlying h2 w') (run_underlying h3 w') ((hR.ev hx).trans (ic JF β))⟩
   exact h1.elim
  | _=>exact h.elim
 rcases mG h with⟨hb,h⟩ | ⟨hb,h⟩
 ·obtain⟨s1,h1,e1,gY,_⟩:=wU h hR;obtain⟨v,hv,hy⟩:=IA h1;have hy:=hy trivial β a w gY;obtain⟨dst,op,t',p,af,g⟩:=o;cases hm:mem op with
  | false=>
   exact⟨val β v,_,λ_=>True,hv,e1.trans (Ext.put _ _ _),gY.put _ v,trivial,λ_ _ _ _ _ _ _=>trivial,hp,λw' _=>hy _ _ _ _ _ w' λe=>by rw[hm]at e;cases e⟩
  | true=>
   have hn:=by simpa[hm]using hb
   refine⟨val β v,_,λw'=>w'.heap=w.heap,hv,e1.trans (Ext.put _ _ _),gY.put _ v,rfl,λj w1 w2 hD hN hF hE=>?_,hp,λw' hF=>hy _ _ _ _ _ w' λ_=>hF⟩;unfold EE at hE;split at hE
   ·rename_i oj hj;rcases mG hE with⟨_,e⟩ | ⟨e,_⟩
    ·exact e.trans hF
    have:=vC (by have:=uH (i:=0) hj e;rwa[bM]at this) hD hN;unfold ZI at hn;revert hn this;generalize Nv (Dq ops q) (T7 bI 0 ops) (qY P 0 ops)=m;intro hn this;cases m with
    | nil=>cases this
    | cons=>cases hn
   exact hE.elim
 obtain⟨h0,h⟩:=dD h;simp only[aU]at h0;obtain⟨dst,op,t',p,af,g⟩:=o;have nS:∀F:ay->Prop,∀k:Nat,S k->(∀w1 w2:ay,F w1->w2.heap[k]? =w1.heap[k]? ->F w2)->(∀w1,F w1->k<w1.heap.size)->Sta P ops mb ms S (Dq ops q) (T7 bI 0 ops) F:=by
  intro F k hk Pm hF2 j w1 w2 hD hN hF hE;unfold EE at hE;split at hE
  ·rename_i oj hj;rcases mG hE with⟨_,e⟩ | ⟨e,hE⟩
   ·exact Pm w1 w2 hF (by rw[e])
   have:=vC (by have:=uH (i:=0) hj e;rwa[bM]at this) hD hN;have hs:(ms||!yA oj.op)=true:=by
    rcases bU _ _▸h0.2 with h2 | h2
    ·rw[h2];rfl
    rw[F7 h2 this hj,Bool.not_false,Kb]
   rw[h0.1,hs]at hE;exact Pm w1 w2 hF (hE k hk (hF2 _ hF))
  exact hE.elim
 cases op with
 | load t x=>
  dsimp only at h;obtain⟨s1,h1,e1,gY,_⟩:=wU h hR;obtain⟨ax,hx,h1⟩:=bC h1;unfold ldB at h1;split at h1
  ·exact h1.elim
  rename_i d hu;split at h1
  ·rename_i i off;obtain⟨b,qC,h1⟩:=bC h1;obtain⟨hc,hS,hK⟩:=dD h1;simp only[aU,bU]at hc;obtain⟨⟨⟨mP,Pk⟩,hsz⟩,kJ⟩:=hc;have hBO:=gY.bx i b qC mP;have hB:=hBO.blk;have hbe:b.blk.getD 0=β i:=by
    cases hk:b.blk with
    | none=>rw[hk]at Pk;cases Pk
    | some k=>rw[hBO.at_ k hk];rfl
   rw[hbe]at hS;have MR:=gY.ev hx;refine⟨_,_,λw'=>Blk w' _ b.ty _,hK,e1.trans (Ext.put _ _ _),gY.put _ _,hB,nS _ _ hS (λw1 w2 hF e=>by unfold Blk at hF⊢;rw[e];exact hF) (λw1 hF=>hF.lt),hp,λw' hF=>?_⟩;generalize hl:(b.cells.drop off).take (nu P t)=l at*
   have hC:Cells w' ⟨β i,off,none⟩ (cz β l):=hF.EV off _ (by
    rw[fx,<-hl];simp only[cz,nj,qN];rw[cK,pN];simp only[cM,bA];omega)
   exact IK (st:=st) hu hsz kJ MR hC _ _ _ _ _
  ·rename_i ad;obtain⟨hc,hS,h2⟩:=dD h1;simp only[aU,bU,dj]at hc;obtain⟨⟨rW,hsz⟩,kJ⟩:=hc;obtain⟨vs,⟨hF,hK⟩,fl,pJ⟩:=sf h2;rw[<-gY.still rW]at hF;have hv:∀w',Cells w' ad _->Cells w' ad (cz β vs):=λw' h=>by
    rw[gP (β:=β) (β':=β0) (g:=λ_=>false) (λi h=>aaH) vs (pJ _)];exact h
   rw[<-fl]at hsz kJ;by_cases Wz:cz β0 vs=[]
   ·refine⟨_,_,λ_=>True,hK,e1.trans (Ext.put _ _ _),gY.put _ _,trivial,λ_ _ _ _ _ _ _=>trivial,hp,λw' _=>?_⟩;exact IK (st:=st) hu hsz kJ (gY.ev hx) (hv w' (by rw[Wz];intro j v hj;simp at hj)) _ _ _ _ _
   exact⟨_,_,λw'=>Cells w' ad _,hK,e1.trans (Ext.put _ _ _),gY.put _ _,hF,nS _ ad.block hS (λw1 w2 hF e=>hF.keep e) (λw1 hF=>hF.lt' Wz),hp,λw' hF=>IK (st:=st) hu hsz kJ (gY.ev hx) (hv w' hF) _ _ _ _ _⟩
  exact h1.elim
 | convert s d x=>
  dsimp only at h;obtain⟨s1,h1,e1,gY,_⟩:=wU h hR;obtain⟨ax,hx,h1⟩:=bC h1;unfold cvB at h1;split at h1
  ·rename_i e hu1 hu2;split at h1
   ·rename_i hu3;obtain⟨u,JF,h1⟩:=bC h1;cases hm:s1.mv with
    | true=>rw[hm]at h1;exact h1.elim
    | false=>
     rw[hm]at h1;obtain⟨l,hS,hF,hK⟩:=h1;rw[<-(gY.still hm)]at hF;refine⟨_,_,λw'=>zz w' u l,hK,e1.trans (Ext.put _ _ _),gY.put _ _,hF,?_,hp,λw' hF'=>zE hu1 hu3 hu2 ((gY.ev hx).trans (jQ JF β)) hF'⟩;by_cases hl:l=[]
     ·subst hl;exact λj w1 w2 _ _ Pm _=>⟨Pm.1,λhh=>absurd rfl hh⟩
     obtain⟨ad,ha,_⟩:=hF.2 hl;refine nS _ ad.block (hS ad ha) (λw1 w2 Pm e=>⟨Pm.1,λhh=>?_⟩) (λw1 Pm=>?_)
     ·obtain⟨Ot,HN,hC⟩:=Pm.2 hh;rw[ha]at HN;injection HN with HN;subst HN;exact⟨ad,ha,hC.keep e⟩
     obtain⟨Ot,HN,hC⟩:=Pm.2 hl;rw[ha]at HN;injection HN with HN;subst HN;exact hC.lt' (by cases l with
      | nil=>exact absurd rfl hl
      | cons c l=>simp)
   exact h1.elim
  exact h1.elim
 | _=>exact h.elim
theorem qZ{j}{o}(hj:gU ops j=some o) w:EE P ops mb ms S j w w:=by
 unfold EE;rw[hj];dsimp only;cases jh P o.op with
 | true=>rfl
 | false=>
  cases(mb&&_)with
  | true=>exact bP.refl _ _
  | false=>exact trivial
theorem F8{Q}{j}{o}{st}{K}(hj:gU ops j=some o)(hp:jh P o.op=false)(h:loud P (XB mb ms S o.op) (YB mb ms S) st o K)(hR:Rep β st a w):o.wp P a w (Xu (EE P ops mb ms S j) st K w) Q:=by
 have hEE:EE P ops mb ms S j=λw w'=>bif mb&&(ms||!yA o.op)then bP S w w' else True:=by
  unfold EE;rw[hj];dsimp only;rw[hp];rfl
 refine DL (λw0 w1 p hx=>?_) (λw w1 hO=>?_) (λhs bk k w w1 p hy hk hO=>?_) h hR
 ·rw[hEE];unfold XB at hx;cases hb:(mb&&_)with
  | true=>rw[hb]at hx;exact⟨hx.2,hx.1⟩
  | false=>rw[hb]at hx;exact⟨hx,trivial⟩
 ·rw[hEE];cases(mb&&_)with
  | true=>exact bP.only hO
  | false=>exact trivial
 rw[hEE];rw[hs,Bool.not_true,Bool.or_false];unfold YB at hy;cases hb:(mb&&ms)with
 | true=>
  rw[hb]at hy;cases bk with
  | none=>exact hy.elim
  | some j=>
   refine⟨hy.2,λq hq cd=>hO.block q cd ?_⟩;have:=hk j rfl;subst this;simp;rintro rfl;exact hy.1 hq
 | false=>rw[hb]at hy;exact⟨hy,trivial⟩
theorem sF{Q}(hQ:∀c a w,¬Q (.panic c) a w):∀{g:Nat} {bI:Array Bool} {st:St} {K:St->Prop} {β:Nat->Nat} {a:Act} {w:ay},F6 P ops mb ms S g bI st K->Rep β st a w->
  (∀β' cN a' w',K cN->Ext st cN->Rep β' cN a' w'->Q .normal a' w')->fW P .any ops.toArray Q (EE P ops mb ms S) g bI a w
 | 0,bI,st,K,β,a,w,h,hR,hK=>by
  unfold F6 at h;split at h
  ·rename_i hr;exact⟨hr,hK β st a w h (Ext.refl _) hR⟩
  exact h.elim
 | g+1,bI,st,K,β,a,w,h,hR,hK=>by
  have L:∀{j:Nat} {o:Oper},gU ops j=some o->jh P o.op=false->
    U3 st ops o (λst=>loud P (XB mb ms S o.op) (YB mb ms S) st o λst=>F6 P ops mb ms S g (bI.setIfInBounds j true) st K) (λst=>F6 P ops mb ms S g (bI.setIfInBounds j true) (st.put o.dst .un) K)->
    if Region.wanted o (yielded ops.toArray a.tmps)then o.wp P a w (λa' w'=>EE P ops mb ms S j w w'/\fW P .any ops.toArray Q (EE P ops mb ms S) g (bI.setIfInBounds j true) a' w') Q∨(o.asks P a w/\LetsOut Q)
    else(λa' w'=>EE P ops mb ms S j w w'/\fW P .any ops.toArray Q (EE P ops mb ms S) g (bI.setIfInBounds j true) a' w') (a.put o.dst undef) w:=by
   intro j o ho hp h;obtain⟨s,e1,gY,h1⟩:=Am h hR;rcases h1 with⟨hw,h1⟩ | ⟨hw,h1⟩
   ·rw[aZ hw];refine .inl (Oper.wp_mono ?_ (F8 ho hp h1 gY));rintro a' w' ⟨β',cN,k1,k2,k3,k4⟩;exact⟨k3,sF hQ k1 k4 λβ2 uU a2 w2 m1 m2 m3=>hK β2 uU a2 w2 m1 ((e1.trans k2).trans m2) m3⟩
   rw[aX (by simp[hw])];exact⟨qZ ho w,sF hQ h1 (gY.put o.dst .un) λβ2 uU a2 w2 m1 m2 m3=>hK β2 uU a2 w2 m1 ((e1.trans (Ext.put _ _ _)).trans m2) m3⟩
  unfold F6 at h;split at h
  ·rename_i hr;exact Zh hr (hK β st a w h (Ext.refl _) hR)
  rename_i i r hr;split at h
  ·rename_i q hq;obtain⟨o,ho,h⟩:=bC h;obtain⟨hc,h⟩:=dD h;simp only[aU,okT]at hc;obtain⟨⟨⟨⟨⟨c1,c2⟩,c3⟩,c4⟩,c5⟩,c6⟩:=hc;obtain⟨s,e1,gY,h1⟩:=Am h hR;rcases h1 with⟨hw,h1⟩ | ⟨hw,h1⟩
   ·obtain⟨v,s2,F,k1,k2,k3,k4,k5,k6,k7⟩:=Xx h1 gY;have hE:∀w1,F w1->EE P ops mb ms S q w1 w1:=λw1 _=>qZ ho w1;exact PY q _ _ v F ho c1 c2 (by rw[hr];exact c6) c3 c4 c5 (λc a w hp=>(hQ _ _ _ hp).elim) k5 hE k4 (Xi hw k7) rfl
     (sF hQ k1 k3 λβ2 uU a2 w2 m1 m2 m3=>hK β2 uU a2 w2 m1 ((e1.trans k2).trans m2) m3)
   exact PY q _ _ undef _ ho c1 c2 (by rw[hr];exact c6) c3 c4 c5 (λc a w hp=>(hQ _ _ _ hp).elim) (λ_ _ _ _ _ _ _=>trivial) (λw1 _=>qZ ho w1) trivial (aea hw) rfl
    (sF hQ h1 (gY.put o.dst .un) λβ2 uU a2 w2 m1 m2 m3=>hK β2 uU a2 w2 m1 ((e1.trans (Ext.put _ _ _)).trans m2) m3)
  split at h
  ·obtain⟨o,ho,h⟩:=bC h;rcases mG h with⟨_,h⟩ | ⟨hp,h⟩
   ·exact h.elim
   obtain⟨s,e1,gY,h1⟩:=Am h hR;rcases h1 with⟨hw,h1⟩ | ⟨hw,h1⟩
   ·refine ad8 i ho hr hw (Oper.wp_mono ?_ (F8 ho hp h1 gY));rintro a' w' ⟨β',cN,k1,k2,k3,k4⟩;exact⟨k3,sF hQ k1 k4 λβ2 uU a2 w2 m1 m2 m3=>hK β2 uU a2 w2 m1 ((e1.trans k2).trans m2) m3⟩
   exact UD i ho hr hw (qZ ho w) rfl (sF hQ h1 (gY.put o.dst .un) λβ2 uU a2 w2 m1 m2 m3=>hK β2 uU a2 w2 m1 ((e1.trans (Ext.put _ _ _)).trans m2) m3)
  ·rename_i j _;obtain⟨o,ho,h⟩:=bC h;obtain⟨o',Pn,h⟩:=bC h;rcases mG h with⟨_,h⟩ | ⟨hp,h⟩
   ·exact h.elim
   simp at hp;exact ad9 i j ho Pn hr (L ho hp.1 h.1) (L Pn hp.2 h.2)
  exact h.elim
end
end Go.Kt.V
