import Derived.Test.YtbkjcdocjfknfaaGreatDoorQt1
import Derived.Shelf.Strings.Builder1
import Derived.Shelf.Strings.Builder2
import Derived.Shelf.Strings.OnBuilder
import Derived.Shelf.Small.Bits
import Derived.Shelf.Strings.BuilderF
import Derived.Shelf.Strconv.Itoa0
import Derived.Shelf.Strconv.Itoa1
import Derived.Shelf.LaysM
import Derived.Shelf.Strconv.Itoa2
import Derived.Shelf.Strconv.Itoa3
import Derived.Shelf.Strconv.ParseIntEmpty
import Derived.Shelf.Strconv.Clone
import Derived.Shelf.Strconv.SyntaxError
import Derived.Shelf.LaysC
import Derived.Shelf.Strconv.ToError
import Derived.Shelf.Strconv.Lower
import Derived.Shelf.Strconv.ParseUint10
import Derived.Shelf.Strconv.ParseUint10Empty
import Derived.Shelf.Strconv.ParseUint10Any
import Derived.Shelf.Strconv.ParseInt10
import Derived.Shelf.Strconv.RangeError
import Derived.Shelf.Strconv.ToErrorRange
import Derived.Shelf.Strconv.ParseUintEmpty
import Derived.Shelf.Strconv.ParseUint10b64
import Derived.Shelf.Strconv.ParseUint10b32
import Derived.Shelf.Strconv.ParseUint10b16
import Derived.Shelf.Strconv.ParseUint10b8
import Derived.Shelf.Strconv.ParseUint10At
import Derived.Shelf.Strconv.ParseInt10At64
import Derived.Shelf.Strconv.ParseInt10At32
import Derived.Shelf.Strconv.ParseInt10At16
import Derived.Shelf.Strconv.ParseInt10At8
import Derived.Shelf.Strconv.ParseInt10All
import Derived.Shelf.Strconv.ParseIntPublic10
import Derived.Shelf.Strconv.ErrVarParseInt
import Derived.Shelf.Strings.Search1
import Derived.Shelf.Strings.Search2
import Derived.Shelf.Strings.Cut
import Derived.Shelf.Strings.Shaped
import Derived.Shelf.Sort.Plain
import Derived.Shelf.Strings.Prefix
import Derived.Shelf.Bits.Mul64
import Derived.Shelf.Strings.Repeat
import Derived.Shelf.Slices.Clone
import Derived.Shelf.Slices.CompactI
import Derived.Shelf.Slices.SearchI
import Derived.Shelf.Slices.Cells
import Derived.Shelf.Slices.In.SortNone
import Derived.Shelf.Slices.Empties
import Derived.Shelf.SlicesE.Clone
set_option linter.unusedSectionVars false
namespace Go.Kt.V
open Go renaming World->av,Value->aw
open Go Go.RowKit Go.Kt
set_option linter.unusedSimpArgs false
set_option linter.unusedVariables false
def bU{α:Type}(o:Option α)(K:α->Prop):Prop:=match o with
 | some v=>K v
 | none=>False
theorem ba{α}{o:Option α}{K}(h:bU o K):∃v,o=some v/\K v:=by
 cases o with
 | none=>exact h.elim
 | some v=>exact⟨v,rfl,h⟩
def gi:List (Bool×Bool)->Prop->Prop
 | [],p=>p
 | (t,b)::r,p=>t=b->gi r p
def gh:List (Bool×Bool)->Prop
 | []=>True
 | (t,b)::r=>t=b/\gh r
theorem fu:∀{gs:List _} {p:Prop},gi gs p->gh gs->p
 | [],_,h,_=>h
 | _::r,p,h,k=>fu (gs:=r) (h k.1) k.2
inductive Lf where
 | int (k:IntKind)
 | bool
 | str
 | ptr
 | sl
 | map
 | raw
def Lf.T:Lf->Type
 | .int _=>Int
 | .bool=>Bool
 | .str=>ByteArray
 | .ptr=>Option Addr
 | .sl=>Sl
 | .map=>Option Nat
 | .raw=>OV
def Lf.sv:(l:Lf)->l.T->SV
 | .int k,x=>.int k x
 | .bool,x=>.bt x
 | .str,x=>.str x
 | .ptr,x=>.ptr x
 | .sl,x=>.sl x
 | .map,x=>.map x
 | .raw,x=>.raw x
theorem Lf.cln g (l:Lf) x:V.cln g (l.sv x)=true:=by cases l<;>rfl
def R9:List Lf->(List SV->Prop)->Prop
 | [],K=>K []
 | l::r,K=>∃x,R9 r fun vs=>K (l.sv x::vs)
theorem rM:∀{ls:List Lf} {K:List SV->Prop},R9 ls K->∃vs,K vs/\vs.length=ls.length/\∀g,fL g vs=true
 | [],K,h=>⟨[],h,rfl,fun _=>rfl⟩
 | l::r,K,h=>by
  obtain⟨x,h⟩:=h;obtain⟨vs,h1,h2,h3⟩:=rM (ls:=r) h;exact⟨_,h1,by simp[h2],fun g=>by simp[fL,Lf.cln,h3 g,jw]⟩
def adZ:TypeDesc->Lf
 | .int k=>.int k
 | .bool=>.bool
 | .string=>.str
 | .pointer _=>.ptr
 | .slice _=>.sl
 | .map _ _=>.map
 | _=>.raw
def rep{α:Type}:Nat->List α->List α
 | 0,_=>[]
 | n+1,l=>l++rep n l
def flat{α β:Type}(f:α->List β):List α->List β
 | []=>[]
 | x::r=>f x++flat f r
def K8(P:Program):Nat->TypeId->List Lf
 | 0,_=>[]
 | n+1,t=>match P.underlying t with
  | some (.struct fs)=>flat (fun f:Field=>K8 P n f.type) fs.toList
  | some (.array len e)=>rep len (K8 P n e)
  | some d=>[adZ d]
  | none=>[]
def jY:TypeDesc->Bool
 | .struct _=>true
 | .array _ _=>true
 | _=>false
def IZ(ag:Bool)(l:List SV):SV:=bif ag then .agg (lV l)else l.headD .un
def β0:Nat->Nat:=fun _=>0
def nu:SV->Option (IntKind×Int)
 | .int k n=>some (k,n)
 | .il k n=>some (k,n)
 | _=>none
theorem cQ{s}{k}{n}(h:nu s=some (k,n)) β:val β s=.int k n:=by
 cases s<;>simp[nu,aX,eB,reduceCtorEq]at h
 all_goals obtain⟨rfl,rfl⟩:=h;rfl
def wL:SV->Option Bool
 | .bl b=>some b
 | .bt b=>some b
 | _=>none
theorem jZ{s}{b}(h:wL s=some b) β:val β s=.bool b:=by
 cases s<;>simp[wL,aX,reduceCtorEq]at h
 all_goals subst h;rfl
def rN:SV->Option ByteArray
 | .str s=>some s
 | _=>none
theorem fM{s}{b}(h:rN s=some b) β:val β s=.string b:=by
 cases s<;>simp[rN,aX,reduceCtorEq]at h
 all_goals subst h;rfl
def Gs:SV->Option Sl
 | .sl s=>some s
 | .nsl=>some Sl.nil
 | _=>none
theorem iC{s}{b}(h:Gs s=some b) β:val β s=b.v:=by
 cases s<;>simp[Gs,aX,reduceCtorEq]at h
 all_goals subst h;rfl
def ib(op:BinOp)(k:IntKind)(m n:Int):Option SV:=match op with
 | .add=>some (.int k (k.wrap (m+n)))
 | .sub=>some (.int k (k.wrap (m-n)))
 | .mul=>some (.int k (k.wrap (m*n)))
 | .eql=>some (.bt (m==n))
 | .neq=>some (.bt (m !=n))
 | .lss=>some (.bt (decide (m<n)))
 | .leq=>some (.bt (decide (m<=n)))
 | .gtr=>some (.bt (decide (m>n)))
 | .geq=>some (.bt (decide (m>=n)))
 | .and=>some (.int k (bits .and k m n))
 | .or=>some (.int k (bits .or k m n))
 | .xor=>some (.int k (bits .xor k m n))
 | .andNot=>some (.int k (bits .andNot k m n))
 | _=>none
def sb(op:BinOp)(s u:ByteArray):Option SV:=match op with
 | .eql=>some (.bt (s.toList==u.toList))
 | .neq=>some (.bt (!(s.toList==u.toList)))
 | .lss=>some (.bt (Op.bytesLess s.toList u.toList))
 | .geq=>some (.bt (!(Op.bytesLess s.toList u.toList)))
 | .leq=>some (.bt (Op.bytesLess s.toList u.toList||(s.toList==u.toList)))
 | .gtr=>some (.bt (!(Op.bytesLess s.toList u.toList||(s.toList==u.toList))))
 | _=>none
def nz(gs:List (Bool×Bool))(b:SV)(n:Int)(K:Prop):Prop:=match b with
 | .il _ _=>bif n==0 then False else K
 | _=>gi gs (n≠0)/\K
def ge0(gs:List (Bool×Bool))(b:SV)(n:Int)(K:Prop):Prop:=match b with
 | .il _ _=>bif decide (0<=n)then K else False
 | _=>gi gs (0<=n)/\K
def sJ:SV->Option (Option Addr)
 | .np=>some none
 | .ptr p=>some p
 | .ad a=>some (some a)
 | _=>none
theorem PU{s}{p}(h:sJ s=some p) β:val β s=.pointer p:=by
 cases s<;>simp[sJ,aX,reduceCtorEq]at h
 all_goals subst h;rfl
def pn(op:BinOp)(a:SV):Option SV:=match op,a with
 | .eql,.ptr p=>some (.bt p.isNone)
 | .neq,.ptr p=>some (.bt (!p.isNone))
 | .eql,.ad _=>some (.bl false)
 | .neq,.ad _=>some (.bl true)
 | .eql,.box _ _=>some (.bl false)
 | .neq,.box _ _=>some (.bl true)
 | .eql,.np=>some (.bl true)
 | .neq,.np=>some (.bl false)
 | _,_=>none
def sn(op:BinOp)(s:Sl):Option SV:=match op with
 | .eql=>some (.bt s.a.isNone)
 | .neq=>some (.bt (!s.a.isNone))
 | _=>none
def K9:SV->Bool
 | .np=>true
 | _=>false
def Cw:SV->Bool
 | .nsl=>true
 | _=>false
def eq1(P:Program)(t:TypeId)(x y:SV):Option Bool:=match P.underlying t with
 | some (.int _)=>(match nu x,nu y with
  | some (k,m),some (k',n)=>bif decide (k=k')then some (m==n)else none
  | _,_=>none)
 | some .string=>(match rN x,rN y with
  | some s,some u=>some (s==u)
  | _,_=>none)
 | some .bool=>(match wL x,wL y with
  | some s,some u=>some (s==u)
  | _,_=>none)
 | _=>none
def Cx(P:Program)(xs ys:List SV):List Field->Option Bool
 | []=>some true
 | f::r=>bif f.name== "_" then none else match xs[f.offset]?,ys[f.offset]? with
  | some x,some y=>(match eq1 P f.type x y,Cx P xs ys r,r with
   | some b,some _,[]=>some b
   | some b,some c,_=>some (b&&c)
   | _,_,_=>none)
  | _,_=>none
def T0(P:Program)(t:TypeId)(fs:Array Field)(a b:SV):Option Bool:=match a,b with
 | .agg l,.agg m=>bif yK l&&yK m&&!P.stoodInHeld t&&!P.eqGuardType P.depth t then Cx P (kJ l) (kJ m) fs.toList else none
 | _,_=>none
def T1(op:BinOp)(b:Bool):Option SV:=match op with
 | .eql=>some (.bt b)
 | .neq=>some (.bt (!b))
 | _=>none
def mn(op:BinOp)(a b:SV):Option SV:=match op,a,b with
 | .eql,.map m,.map none=>some (.bt m.isNone)
 | .neq,.map m,.map none=>some (.bt (!m.isNone))
 | _,_,_=>none
def T2(P:Program)(gs:List (Bool×Bool))(op:BinOp)(t:TypeId)(a b:SV)(K:SV->Prop):Prop:=
 match nu a,nu b with
 | some (k,m),some (k',n)=>(match op with
  | .shl=>ge0 gs b n (K (.int k (k.wrap (m*2 ^ (min n.toNat k.bits)))))
  | .shr=>ge0 gs b n (K (.int k (m.fdiv (2 ^ (min n.toNat k.bits)))))
  | .quo=>bif decide (k=k')then nz gs b n (K (.int k (k.wrap (m.tdiv n))))else False
  | .rem=>bif decide (k=k')then nz gs b n (K (.int k (m.tmod n)))else False
  | _=>bif decide (k=k')then bU (ib op k m n) K else False)
 | _,_=>match rN a,rN b with
  | some s,some u=>(match op with
   | .add=>gi gs ((s.size:Int)+u.size<=9223372036854775807)/\K (.str (s++u))
   | _=>bU (sb op s u) K)
  | _,_=>match wL a,wL b,P.underlying t with
   | some s,some u,some .bool=>(match op with
    | .eql=>K (.bt (s==u))
    | .neq=>K (.bt (!(s==u)))
    | _=>False)
   | _,_,_=>match P.underlying t with
    | some (.pointer _)=>bif K9 b then bU (pn op a) K else bif K9 a then bU (pn op b) K else False
    | some (.slice _)=>bif Cw b then bU ((Gs a).bind (sn op)) K else bif Cw a then bU ((Gs b).bind (sn op)) K else False
    | some (.struct fs)=>bU (T0 P t fs a b) fun r=>bU (T1 op r) K
    | some (.map _ _)=>bU (mn op a b) K
    | _=>False
section
variable {P:Program} {gs:List (Bool×Bool)} {K:SV->Prop}
theorem Sa{b}{k}{n}{K}(hb:nu b=some (k,n))(h:nz gs b n K):K/\(gh gs->n≠0):=by
 unfold nz at h;split at h
 ·cases hn:(n==0)with
  | true=>rw[hn]at h;exact h.elim
  | false=>rw[hn]at h;exact⟨h,fun _=>by simpa using hn⟩
 ·exact⟨h.2,fun g=>fu h.1 g⟩
theorem Lb{b}{n}{K}(h:ge0 gs b n K):K/\(gh gs->0<=n):=by
 unfold ge0 at h;split at h
 ·by_cases hn:0<=n
  ·rw[bI hn]at h;exact⟨h,fun _=>hn⟩
  ·rw[bq hn]at h;exact h.elim
 ·exact⟨h.2,fun g=>fu h.1 g⟩
theorem cX{b}{p}(h:bif b then p else False):b=true/\p:=by
 cases b with
 | true=>exact⟨rfl,h⟩
 | false=>exact h.elim
def ky(P:Program)(op:BinOp)(t:TypeId)(a b v:SV):Prop:=
 ∀β (act:Act) x y dst ty t' p af g w,act.eval x=val β a->act.eval y=val β b->
  (execOp act.eval ⟨dst,.binOp op t x y ty,t',p,af,g⟩).run P w=.ok (.value (val β v)) w
theorem YC{op}{t}{a b v}{k}{m n}(ha:nu a=some (k,m))(hb:nu b=some (k,n))(h:ib op k m n=some v):ky P op t a b v:=by
 intro β act x y dst ty t' p af g w hx hy;rw[cQ ha]at hx;rw[cQ hb]at hy;cases op<;>simp[ib,aX,reduceCtorEq]at h
 all_goals subst h;simp[execOp,hx,hy];cases k<;>rfl
theorem YD{op}{t}{a b v}{s u}(ha:rN a=some s)(hb:rN b=some u)(h:sb op s u=some v):ky P op t a b v:=by
 intro β act x y dst ty t' p af g w hx hy;rw[fM ha]at hx;rw[fM hb]at hy;cases op<;>simp only[sb,aX,reduceCtorEq]at h
 all_goals subst h;simp only[execOp,hx,hy];rfl
theorem Sc{op}{t e}{a b v}(hu:P.underlying t=some (.pointer e))(hb:K9 b=true)(h:pn op a=some v):ky P op t a b v/\ky P op t b a v:=by
 have hbv:∀β,val β b=.pointer none:=fun β=>by
  unfold K9 at hb;split at hb
  ·rfl
  ·cases hb
 have key:∀β,∃(q:Option Addr) (r:Bool),val β a=.pointer q/\val β v=.bool r/\((op=.eql/\q.isNone=r)∨(op=.neq/\(!q.isNone)=r)):=by
  intro β;unfold pn at h;split at h<;>simp only[aX,reduceCtorEq]at h<;>subst h
  ·exact⟨_,_,rfl,rfl,.inl ⟨rfl,rfl⟩⟩
  ·exact⟨_,_,rfl,rfl,.inr ⟨rfl,rfl⟩⟩
  ·exact⟨_,_,rfl,rfl,.inl ⟨rfl,rfl⟩⟩
  ·exact⟨_,_,rfl,rfl,.inr ⟨rfl,rfl⟩⟩
  ·exact⟨_,_,rfl,rfl,.inl ⟨rfl,rfl⟩⟩
  ·exact⟨_,_,rfl,rfl,.inr ⟨rfl,rfl⟩⟩
  ·exact⟨_,_,rfl,rfl,.inl ⟨rfl,rfl⟩⟩
  ·exact⟨_,_,rfl,rfl,.inr ⟨rfl,rfl⟩⟩
 constructor
 ·intro β act x y dst ty t' p af g w hx hy;obtain⟨q,r,h1,h2,h3⟩:=key β;rw[h1]at hx;rw[hbv]at hy;rw[h2];rcases h3 with⟨rfl,h3⟩ | ⟨rfl,h3⟩
  ·exact Ad (run_underlying hu w) hx hy h3
  ·exact Af (run_underlying hu w) hx hy h3
 ·intro β act x y dst ty t' p af g w hx hy;obtain⟨q,r,h1,h2,h3⟩:=key β;rw[h1]at hy;rw[hbv]at hx;rw[h2];rcases h3 with⟨rfl,h3⟩ | ⟨rfl,h3⟩
  ·exact Ae (run_underlying hu w) hx hy h3
  ·exact Ag (run_underlying hu w) hx hy h3
theorem Se{op}{t e}{a b v}(hu:P.underlying t=some (.slice e))(hb:Cw b=true)(h:(Gs a).bind (sn op)=some v):ky P op t a b v/\ky P op t b a v:=by
 have hbv:∀β,val β b=.slice none 0 0:=fun β=>by
  unfold Cw at hb;split at hb
  ·rfl
  ·cases hb
 cases hs:Gs a with
 | none=>rw[hs]at h;cases h
 | some s=>
  rw[hs]at h;simp at h;constructor
  ·intro β act x y dst ty t' p af g w hx hy;rw[iC hs]at hx;rw[hbv]at hy;cases op<;>simp only[sn,aX,reduceCtorEq]at h<;>subst h
   ·exact Ci (run_underlying hu w) hx hy
   ·exact Ck (run_underlying hu w) hx hy
  ·intro β act x y dst ty t' p af g w hx hy;rw[iC hs]at hy;rw[hbv]at hx;cases op<;>simp only[sn,aX,reduceCtorEq]at h<;>subst h
   ·exact Cj (run_underlying hu w) hx hy
   ·exact Cm (run_underlying hu w) hx hy
theorem YE{op:BinOp}{t k e:TypeId}{a b v}(hu:P.underlying t=some (.map k e))(h:mn op a b=some v):ky P op t a b v:=by
 intro β act x y dst ty t' p af g w hx hy;unfold mn at h;split at h<;>simp only[aX,reduceCtorEq]at h<;>subst h
 all_goals
  rename_i m;change act.eval x=.map m at hx;change act.eval y=.map none at hy;have hE:∀d,(Op.equalIn (d+1) t (.map m) (.map none)).run P w=.ok m.isNone w:=fun d=>by
   unfold Op.equalIn;cases m<;>simp[Sem.run_bind,run_underlying hu w,Result.andThen_ok]<;>rfl
 ·have hB:binOp .eql t (.map m) (.map none)=(do pure (.bool ((<-Op.equal t (.map m) (.map none))))):=by cases m<;>rfl
  have hG:eqGuard .eql t x y (.map m) (.map none)=pure _:=rfl;simp[execOp,hx,hy,hG,hB,Op.equal,Op.maxDepth,Sem.run_bind,Sem.run_pure,Result.andThen_ok,hE 9999];rfl
 ·have hB:binOp .neq t (.map m) (.map none)=(do pure (.bool (!(<-Op.equal t (.map m) (.map none))))):=by cases m<;>rfl
  have hG:eqGuard .neq t x y (.map m) (.map none)=pure _:=rfl;simp[execOp,hx,hy,hG,hB,Op.equal,Op.maxDepth,Sem.run_bind,Sem.run_pure,Result.andThen_ok,hE 9999];rfl
theorem PV{t}{x y}{b}(h:eq1 P t x y=some b) β d w:P.plainKey t=true/\(Op.equalIn (d+1) t (val β x) (val β y)).run P w=.ok b w:=by
 unfold eq1 at h;split at h
 ·rename_i k hu;refine⟨by simp[Program.plainKey,hu],?_⟩;split at h
  ·rename_i k1 m k2 n hx hy;cases hk:decide (k1=k2)with
   | false=>rw[hk]at h;cases h
   | true=>
    rw[hk]at h;injection h with h;subst h;have hk:=aP hk;subst hk;rw[cQ hx,cQ hy];simp[Op.equalIn,run_underlying hu]
  ·cases h
 ·rename_i hu;refine⟨by simp[Program.plainKey,hu],?_⟩;split at h
  ·rename_i s u hx hy;injection h with h;subst h;rw[fM hx,fM hy];simp[Op.equalIn,run_underlying hu]
  ·cases h
 ·rename_i hu;refine⟨by simp[Program.plainKey,hu],?_⟩;split at h
  ·rename_i s u hx hy;injection h with h;subst h;rw[jZ hx,jZ hy];simp[Op.equalIn,run_underlying hu]
  ·cases h
 ·cases h
theorem Cy{xs ys} β d w:∀{fs:List Field} {b:Bool},Cx P xs ys fs=some b->(Op.eqFields (d+1) (cm β xs).toArray (cm β ys).toArray fs).run P w=.ok b w
 | [],b,h=>by
  simp[Cx,aX]at h;subst h;simp[Op.eqFields]
 | f::r,b,h=>by
  unfold Cx at h;cases hn:(f.name== "_")with
  | true=>rw[hn]at h;cases h
  | false=>
   rw[hn,rk]at h;split at h
   ·rename_i x y hx hy;have px:(cm β xs).toArray[f.offset]? =some (val β x):=by simp[cm,hx]
    have py:(cm β ys).toArray[f.offset]? =some (val β y):=by simp[cm,hy]
    have go:∀{b1 c:Bool},eq1 P f.type x y=some b1->Cx P xs ys r=some c->(Op.eqFields (d+1) (cm β xs).toArray (cm β ys).toArray (f::r)).run P w=.ok (b1&&c) w:=fun{b1 c} h1 h2=>by
     obtain⟨k1,k2⟩:=PV h1 β d w;simp only[Op.eqFields,by simpa using hn,ne_eq,not_false_eq_true,if_true,Sem.run_bind,run_part_plain w k1 px,run_part_plain w k1 py,k2,Result.andThen_ok];cases b1
     ·simp
     ·simpa using Cy β d w h2
    split at h
    ·rename_i b1 c h1 h2;injection h with h;subst h;have:=go h1 h2;simp[Cx,aX]at h2;subst h2;rwa[jw]at this
    ·rename_i b1 c h1 _ h2;injection h with h;subst h;exact go h1 h2
    ·cases h
   ·cases h
theorem PW{op}{t}{fs}{a b v}{r}(hu:P.underlying t=some (.struct fs))(h:T0 P t fs a b=some r)(hv:T1 op r=some v):ky P op t a b v:=by
 unfold T0 at h;split at h
 ·rename_i l m;obtain⟨h0,h⟩:(yK l&&yK m&&!P.stoodInHeld t&&!P.eqGuardType P.depth t)=true/\Cx P _ _ fs.toList=some r:=by
   cases hc:(yK l&&yK m&&!P.stoodInHeld t&&!P.eqGuardType P.depth t)with
   | true=>rw[hc]at h;exact⟨rfl,h⟩
   | false=>rw[hc]at h;cases h
  simp at h0;obtain⟨⟨⟨h1,h2⟩,h3⟩,h4⟩:=h0;intro β act x y dst ty t' p af g w hx hy;have ea:∀{l:SV},yK l=true->val β (.agg l)=.agg (cm β _).toArray:=fun hl=>by
   show Value.agg (nt β _).toArray=_;rw[kx β hl]
  rw[ea h1]at hx;rw[ea h2]at hy;have hfs:P.fieldsOf t=fs:=by simp[Program.fieldsOf,hu]
  have hE:(Op.equalIn 10000 t (.agg (cm β (kJ l)).toArray) (.agg (cm β (kJ m)).toArray)).run P w=.ok r w:=by
   rw[show 10000=9999+1 from rfl,run_equalIn_struct w 9999 t _ _ (by rw[hfs];exact hu) h3,hfs];exact Cy β 9998 w h
  have hG:∀op,(eqGuard op t x y (.agg (cm β (kJ l)).toArray) (.agg (cm β (kJ m)).toArray)).run P w=.ok () w:=fun op=>by
   unfold eqGuard;cases op<;>simp[run_program,h4]
  unfold T1 at hv;split at hv
  ·injection hv with hv;subst hv;have hB:binOp .eql t (.agg (cm β (kJ l)).toArray) _=(do pure (.bool (<-Op.equal t _ (.agg (cm β (kJ m)).toArray)))):=rfl;simp[execOp,hx,hy,hB,Op.equal,Op.maxDepth,Sem.run_bind,Sem.run_pure,Result.andThen_ok,hE,hG];rfl
  ·injection hv with hv;subst hv;have hB:binOp .neq t (.agg (cm β (kJ l)).toArray) _=(do pure (.bool (!(<-Op.equal t _ (.agg (cm β (kJ m)).toArray))))):=rfl;simp[execOp,hx,hy,hB,Op.equal,Op.maxDepth,Sem.run_bind,Sem.run_pure,Result.andThen_ok,hE,hG];rfl
  ·cases hv
 ·cases h
theorem PX{op}{t}{a b}(h:T2 P gs op t a b K):∃v,K v/\(gh gs->ky P op t a b v):=by
 unfold T2 at h;split at h
 ·rename_i k m k' n ha hb;have gen:∀{K:SV->Prop},(bif decide (k=k')then bU _ K else False)->∃v,K v/\(gh gs->ky P op t a b v):=fun h=>by
   obtain⟨gH,h1⟩:=cX h;have hk:=aP gH;subst hk;obtain⟨v,hv,hK⟩:=ba h1;exact⟨v,hK,fun _=>YC ha hb hv⟩
  split at h
  ·obtain⟨h,hn⟩:=Lb h;exact⟨_,h,fun g β act x y dst ty t' p af gg w hx hy=>Yq (by rw[hx,cQ ha]) (by rw[hy,cQ hb]) (hn g)⟩
  ·obtain⟨h,hn⟩:=Lb h;exact⟨_,h,fun g β act x y dst ty t' p af gg w hx hy=>Yr (by rw[hx,cQ ha]) (by rw[hy,cQ hb]) (hn g)⟩
  ·obtain⟨gH,h1⟩:=cX h;have hk:=aP gH;subst hk;obtain⟨h2,hn⟩:=Sa hb h1;exact⟨_,h2,fun g β act x y dst ty t' p af gg w hx hy=>Yo (by rw[hx,cQ ha]) (by rw[hy,cQ hb]) (hn g)⟩
  ·obtain⟨gH,h1⟩:=cX h;have hk:=aP gH;subst hk;obtain⟨h2,hn⟩:=Sa hb h1;exact⟨_,h2,fun g β act x y dst ty t' p af gg w hx hy=>Yp (by rw[hx,cQ ha]) (by rw[hy,cQ hb]) (hn g)⟩
  ·exact gen h
 ·split at h
  ·rename_i s u ha hb;split at h
   ·exact⟨_,h.2,fun g β act x y dst ty t' p af gg w hx hy=>KY (by rw[hx,fM ha]) (by rw[hy,fM hb]) (fu h.1 g)⟩
   ·obtain⟨v,hv,hK⟩:=ba h;exact⟨v,hK,fun _=>YD ha hb hv⟩
  ·split at h
   ·rename_i s u ha hb hu;split at h
    ·exact⟨_,h,fun g β act x y dst ty t' p af gg w hx hy=>IT hu (by rw[hx,jZ ha]) (by rw[hy,jZ hb])⟩
    ·exact⟨_,h,fun g β act x y dst ty t' p af gg w hx hy=>IU hu (by rw[hx,jZ ha]) (by rw[hy,jZ hb])⟩
    ·exact h.elim
   ·split at h
    ·rename_i e hu;cases hb:K9 b with
     | true=>
      rw[hb]at h;obtain⟨v,hv,hK⟩:=ba h;exact⟨v,hK,fun _=>(Sc hu hb hv).1⟩
     | false=>
      rw[hb]at h;obtain⟨ha,h⟩:=cX h;obtain⟨v,hv,hK⟩:=ba h;exact⟨v,hK,fun _=>(Sc hu ha hv).2⟩
    ·rename_i e hu;cases hb:Cw b with
     | true=>
      rw[hb]at h;obtain⟨v,hv,hK⟩:=ba h;exact⟨v,hK,fun _=>(Se hu hb hv).1⟩
     | false=>
      rw[hb]at h;obtain⟨ha,h⟩:=cX h;obtain⟨v,hv,hK⟩:=ba h;exact⟨v,hK,fun _=>(Se hu ha hv).2⟩
    ·rename_i fs hu;obtain⟨r,hr,h⟩:=ba h;obtain⟨v,hv,hK⟩:=ba h;exact⟨v,hK,fun _=>PW hu hr hv⟩
    ·rename_i kk ee hu;obtain⟨v,hv,hK⟩:=ba h;exact⟨v,hK,fun _=>YE hu hv⟩
    ·exact h.elim
end
def PY:SV->Bool
 | .agg _=>false
 | .tup _=>false
 | .un=>false
 | .e=>false
 | .c _ _=>false
 | _=>true
def Gu:List SV->Bool
 | []=>true
 | s::r=>PY s&&Gu r
theorem Cz{s}(h:PY s=true) β:(val β s).oneCell'=true/\(val β s).cells=#[val β s]:=by
 cases s with
 | raw v=>
  have e:val β (.raw v)=v.v:=rfl;refine⟨v.one,?_⟩;obtain⟨v,hv⟩:=v;cases v<;>first | rfl | (simp[Value.oneCell']at hv)
 | _=>first | exact⟨rfl,rfl⟩ | (simp[PY]at h)
theorem zg:∀{l:List SV},Gu l=true->∀β,(cm β l).all Value.oneCell'=true
 | [],_,_=>rfl
 | s::r,h,β=>by
  simp[Gu,aR]at h;simp only[cm,bE,List.all_cons,aR];exact⟨(Cz h.1 β).1,zg h.2 β⟩
def wM:SV->Option (List SV)
 | .agg l=>bif yK l&&Gu (kJ l)then some (kJ l)else none
 | s=>bif PY s then some [s]else none
theorem Al{α:Type}{b}{x}{y:α}(h:(bif b then some x else none)=some y):b=true/\x=y:=by
 cases b with
 | true=>exact⟨rfl,by simpa using h⟩
 | false=>cases h
theorem uu{s}{l}(h:wM s=some l) β:(val β s).cells=(cm β l).toArray/\(cm β l).all Value.oneCell'=true:=by
 unfold wM at h;split at h
 ·obtain⟨h1,rfl⟩:=Al h;simp at h1;refine⟨?_,zg h1.2 β⟩;show(nt β _).toArray=_;rw[kx β h1.1]
 ·obtain⟨h1,rfl⟩:=Al h;obtain⟨h2,h3⟩:=Cz h1 β;exact⟨h3,by simp[cm,h2]⟩
def ET:List aw->Option (List SV)
 | []=>some []
 | v::r=>match K6 v,ET r with
  | some s,some l=>some (s::l)
  | _,_=>none
theorem vY β:∀{l:List aw} {s:List SV},ET l=some s->cm β s=l
 | [],s,h=>by simp[ET,aX]at h;subst h;rfl
 | v::r,s,h=>by
  simp[ET]at h;split at h
  ·rename_i s' l' h1 h2;simp at h;subst h;have:=vY β h2;simp only[cm,bE]at this⊢;rw[wK h1,this]
  ·cases h
def YG(cs:List SV)(o:Nat)(vs:List SV):List SV:=cs.take o++vs++cs.drop (o+vs.length)
theorem CA β cs o vs:cm β (YG cs o vs)=cd (cm β cs) o (cm β vs):=by
 simp[cm,YG,cd,cN,lg,ov,bC]
theorem CB{off}:∀vs k cs,off+k+vs.length<=cs.length->
  (vs.zipIdx k).foldl (fun cs x=>cs.setIfInBounds (off+x.2) x.1) cs.toArray=(cd cs (off+k) vs).toArray
 | [],k,cs,_=>by simp[cd]
 | v::vs,k,cs,h=>by
  simp at h;have e:cs.toArray.setIfInBounds (off+k) v=(cs.set (off+k) v).toArray:=by simp
  rw[List.zipIdx_cons,List.foldl_cons];rw[e,CB vs _ _ (by rw[pF];omega)];simp[cd,bf];rw[show off+_=off+k+1 by omega,bH,List.getElem?_set_self (by omega),List.take_set_of_le (aV _),List.drop_set_of_lt (by omega),show off+k+1+vs.length=off+k+(vs.length+1) by omega];simp
def zh(place:Nat->Option (Nat×Nat)):List SV->List (Nat×SV)->Option (List SV)
 | cells,[]=>some cells
 | cells,(i,v)::rest=>match place i,wM v with
  | some (off,size),some vs=>bif Nat.beq vs.length size&&Nat.ble (off+vs.length) cells.length then zh place (YG cells off vs) rest else none
  | _,_=>none
theorem wN β {place}:∀{parts:List _} {cells r:List SV},zh place cells parts=some r->Instr.fill place (cm β cells).toArray (zf β parts)=some (cm β r).toArray
 | [],cells,r,h=>by simp[zh,aX]at h;subst h;rfl
 | _::rest,cells,r,h=>by
  simp[zh]at h;split at h
  ·rename_i off size vs hp hc;cases hb:(Nat.beq vs.length size&&Nat.ble _ cells.length)with
   | false=>rw[hb]at h;cases h
   | true=>
    rw[hb]at h;simp only[aR]at hb;have h1:=bR hb.1;have h2:=ci hb.2;obtain⟨e1,_⟩:=uu hc β;have ih:=wN β (parts:=rest) (cells:=YG cells off vs) h;rw[CA]at ih;simp only[zf,bE,Instr.fill,hp,e1,mC,eu];rw[if_neg (by simp;omega)];have e2:=CB (off:=off) (cm β vs) 0 (cm β cells) (by rw[eu,eu];omega);rw[dx]at e2;have e3:(cm β vs).toArray.zipIdx.foldl (fun cs x=>cs.setIfInBounds (off+x.2) x.1) (cm β cells).toArray=(cd (cm β cells) off (cm β vs)).toArray:=by
     rw[<-e2];simp
    exact(bO (fun a=>Instr.fill place a _) e3).trans ih
  ·cases h
def T3(P:Program)(t:TypeId)(parts:List (Nat×SV)):Option (List SV):=
 match P.info? t,P.underlying t with
 | some it,some (.array _ e)=>(match it.zero,P.info? e with
  | some z,some ie=>(match ET z.cells.toList with
   | some zs=>zh (fun i=>some (i*ie.size,ie.size)) zs parts
   | none=>none)
  | _,_=>none)
 | some it,some (.struct fields)=>(match it.zero,fields.toList.mapM (fun f=>(P.info? f.type).map fun i=>(f.offset,i.size))with
  | some z,some places=>(match ET z.cells.toList with
   | some zs=>zh (places.toArray[·]?) zs parts
   | none=>none)
  | _,_=>none)
 | _,_=>none
theorem PZ{P}{t}{parts}{r}(h:T3 P t parts=some r) β w:(Instr.build t (zf β parts).toArray).run P w=.ok (.agg (cm β r).toArray) w:=by
 refine run_build w t _ _ ?_;unfold T3 at h;split at h
 ·rename_i it n e h1 h2;split at h
  ·rename_i z ie h3 h4;split at h
   ·rename_i zs h5;have:=wN β h;rw[vY β h5]at this;simp[Program.built,h1,h2,h3,h4];simpa using this
   ·cases h
  ·cases h
 ·rename_i it fields h1 h2;split at h
  ·rename_i z places h3 h4;split at h
   ·rename_i zs h5;have:=wN β h;rw[vY β h5]at this;simp[Program.built,h1,h2,h3,h4];simpa using this
   ·cases h
  ·cases h
 ·cases h
def sz(P:Program)(t:TypeId)(n:Nat):Bool:=match P.info? t with
 | some i=>Nat.beq i.size n
 | none=>false
theorem mT{P}{t}{n}(h:sz P t n=true) w:(sizeOf t).run P w=.ok n w:=by
 unfold sz at h;cases hi:P.info? t with
 | none=>rw[hi]at h;cases h
 | some i=>
  rw[hi]at h;rw[<-bR h];simp[sizeOf,typeInfo,hi]
def rO(P:Program)(t:TypeId):Nat:=match P.info? t with
 | some i=>i.size
 | none=>0
theorem jc{P}{t}{d}(h:P.underlying t=some d) w:(isAgg t).run P w=.ok (jY d) w:=by
 unfold isAgg;rw[Sem.run_bind,run_underlying h,Result.andThen_ok];cases d<;>rfl
def EU(b:SV)(K:Nat->(Prop->Prop)->Prop):Prop:=match b with
 | .il _ n=>bif decide (0<=n)then K n.toNat id else False
 | .int _ n=>∃v,K v fun p=>n=v/\p
 | _=>False
theorem j5{b}{K}(h:EU b K):∃(v:Nat) (e:Prop->Prop) (k:IntKind) (n:Int),K v e/\nu b=some (k,n)/\(∀p,e p->n=v/\p):=by
 unfold EU at h;split at h
 ·rename_i k n;obtain⟨h1,h2⟩:=cX h;have h1:=aP h1;exact⟨_,_,k,n,h2,rfl,fun p hp=>⟨by omega,hp⟩⟩
 ·rename_i k n;obtain⟨v,hv⟩:=h;exact⟨v,_,k,n,hv,rfl,fun p hp=>hp⟩
 ·exact h.elim
def slS(gs:List (Bool×Bool))(s:Sl)(es:Nat)(st:St)(lo hi mx:Option Operand)(K:SV->Prop):Prop:=match lo,hi,mx with
 | some lo,none,none=>bU (st.ev lo) fun a=>EU a fun l e=>gi gs (e (l<=s.n/\s.n<=s.c))/\K (.sl (s.cut l s.n s.c es))
 | none,some hi,none=>bU (st.ev hi) fun a=>EU a fun h e=>gi gs (e (h<=s.c))/\K (.sl (s.cut 0 h s.c es))
 | some lo,some hi,none=>bU (st.ev lo) fun a=>bU (st.ev hi) fun b=>EU a fun l e=>EU b fun h f=>gi gs (e (f (l<=h/\h<=s.c)))/\K (.sl (s.cut l h s.c es))
 | none,some hi,some mx=>bU (st.ev hi) fun b=>bU (st.ev mx) fun c=>EU b fun h e=>EU c fun m f=>gi gs (e (f (h<=m/\m<=s.c)))/\K (.sl (s.cut 0 h m es))
 | some lo,some hi,some mx=>bU (st.ev lo) fun a=>bU (st.ev hi) fun b=>bU (st.ev mx) fun c=>EU a fun l e=>EU b fun h f=>EU c fun m g=>gi gs (e (f (g (l<=h/\h<=m/\m<=s.c))))/\K (.sl (s.cut l h m es))
 | _,_,_=>False
def slT(gs:List (Bool×Bool))(s:ByteArray)(st:St)(lo hi mx:Option Operand)(K:SV->Prop):Prop:=match lo,hi,mx with
 | some lo,none,none=>bU (st.ev lo) fun a=>EU a fun l e=>gi gs (e (l<=s.size))/\K (.str (s.extract l s.size))
 | none,some hi,none=>bU (st.ev hi) fun a=>EU a fun h e=>gi gs (e (h<=s.size))/\K (.str (s.extract 0 h))
 | some lo,some hi,none=>bU (st.ev lo) fun a=>bU (st.ev hi) fun b=>EU a fun l e=>EU b fun h f=>gi gs (e (f (l<=h/\h<=s.size)))/\K (.str (s.extract l h))
 | _,_,_=>False
def CD(P:Program)(b:Builtin)(xs:List Operand)(ts:List TypeId)(st:St)(K:SV->Prop):Prop:=match b,xs,ts with
 | .len,[x],[t]=>bU (st.ev x) fun a=>(match P.underlying t with
  | some (.slice _)=>bU (Gs a) fun s=>K (.int .i64 s.n)
  | some .string=>bU (rN a) fun s=>K (.int .i64 s.size)
  | _=>False)
 | .cap,[x],[t]=>bU (st.ev x) fun a=>(match P.underlying t with
  | some (.slice _)=>bU (Gs a) fun s=>K (.int .i64 s.c)
  | _=>False)
 | .min,[x,y],_=>bU (st.ev x) fun a=>bU (st.ev y) fun b=>bU (nu a) fun p=>bU (nu b) fun q=>K (.int p.1 (if q.2<p.2 then q.2 else p.2))
 | .max,[x,y],_=>bU (st.ev x) fun a=>bU (st.ev y) fun b=>bU (nu a) fun p=>bU (nu b) fun q=>K (.int p.1 (if q.2>p.2 then q.2 else p.2))
 | _,_,_=>False
def nif:TypeDesc->Bool
 | .interface _=>false
 | _=>true
def cvP(P:Program)(gs:List (Bool×Bool))(st:St)(s d:TypeId)(a:SV)(K:SV->Prop):Prop:=match P.underlying s,P.underlying d with
 | some (.int _),some (.int kd)=>bU (nu a) fun p=>K (.int kd (kd.wrap p.2))
 | some .string,some .string=>bU (rN a) fun u=>K (.str u)
 | some (.slice e),some .string=>(match P.underlying e with
  | some (.int .u8)=>bU (Gs a) fun u=>bif st.mv then False else ∃l,gi gs (wC st.w0 u l)/\K (.str ⟨l.toArray⟩)
  | _=>False)
 | _,_=>False
def ldP(P:Program)(gs:List (Bool×Bool))(st:St)(t:TypeId)(a:SV)(K:SV->Prop):Prop:=match P.underlying t with
 | none=>False
 | some d=>(match a with
  | .box i o=>bU (cJ st.bx i) fun b=>bif b.ok&&sz P t ((b.cells.drop o).take (rO P t)).length&&(jY d||Nat.beq ((b.cells.drop o).take (rO P t)).length 1)then K (IZ (jY d) ((b.cells.drop o).take (rO P t)))else False
  | .ad p=>bif !st.mv&&sz P t (K8 P 12 t).length&&(jY d||Nat.beq (K8 P 12 t).length 1)then R9 (K8 P 12 t) fun vs=>gi gs (Cells st.w0 p (cm β0 vs))/\K (IZ (jY d) vs)else False
  | _=>False)
def Gv:Operand->Bool
 | .const .nilIface=>true
 | _=>false
def niV:aw->Bool
 | .nilIface=>true
 | _=>false
def YH(v:aw):Prop:=v=.nilIface∨∃t x,v=.iface t x
def niP(P:Program)(gs:List (Bool×Bool))(op:BinOp)(t:TypeId)(a:SV)(K:SV->Prop):Prop:=match a,P.underlying t,op with
 | .raw v,some (.interface _),.eql=>gi gs (YH v.v)/\K (.bt (niV v.v))
 | .raw v,some (.interface _),.neq=>gi gs (YH v.v)/\K (.bt (!niV v.v))
 | _,_,_=>False
theorem Lc{y}(h:Gv y=true):y=.const .nilIface:=by
 unfold Gv at h;split at h
 ·rfl
 ·cases h
theorem Sf{P}{t}{ms}{v}(hu:P.underlying t=some (.interface ms))(hv:YH v) w:(Op.equal t v .nilIface).run P w=.ok (niV v) w:=by
 unfold Op.equal Op.maxDepth Op.equalIn;rcases hv with rfl | ⟨tx,x,rfl⟩<;>simp[Sem.run_bind,run_underlying hu,Result.andThen_ok]<;>rfl
theorem CE{P}{op}{t}{x}{v}(hv:YH v) w:(eqGuard op t x (.const .nilIface) v .nilIface).run P w=.ok () w:=by
 unfold eqGuard;rcases hv with rfl | ⟨tx,x,rfl⟩<;>first | rfl | simp
theorem T4{P}{gs}{st}{K}{op}{t ty}{x}{a}(hx:st.ev x=some a)(h:niP P gs op t a K):∃v,K v/\(gh gs->∀β c w,Rep β st c w->∀d t' p af g w',
  (execOp c.eval ⟨d,.binOp op t x (.const .nilIface) ty,t',p,af,g⟩).run P w'=.ok (.value (val β v)) w'):=by
 unfold niP at h;split at h
 ·rename_i v ms hu;refine⟨_,h.2,fun hg β c w hR d t' p af g w'=>?_⟩;have hv:=fu h.1 hg;have e:c.eval x=v.v:=hR.ev hx;have e2:c.eval (.const .nilIface)=.nilIface:=rfl;have hb:binOp .eql t v.v .nilIface=(do pure (.bool (<-Op.equal t v.v .nilIface))):=by
   rcases hv with h | ⟨tx,x,h⟩<;>rw[h]<;>rfl
  simp[execOp,e,e2,hb,Sem.run_bind,CE hv,Result.andThen_ok,Sf hu hv,Sem.run_pure];rfl
 ·rename_i v ms hu;refine⟨_,h.2,fun hg β c w hR d t' p af g w'=>?_⟩;have hv:=fu h.1 hg;have e:c.eval x=v.v:=hR.ev hx;have e2:c.eval (.const .nilIface)=.nilIface:=rfl;have hb:binOp .neq t v.v .nilIface=(do pure (.bool (!(<-Op.equal t v.v .nilIface)))):=by
   rcases hv with h | ⟨tx,x,h⟩<;>rw[h]<;>rfl
  simp[execOp,e,e2,hb,Sem.run_bind,CE hv,Result.andThen_ok,Sf hu hv,Sem.run_pure];rfl
 ·exact h.elim
def CF(p:Addr)(i:Int)(len size:Nat)(q:Addr):Prop:=0<=i/\i<len/\p.add (i.toNat*size)=q
def T5(n:Int)(F:Nat->Prop):Nat->Prop
 | 0=>True
 | 1=>n=0->F 0
 | j+2=>T5 n F (j+1)/\(n=((j+1))->F (j+1))
theorem Gw{n}{F}:∀{m:Nat},T5 n F m->0<=n->n<m->F n.toNat
 | 0,_,h0,h1=>by omega
 | 1,h,h0,h1=>by
  have e:n=0:=by omega
  subst e;exact h rfl
 | j+2,h,h0,h1=>by
  by_cases e:n=((j+1))
  ·have:=h.2 e;rw[e];exact this
  ·exact Gw h.1 h0 (by omega)
def T6(P:Program)(gs:List (Bool×Bool))(st:St)(o:Op)(K:SV->Prop):Prop:=match o with
 | .move x=>bU (st.ev x) K
 | .assign x=>bU (st.ev x) K
 | .pick c x y=>bU (st.ev c) fun c=>(match c with
  | .bl true=>bU (st.ev x) K
  | .bl false=>bU (st.ev y) K
  | _=>False)
 | .binOp op t x y _=>bU (st.ev x) fun a=>bU (st.ev y) fun b=>bif Gv y then niP P gs op t a K else T2 P gs op t a b K
 | .unOp .not _ x=>bU (st.ev x) fun a=>(match a with
  | .bl b=>K (.bl (!b))
  | .bt b=>K (.bt (!b))
  | _=>False)
 | .unOp .neg _ x=>bU (st.ev x) fun a=>bU (nu a) fun p=>K (.int p.1 (p.1.wrap (0-p.2)))
 | .convert s d x=>bU (st.ev x) fun a=>cvP P gs st s d a K
 | .extract x i=>bU (st.ev x) fun a=>(match a with
  | .tup l=>bif yK l then bU ((kJ l)[i]?) K else False
  | _=>False)
 | .build t parts=>bU (st.Pb parts.toList) fun ps=>bU (T3 P t ps) fun r=>K (.agg (lV r))
 | .makeFunc fn fs cs=>(match fn with
  | .func f=>bU (st.Iv fs.toList) fun a=>bU (st.Iv cs.toList) fun b=>K (.fn f (lV a) (lV b))
  | _=>False)
 | .makeInterface t x=>bU (st.ev x) fun a=>bU (P.underlying t) fun d=>bif nif d&&cln (fun _=>false) a then K (.raw ⟨.iface t (val β0 a),rfl⟩)else False
 | .nilCheck x=>bU (st.ev x) fun a=>(match a with
  | .ad p=>K (.ad p)
  | .box i o=>K (.box i o)
  | .ptr p=>∃q,gi gs (p=some q)/\K (.ad q)
  | .fn f .e cs=>K (.fn f .e cs)
  | _=>False)
 | .fieldAddr s x k=>bU (st.ev x) fun a=>(match P.underlying s with
  | some (.struct fs)=>bU (fs[k]?) fun f=>bif Nat.ble 1 (rO P f.type)then(match a with
   | .ad p=>K (.ad (p.add f.offset))
   | .box i o=>K (.box i (o+f.offset))
   | _=>False)else False
  | _=>False)
 | .field t x k=>bU (st.ev x) fun a=>(match a,P.underlying t with
  | .agg l,some (.struct fs)=>bU (fs[k]?) fun f=>bU (P.underlying f.type) fun d=>bif yK l&&sz P f.type (((kJ l).drop f.offset).take (rO P f.type)).length&&(jY d||Nat.beq (((kJ l).drop f.offset).take (rO P f.type)).length 1)
   then K (IZ (jY d) (((kJ l).drop f.offset).take (rO P f.type)))else False
  | _,_=>False)
 | .indexAddr t x i=>bU (st.ev x) fun a=>bU (st.ev i) fun j=>bU (nu j) fun n=>(match P.underlying t with
  | some (.slice e)=>bU (Gs a) fun s=>bif (P.info? e).isSome then ∃q,gi gs (dy s n.2 (rO P e) q)/\K (.ad q)else False
  | some (.array len e)=>bif (P.info? e).isSome then(match a,j with
   | .box b o,.il _ n=>bif decide (0<=n)&&decide (n<len)then K (.box b (o+n.toNat*rO P e))else False
   | .ad p,.il _ n=>bif decide (0<=n)&&decide (n<len)then K (.ad (p.add (n.toNat*rO P e)))else False
   | .ad p,_=>∃q,gi gs (CF p n.2 len (rO P e) q)/\K (.ad q)
   | .box b o,_=>bif Nat.ble len 8 then(0<=n.2/\n.2<len)/\T5 n.2 (fun j=>K (.box b (o+j*rO P e))) len else False
   | _,_=>False)else False
  | _=>False)
 | .load t x=>bU (st.ev x) fun a=>ldP P gs st t a K
 | .index t x i=>bU (st.ev x) fun a=>bU (st.ev i) fun j=>bU (nu j) fun n=>(match P.underlying t with
  | some .string=>bU (rN a) fun s=>∃c,gi gs (0<=n.2/\s[n.2.toNat]? =some c)/\K (.int .u8 c.toNat)
  | _=>False)
 | .slice t x lo hi mx=>bU (st.ev x) fun a=>(match P.underlying t with
  | some (.slice e)=>bU (Gs a) fun s=>bif (P.info? e).isSome then slS gs s (rO P e) st lo hi mx K else False
  | some .string=>bU (rN a) fun s=>slT gs s st lo hi mx K
  | _=>False)
 | .call c=>(match c.callee with
  | .builtin b=>CD P b c.args.toList c.argTypes.toList st K
  | _=>False)
 | _=>False
def mem:Op->Bool
 | .load _ _=>true
 | .convert _ _ _=>true
 | _=>false
def Y(P:Program)(st:St)(o:Op)(v:SV):Prop:=∀β a w,Rep β st a w->∀d t p af g w',(mem o=true->w'.heap=w.heap)->
 (execOp a.eval ⟨d,o,t,p,af,g⟩).run P w'=.ok (.value (val β v)) w'
theorem jd{P}{t}(h:(P.info? t).isSome=true) w:(sizeOf t).run P w=.ok (rO P t) w:=by
 unfold rO;cases hi:P.info? t with
 | none=>rw[hi]at h;cases h
 | some i=>simp[sizeOf,typeInfo,hi]
theorem Am b o n:(⟨b,o,none⟩:Addr).add n=⟨b,o+n,none⟩:=by unfold Addr.add;split<;>simp_all
theorem mF{d}(h:jY d=true) β l:val β (IZ (jY d) l)=.agg (cm β l).toArray:=by
 rw[h];show Value.agg (nt β _).toArray=_;rw[oB]
theorem wO{l:List SV}(h:Nat.beq l.length 1=true):∃s,l=[s]:=by
 have:=bR h
 match l,this with
 | [s],_=>exact⟨s,rfl⟩
section
variable {P:Program} {gs:List (Bool×Bool)} {st:St} {K:SV->Prop}
theorem T7{t}{x}{a}(hx:st.ev x=some a)(h:ldP P gs st t a K):∃v,K v/\(gh gs->Y P st (.load t x) v):=by
 unfold ldP at h;split at h
 ·exact h.elim
 ·rename_i d hu;split at h
  ·rename_i i o;obtain⟨b,hb,h⟩:=ba h;obtain⟨h1,h2⟩:=cX h;simp only[aR,cD]at h1;obtain⟨⟨ul,hsz⟩,jS⟩:=h1;refine⟨_,h2,fun _ β act w hR dst t' p af g w' hh=>?_⟩;have hB:=(hR.bx i b hb ul).blk;have hB':Blk w' (β i) b.ty (cm β b.cells):=by unfold Blk at hB⊢;rw[hh rfl];exact hB
   have Iz:=hR.ev hx;generalize hl:(b.cells.drop o).take _=l at*
   have hC:Cells w' _ (cm β l):=hB'.BE o _ (by
    rw[eu,<-hl];simp only[cm,lg,ov];rw[cO,nl];simp only[cy,bC];omega)
   rcases jS with pv | jS
   ·rw[mF pv];have:=jc (P:=P) hu w';rw[pv]at this;exact qD this (mT hsz w') (eu β l) Iz hC
   ·cases pv:jY d with
    | true=>
     have e:=mF pv β l;rw[pv]at e;rw[e];have:=jc (P:=P) hu w';rw[pv]at this;exact qD this (mT hsz w') (eu β l) Iz hC
    | false=>
     obtain⟨s,rfl⟩:=wO jS;have:=jc (P:=P) hu w';rw[pv]at this;exact zX this Iz (Cells.one hC)
  ·rename_i ad;obtain⟨h1,h2⟩:=cX h;simp only[aR,cD,dK]at h1;obtain⟨⟨ot,hsz⟩,jS⟩:=h1;obtain⟨vs,⟨hF,hK⟩,eH,lq⟩:=rM h2;refine⟨_,hK,fun hg β act w hR dst t' p af g w' hh=>?_⟩;have hw:=hR.still ot;subst hw;have hC:Cells w' ad (cm β vs):=by
    rw[ft (β:=β) (β':=β0) (g:=fun _=>false) (fun i h=>(by cases h)) vs (lq _)];exact(fu hF hg).keep (by rw[hh rfl])
   have Iz:=hR.ev hx;rw[<-eH]at hsz jS;rcases jS with pv | jS
   ·rw[mF pv];have:=jc (P:=P) hu w';rw[pv]at this;exact qD this (mT hsz w') (eu β vs) Iz hC
   ·cases pv:jY d with
    | true=>
     have e:=mF pv β vs;rw[pv]at e;rw[e];have:=jc (P:=P) hu w';rw[pv]at this;exact qD this (mT hsz w') (eu β vs) Iz hC
    | false=>
     obtain⟨s,rfl⟩:=wO jS;have:=jc (P:=P) hu w';rw[pv]at this;exact zX this Iz (Cells.one hC)
  ·exact h.elim
theorem T8{s d}{x}{a}(hx:st.ev x=some a)(h:cvP P gs st s d a K):∃v,K v/\(gh gs->Y P st (.convert s d x) v):=by
 unfold cvP at h;split at h
 ·rename_i ks kd h1 h2;obtain⟨⟨k,n⟩,hp,h⟩:=ba h;exact⟨_,h,fun _ β act w hR dst t' p af g w' hh=>yY (run_underlying h1 w') (run_underlying h2 w') ((hR.ev hx).trans (cQ hp β))⟩
 ·rename_i h1 h2;obtain⟨u,hp,h⟩:=ba h;exact⟨_,h,fun _ β act w hR dst t' p af g w' hh=>yZ (run_underlying h1 w') (run_underlying h2 w') ((hR.ev hx).trans (fM hp β))⟩
 ·rename_i e h1 h2;split at h
  ·rename_i h3;obtain⟨u,hp,h⟩:=ba h;cases hm:st.mv with
   | true=>rw[hm]at h;exact h.elim
   | false=>
    rw[hm]at h;obtain⟨l,hF,hK⟩:=h;refine⟨_,hK,fun hg β act w hR dst t' p af g w' hh=>?_⟩;have hw:=hR.still hm;subst hw;exact wF h1 h3 h2 ((hR.ev hx).trans (iC hp β)) (EN _ _ (by rw[hh rfl]) (fu hF hg))
  ·exact h.elim
 ·exact h.elim
theorem T9{b}{xs}{ts}(h:CD P b xs ts st K):∃v,K v/\(gh gs->Y P st (.call ⟨.builtin b,xs.toArray,ts.toArray⟩) v):=by
 unfold CD at h;split at h
 ·obtain⟨a,hx,h⟩:=ba h;split at h
  ·rename_i hu;obtain⟨s,hs,h⟩:=ba h;exact⟨_,h,fun _ β act w hR dst t' p af g w' hh=>Yn (run_underlying hu w') ((hR.ev hx).trans (iC hs β))⟩
  ·rename_i hu;obtain⟨s,hs,h⟩:=ba h;exact⟨_,h,fun _ β act w hR dst t' p af g w' hh=>KZ (run_underlying hu w') ((hR.ev hx).trans (fM hs β))⟩
  ·exact h.elim
 ·obtain⟨a,hx,h⟩:=ba h;split at h
  ·rename_i hu;obtain⟨s,hs,h⟩:=ba h;exact⟨_,h,fun _ β act w hR dst t' p af g w' hh=>Ys (run_underlying hu w') ((hR.ev hx).trans (iC hs β))⟩
  ·exact h.elim
 ·obtain⟨a,hx,h⟩:=ba h;obtain⟨b,hy,h⟩:=ba h;obtain⟨⟨k,m⟩,hp,h⟩:=ba h;obtain⟨_,hq,h⟩:=ba h;exact⟨_,h,fun _ β act w hR dst t' p af g w' hh=>Yt ((hR.ev hx).trans (cQ hp β)) ((hR.ev hy).trans (cQ hq β))⟩
 ·obtain⟨a,hx,h⟩:=ba h;obtain⟨b,hy,h⟩:=ba h;obtain⟨⟨k,m⟩,hp,h⟩:=ba h;obtain⟨_,hq,h⟩:=ba h;exact⟨_,h,fun _ β act w hR dst t' p af g w' hh=>Yu ((hR.ev hx).trans (cQ hp β)) ((hR.ev hy).trans (cQ hq β))⟩
 ·exact h.elim
theorem Ua{t e}{x}{lo hi mx}{a}{s}(hu:P.underlying t=some (.slice e))(zP:(P.info? e).isSome=true)(hx:st.ev x=some a)(hs:Gs a=some s)(h:slS gs s (rO P e) st lo hi mx K):∃v,K v/\(gh gs->Y P st (.slice t x lo hi mx) v):=by
 unfold slS at h;split at h
 ·obtain⟨a1,h1,h⟩:=ba h;obtain⟨l,e1,k1,n1,⟨hF,hK⟩,o1,u1⟩:=j5 h;refine⟨_,hK,fun hg β act w hR dst t' p af g w' hh=>?_⟩;obtain⟨rfl,f1,f2⟩:=u1 _ (fu hF hg);exact EF (run_underlying hu w') (jd zP w') ((hR.ev hx).trans (iC hs β)) ((hR.ev h1).trans (cQ o1 β)) f1 f2 (aV _)
 ·obtain⟨a1,h1,h⟩:=ba h;obtain⟨l,e1,k1,n1,⟨hF,hK⟩,o1,u1⟩:=j5 h;refine⟨_,hK,fun hg β act w hR dst t' p af g w' hh=>?_⟩;obtain⟨rfl,f1⟩:=u1 _ (fu hF hg);exact EG (run_underlying hu w') (jd zP w') ((hR.ev hx).trans (iC hs β)) ((hR.ev h1).trans (cQ o1 β)) (bp _) f1 (aV _)
 ·obtain⟨a1,h1,h⟩:=ba h;obtain⟨a2,h2,h⟩:=ba h;obtain⟨l,e1,k1,n1,h,o1,u1⟩:=j5 h;obtain⟨m,e2,k2,n2,⟨hF,hK⟩,o2,u2⟩:=j5 h;refine⟨_,hK,fun hg β act w hR dst t' p af g w' hh=>?_⟩;obtain⟨rfl,f1⟩:=u1 _ (fu hF hg);obtain⟨rfl,f1,f2⟩:=u2 _ f1;exact EH (run_underlying hu w') (jd zP w') ((hR.ev hx).trans (iC hs β)) ((hR.ev h1).trans (cQ o1 β)) ((hR.ev h2).trans (cQ o2 β)) f1 f2 (aV _)
 ·obtain⟨a1,h1,h⟩:=ba h;obtain⟨a2,h2,h⟩:=ba h;obtain⟨l,e1,k1,n1,h,o1,u1⟩:=j5 h;obtain⟨m,e2,k2,n2,⟨hF,hK⟩,o2,u2⟩:=j5 h;refine⟨_,hK,fun hg β act w hR dst t' p af g w' hh=>?_⟩;obtain⟨rfl,f1⟩:=u1 _ (fu hF hg);obtain⟨rfl,f1,f2⟩:=u2 _ f1;exact EI (run_underlying hu w') (jd zP w') ((hR.ev hx).trans (iC hs β)) ((hR.ev h1).trans (cQ o1 β)) ((hR.ev h2).trans (cQ o2 β)) (bp _) f1 f2
 ·obtain⟨a1,h1,h⟩:=ba h;obtain⟨a2,h2,h⟩:=ba h;obtain⟨a3,h3,h⟩:=ba h;obtain⟨l,e1,k1,n1,h,o1,u1⟩:=j5 h;obtain⟨m,e2,k2,n2,h,o2,u2⟩:=j5 h;obtain⟨q,e3,k3,n3,⟨hF,hK⟩,o3,u3⟩:=j5 h;refine⟨_,hK,fun hg β act w hR dst t' p af g w' hh=>?_⟩;obtain⟨rfl,f1⟩:=u1 _ (fu hF hg);obtain⟨rfl,f1⟩:=u2 _ f1;obtain⟨rfl,f1,f2,f3⟩:=u3 _ f1;exact EJ (run_underlying hu w') (jd zP w') ((hR.ev hx).trans (iC hs β)) ((hR.ev h1).trans (cQ o1 β)) ((hR.ev h2).trans (cQ o2 β)) ((hR.ev h3).trans (cQ o3 β)) f1 f2 f3
 ·exact h.elim
theorem Ub{t}{x}{lo hi mx}{a}{s}(hu:P.underlying t=some .string)(hx:st.ev x=some a)(hs:rN a=some s)(h:slT gs s st lo hi mx K):∃v,K v/\(gh gs->Y P st (.slice t x lo hi mx) v):=by
 unfold slT at h;split at h
 ·obtain⟨a1,h1,h⟩:=ba h;obtain⟨l,e1,k1,n1,⟨hF,hK⟩,o1,u1⟩:=j5 h;refine⟨_,hK,fun hg β act w hR dst t' p af g w' hh=>?_⟩;obtain⟨rfl,f1⟩:=u1 _ (fu hF hg);exact zZ (run_underlying hu w') ((hR.ev hx).trans (fM hs β)) ((hR.ev h1).trans (cQ o1 β)) f1 (aV _)
 ·obtain⟨a1,h1,h⟩:=ba h;obtain⟨l,e1,k1,n1,⟨hF,hK⟩,o1,u1⟩:=j5 h;refine⟨_,hK,fun hg β act w hR dst t' p af g w' hh=>?_⟩;obtain⟨rfl,f1⟩:=u1 _ (fu hF hg);exact Aa (run_underlying hu w') ((hR.ev hx).trans (fM hs β)) ((hR.ev h1).trans (cQ o1 β)) (bp _) f1
 ·obtain⟨a1,h1,h⟩:=ba h;obtain⟨a2,h2,h⟩:=ba h;obtain⟨l,e1,k1,n1,h,o1,u1⟩:=j5 h;obtain⟨m,e2,k2,n2,⟨hF,hK⟩,o2,u2⟩:=j5 h;refine⟨_,hK,fun hg β act w hR dst t' p af g w' hh=>?_⟩;obtain⟨rfl,f1⟩:=u1 _ (fu hF hg);obtain⟨rfl,f1,f2⟩:=u2 _ f1;exact Ab (run_underlying hu w') ((hR.ev hx).trans (fM hs β)) ((hR.ev h1).trans (cQ o1 β)) ((hR.ev h2).trans (cQ o2 β)) f1 f2
 ·exact h.elim
theorem P0{t}{d}{l:List aw}{off n}(hu:P.underlying t=some d)(hn:sz P t n=true)(pv:jY d=true) w:(part t l.toArray off).run P w=.ok (.agg ((l.drop off).take n).toArray) w:=by
 have h:=jc (P:=P) hu w;rw[pv]at h;unfold part;simp only[Sem.run_bind,h,Result.andThen_ok,if_true,mT hn w,Sem.run_pure];rw[List.extract_toArray,List.extract_eq_take_drop,dH]
theorem Ld{t}{d}{l:List aw}{off}{v}(hu:P.underlying t=some d)(pv:jY d=false)(hv:l[off]? =some v) w:(part t l.toArray off).run P w=.ok v w:=by
 have h:=jc (P:=P) hu w;rw[pv]at h;unfold part;simp[Sem.run_bind,h,Result.andThen_ok];simp[hv]
theorem EV{o:Op}(h:T6 P gs st o K):∃v,K v/\(gh gs->Y P st o v):=by
 unfold T6 at h;split at h
 ·obtain⟨v,hx,hK⟩:=ba h;exact⟨v,hK,fun _ β act w hR dst t' p af g w' hh=>by simp only[execOp,hR.ev hx,Sem.run_pure]⟩
 ·obtain⟨v,hx,hK⟩:=ba h;exact⟨v,hK,fun _ β act w hR dst t' p af g w' hh=>by simp only[execOp,hR.ev hx,Sem.run_pure]⟩
 ·obtain⟨c,hc,h⟩:=ba h;split at h
  ·obtain⟨v,hx,hK⟩:=ba h;exact⟨v,hK,fun _ β act w hR dst t' p af g w' hh=>PM (hR.ev hc) (hR.ev hx)⟩
  ·obtain⟨v,hx,hK⟩:=ba h;exact⟨v,hK,fun _ β act w hR dst t' p af g w' hh=>PN (hR.ev hc) (hR.ev hx)⟩
  ·exact h.elim
 ·rename_i op t x y ty;obtain⟨a,hx,h⟩:=ba h;obtain⟨b,hy,h⟩:=ba h;cases hn:Gv y with
  | true=>
   rw[hn]at h;have e:=Lc hn;subst e;obtain⟨v,hK,hr⟩:=T4 hx h;exact⟨v,hK,fun hg β act w hR dst t' p af g w' hh=>hr hg β act w hR _ _ _ _ _ _⟩
  | false=>
  rw[hn]at h;obtain⟨v,hK,hr⟩:=PX h;exact⟨v,hK,fun hg β act w hR dst t' p af g w' hh=>hr hg β act _ _ _ _ _ _ _ _ _ (hR.ev hx) (hR.ev hy)⟩
 ·obtain⟨a,hx,h⟩:=ba h;split at h
  ·exact⟨_,h,fun _ β act w hR dst t' p af g w' hh=>by simp only[execOp,hR.ev hx];rfl⟩
  ·exact⟨_,h,fun _ β act w hR dst t' p af g w' hh=>by simp only[execOp,hR.ev hx];rfl⟩
  ·exact h.elim
 ·obtain⟨a,hx,h⟩:=ba h;obtain⟨⟨k,n⟩,hp,h⟩:=ba h;exact⟨_,h,fun _ β act w hR dst t' p af g w' hh=>by simp only[execOp,hR.ev hx,cQ hp];rfl⟩
 ·obtain⟨a,hx,h⟩:=ba h;exact T8 hx h
 ·rename_i x i;obtain⟨a,hx,h⟩:=ba h;split at h
  ·rename_i l;obtain⟨h1,h⟩:=cX h;obtain⟨v,hv,hK⟩:=ba h;refine⟨v,hK,fun _ β act w hR dst t' p af g w' hh=>?_⟩;have e:=(hR.ev hx).trans (by
    show Value.tuple (nt β l).toArray=_;rw[kx β h1])
   have e2:(cm β (kJ l))[i]? =some (val β v):=by rw[cm,cF,hv];rfl
   simp only[execOp,e,Instr.extract];simp[e2]
  ·exact h.elim
 ·rename_i t parts;obtain⟨ps,hp,h⟩:=ba h;obtain⟨r,hr,hK⟩:=ba h;refine⟨_,hK,fun _ β act w hR dst t' p af g w' hh=>?_⟩;have e:val β (.agg (lV r))=.agg (cm β r).toArray:=by
   show Value.agg (nt β (lV r)).toArray=_;rw[oB]
  rw[e];obtain⟨pl⟩:=parts;exact PO (hR.Pb hp) (PZ hr β w')
 ·rename_i fn fs cs;split at h
  ·rename_i f;obtain⟨a,ha,h⟩:=ba h;obtain⟨b,hb,hK⟩:=ba h;refine⟨_,hK,fun _ β act w hR dst t' p af g w' hh=>?_⟩;obtain⟨cl⟩:=cs;have:=EC (P:=P) (w:=w') (dst:=dst) (t':=t') (p:=p) (af:=af) (g:=g) (fn:=.func f) (hR.Iv ha) (hR.Iv hb);rw[<-oB,<-oB]at this;exact this
  ·exact h.elim
 ·obtain⟨a,hx,h⟩:=ba h;obtain⟨d,hu,h⟩:=ba h;obtain⟨h1,hK⟩:=cX h;simp at h1;refine⟨_,hK,fun _ β act w hR dst t' p af g w' hh=>?_⟩;have e:val β a=val β0 a:=ga (g:=fun _=>false) (fun i h=>(by cases h)) a h1.2;exact PQ (run_underlying hu w') (by unfold nif at h1;cases d<;>first | rfl | exact h1.1) ((hR.ev hx).trans e)
 ·obtain⟨a,hx,h⟩:=ba h;split at h
  ·exact⟨_,h,fun _ β act w hR dst t' p af g w' hh=>KU (hR.ev hx)⟩
  ·exact⟨_,h,fun _ β act w hR dst t' p af g w' hh=>KU (hR.ev hx)⟩
  ·obtain⟨q,hF,hK⟩:=h;refine⟨_,hK,fun hg β act w hR dst t' p af g w' hh=>KU ((hR.ev hx).trans ?_)⟩;have:=fu hF hg;subst this;rfl
  ·exact⟨_,h,fun _ β act w hR dst t' p af g w' hh=>by
    have e:=hR.ev hx;simp only[execOp,e,Sem.run_pure,val,nt,wA]⟩
  ·exact h.elim
 ·obtain⟨a,hx,h⟩:=ba h;split at h
  ·rename_i fs hu;obtain⟨f,hf,h⟩:=ba h;obtain⟨hs,h⟩:=cX h;have hs:=ci hs;have hso:(P.info? f.type).isSome=true:=by
    unfold rO at hs;split at hs
    ·rename_i hi;rw[hi];rfl
    ·omega
   obtain⟨m,hm⟩:∃m,rO P f.type=m+1:=⟨rO P f.type-1,by omega⟩
   split at h
   ·exact⟨_,h,fun _ β act w hR dst t' p af g w' hh=>Gn (run_underlying hu w') hf (by rw[jd hso,hm]) (hR.ev hx) rfl⟩
   ·exact⟨_,h,fun _ β act w hR dst t' p af g w' hh=>Gn (run_underlying hu w') hf (by rw[jd hso,hm]) (hR.ev hx) (Am _ _ _)⟩
   ·exact h.elim
  ·exact h.elim
 ·obtain⟨a,hx,h⟩:=ba h;split at h
  ·rename_i l fs hu;obtain⟨f,hf,h⟩:=ba h;obtain⟨d,hd,h⟩:=ba h;obtain⟨h1,hK⟩:=cX h;simp only[aR,cD]at h1;obtain⟨⟨hl,hsz⟩,jS⟩:=h1;refine⟨_,hK,fun _ β act w hR dst t' p af g w' hh=>?_⟩;have e:=(hR.ev hx).trans (by
    show Value.agg (nt β l).toArray=_;rw[kx β hl])
   have hv:cm β (((kJ l).drop f.offset).take (rO P f.type))=((cm β (kJ l)).drop f.offset).take (rO P f.type):=by
    simp only[cm,lg,ov]
   have key:(part f.type (cm β (kJ l)).toArray f.offset).run P w'=.ok (val β (IZ (jY d) (((kJ l).drop f.offset).take (rO P f.type)))) w':=by
    cases pv:jY d with
    | true=>
     have e2:=mF pv β (((kJ l).drop f.offset).take (rO P f.type));rw[pv]at e2;rw[e2,hv];rw[P0 (l:=cm β (kJ l)) (off:=f.offset) hd hsz pv w'];congr 3;rw[nl];simp only[cO,cy,eu];omega
    | false=>
     rcases jS with jS | jS
     ·rw[pv]at jS;cases jS
     obtain⟨s,hs⟩:=wO jS;rw[hs];refine Ld hd pv ?_ w';have h4:(((kJ l).drop f.offset).take (rO P f.type))[0]? =some s:=by rw[hs];rfl
     rw[List.getElem?_take]at h4;split at h4
     ·rw[iY,dx]at h4;rw[cm,cF,h4];rfl
     ·cases h4
   simp only[execOp,e,Instr.field,Sem.run_bind,run_underlying hu,Result.andThen_ok,hf,asAgg,Sem.run_pure,key]
  ·exact h.elim
 ·obtain⟨a,hx,h⟩:=ba h;obtain⟨j,hj,h⟩:=ba h;obtain⟨⟨k,n⟩,hn,h⟩:=ba h;split at h
  ·rename_i e hu;obtain⟨s,hs,h⟩:=ba h;obtain⟨hi,h⟩:=cX h;obtain⟨q,hF,hK⟩:=h;exact⟨_,hK,fun hg β act w hR dst t' p af g w' hh=>KV (run_underlying hu w') (jd hi w') ((hR.ev hx).trans (iC hs β)) ((hR.ev hj).trans (cQ hn β)) (fu hF hg)⟩
  ·rename_i len e hu;obtain⟨hi,h⟩:=cX h;split at h
   ·obtain⟨h1,hK⟩:=cX h;simp at h1;exact⟨_,hK,fun hg β act w hR dst t' p af g w' hh=>sR (run_underlying hu w') (jd hi w') (hR.ev hx) (hR.ev hj) h1.1 h1.2 (Am _ _ _)⟩
   ·obtain⟨h1,hK⟩:=cX h;simp at h1;exact⟨_,hK,fun hg β act w hR dst t' p af g w' hh=>sR (run_underlying hu w') (jd hi w') (hR.ev hx) (hR.ev hj) h1.1 h1.2 rfl⟩
   ·obtain⟨q,hF,hK⟩:=h;exact⟨_,hK,fun hg β act w hR dst t' p af g w' hh=>sR (run_underlying hu w') (jd hi w') (hR.ev hx) ((hR.ev hj).trans (cQ hn β)) (fu hF hg).1 (fu hF hg).2.1 (fu hF hg).2.2⟩
   ·obtain⟨_,⟨h0,h1⟩,hK⟩:=cX h;exact⟨_,Gw hK h0 h1,fun hg β act w hR dst t' p af g w' hh=>sR (run_underlying hu w') (jd hi w') (hR.ev hx) ((hR.ev hj).trans (cQ hn β)) h0 h1 (Am _ _ _)⟩
   ·exact h.elim
  ·exact h.elim
 ·obtain⟨a,hx,h⟩:=ba h;exact T7 hx h
 ·obtain⟨a,hx,h⟩:=ba h;obtain⟨j,hj,h⟩:=ba h;obtain⟨⟨k,n⟩,hn,h⟩:=ba h;split at h
  ·rename_i hu;obtain⟨s,hs,h⟩:=ba h;obtain⟨c,hF,hK⟩:=h;exact⟨_,hK,fun hg β act w hR dst t' p af g w' hh=>ED (run_underlying hu w') ((hR.ev hx).trans (fM hs β)) ((hR.ev hj).trans (cQ hn β)) (fu hF hg).1 (fu hF hg).2⟩
  ·exact h.elim
 ·obtain⟨a,hx,h⟩:=ba h;split at h
  ·rename_i e hu;obtain⟨s,hs,h⟩:=ba h;obtain⟨hi,h⟩:=cX h;exact Ua hu hi hx hs h
  ·rename_i hu;obtain⟨s,hs,h⟩:=ba h;exact Ub hu hx hs h
  ·exact h.elim
 ·rename_i c;obtain⟨callee,⟨xs⟩,⟨ts⟩⟩:=c;split at h
  ·rename_i b hb;subst hb;exact T9 h
  ·exact h.elim
 ·exact h.elim
end
structure Rt (β:Nat->Nat) (n:Nat) (fr:List (Nat×Nat×SV)) (D:List Deferred) (a:Act):Prop where
 sz:a.tmps.size=n
 df:a.defers=D
 at_:∀i p,dh fr i=some p->i<n->a.tmps[i]? =some (val β p.2)
theorem oC{β}{n}{fr}{D}{a}(h:Rt β n fr D a):∃us,a=Xt n us (cv β fr) D:=by
 refine⟨fun i=>(a.tmps[i]?).getD undef,?_⟩;obtain⟨tmps,df⟩:=a;obtain⟨h1,h2,h3⟩:=h;dsimp only at h1 h2 h3;congr 1;apply Array.ext';apply jz;intro i;by_cases hi:i<n
 ·rw[kw _ _ _ _ _ hi,bJ];cases hl:dh fr i with
  | none=>
   rw[Ak (l:=cv β fr) (by rw[jA,hl];rfl)];have:i<tmps.size:=by omega
   simp[this]
  | some p=>
   rw[qE (l:=cv β fr) (v:=val β p.2) (by rw[jA,hl];rfl)];have:=h3 i p hl hi;simpa using this
 ·rw[dC (by simp;omega),dC (by rw[lw];exact oh hi)]
theorem P1{β}{n}{fr}{D}{us}:Rt β n fr D (Xt n us (cv β fr) D):=by
 refine⟨by simp[Xt,lw],rfl,fun i p hl hi=>?_⟩;simp[Xt,nj];rw[kw _ _ _ _ _ hi,bJ,qE (l:=cv β fr) (v:=val β p.2) (by rw[jA,hl];rfl)]
theorem Rep.ok{β}{st}{a}{w}(h:Rep β st a w):Rt β st.n st.fr (R8 st.df) a:=by
 obtain⟨us,rfl⟩:=h.fr;exact P1
def Uc(st:St)(ops:List Oper)(j:Nat):Option (Nat×SV):=match fA ops j with
 | some o=>(match o.dst with
  | some d=>(st.get d).map fun s=>(d,s)
  | none=>none)
 | none=>none
theorem wP{st}{ops}{j d}{s}(h:Uc st ops j=some (d,s)):∃oj,fA ops j=some oj/\oj.dst=some d/\st.get d=some s:=by
 unfold Uc at h;split at h
 ·rename_i o ho;split at h
  ·rename_i e he;cases hg:st.get e with
   | none=>rw[hg]at h;cases h
   | some u=>
    rw[hg]at h;obtain⟨rfl,rfl⟩:=h;exact⟨o,ho,he,hg⟩
  ·cases h
 ·cases h
section
variable {β:Nat->Nat} {st:St} {a:Act} {w:av} {ops:List Oper} {o:Oper} {j d:Nat} {want b:Bool}
theorem ny(hR:Rep β st a w)(hg:o.guard=some (j,want)){s}(ht:Uc st ops j=some (d,s))(hs:val β s=.bool b):Region.wanted o (yielded ops.toArray a.tmps)=(b==want):=by
 obtain⟨oj,h1,h2,h3⟩:=wP ht;obtain⟨us,rfl⟩:=hR.fr;exact wtF hg h1 h2 (by rw[<-hs];exact St.evO β h3) rfl
theorem uv(hR:Rep β st a w)(hg:o.guard=some (j,want))(ht:Uc st ops j=some (d,.un)):Region.wanted o (yielded ops.toArray a.tmps)=false:=by
 obtain⟨oj,h1,h2,h3⟩:=wP ht;obtain⟨us,rfl⟩:=hR.fr;exact wuF hg h1 h2 (St.evO β (x:=.tmp d) (s:=.un) h3)
theorem Rep.set(hR:Rep β st a w){s s'}(hg:st.get d=some s)(hv:val β s=val β s'):Rep β (st.put (some d) s') a w:=by
 refine⟨oC ⟨hR.ok.sz,hR.ok.df,fun i p hl hi=>?_⟩,hR.bx,hR.ne,hR.only,hR.still⟩;simp[St.put,dh]at hl;cases hb:Nat.beq d i with
 | true=>
  rw[hb]at hl;simp at hl;subst hl;have:=bR hb;subst this;unfold St.get at hg;cases bQ:Nat.blt d st.n with
  | false=>rw[bQ]at hg;cases hg
  | true=>
   rw[bQ,lS]at hg;cases hq:dh st.fr d with
   | none=>rw[hq]at hg;cases hg
   | some q=>
    rw[hq]at hg;simp at hg;rw[hR.ok.at_ d q hq hi,hg,hv]
 | false=>rw[hb]at hl;exact hR.ok.at_ i p (by simpa using hl) hi
end
section
variable {P:Program} {ops:List Oper} {w:av}
def sX(P:Program)(ops:List Oper)(w:av):List Oper->Act->Act->Prop
 | [],a,a'=>a'=a
 | o::r,a,a'=>(Region.wanted o (yielded ops.toArray a.tmps)=true/\∃v,(∀w',w'.heap=w.heap->(execOp a.eval o).run P w'=.ok (.value v) w')/\sX P ops w r (a.put o.dst v) a')∨
  (Region.wanted o (yielded ops.toArray a.tmps)=false/\sX P ops w r (a.put o.dst undef) a')
theorem wQ:∀{l m:List Oper} {a b c:Act},sX P ops w l a b->sX P ops w m b c->sX P ops w (l++m) a c
 | [],_,_,_,_,h,k=>by
  subst h;exact k
 | o::r,m,a,b,c,h,k=>by
  rcases h with⟨h1,v,h2,h3⟩ | ⟨h1,h3⟩
  ·exact .inl ⟨h1,v,h2,wQ (l:=r) h3 k⟩
  ·exact .inr ⟨h1,wQ (l:=r) h3 k⟩
theorem An{Q}:∀{l rest:List Oper} {a a':Act},sX P ops w l a a'->wpList P ops.toArray Q rest a' w->wpList P ops.toArray Q (l++rest) a w
 | [],_,_,_,h,k=>by
  subst h;exact k
 | o::r,m,a,b,h,k=>by
  rcases h with⟨h1,v,h2,h3⟩ | ⟨h1,h3⟩
  ·exact zW v h1 (h2 w rfl) rfl (An (l:=r) h3 k)
  ·exact R5 h1 rfl (An (l:=r) h3 k)
theorem EW{Q}:∀{l rest:List Oper} {a a':Act},sX P ops w l a a'->wpQuiet P ops.toArray (fun w'=>∃n,w'=w.drewN n) Q rest a'->wpQuiet P ops.toArray (fun w'=>∃n,w'=w.drewN n) Q (l++rest) a
 | [],_,_,_,h,k=>by
  subst h;exact k
 | o::r,m,a,b,h,k=>by
  rcases h with⟨h1,v,h2,h3⟩ | ⟨h1,h3⟩
  ·exact Yv v h1 (by rintro _ ⟨n,rfl⟩;exact h2 _ rfl) rfl (EW (l:=r) h3 k)
  ·exact adW h1 rfl (EW (l:=r) h3 k)
def Ao:List Oper->List Nat
 | []=>[]
 | o::r=>match o.dst with
  | some d=>d::Ao r
  | none=>Ao r
theorem iT(a:Act) d v:(a.put d v).tmps.size=a.tmps.size/\(a.put d v).defers=a.defers/\∀i,d≠some i->(a.put d v).tmps[i]? =a.tmps[i]? :=by
 cases d with
 | none=>exact⟨rfl,rfl,fun _ _=>rfl⟩
 | some k=>
  refine⟨by simp[Act.put],rfl,fun i hi=>?_⟩;simp[Act.put];rw[nc (fun e=>hi (by rw[e]))]
theorem wR:∀{l:List Oper} {a a':Act},sX P ops w l a a'->a'.tmps.size=a.tmps.size/\a'.defers=a.defers/\∀i,(Ao l).elem i=false->a'.tmps[i]? =a.tmps[i]?
 | [],_,_,h=>by
  subst h;exact⟨rfl,rfl,fun _ _=>rfl⟩
 | o::r,a,b,h=>by
  have key:∀v,sX P ops w r _ b->b.tmps.size=a.tmps.size/\b.defers=a.defers/\∀i,(Ao (o::r)).elem i=false->b.tmps[i]? =a.tmps[i]? :=fun v h3=>by
   obtain⟨k1,k2,k3⟩:=wR h3;obtain⟨p1,p2,p3⟩:=iT a o.dst v;refine⟨k1.trans p1,k2.trans p2,fun i hi=>?_⟩;cases hd:o.dst with
   | none=>
    simp only[Ao,hd]at hi;rw[k3 i hi,p3 i (by rw[hd];simp)]
   | some d=>
    simp only[Ao,hd,jR]at hi;split at hi
    ·cases hi
    ·rename_i gL;rw[k3 i hi,p3 i (by rw[hd];intro e;simp at e;subst e;simp at gL)]
  rcases h with⟨h1,v,h2,h3⟩ | ⟨h1,h3⟩
  ·exact key v h3
  ·exact key _ h3
end
def YI(ops:List Oper):Nat->Nat->Nat->Bool
 | 0,_,_=>false
 | f+1,q,j=>bif Nat.beq q j then true else match fA ops q with
  | some o=>(match o.guard with
   | some (r,_)=>YI ops f r j
   | none=>false)
  | none=>false
def vF(ops:List Oper)(j:Nat):List Oper->Nat
 | []=>0
 | o::r=>match o.guard with
  | some (q,_)=>bif YI ops 50 q j then vF ops j r+1 else 0
  | none=>0
def mrg(t:Bool)(a b:SV):Option SV:=match a,b with
 | .bl true,.bl false=>some (.bt t)
 | .bl true,.bt y=>some (.bt (t||y))
 | .bt x,.bl false=>some (.bt (t&&x))
 | .bl false,.bl true=>some (.bt (!t))
 | .bl false,.bt y=>some (.bt (!t&&y))
 | .bt x,.bl true=>some (.bt (!t||x))
 | .bt x,.bt y=>some (.bt (bif t then x else y))
 | .bl true,.bl true=>some (.bl true)
 | .bl false,.bl false=>some (.bl false)
 | _,_=>none
theorem Lh{t}{a b v}(h:mrg t a b=some v) β:(t=true->val β v=val β a)/\(t=false->val β v=val β b):=by
 unfold mrg at h;split at h<;>simp at h<;>subst h<;>refine⟨fun e=>?_,fun e=>?_⟩<;>subst e<;>simp[val,nt]
def wS(ds:List Nat):List (Nat×Nat×SV)->List (Nat×Nat×SV)
 | []=>[]
 | p::r=>bif ds.elem p.1 then wS ds r else p::wS ds r
theorem jg{ds}:∀{l:List _} {i:Nat},(ds.elem i=true->dh (wS ds l) i=none)/\(ds.elem i=false->dh (wS ds l) i=dh l i)
 | [],i=>⟨fun _=>rfl,fun _=>rfl⟩
 | (k,p)::r,i=>by
  obtain⟨h1,h2⟩:=jg (ds:=ds) (l:=r) (i:=i);simp only[wS];cases hk:ds.elem k with
  | true=>
   simp only[lS];refine⟨h1,fun hi=>?_⟩;rw[h2 hi];simp[dh];cases hb:Nat.beq k i with
   | true=>have:=bR hb;subst this;rw[hi]at hk;cases hk
   | false=>rfl
  | false=>
   simp only[rk,dh];cases hb:Nat.beq k i with
   | true=>
    have:=bR hb;subst this;exact⟨fun hi=>(by rw[hi]at hk;cases hk),fun _=>rfl⟩
   | false=>exact⟨h1,h2⟩
def St.ml(st:St)(ds:List Nat):St:={st with fr:=wS ds st.fr}
theorem Ext.ml st ds:Ext st (st.ml ds):=
 ⟨rfl,aV _,fun i k v hl _=>by
  cases he:ds.elem i with
  | true=>rw[show dh (st.ml ds).fr i=none from(jg (l:=st.fr)).1 he]at hl;cases hl
  | false=>rw[show dh (st.ml ds).fr i=dh st.fr i from(jg (l:=st.fr)).2 he]at hl;exact hl,fun i b h ho _=>⟨b,h,ho,rfl,rfl,rfl,fun _ h=>h⟩,K7,B0⟩
structure Alike (s t:St):Prop where
 bx:t.bx=s.bx
 w0:t.w0=s.w0
 mv:t.mv=s.mv
 dt:t.dt=s.dt
 n:t.n=s.n
 df:t.df=s.df
theorem Alike.refl s:Alike s s:=⟨rfl,rfl,rfl,rfl,rfl,rfl⟩
theorem Alike.trans{s t u}(h:Alike s t)(k:Alike t u):Alike s u:=⟨k.bx.trans h.bx,k.w0.trans h.w0,k.mv.trans h.mv,k.dt.trans h.dt,k.n.trans h.n,k.df.trans h.df⟩
theorem Alike.put s d v:Alike s (s.put d v):=by cases d<;>exact⟨rfl,rfl,rfl,rfl,rfl,rfl⟩
theorem Rep.alike{β}{s t}{a a'}{w}(h:Rep β s a w)(k:Alike s t)(hf:Rt β t.n t.fr (R8 t.df) a'):Rep β t a' w:=by
 obtain⟨k1,k2,k3,k4,k5,k6⟩:=k;refine⟨oC hf,fun i b hb ho=>?_,fun i j bi bj h1 h2 h3 h4=>?_,?_,fun hm=>?_⟩
 ·rw[k1]at hb;obtain⟨g1,g2,g3⟩:=h.bx i b hb ho;exact⟨g1,g2,fun e=>by rw[k2];exact g3 e⟩
 ·rw[k1]at h1 h2;exact h.ne i j bi bj h1 h2 h3 h4
 ·rw[k2,k4];exact h.only
 ·rw[k2];exact h.still (by rw[<-k3];exact hm)
def uw(P:Program)(ops:List Oper):Nat->List (Bool×Bool)->List Oper->St->(St->Prop)->Prop
 | 0,_,_,_,_=>False
 | _+1,_,[],st,K=>K st
 | f+1,gs,o::rest,st,K=>match o.guard with
  | none=>T6 P gs st o.op fun v=>uw P ops f gs rest (st.put o.dst v) K
  | some (j,want)=>(match Uc st ops j with
   | some (_,.un)=>uw P ops f gs rest (st.put o.dst .un) K
   | some (_,.bl b)=>bif b==want then T6 P gs st o.op fun v=>uw P ops f gs rest (st.put o.dst v) K else uw P ops f gs rest (st.put o.dst .un) K
   | some (d,.bt t)=>(match(o::rest)[vF ops j (o::rest)]? with
    | some pk=>(match pk.dst with
     | some k=>
      uw P ops f (gs++[(t,true)]) ((o::rest).take (vF ops j (o::rest)+1)) (st.put (some d) (.bl true)) fun sa=>
      bU (sa.get k) fun va=>
      uw P ops f (gs++[(t,false)]) ((o::rest).take (vF ops j (o::rest)+1)) (st.put (some d) (.bl false)) fun sb=>
      bU (sb.get k) fun vb=>
      bU (mrg t va vb) fun v=>
      uw P ops f gs ((o::rest).drop (vF ops j (o::rest)+1)) ((st.ml (Ao ((o::rest).take (vF ops j (o::rest)+1)))).put (some k) v) K
     | none=>False)
    | none=>False)
   | _=>False)
theorem EX:∀{gs:List _} {t b:Bool},gh gs->t=b->gh (gs++[(t,b)])
 | [],_,_,_,h=>⟨h,trivial⟩
 | _::r,_,_,h,k=>⟨h.1,EX (gs:=r) h.2 k⟩
theorem oE{P}{ops}:∀{f:Nat} {gs:List _} {l:List Oper} {st:St} {K:St->Prop},uw P ops f gs l st K->
  ∃cn,K cn/\Ext st cn/\Alike st cn/\(gh gs->∀β a w,Rep β st a w->∃a',sX P ops w l a a'/\Rep β cn a' w)
 | 0,_,_,_,_,h=>h.elim
 | _+1,gs,[],st,K,h=>⟨st,h,Ext.refl _,Alike.refl _,fun _ β a w hR=>⟨a,rfl,hR⟩⟩
 | f+1,gs,o::rest,st,K,h=>by
  have one:(Region.wanted o=fun _=>true)∨True->∀{K:St->Prop},(T6 P gs st o.op fun v=>uw P ops f gs rest (st.put o.dst v) K)->
    (gh gs->∀β a w,Rep β st a w->Region.wanted o _=true)->
    ∃cn,K cn/\Ext st cn/\Alike st cn/\(gh gs->∀β a w,Rep β st a w->∃a',sX P ops w (o::rest) a a'/\Rep β cn a' w):=fun _ K h hw=>by
   obtain⟨v,h1,hy⟩:=EV h;obtain⟨cn,k1,k2,k3,k4⟩:=oE h1;refine⟨cn,k1,(Ext.put _ _ _).trans k2,(Alike.put _ _ _).trans k3,fun hg β a w hR=>?_⟩;obtain⟨a',g1,g2⟩:=k4 hg β _ w (hR.put o.dst v);exact⟨a',.inl ⟨hw hg β a w hR,_,fun w' hh=>hy hg β a w hR _ _ _ _ _ w' fun _=>hh,g1⟩,g2⟩
  have no:∀{K:St->Prop},uw P ops f gs rest (st.put o.dst .un) K->(gh gs->∀β a w,Rep β st a w->Region.wanted o _=false)->
    ∃cn,K cn/\Ext st cn/\Alike st cn/\(gh gs->∀β a w,Rep β st a w->∃a',sX P ops w (o::rest) a a'/\Rep β cn a' w):=fun h1 hw=>by
   obtain⟨cn,k1,k2,k3,k4⟩:=oE h1;refine⟨cn,k1,(Ext.put _ _ _).trans k2,(Alike.put _ _ _).trans k3,fun hg β a w hR=>?_⟩;obtain⟨a',g1,g2⟩:=k4 hg β _ w (hR.put o.dst .un);exact⟨a',.inr ⟨hw hg β a w hR,g1⟩,g2⟩
  unfold uw at h;split at h
  ·rename_i hg0;exact one (.inr trivial) h fun _ β a w hR=>wn hg0
  ·rename_i j want hg0;split at h
   ·rename_i d ht;exact no h fun _ β a w hR=>uv hR hg0 ht
   ·rename_i d b ht;cases hb:(b==want)with
    | true=>
     rw[hb]at h;exact one (.inr trivial) h fun _ β a w hR=>by rw[ny hR hg0 ht (b:=b) rfl,hb]
    | false=>
     rw[hb]at h;exact no h fun _ β a w hR=>by rw[ny hR hg0 ht (b:=b) rfl,hb]
   ·rename_i d t ht;obtain⟨oj,KB,XJ,Pf⟩:=wP ht;split at h
    ·rename_i pk hpk;split at h
     ·rename_i k hk;generalize vF ops j _=m at h hpk;obtain⟨sa,ha,ea1,ea2,ea3⟩:=oE h;obtain⟨va,hva,ha⟩:=ba ha;obtain⟨sb,hb,eb1,eb2,eb3⟩:=oE ha;obtain⟨vb,hvb,hb⟩:=ba hb;obtain⟨v,hv,hb⟩:=ba hb;obtain⟨cn,k1,k2,k3,k4⟩:=oE hb;refine⟨cn,k1,((Ext.ml _ _).trans (Ext.put _ _ _)).trans k2,((⟨rfl,rfl,rfl,rfl,rfl,rfl⟩:Alike st (st.ml _)).trans (Alike.put _ _ _)).trans k3,fun hg β a w hR=>?_⟩;have fin:∀(s:SV) u x,Rep β u a w->(∃a',sX P ops w ((o::rest).take (m+1)) a a'/\∃u',Rep β u' a' w/\u'.n=st.n/\u'.get k=some x/\val β v=val β x)->∃a',sX P ops w (o::rest) a a'/\Rep β cn a' w:=by
       rintro s u x hu ⟨a1,g1,u',r1,r2,r3,r4⟩;obtain⟨f1,f2,f3⟩:=wR g1;have fJ:Rep β ((st.ml (Ao ((o::rest).take (m+1)))).put (some k) v) a1 w:=by
        refine hR.alike ((⟨rfl,rfl,rfl,rfl,rfl,rfl⟩:Alike st (st.ml _)).trans (Alike.put _ _ _)) ⟨f1.trans hR.ok.sz,f2.trans hR.ok.df,fun i p hl hi=>?_⟩;simp only[St.put,dh]at hl;cases KC:Nat.beq k i with
        | true=>
         rw[KC]at hl;simp at hl;subst hl;have:=bR KC;subst this;rw[r4,<-r1.get r3];have hs:k<a1.tmps.size:=by rw[f1,hR.ok.sz];exact hi
         simp[Act.eval,hs]
        | false=>
         rw[KC]at hl;cases he:(Ao _).elem i with
         | true=>rw[show dh (st.ml _).fr i=none from(jg (l:=st.fr)).1 he]at hl;cases hl
         | false=>
          rw[show dh (st.ml _).fr i=dh st.fr i from(jg (l:=st.fr)).2 he]at hl;rw[f3 i he];exact hR.ok.at_ i p hl hi
       obtain⟨a2,g2,g3⟩:=k4 hg β a1 w fJ;refine⟨a2,?_,g3⟩;have:=wQ g1 g2;rwa[dD]at this
      cases t with
      | true=>
       have hu:Rep β (st.put _ (.bl true)) a w:=hR.set Pf rfl;obtain⟨a1,g1,g2⟩:=ea3 (EX hg rfl) β a w hu;exact fin (.bl true) _ va hu ⟨a1,g1,sa,g2,ea2.n.trans rfl,hva,(Lh hv β).1 rfl⟩
      | false=>
       have hu:Rep β (st.put _ (.bl false)) a w:=hR.set Pf rfl;obtain⟨a1,g1,g2⟩:=eb3 (EX hg rfl) β a w hu;exact fin (.bl false) _ vb hu ⟨a1,g1,sb,g2,eb2.n.trans rfl,hvb,(Lh hv β).2 rfl⟩
     ·exact h.elim
    ·exact h.elim
   ·exact h.elim
theorem iU:∀l b i,cJ (l++[b]) i=if i=l.length then some b else cJ l i
 | [],b,0=>rfl
 | [],b,i+1=>rfl
 | a::r,b,0=>rfl
 | a::r,b,i+1=>by
  simp;exact iU r b i
theorem oG:∀{l:List iQ} {i:Nat} {b:iQ},cJ l i=some b->i<l.length
 | a::r,0,_,_=>by simp
 | a::r,i+1,b,h=>by simp[cJ]at h;have:=oG h;simp;omega
theorem gM:∀{l:List iQ} {i:Nat} {b c:iQ},cJ l i=some b->∀j,cJ (IY l i c) j=if j=i then some c else cJ l j
 | a::r,0,b,c,_,0=>rfl
 | a::r,0,b,c,_,j+1=>rfl
 | a::r,i+1,b,c,h,0=>rfl
 | a::r,i+1,b,c,h,j+1=>by
  simp[cJ]at h;simp;exact gM h j
theorem kK{b}{p q}(h:bif b then p else q):(b=true/\p)∨(b=false/\q):=by
 cases b with
 | true=>exact .inl ⟨rfl,h⟩
 | false=>exact .inr ⟨rfl,h⟩
def En(bx:List iQ)(i:Nat):Nat:=match cJ bx i with
 | some b=>b.blk.getD 0
 | none=>0
def CG(bx:List iQ)(i:Nat):Bool:=match cJ bx i with
 | some b=>b.ok&&b.blk.isSome
 | none=>false
abbrev St.bl(st:St)(i:Nat):Nat:=En st.bx i
abbrev St.FN(st:St)(i:Nat):Bool:=CG st.bx i
theorem Rep.bl{β}{st}{a}{w}(h:Rep β st a w) i (hg:st.FN i=true):st.bl i=β i:=by
 unfold St.FN CG at hg;unfold St.bl En;cases hb:cJ st.bx i with
 | none=>rw[hb]at hg;cases hg
 | some b=>
  rw[hb]at hg;simp at hg;cases hk:b.blk with
  | none=>rw[hk]at hg;cases hg.2
  | some k=>
   have:=(h.bx i b hb hg.1).at_ k hk;simp[hk,this]
theorem Rep.qv{β}{st}{a}{w}(h:Rep β st a w){l}(hc:fL st.FN l=true):cm st.bl l=cm β l:=ft (g:=st.FN) h.bl l hc
theorem Rep.aaf{β}{st}{a}{w}(h:Rep β st a w){s}(hc:cln st.FN s=true):val st.bl s=val β s:=ga (g:=st.FN) h.bl s hc
def CH:List iQ->(List iQ->Prop)->Prop
 | [],K=>K []
 | b::r,K=>match b.ok,b.blk with
  | true,none=>∀k,CH r fun r'=>K ({b with blk:=some k}::r')
  | _,_=>CH r fun r'=>K (b::r')
def pR(k:Nat)(b:iQ):iQ:=match b.ok,b.blk with
 | true,none=>{b with blk:=some k}
 | _,_=>b
def kM(β:Nat->Nat):Nat->List iQ->List iQ
 | _,[]=>[]
 | n,b::r=>pR (β n) b::kM β (n+1) r
theorem wT β:∀{bs:List iQ} n {K:List iQ->Prop},CH bs K->K (kM β n bs)
 | [],_,_,h=>h
 | b::r,n,K,h=>by
  unfold CH at h;unfold kM;split at h
  ·have:=wT β (n+1) (h (β n));have e:pR (β n) b={b with blk:=some (β n)}:=by unfold pR<;>simp_all
   rw[e];exact this
  ·rename_i h1;have:=wT β (n+1) h;have e:pR (β n) b=b:=by
    unfold pR;split
    ·rename_i e1 e2;exact absurd e2 (fun e2=>h1 e1 e2)
    ·rfl
   rw[e];exact this
theorem wU β:∀bs n i,cJ (kM β n bs) i=(cJ bs i).map (pR (β (n+i)))
 | [],_,_=>rfl
 | b::r,n,0=>rfl
 | b::r,n,i+1=>by
  simp[kM,cJ];rw[wU β r _ i,show n+1+i=n+(i+1) by omega]
def CI(w0 w:av):List iQ->List iQ->Prop->Prop
 | b::r,b'::r',p=>match b.ok,b.blk with
  | true,none=>w0.heap.size<=b'.blk.getD 0->b'.blk.getD 0<w.heap.size->CI w0 w r r' p
  | _,_=>CI w0 w r r' p
 | _,_,p=>p
theorem wV{β}{w0 w}:∀{bs:List iQ} n {p:Prop},CI w0 w bs (kM β n bs) p->(∀i b,cJ bs i=some b->b.ok=true->b.blk=none->w0.heap.size<=β (n+i)/\β (n+i)<w.heap.size)->p
 | [],_,_,h,_=>h
 | b::r,n,p,h,hb=>by
  simp[kM]at h;unfold CI at h;split at h
  ·rename_i h1 h2;obtain⟨e1,e2⟩:=hb 0 b rfl h1 h2;have e:(pR (β n) b).blk.getD 0=β n:=by unfold pR;rw[h1,h2];rfl
   rw[e]at h;exact wV _ (h e1 e2) fun i c hc=>by have:=hb (i+1) c hc;rwa[show n+_=n+1+i by omega]at this
  ·exact wV _ h fun i c hc=>by have:=hb (i+1) c hc;rwa[show n+_=n+1+i by omega]at this
def Xu(g:Nat->Bool)(bl:Nat->Nat)(w:av)(all:Bool):List iQ->Prop->Prop
 | [],p=>p
 | b::r,p=>bif b.ok&&b.blk.isSome&&b.esc&&(all||!b.sh)&&fL g b.cells then Blk w (b.blk.getD 0) b.ty (cm bl b.cells)->Xu g bl w all r p else Xu g bl w all r p
theorem Ap{g}{bl}{w}{all}:∀{bs:List iQ} {p:Prop},Xu g bl w all bs p->(∀i b,cJ bs i=some b->b.ok=true->b.blk.isSome=true->fL g b.cells=true->Blk w (b.blk.getD 0) b.ty (cm bl b.cells))->p
 | [],_,h,_=>h
 | b::r,p,h,hb=>by
  unfold Xu at h;cases hc:(b.ok&&b.blk.isSome&&b.esc&&_&&fL g b.cells)with
  | true=>
   rw[hc]at h;simp at hc;exact Ap (h (hb 0 b rfl hc.1.1.1.1 hc.1.1.1.2 hc.2)) fun i c hi=>hb (i+1) c hi
  | false=>
   rw[hc]at h;exact Ap h fun i c hi=>hb (i+1) c hi
def sY:List iQ->List iQ
 | []=>[]
 | b::r=>{b with sh:=b.esc}::sY r
theorem nA:∀l i,cJ (sY l) i=(cJ l i).map fun b=>{b with sh:=b.esc}
 | [],_=>rfl
 | b::r,0=>rfl
 | b::r,i+1=>nA r i
def wW(bs:List iQ):List Nat->Bool
 | []=>true
 | i::r=>(match cJ bs i with
  | some b=>b.ok
  | none=>false)&&wW bs r
theorem qF{bs}:∀{l:List Nat},wW bs l=true->∀i∈l,∃b,cJ bs i=some b/\b.ok=true
 | i::r,h,j,hj=>by
  simp[wW,aR]at h;rcases aQ.1 hj with rfl | hj
  ·split at h
   ·rename_i b hb;exact⟨b,hb,h.1⟩
   ·cases h.1
  ·exact qF h.2 j hj
def I0:List iQ->List iQ->List (Nat×Bool)
 | b::r,b'::r'=>bif b.ok&&b.blk.isNone then(b'.blk.getD 0,b.esc)::I0 r r' else I0 r r'
 | _,_=>[]
def Li(k:Nat):List (Nat×Bool)->Prop->Prop
 | [],p=>p
 | x::r,p=>bif x.2 then Li k r p else(x.1≠k->Li k r p)
def Lj(all:List (Nat×Bool)):List (Nat×Bool)->Prop->Prop
 | [],p=>p
 | x::r,p=>bif x.2 then Li x.1 all (Lj all r p)else Lj all r p
theorem Aq{k}:∀{l:List _} {p:Prop},Li k l p->(∀y,y∈l->y.2=false->y.1≠k)->p
 | [],_,h,_=>h
 | x::r,p,h,hd=>by
  unfold Li at h;cases hx:x.2 with
  | true=>rw[hx]at h;exact Aq h fun y hy=>hd y (cP _ hy)
  | false=>rw[hx]at h;exact Aq (h (hd x dc hx)) fun y hy=>hd y (cP _ hy)
theorem Ar{all}:∀{l:List _} {p:Prop},Lj all l p->(∀x,x∈l->x.2=true->∀y,y∈all->y.2=false->y.1≠x.1)->p
 | [],_,h,_=>h
 | x::r,p,h,hd=>by
  unfold Lj at h;cases hx:x.2 with
  | true=>rw[hx]at h;exact Ar (Aq h fun y hy hf=>hd x dc hx y hy hf) fun z hz=>hd z (cP _ hz)
  | false=>rw[hx]at h;exact Ar h fun z hz=>hd z (cP _ hz)
theorem sZ{β}:∀{bs:List iQ} n {x:Nat×Bool},x∈I0 bs (kM β n bs)->∃i b,cJ bs i=some b/\b.ok=true/\x=(β (n+i),b.esc)
 | [],_,_,h=>by cases h
 | b::r,n,x,h=>by
  simp[kM,I0]at h;cases hc:(b.ok&&b.blk.isNone)with
  | true=>
   rw[hc]at h;simp at hc;rcases aQ.1 h with rfl | h
   ·refine⟨0,b,rfl,hc.1,?_⟩;have:(pR (β n) b).blk.getD 0=β n:=by unfold pR;rw[hc.1,hc.2];rfl
    rw[this];rfl
   ·obtain⟨i,c,h1,h2,h3⟩:=sZ _ h;exact⟨i+1,c,h1,h2,by rw[h3,show n+1+i=n+(i+1) by omega]⟩
  | false=>
   rw[hc]at h;obtain⟨i,c,h1,h2,h3⟩:=sZ _ h;exact⟨i+1,c,h1,h2,by rw[h3,show n+1+i=n+(i+1) by omega]⟩
def wX:List iQ->List Nat
 | []=>[]
 | b::r=>bif b.ok&&b.blk.isSome&&b.esc&&!b.sh then b.blk.getD 0::wX r else wX r
def wY:List iQ->List Nat
 | []=>[]
 | b::r=>bif b.ok&&b.blk.isSome&&!b.esc then b.blk.getD 0::wY r else wY r
def Ud(k:Nat):List Nat->Prop->Prop
 | [],p=>p
 | x::r,p=>x≠k->Ud k r p
def P2(N2:List Nat):List Nat->Prop->Prop
 | [],p=>p
 | k::r,p=>Ud k N2 (P2 N2 r p)
theorem Gx{k}:∀{l:List Nat} {p:Prop},Ud k l p->(∀y,y∈l->y≠k)->p
 | [],_,h,_=>h
 | x::r,p,h,hd=>Gx (h (hd x dc)) fun y hy=>hd y (cP _ hy)
theorem Au{N2}:∀{l:List Nat} {p:Prop},P2 N2 l p->(∀k,k∈l->∀y,y∈N2->y≠k)->p
 | [],_,h,_=>h
 | k::r,p,h,hd=>Au (Gx h fun y hy=>hd k dc y hy) fun z hz=>hd z (cP _ hz)
theorem ux:∀{bs:List iQ} {x:Nat},x∈wX bs->∃i b,cJ bs i=some b/\b.ok=true/\b.esc=true/\b.blk=some x
 | [],_,h=>by cases h
 | b::r,x,h=>by
  simp[wX]at h;cases hc:(b.ok&&b.blk.isSome&&b.esc&&!b.sh)with
  | true=>
   rw[hc]at h;simp at hc;rcases aQ.1 h with rfl | h
   ·obtain⟨k,hk⟩:=eO.1 hc.1.1.2;exact⟨0,b,rfl,hc.1.1.1,hc.1.2,by rw[hk];rfl⟩
   ·obtain⟨i,c,h1,h2⟩:=ux h;exact⟨i+1,c,h1,h2⟩
  | false=>
   rw[hc]at h;obtain⟨i,c,h1,h2⟩:=ux h;exact⟨i+1,c,h1,h2⟩
theorem uy:∀{bs:List iQ} {x:Nat},x∈wY bs->∃i b,cJ bs i=some b/\b.ok=true/\b.esc=false/\b.blk=some x
 | [],_,h=>by cases h
 | b::r,x,h=>by
  simp[wY]at h;cases hc:(b.ok&&b.blk.isSome&&!b.esc)with
  | true=>
   rw[hc]at h;simp at hc;rcases aQ.1 h with rfl | h
   ·obtain⟨k,hk⟩:=eO.1 hc.1.2;exact⟨0,b,rfl,hc.1.1,hc.2,by rw[hk];rfl⟩
   ·obtain⟨i,c,h1,h2⟩:=uy h;exact⟨i+1,c,h1,h2⟩
  | false=>
   rw[hc]at h;obtain⟨i,c,h1,h2⟩:=uy h;exact⟨i+1,c,h1,h2⟩
theorem CJ{β}{st}{a}{w}(hR:Rep β st a w):∀k,k∈wX st.bx->∀y,y∈wY st.bx->y≠k:=fun k hk y hy=>by
 obtain⟨i,b,i1,i2,i3,i4⟩:=ux hk;obtain⟨j,c,j1,j2,j3,j4⟩:=uy hy;rw[<-(hR.bx i b i1 i2).at_ k i4,<-(hR.bx j c j1 j2).at_ y j4];refine hR.ne j i c b j1 i1 j2 i2 fun e=>?_;subst e;rw[i1]at j1;injection j1 with j1;subst j1;rw[i3]at j3;cases j3
def dP(st:St)(K:St->Prop):Prop:=
 bif st.mv then
  bif wW st.bx st.dt then
   CH st.bx fun bx=>∀w,CI st.w0 w st.bx bx (Only (st.dt.map (En bx)) st.w0 w->
    Xu (CG bx) (En bx) w true bx (Lj (I0 st.bx bx) (I0 st.bx bx) (P2 (wY st.bx) (wX st.bx) (K {st with bx:=sY bx,w0:=w,mv:=false,dt:=[]}))))
  else False
 else Xu st.FN st.bl st.w0 false st.bx (P2 (wY st.bx) (wX st.bx) (K {st with bx:=sY st.bx}))
theorem dq{st}{K}(h:dP st K){β}{a}{w}(hR:Rep β st a w):∃cn,K cn/\Ext st cn/\Rep β cn a w/\cn.mv=false/\cn.fr=st.fr/\cn.n=st.n/\cn.ct=st.ct/\cn.bx.length=st.bx.length:=by
 rcases kK h with⟨hm,h⟩ | ⟨hm,h⟩
 case inr=>
  have hk:=Ap h fun i b hb ho hs hc=>by
   have:=(hR.bx i b hb ho).blk;cases hk:b.blk with
   | none=>rw[hk]at hs;cases hs
   | some k=>
    have e:=(hR.bx i b hb ho).at_ k hk;rw[hR.qv hc,<-hR.still hm];rw[e]at this;exact this
  have hk:=Au hk (CJ hR);have key:∀i b',cJ (sY st.bx) i=some b'->∃b,cJ st.bx i=some b/\b'={b with sh:=b.esc}:=fun i b' hb=>by
   rw[nA]at hb;cases hn:cJ st.bx i with
   | none=>rw[hn]at hb;cases hb
   | some b=>rw[hn]at hb;exact⟨b,rfl,by simpa using hb.symm⟩
  refine⟨_,hk,⟨rfl,aV _,fun _ _ _ h _=>h,fun i b' hb ho _=>?_,fun i b hb=>?_,B0⟩,⟨hR.fr,fun i b' hb ho=>?_,fun i j bi bj h1 h2 h3 h4 uk=>?_,hR.only,hR.still⟩,hm,rfl,rfl,rfl,?_⟩
  ·obtain⟨b,h1,rfl⟩:=key i b' hb;exact⟨b,h1,ho,rfl,rfl,rfl,fun _ h=>h⟩
  ·exact⟨{b with sh:=b.esc},by rw[nA,hb];rfl,rfl,rfl,fun _ h=>h⟩
  ·obtain⟨b,h1,rfl⟩:=key i b' hb;have:=hR.bx i b h1 ho;exact⟨this.blk,this.at_,this.new⟩
  ·obtain⟨b,g1,rfl⟩:=key i bi h1;obtain⟨c,g2,rfl⟩:=key j bj h2;exact hR.ne i j b c g1 g2 h3 h4 uk
  ·have:∀l:List iQ,(sY l).length=l.length:=fun l=>by
    induction l with
    | nil=>rfl
    | cons b r ih=>simp[sY,ih]
   exact this _
 case inl=>
  obtain⟨kl,h⟩:=cX h;have h:=wT β 0 h w;have vS:∀i,cJ _ i=(cJ st.bx i).map (pR (β i)):=fun i=>by rw[wU,bJ]
  have BM:∀i b,cJ st.bx i=some b->b.ok=true->∃b',cJ _ i=some b'/\b'.ok=true/\b'.blk=some _/\b'.cells=b.cells/\b'.ty=b.ty/\b'.stp=b.stp:=fun i b hb ho=>by
   refine⟨pR _ b,by rw[vS,hb];rfl,?_⟩;unfold pR;split
   ·exact⟨ho,rfl,rfl,rfl,rfl⟩
   ·rename_i gL;refine⟨ho,?_,rfl,rfl,rfl⟩;cases hk:b.blk with
    | none=>exact absurd hk (fun e=>gL ho e)
    | some k=>rw[(hR.bx i b hb ho).at_ k hk]
  have VI:∀i b',cJ (kM β 0 st.bx) i=some b'->b'.ok=true->∃b,cJ st.bx i=some b/\b.ok=true/\b'.blk=some _/\b'.cells=b.cells/\b'.ty=b.ty/\b'.stp=b.stp:=fun i b' hb ho=>by
   rw[vS]at hb;cases hn:cJ st.bx i with
   | none=>rw[hn]at hb;cases hb
   | some b=>
    rw[hn]at hb;simp at hb;subst hb;have hob:=by
     unfold pR at ho;split at ho
     ·assumption
     ·exact ho
    obtain⟨b2,e1,e2,e3,e4,e5,e6⟩:=BM i b hn hob;rw[vS,hn]at e1;simp at e1;subst e1;exact⟨b,rfl,hob,e3,e4,e5,e6⟩
  have h:=wV 0 h fun i b hb ho hk=>by
   rw[bJ];exact⟨(hR.bx i b hb ho).new hk,(hR.bx i b hb ho).blk.lt⟩
  have edt:st.dt.map (En (kM β 0 st.bx))=st.dt.map β:=by
   refine pI fun i hi=>?_;obtain⟨b,h1,h2⟩:=qF kl i hi;obtain⟨b',e1,e2,e3,_⟩:=BM i b h1 h2;unfold En;rw[e1];simp[e3]
  have h:=h (by rw[edt];exact hR.only);have lq:∀i,CG (kM β 0 st.bx) i=true->En (kM β 0 st.bx) i=β i:=fun i hg=>by
   unfold CG at hg;unfold En;cases hn:cJ (kM β 0 st.bx) i with
   | none=>rw[hn]at hg;cases hg
   | some b'=>
    rw[hn]at hg;simp at hg;obtain⟨b,_,_,e3,_⟩:=VI i b' hn hg.1;simp[e3]
  have hk:=Ap h fun i b' hb ho hs hc=>by
   obtain⟨b,e1,e2,e3,e4,e5,e6⟩:=VI i b' hb ho;rw[ft lq _ hc,e3,e4,e5];exact(hR.bx i b e1 e2).blk
  have hk:=Ar hk fun x hx hxe y hy hye=>by
   obtain⟨i,b,i1,i2,rfl⟩:=sZ 0 hx;obtain⟨j,c,j1,j2,rfl⟩:=sZ 0 hy;rw[bJ,bJ];refine hR.ne j i c b j1 i1 j2 i2 fun e=>?_;subst e;rw[i1]at j1;injection j1 with j1;subst j1;rw[hxe]at hye;cases hye
  have hk:=Au hk (CJ hR);have key:∀i b',cJ _ i=some b'->b'.ok=true->∃b,cJ st.bx i=some b/\b.ok=true/\b'.blk=some _/\b'.cells=b.cells/\b'.ty=b.ty/\b'.stp=b.stp:=fun i b' hb ho=>by
   rw[nA]at hb;cases hn:cJ (kM β 0 st.bx) i with
   | none=>rw[hn]at hb;cases hb
   | some c=>
    rw[hn]at hb;simp at hb;subst hb;exact VI i c hn ho
  refine⟨_,hk,⟨rfl,aV _,fun _ _ _ h _=>h,fun i b' hb ho _=>?_,fun i b hb=>?_,B0⟩,⟨hR.fr,fun i b' hb ho=>?_,fun i j bi bj h1 h2 h3 h4 uk=>?_,Only.refl _ _,fun _=>rfl⟩,rfl,rfl,rfl,rfl,?_⟩
  ·obtain⟨b,e1,e2,e3,e4,e5,e6⟩:=key i b' hb ho;exact⟨b,e1,e2,e4.symm,e5.symm,e6.symm,fun k hk=>by rw[e3,(hR.bx i b e1 e2).at_ k hk]⟩
  ·refine⟨{pR _ b with sh:=(pR _ b).esc},by rw[nA,vS,hb];rfl,?_⟩;unfold pR;split
   ·rename_i e1 e2;exact⟨rfl,rfl,fun k hk=>by rw[e2]at hk;cases hk⟩
   ·exact⟨rfl,rfl,fun _ h=>h⟩
  ·obtain⟨b,e1,e2,e3,e4,e5,e6⟩:=key i b' hb ho;refine⟨by rw[e4,e5];exact(hR.bx i b e1 e2).blk,fun k hk=>by rw[e3]at hk;simpa using hk,fun hk=>by rw[e3]at hk;cases hk⟩
  ·obtain⟨b,e1,e2,_⟩:=key i bi h1 h3;obtain⟨c,f1,f2,_⟩:=key j bj h2 h4;exact hR.ne i j b c e1 f1 e2 f2 uk
  ·have l1:∀l:List iQ,(sY l).length=l.length:=fun l=>by
    induction l with
    | nil=>rfl
    | cons b r ih=>simp[sY,ih]
   have l2:∀(l:List iQ) n,(kM β n l).length=l.length:=fun l=>by
    induction l with
    | nil=>intro n;rfl
    | cons b r ih=>intro n;simp[kM,ih]
   exact(l1 _).trans (l2 _ _)
def noB(n:Nat)(s:SV):Bool:=cln (fun j=>!Nat.beq j n) s
def P3(n:Nat)(l:List SV):Bool:=fL (fun j=>!Nat.beq j n) l
def I1(n:Nat):List (Nat×Nat×SV)->Bool
 | []=>true
 | p::r=>noB n p.2.2&&I1 n r
def EY(n:Nat):List iQ->Bool
 | []=>true
 | b::r=>(!b.ok||P3 n b.cells)&&EY n r
theorem Av{n}:∀{l:List _},I1 n l=true->∀i p,dh l i=some p->noB n p.2=true
 | [],_,i,p,h=>by cases h
 | (k,q)::r,h,i,p,hl=>by
  simp[I1,aR]at h;simp[dh]at hl;cases hb:Nat.beq k i with
  | true=>rw[hb]at hl;simp at hl;subst hl;exact h.1
  | false=>rw[hb]at hl;exact Av h.2 i p (by simpa using hl)
theorem Aw{n}:∀{l:List iQ},EY n l=true->∀i b,cJ l i=some b->b.ok=true->P3 n b.cells=true
 | c::r,h,0,b,hb,ho=>by
  simp[EY,aR,cD,dK]at h;simp[cJ,aX]at hb;subst hb;rcases h.1 with h1 | h1
  ·rw[ho]at h1;cases h1
  ·exact h1
 | c::r,h,i+1,b,hb,ho=>by
  simp[EY,aR]at h;exact Aw h.2 i b hb ho
def yz(β:Nat->Nat)(n b:Nat):Nat->Nat:=fun i=>if i=n then b else β i
theorem wZ{β}{n b:Nat}:∀i,(!Nat.beq i n)=true->β i=yz β n b i:=fun i h=>by
 unfold yz;rw[if_neg];rintro rfl;simp at h
section
variable {β:Nat->Nat} {st:St} {a:Act} {w w1:av}
def St.BF(st:St)(d:Option Tmp)(t:TypeId)(zs:List SV):St:=
 St.put {st with bx:=st.bx++[⟨none,t,zs,st.ct,true,false,false⟩],mv:=true,ct:=st.ct+1} d (.box st.bx.length 0)
theorem Ext.BF st d t zs:Ext st (st.BF d t zs):=by
 refine Ext.trans (t:={st with bx:=st.bx++[_],mv:=true,ct:=st.ct+1}) ⟨rfl,fZ _,fun _ _ _ h _=>h,fun i b' hb ho hs=>?_,fun i b hb=>?_,B0⟩ (Ext.put _ _ _)
 ·rw[iU]at hb;split at hb
  ·simp at hb;subst hb;dsimp only at hs;omega
  ·exact⟨b',hb,ho,rfl,rfl,rfl,fun _ h=>h⟩
 ·exact⟨b,by dsimp only;rw[iU,if_neg (by have:=oG hb;omega)];exact hb,rfl,rfl,fun _ h=>h⟩
theorem Rep.BF(hR:Rep β st a w){d}{t}{zs}{b:Nat}(h1:I1 st.bx.length st.fr=true)(h2:EY st.bx.length st.bx=true)(h3:P3 st.bx.length zs=true)
  (hb:w.heap.size<=b) (hO:Only [] w w1) (hB:Blk w1 b t (cm β zs)) (hdt:wW st.bx st.dt=true):
  Rep (yz β st.bx.length b) (st.BF d t zs) (a.put d (.pointer (some ⟨b,0,none⟩))) w1:=by
 have rF:yz β st.bx.length b st.bx.length=b:=by unfold yz;rw[if_pos rfl]
 have bQ:∀{i c},cJ st.bx i=some c->yz β st.bx.length b i=β i:=fun{i c} h=>by
  unfold yz;rw[if_neg];have:=oG h;omega
 have base:Rep (yz β st.bx.length b) {st with bx:=st.bx++[⟨none,t,zs,st.ct,true,false,false⟩],mv:=true,ct:=st.ct+1} a w1:=by
  refine⟨oC ⟨hR.ok.sz,hR.ok.df,fun i p hl hi=>?_⟩,fun i c hc ho=>?_,fun i j bi bj g1 g2 g3 g4 uk=>?_,?_,fun h=>by cases h⟩
  ·rw[hR.ok.at_ i p hl hi];congr 1;exact ga (g:=fun j=>!Nat.beq j st.bx.length) wZ _ (Av h1 i p hl)
  ·rw[iU]at hc;split at hc
   ·rename_i he;simp at hc;subst hc;subst he;refine⟨?_,fun k hk=>(by cases hk),fun _=>?_⟩
    ·rw[rF];rw[<-ft (g:=fun j=>!Nat.beq j st.bx.length) (β:=β) (β':=yz β st.bx.length b) wZ _ h3];exact hB
    ·rw[rF];exact bh hR.only.size hb
   ·have e:=bQ hc;obtain⟨k1,k2,k3⟩:=hR.bx i c hc ho;refine⟨?_,fun k hk=>by rw[e];exact k2 k hk,fun hk=>by rw[e];exact k3 hk⟩;rw[e,<-ft (g:=fun j=>!Nat.beq j st.bx.length) (β:=β) (β':=yz β st.bx.length b) wZ _ (Aw h2 i c hc ho)];exact hO.blk k1 (by simp)
  ·rw[iU]at g1 g2;split at g1
   ·rename_i e1;split at g2
    ·omega
    ·subst e1;rw[rF,bQ g2];have:=(hR.bx j bj g2 g4).blk.lt;omega
   ·split at g2
    ·rename_i e2;subst e2;rw[rF,bQ g1];have:=(hR.bx i bi g1 g3).blk.lt;omega
    ·rw[bQ g1,bQ g2];exact hR.ne i j bi bj g1 g2 g3 g4 uk
  ·have e:=pI fun i hi=>by
    obtain⟨c,hc,_⟩:=qF hdt i hi;exact bQ hc
   rw[e];exact hR.only.cp hO
 have:=base.put d (.box st.bx.length 0);rw[show val (yz β st.bx.length b) _=.pointer _ by
  show Value.pointer _=_;rw[rF]]at this
 exact this
def St.qw(st:St)(i:Nat)(b:iQ)(cs:List SV):St:=
 {st with bx:=IY st.bx i {b with cells:=cs,stp:=st.ct,sh:=false},mv:=true,dt:=(bif b.blk.isSome&&!st.dt.elem i then i::st.dt else st.dt),ct:=st.ct+1}
theorem Ext.qw{st}{i}{b}{cs}(h:cJ st.bx i=some b):Ext st (st.qw i b cs):=by
 refine⟨rfl,fZ _,fun _ _ _ h _=>h,fun j b' hb ho hs=>?_,fun j c hc=>?_,B0⟩
 ·simp[St.qw]at hb;rw[gM h]at hb;split at hb
  ·simp at hb;subst hb;dsimp only at hs;omega
  ·exact⟨b',hb,ho,rfl,rfl,rfl,fun _ h=>h⟩
 ·simp[St.qw];rw[gM h];split
  ·rename_i e;subst e;rw[h]at hc;simp at hc;subst hc;exact⟨_,rfl,rfl,rfl,fun _ h=>h⟩
  ·exact⟨c,hc,rfl,rfl,fun _ h=>h⟩
theorem Rep.qw(hR:Rep β st a w){i}{b}{cs}(h:cJ st.bx i=some b)(ho:b.ok=true)(hO:Only [β i] w w1)(hB:Blk w1 (β i) b.ty (cm β cs)):Rep β (st.qw i b cs) a w1:=by
 have hk:=hR.bx i b h ho;refine⟨hR.fr,fun j c hc ul=>?_,fun j l bj bl g1 g2 g3 g4 uk=>?_,?_,fun h=>by cases h⟩
 ·simp[St.qw]at hc;rw[gM h]at hc;split at hc
  ·rename_i e;subst e;simp at hc;subst hc;exact⟨hB,hk.at_,hk.new⟩
  ·rename_i gL;obtain⟨k1,k2,k3⟩:=hR.bx j c hc ul;exact⟨hO.blk k1 (by simpa using hR.ne j i c b hc h ul ho gL),k2,k3⟩
 ·simp[St.qw]at g1 g2;rw[gM h]at g1 g2;have key:∀{j c},(if j=i then some {b with cells:=cs,stp:=st.ct,sh:=false}else cJ st.bx j)=some c->c.ok=true->∃c',cJ st.bx j=some c'/\c'.ok=true:=fun{j c} g hc=>by
   split at g
   ·rename_i e;subst e;exact⟨b,h,ho⟩
   ·exact⟨c,g,hc⟩
  obtain⟨c1,e1,e2⟩:=key g1 g3;obtain⟨c2,f1,f2⟩:=key g2 g4;exact hR.ne j l c1 c2 e1 f1 e2 f2 uk
 ·show Only ((bif b.blk.isSome&&!st.dt.elem i then i::st.dt else st.dt).map β) st.w0 w1;cases hb:(b.blk.isSome&&!st.dt.elem i)with
  | true=>exact hR.only.cons hO
  | false=>
   simp only[Bool.and_eq_false_iff,El]at hb;rcases hb with hb | hb
   ·refine hR.only.new hO (hk.new ?_);cases hn:b.blk with
    | none=>rfl
    | some k=>rw[hn]at hb;cases hb
   ·refine hR.only.mem hO (eT.2 ⟨i,?_,rfl⟩);simpa using hb
structure Flg (l l':List iQ):Prop where
 fw:∀i b,cJ l' i=some b->∃c,cJ l i=some c/\c.blk=b.blk/\c.ty=b.ty/\c.cells=b.cells/\c.stp=b.stp/\c.ok=b.ok
 bw:∀i b,cJ l i=some b->∃c,cJ l' i=some c/\c.ty=b.ty/\c.ok=b.ok/\∀k,b.blk=some k->c.blk=some k
theorem Flg.refl l:Flg l l:=⟨fun i b h=>⟨b,h,rfl,rfl,rfl,rfl,rfl⟩,K7⟩
theorem Flg.trans{l m n}(h:Flg l m)(k:Flg m n):Flg l n:=⟨fun i b hb=>by
 obtain⟨c,c1,c2,c3,c4,c5,c6⟩:=k.fw i b hb;obtain⟨d,d1,d2,d3,d4,d5,d6⟩:=h.fw i c c1;exact⟨d,d1,d2.trans c2,d3.trans c3,d4.trans c4,d5.trans c5,d6.trans c6⟩,fun i b hb=>by
 obtain⟨c,c1,c2,c3,c4⟩:=h.bw i b hb;obtain⟨d,d1,d2,d3,d4⟩:=k.bw i c c1;exact⟨d,d1,d2.trans c2,d3.trans c3,fun m hm=>d4 m (c4 m hm)⟩⟩
theorem Ext.flg{l'}(h:Flg st.bx l'):Ext st {st with bx:=l'}:=⟨rfl,aV _,fun _ _ _ h _=>h,fun i b' hb ho _=>by
 obtain⟨c,c1,c2,c3,c4,c5,c6⟩:=h.fw i b' hb;exact⟨c,c1,c6.trans ho,c4,c3,c5,fun k hk=>by rw[<-c2];exact hk⟩,h.bw,B0⟩
theorem Rep.flg{l'}(hR:Rep β st a w)(h:Flg st.bx l'):Rep β {st with bx:=l'} a w:=by
 refine⟨hR.fr,fun i b hb ho=>?_,fun i j bi bj g1 g2 g3 g4 uk=>?_,hR.only,hR.still⟩
 ·obtain⟨c,c1,c2,c3,c4,c5,c6⟩:=h.fw i b hb;obtain⟨k1,k2,k3⟩:=hR.bx i c c1 (c6.trans ho);exact⟨by rw[<-c3,<-c4];exact k1,fun k hk=>k2 k (c2.trans hk),fun hk=>k3 (c2.trans hk)⟩
 ·obtain⟨c,c1,_,_,_,_,c6⟩:=h.fw i bi g1;obtain⟨d,d1,_,_,_,_,d6⟩:=h.fw j bj g2;exact hR.ne i j c d c1 d1 (c6.trans g3) (d6.trans g4) uk
def Sg:SV->List Nat
 | .box i _=>[i]
 | .fn _ fs cs=>Sg fs++Sg cs
 | .agg l=>Sg l
 | .tup l=>Sg l
 | .c h t=>Sg h++Sg t
 | _=>[]
def I2:Nat->List Nat->List iQ->List iQ
 | 0,_,bx=>bx
 | _+1,[],bx=>bx
 | f+1,i::r,bx=>match cJ bx i with
  | some b=>bif b.esc then I2 f r bx else I2 f (flat Sg b.cells++r) (IY bx i {b with esc:=true,sh:=false})
  | none=>I2 f r bx
theorem pS:∀f l bx,Flg bx (I2 f l bx)
 | 0,_,bx=>Flg.refl _
 | _+1,[],bx=>Flg.refl _
 | f+1,i::r,bx=>by
  unfold I2;split
  ·rename_i b hb;cases he:b.esc with
   | true=>exact pS f r bx
   | false=>
    refine Flg.trans ⟨fun j c hc=>?_,fun j c hc=>?_⟩ (pS f _ _);rotate_left
    ·rw[gM hb];split
     ·rename_i e;subst e;rw[hb]at hc;simp at hc;subst hc;exact⟨_,rfl,rfl,rfl,fun _ h=>h⟩
     ·exact⟨c,hc,rfl,rfl,fun _ h=>h⟩
    rw[gM hb]at hc;split at hc
    ·rename_i e;subst e;simp at hc;subst hc;exact⟨b,hb,rfl,rfl,rfl,rfl,rfl⟩
    ·exact⟨c,hc,rfl,rfl,rfl,rfl,rfl⟩
  ·exact pS f r bx
def St.esc(st:St)(l:List SV):St:={st with bx:=I2 1000 (flat Sg l) st.bx}
theorem Ext.esc st l:Ext st (st.esc l):=Ext.flg (pS _ _ _)
theorem Rep.esc(hR:Rep β st a w) l:Rep β (st.esc l) a w:=hR.flg (pS _ _ _)
end
def zc(P:Program)(t:TypeId):Option (List SV):=match P.info? t with
 | some i=>(match i.zero with
  | some z=>ET z.cells.toList
  | none=>none)
 | none=>none
theorem Sh{P}{t}{zs}(h:zc P t=some zs) w:∃z,(zeroValue t).run P w=.ok z w/\∀β,z.cells=(cm β zs).toArray:=by
 unfold zc at h;split at h
 ·rename_i i hi;split at h
  ·rename_i z hz;exact⟨z,by simp[zeroValue,typeInfo,hi,hz],fun β=>by rw[vY β h]⟩
  ·cases h
 ·cases h
def Xv(st:St)(zs:List SV):Bool:=I1 st.bx.length st.fr&&EY st.bx.length st.bx&&P3 st.bx.length zs&&wW st.bx st.dt
def nB:List iQ->Bool
 | []=>true
 | b::r=>(!b.ok||b.blk.isSome)&&nB r
theorem ta:∀{l:List iQ},nB l=true->∀i b,cJ l i=some b->b.ok=true->b.blk.isSome=true
 | c::r,h,0,b,hb,ho=>by
  simp[nB,aR,cD,dK]at h;simp[cJ,aX]at hb;subst hb;rcases h.1 with h1 | h1
  ·rw[ho]at h1;cases h1
  ·exact h1
 | c::r,h,i+1,b,hb,ho=>by
  simp[nB,aR]at h;exact ta h.2 i b hb ho
def neB(bk:Nat):List iQ->Prop->Prop
 | [],p=>p
 | b::r,p=>bif b.ok then b.blk.getD 0≠bk/\neB bk r p else neB bk r p
theorem EZ{bk}:∀{l:List iQ} {p:Prop},neB bk l p->p/\∀i b,cJ l i=some b->b.ok=true->b.blk.getD 0≠bk
 | [],p,h=>⟨h,fun i b hb=>by cases hb⟩
 | c::r,p,h=>by
  rcases kK h with⟨hc,h⟩ | ⟨hc,h⟩
  ·obtain⟨h1,h2⟩:=h;obtain⟨h3,h4⟩:=EZ h2;refine⟨h3,fun i b hb ho=>?_⟩;cases i with
   | zero=>simp[cJ,aX]at hb;subst hb;exact h1
   | succ i=>exact h4 i b hb ho
  ·obtain⟨h3,h4⟩:=EZ h;refine⟨h3,fun i b hb ho=>?_⟩;cases i with
   | zero=>simp[cJ,aX]at hb;subst hb;rw[hc]at ho;cases ho
   | succ i=>exact h4 i b hb ho
def rq(esc:Bool):List iQ->List Nat
 | []=>[]
 | b::r=>bif b.ok&&(esc||!b.esc)then b.blk.getD 0::rq esc r else rq esc r
theorem lN{esc}:∀{l:List iQ} {i:Nat} {b:iQ},cJ l i=some b->b.ok=true->(esc||!b.esc)=true->b.blk.getD 0∈rq esc l
 | c::r,0,b,h,ho,he=>by
  simp[cJ,aX]at h;subst h;simp[rq,ho,he]
 | c::r,i+1,b,h,ho,he=>by
  have:=lN (l:=r) (i:=i) h ho he;simp[rq];cases(c.ok&&_)with
  | true=>simp[this]
  | false=>exact this
def xa(l:List Nat)(w0 w1:av)(p:Prop):Prop:=match l with
 | []=>p
 | _=>bS l w0 w1/\p
theorem pT{l}{w0 w1}{p}(h:xa l w0 w1 p):p/\bS l w0 w1:=by
 unfold xa at h;split at h
 ·exact⟨h,K1⟩
 ·exact⟨h.2,h.1⟩
def Lk(P:Program)(w1:av)(ct:Nat):List iQ->(List iQ->Prop)->Prop
 | [],K=>K []
 | b::r,K=>bif b.ok&&b.esc then R9 (K8 P 12 b.ty) fun vs=>Blk w1 (b.blk.getD 0) b.ty (cm β0 vs)/\Lk P w1 ct r fun r'=>K ({b with cells:=vs,stp:=ct,sh:=true}::r')
  else Lk P w1 ct r fun r'=>K (b::r')
theorem vZ{P}{w1}{ct}:∀{l:List iQ} {K:List iQ->Prop},Lk P w1 ct l K->∃l',K l'/\(∀i b',cJ l' i=some b'->∃b,cJ l i=some b/\b'.ok=b.ok/\b'.blk=b.blk/\b'.ty=b.ty/\
  ((b'=b/\(b.ok&&b.esc)=false)∨(b'.stp=ct/\(∀β,cm β b'.cells=cm β0 b'.cells)/\Blk w1 (b.blk.getD 0) b.ty (cm β0 b'.cells))))/\
  ∀i b,cJ l i=some b->∃b',cJ l' i=some b'/\b'.ty=b.ty/\b'.ok=b.ok/\∀k,b.blk=some k->b'.blk=some k
 | [],K,h=>⟨[],h,fun i b' hb=>(by cases hb),fun i b hb=>(by cases hb)⟩
 | c::r,K,h=>by
  rcases kK h with⟨hc,h⟩ | ⟨hc,h⟩
  ·obtain⟨vs,⟨hB,h⟩,_,lq⟩:=rM h;obtain⟨l',h1,h2,h3⟩:=vZ h;refine⟨_,h1,fun i b' hb=>?_,fun i b hb=>?_⟩;rotate_left
   ·cases i with
    | zero=>simp[cJ,aX]at hb;subst hb;exact⟨_,rfl,rfl,rfl,fun _ h=>h⟩
    | succ i=>exact h3 i b hb
   cases i with
   | zero=>
    simp[cJ,aX]at hb;subst hb;exact⟨c,rfl,rfl,rfl,rfl,.inr ⟨rfl,fun β=>ft (g:=fun _=>false) (fun i h=>(by cases h)) vs (lq _),hB⟩⟩
   | succ i=>exact h2 i b' hb
  ·obtain⟨l',h1,h2,h3⟩:=vZ h;refine⟨_,h1,fun i b' hb=>?_,fun i b hb=>?_⟩;rotate_left
   ·cases i with
    | zero=>simp[cJ,aX]at hb;subst hb;exact⟨_,rfl,rfl,rfl,fun _ h=>h⟩
    | succ i=>exact h3 i b hb
   cases i with
   | zero=>
    simp[cJ,aX]at hb;subst hb;exact⟨c,rfl,rfl,rfl,rfl,.inl ⟨rfl,hc⟩⟩
   | succ i=>exact h2 i b' hb
def Xw(P:Program):List TypeId->(List SV->Prop)->Prop
 | [],K=>K []
 | t::r,K=>R9 (K8 P 12 t) fun vs=>Xw P r fun rs=>K (IZ (match P.underlying t with | some d=>jY d | none=>false) vs::rs)
theorem Ax g:∀l,cln g (lV l)=fL g l
 | []=>rfl
 | s::r=>by simp[lV,cln,fL,Ax g r]
theorem Gy g ag {l} (h:fL g l=true):cln g (IZ ag l)=true:=by
 cases ag with
 | true=>show cln g (lV l)=true;rw[Ax];exact h
 | false=>
  cases l with
  | nil=>rfl
  | cons s r=>simp[fL,aR]at h;exact h.1
theorem xb{P}:∀{ts:List TypeId} {K:List SV->Prop},Xw P ts K->∃rs,K rs/\∀g,fL g rs=true
 | [],K,h=>⟨[],h,fun _=>rfl⟩
 | t::r,K,h=>by
  obtain⟨vs,h,_,h2⟩:=rM h;obtain⟨rs,h3,h4⟩:=xb h;exact⟨_,h3,fun g=>by simp[fL,Gy g _ (h2 g),h4 g,jw]⟩
def xd(rs:List SV):SV:=match rs with
 | [r]=>r
 | rs=>.tup (lV rs)
theorem tf{g}{rs}(h:fL g rs=true):cln g (xd rs)=true:=by
 unfold xd;split
 ·simp only[fL,aR]at h;exact h.1
 ·show cln g (lV _)=true;rw[Ax];exact h
def yM(P:Program)(t:TypeId):List TypeId:=match P.underlying t with
 | some (.tuple ts)=>ts.toList
 | _=>[t]
def Ll(P:Program)(f:FuncId):Bool:=match P.funcs[f]? with
 | some fn=>!(fn.name== "runtime.NumGoroutine")&&fn.body.isSome
 | none=>false
theorem gN{P}{f}(h:Ll P f=true) args w:(callFunc f args).run P w=.ok (.enter f args) w:=by
 unfold Ll at h;split at h
 ·rename_i fn hf;simp at h;have hb:fn.body≠none:=by
   intro hq;rw[hq]at h;cases h.2
  have hn:fn.name≠ "runtime.NumGoroutine" :=by
   intro hq;rw[hq]at h;simp at h
  simp[callFunc,hf,hn,hb]
 ·cases h
def YJ(P:Program)(f:FuncId):List TypeId:=match P.funcs[f]? with
 | some fn=>fn.resultTypes.toList
 | none=>[]
abbrev XT:=av->av->Prop->Prop
section
variable {P:Program} {β:Nat->Nat} {st:St} {a:Act} {w w1:av}
theorem Rep.next(hR:Rep β st a w)(hm:st.mv=false)(hb:nB st.bx=true){XK}{ct'}
  (h:∀i b',cJ XK i=some b'->b'.ok=true->∃b,cJ st.bx i=some b/\b.ok=true/\b'.blk=b.blk/\Blk w1 (β i) b'.ty (cm β b'.cells)):Rep β {st with bx:=XK,w0:=w1,ct:=ct'} a w1:=by
 have key:∀i b,cJ st.bx i=some b->b.ok=true->b.blk=some (β i):=fun i b h1 h2=>by
  have:=ta hb i b h1 h2;cases hk:b.blk with
  | none=>rw[hk]at this;cases this
  | some k=>rw[(hR.bx i b h1 h2).at_ k hk]
 refine⟨hR.fr,fun i b' kV ho=>?_,fun i j bi bj g1 g2 g3 g4 uk=>?_,Only.refl _ _,fun _=>rfl⟩
 ·obtain⟨b,h1,h2,h3,h4⟩:=h i b' kV ho;exact⟨h4,fun k hk=>by rw[h3,key i b h1 h2]at hk;simpa using hk,fun hk=>by rw[h3,key i b h1 h2]at hk;cases hk⟩
 ·obtain⟨b,h1,h2,_⟩:=h i bi g1 g3;obtain⟨c,k1,k2,_⟩:=h j bj g2 g4;exact hR.ne i j b c h1 k1 h2 k2 uk
theorem Rep.JJ(hR:Rep β st a w)(hb:nB st.bx=true){i}{b}(h1:cJ st.bx i=some b)(h2:b.ok=true):b.blk.getD 0=β i:=by
 have:=ta hb i b h1 h2;cases hk:b.blk with
 | none=>rw[hk]at this;cases this
 | some k=>rw[(hR.bx i b h1 h2).at_ k hk];rfl
def Lm(P:Program)(X:XT)(st:St)(d:Option Tmp)(BN:List TypeId)(f:FuncId)(args:List SV)(mo:List aw)(K:St->Prop):Prop:=
 bif fL st.FN args&&nB st.bx then
  Calls P f (cm st.bl args++mo).toArray st.w0 fun e w1=>Xw P BN fun rs=>e=.returned (val β0 (xd rs))/\
   xa (rq false st.bx) st.w0 w1 (Lk P w1 st.ct st.bx fun bx=>X st.w0 w1 (K (St.put {st with bx:=bx,w0:=w1,ct:=st.ct+1} d (xd rs))))
 else False
theorem Lp{X}{E:av->av->Prop}(hX:∀w0 w1 p,X w0 w1 p->p/\E w0 w1){d}{BN}{f}{args}{mo}{K}(h:Lm P X st d BN f args mo K)(hm:st.mv=false)(hR:Rep β st a w):
  Calls P f (cm β args++mo).toArray w fun e w'=>∃v,e=.returned v/\∃cn,K cn/\Ext st cn/\E w w'/\Rep β cn (a.put d v) w':=by
 obtain⟨h0,h⟩:=cX h;simp at h0;rw[hR.qv h0.1,<-hR.still hm]at h;refine h.mono ?_;rintro e w1 h;obtain⟨rs,⟨rfl,h1⟩,lq⟩:=xb h;obtain⟨h2,hS⟩:=pT h1;obtain⟨XK,h3,hb,IA⟩:=vZ h2;obtain⟨h,hE⟩:=hX _ _ _ h3;have ev:val β0 _=val β _:=ga (g:=fun _=>false) (fun i h=>(by cases h)) _ (tf (lq _));refine⟨_,rfl,_,h,?_,hE,?_⟩
 ·refine Ext.trans (t:={st with bx:=XK,w0:=w1,ct:=st.ct+1}) ⟨rfl,fZ _,fun _ _ _ h _=>h,fun i b' kV ho hs=>?_,IA,B0⟩ (Ext.put _ _ _);obtain⟨b,h1,h2,h3,h4,h5⟩:=hb i b' kV;rcases h5 with⟨rfl,_⟩ | _
  ·exact⟨b',h1,ho,rfl,rfl,rfl,fun _ h=>h⟩
  ·omega
 ·rw[ev];refine Rep.put (Rep.next hR hm h0.2 fun i b' kV ho=>?_) _ _;obtain⟨b,h1,h2,h3,h4,h5⟩:=hb i b' kV;have B6:b.ok=true:=by rw[<-h2];exact ho
  refine⟨b,h1,B6,h3,?_⟩;have eD:=hR.JJ h0.2 h1 B6;rcases h5 with⟨rfl,h6⟩ | ⟨_,h6,h7⟩
  ·have tZ:=lN (esc:=false) h1 B6 (by rw[B6]at h6;simpa using h6);rw[eD]at tZ;exact(hS _ tZ).trans (hR.bx i b' h1 B6).blk
  ·rw[h4,h6 β,<-eD];exact h7
def vG(a b:List aw):List aw:=a++b
def Lq(P:Program)(X:XT)(st:St)(d:Option Tmp)(BN:List TypeId)(f:FuncId)(fst:List aw)(args:List SV)(mo:List aw)(K:St->Prop):Prop:=
 bif fL st.FN args&&nB st.bx then
  Calls P f (vG (vG fst (cm st.bl args)) mo).toArray st.w0 fun e w1=>Xw P BN fun rs=>e=.returned (val β0 (xd rs))/\
   xa (rq false st.bx) st.w0 w1 (Lk P w1 st.ct st.bx fun bx=>X st.w0 w1 (K (St.put {st with bx:=bx,w0:=w1,ct:=st.ct+1} d (xd rs))))
 else False
theorem Lr{X}{E:av->av->Prop}(hX:∀w0 w1 p,X w0 w1 p->p/\E w0 w1){d}{BN}{f}{fst}{args}{mo}{K}(h:Lq P X st d BN f fst args mo K)(hm:st.mv=false)(hR:Rep β st a w):
  Calls P f (vG (vG fst (cm β args)) mo).toArray w fun e w'=>∃v,e=.returned v/\∃cn,K cn/\Ext st cn/\E w w'/\Rep β cn (a.put d v) w':=by
 obtain⟨h0,h⟩:=cX h;simp at h0;rw[hR.qv h0.1,<-hR.still hm]at h;refine h.mono ?_;rintro e w1 h;obtain⟨rs,⟨rfl,h1⟩,lq⟩:=xb h;obtain⟨h2,hS⟩:=pT h1;obtain⟨XK,h3,hb,IA⟩:=vZ h2;obtain⟨h,hE⟩:=hX _ _ _ h3;have ev:val β0 _=val β _:=ga (g:=fun _=>false) (fun i h=>(by cases h)) _ (tf (lq _));refine⟨_,rfl,_,h,?_,hE,?_⟩
 ·refine Ext.trans (t:={st with bx:=XK,w0:=w1,ct:=st.ct+1}) ⟨rfl,fZ _,fun _ _ _ h _=>h,fun i b' kV ho hs=>?_,IA,B0⟩ (Ext.put _ _ _);obtain⟨b,h1,h2,h3,h4,h5⟩:=hb i b' kV;rcases h5 with⟨rfl,_⟩ | _
  ·exact⟨b',h1,ho,rfl,rfl,rfl,fun _ h=>h⟩
  ·omega
 ·rw[ev];refine Rep.put (Rep.next hR hm h0.2 fun i b' kV ho=>?_) _ _;obtain⟨b,h1,h2,h3,h4,h5⟩:=hb i b' kV;have B6:b.ok=true:=by rw[<-h2];exact ho
  refine⟨b,h1,B6,h3,?_⟩;have eD:=hR.JJ h0.2 h1 B6;rcases h5 with⟨rfl,h6⟩ | ⟨_,h6,h7⟩
  ·have tZ:=lN (esc:=false) h1 B6 (by rw[B6]at h6;simpa using h6);rw[eD]at tZ;exact(hS _ tZ).trans (hR.bx i b' h1 B6).blk
  ·rw[h4,h6 β,<-eD];exact h7
def pw(P:Program)(X:XT)(st:St)(d:Option Tmp)(BN:List TypeId)(args:List SV)(run:List aw->Sem aw)(K:St->Prop):Prop:=
 bif fL st.FN args&&nB st.bx then
  Xw P BN fun rs=>∃w1,(run (cm st.bl args)).run P st.w0=.ok (val β0 (xd rs)) w1/\xa (rq true st.bx) st.w0 w1 (X st.w0 w1 (K (St.put {st with w0:=w1} d (xd rs))))
 else False
theorem Gz{X}{E:av->av->Prop}(hX:∀w0 w1 p,X w0 w1 p->p/\E w0 w1){d}{BN}{args}{run}{K}(h:pw P X st d BN args run K)(hm:st.mv=false)(hR:Rep β st a w):
  ∃v w',(run (cm β args)).run P w=.ok v w'/\∃cn,K cn/\Ext st cn/\E w w'/\Rep β cn (a.put d v) w':=by
 obtain⟨h0,h⟩:=cX h;simp at h0;rw[hR.qv h0.1,<-hR.still hm]at h;obtain⟨rs,⟨w1,hr,h⟩,lq⟩:=xb h;obtain⟨h,hS⟩:=pT h;obtain⟨h,hE⟩:=hX _ _ _ h;have ev:val β0 _=val β _:=ga (g:=fun _=>false) (fun i h=>(by cases h)) _ (tf (lq _));refine⟨_,w1,hr,_,h,?_,hE,?_⟩
 ·refine Ext.trans (t:={st with w0:=w1}) ⟨rfl,aV _,fun _ _ _ h _=>h,fun i b' kV ho hs=>⟨b',kV,ho,rfl,rfl,rfl,fun _ h=>h⟩,K7,B0⟩ (Ext.put _ _ _)
 ·rw[ev];refine Rep.put (Rep.next (ct':=st.ct) hR hm h0.2 fun i b' kV ho=>⟨b',kV,ho,rfl,?_⟩) _ _;have tZ:=lN (esc:=true) kV ho rfl;rw[hR.JJ h0.2 kV ho]at tZ;exact(hS _ tZ).trans (hR.bx i b' kV ho).blk
def Ls(P:Program)(X:XT)(st:St)(d:Option Tmp)(args:List SV)(run:List aw->Sem aw)(rs:SV)(K:St->Prop):Prop:=
 bif fL st.FN args&&nB st.bx&&cln (fun _=>false) rs then
  ∃w1,(run (cm st.bl args)).run P st.w0=.ok (val β0 rs) w1/\xa (rq true st.bx) st.w0 w1 (X st.w0 w1 (K (St.put {st with w0:=w1} d rs)))
 else False
theorem wa{X}{E:av->av->Prop}(hX:∀w0 w1 p,X w0 w1 p->p/\E w0 w1){d}{args}{run}{rs}{K}(h:Ls P X st d args run rs K)(hm:st.mv=false)(hR:Rep β st a w):
  ∃v w',(run (cm β args)).run P w=.ok v w'/\∃cn,K cn/\Ext st cn/\E w w'/\Rep β cn (a.put d v) w':=by
 obtain⟨h0,h⟩:=cX h;simp at h0;rw[hR.qv h0.1.1,<-hR.still hm]at h;obtain⟨w1,hr,h⟩:=h;obtain⟨h,hS⟩:=pT h;obtain⟨h,hE⟩:=hX _ _ _ h;have ev:val β0 rs=val β rs:=ga (g:=fun _=>false) (fun i h=>(by cases h)) _ h0.2;refine⟨_,w1,hr,_,h,?_,hE,?_⟩
 ·refine Ext.trans (t:={st with w0:=w1}) ⟨rfl,aV _,fun _ _ _ h _=>h,fun i b' kV ho hs=>⟨b',kV,ho,rfl,rfl,rfl,fun _ h=>h⟩,K7,B0⟩ (Ext.put _ _ _)
 ·rw[ev];refine Rep.put (Rep.next (ct':=st.ct) hR hm h0.1.2 fun i b' kV ho=>⟨b',kV,ho,rfl,?_⟩) _ _;have tZ:=lN (esc:=true) kV ho rfl;rw[hR.JJ h0.1.2 kV ho]at tZ;exact(hS _ tZ).trans (hR.bx i b' kV ho).blk
def P4(P:Program)(X:XT)(st:St)(d:Option Tmp)(args:List SV)(run:List aw->Sem Unit)(K:St->Prop):Prop:=
 bif fL st.FN args&&nB st.bx then
  ∃w1,(run (cm st.bl args)).run P st.w0=.ok () w1/\xa (rq true st.bx) st.w0 w1 (X st.w0 w1 (K (St.put {st with w0:=w1} d .un)))
 else False
theorem P5{X}{E:av->av->Prop}(hX:∀w0 w1 p,X w0 w1 p->p/\E w0 w1){d}{args}{run}{K}(h:P4 P X st d args run K)(hm:st.mv=false)(hR:Rep β st a w):
  ∃w',(run (cm β args)).run P w=.ok () w'/\∃cn,K cn/\Ext st cn/\E w w'/\Rep β cn (a.put d undef) w':=by
 obtain⟨h0,h⟩:=cX h;simp at h0;rw[hR.qv h0.1,<-hR.still hm]at h;obtain⟨w1,hr,h⟩:=h;obtain⟨h,hS⟩:=pT h;obtain⟨h,hE⟩:=hX _ _ _ h;refine⟨w1,hr,_,h,?_,hE,?_⟩
 ·refine Ext.trans (t:={st with w0:=w1}) ⟨rfl,aV _,fun _ _ _ h _=>h,fun i b' kV ho hs=>⟨b',kV,ho,rfl,rfl,rfl,fun _ h=>h⟩,K7,B0⟩ (Ext.put _ _ _)
 ·refine Rep.put (v:=.un) (Rep.next (ct':=st.ct) hR hm h0.2 fun i b' kV ho=>⟨b',kV,ho,rfl,?_⟩) _;have tZ:=lN (esc:=true) kV ho rfl;rw[hR.JJ h0.2 kV ho]at tZ;exact(hS _ tZ).trans (hR.bx i b' kV ho).blk
end
end Go.Kt.V
