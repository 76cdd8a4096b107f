import Derived.Test.YtbkjcdocjfknfaaGreatDoorQc1
import Derived.Shelf.Strings.Builder1
import Derived.Shelf.Strings.Builder2
import Derived.Shelf.Strings.OnBuilder
import Derived.Shelf.Small.Bits
import Derived.Shelf.Strings.BuilderF
import Derived.Shelf.Strconv.Itoa0
import Derived.Shelf.Strconv.Itoa1
import Derived.Shelf.LaysM
import Derived.Shelf.Strconv.Itoa2
import Derived.Shelf.Strconv.Itoa3
import Derived.Shelf.Strconv.ParseIntEmpty
import Derived.Shelf.Strconv.Clone
import Derived.Shelf.Strconv.SyntaxError
import Derived.Shelf.LaysC
import Derived.Shelf.Strconv.ToError
import Derived.Shelf.Strconv.Lower
import Derived.Shelf.Strconv.ParseUint10
import Derived.Shelf.Strconv.ParseUint10Empty
import Derived.Shelf.Strconv.ParseUint10Any
import Derived.Shelf.Strconv.ParseInt10
import Derived.Shelf.Strconv.RangeError
import Derived.Shelf.Strconv.ToErrorRange
import Derived.Shelf.Strconv.ParseUintEmpty
import Derived.Shelf.Strconv.ParseUint10b64
import Derived.Shelf.Strconv.ParseUint10b32
import Derived.Shelf.Strconv.ParseUint10b16
import Derived.Shelf.Strconv.ParseUint10b8
import Derived.Shelf.Strconv.ParseUint10At
import Derived.Shelf.Strconv.ParseInt10At64
import Derived.Shelf.Strconv.ParseInt10At32
import Derived.Shelf.Strconv.ParseInt10At16
import Derived.Shelf.Strconv.ParseInt10At8
import Derived.Shelf.Strconv.ParseInt10All
import Derived.Shelf.Strconv.ParseIntPublic10
import Derived.Shelf.Strconv.ErrVarParseInt
import Derived.Shelf.Strings.Search1
import Derived.Shelf.Strings.Search2
import Derived.Shelf.Strings.Cut
import Derived.Shelf.Strings.Shaped
import Derived.Shelf.Sort.Plain
import Derived.Shelf.Strings.Prefix
import Derived.Shelf.Bits.Mul64
import Derived.Shelf.Strings.Repeat
import Derived.Shelf.Slices.Clone
import Derived.Shelf.Slices.CompactI
import Derived.Shelf.Slices.SearchI
import Derived.Shelf.Slices.Cells
import Derived.Shelf.Slices.In.SortNone
import Derived.Shelf.Slices.Empties
import Derived.Shelf.SlicesE.Clone
set_option linter.unusedSectionVars false
namespace Go.Kt.V
open Go renaming World->av,Value->aw
open Go Go.RowKit Go.Kt
set_option linter.unusedSimpArgs false
set_option linter.unusedVariables false
def cd{α:Type}(o:Option α)(K:α->Prop):Prop:=match o with
 | some v=>K v
 | none=>False
theorem bB{α}{o:Option α}{K}(h:cd o K):∃v,o=some v/\K v:=by
 cases o with
 | none=>exact h.elim
 | some v=>exact⟨v,rfl,h⟩
def gi:List (Bool×Bool)->Prop->Prop
 | [],p=>p
 | (t,b)::r,p=>t=b->gi r p
def gh:List (Bool×Bool)->Prop
 | []=>True
 | (t,b)::r=>t=b/\gh r
theorem gy:∀{gs:List _} {p:Prop},gi gs p->gh gs->p
 | [],_,h,_=>h
 | _::r,p,h,k=>gy (gs:=r) (h k.1) k.2
inductive Lf where
 | int (k:IntKind)
 | bool
 | str
 | ptr
 | sl
 | map
 | raw
def Lf.T:Lf->Type
 | .int _=>Int
 | .bool=>Bool
 | .str=>ByteArray
 | .ptr=>Option Addr
 | .sl=>Sl
 | .map=>Option Nat
 | .raw=>OV
def Lf.sv:(l:Lf)->l.T->SV
 | .int k,x=>.int k x
 | .bool,x=>.bt x
 | .str,x=>.str x
 | .ptr,x=>.ptr x
 | .sl,x=>.sl x
 | .map,x=>.map x
 | .raw,x=>.raw x
theorem Lf.cln g (l:Lf) x:V.cln g (l.sv x)=true:=by cases l<;>rfl
def Xx:List Lf->(List SV->Prop)->Prop
 | [],K=>K []
 | l::r,K=>∃x,Xx r fun vs=>K (l.sv x::vs)
theorem uH:∀{ls:List Lf} {K:List SV->Prop},Xx ls K->∃vs,K vs/\vs.length=ls.length/\∀g,ia g vs=true
 | [],K,h=>⟨[],h,rfl,fun _=>rfl⟩
 | l::r,K,h=>by
  obtain⟨x,h⟩:=h;obtain⟨vs,h1,h2,h3⟩:=uH (ls:=r) h;exact⟨_,h1,by simp[h2],fun g=>by simp[ia,Lf.cln,h3 g,kM]⟩
def akD:TypeDesc->Lf
 | .int k=>.int k
 | .bool=>.bool
 | .string=>.str
 | .pointer _=>.ptr
 | .slice _=>.sl
 | .map _ _=>.map
 | _=>.raw
def rep{α:Type}:Nat->List α->List α
 | 0,_=>[]
 | n+1,l=>l++rep n l
def flat{α β:Type}(f:α->List β):List α->List β
 | []=>[]
 | x::r=>f x++flat f r
def P3(P:Program):Nat->TypeId->List Lf
 | 0,_=>[]
 | n+1,t=>match P.underlying t with
  | some (.struct fs)=>flat (fun f:Field=>P3 P n f.type) fs.toList
  | some (.array len e)=>rep len (P3 P n e)
  | some d=>[akD d]
  | none=>[]
def lM:TypeDesc->Bool
 | .struct _=>true
 | .array _ _=>true
 | _=>false
def NC(ag:Bool)(l:List SV):SV:=bif ag then .agg (lJ l)else l.headD .un
def β0:Nat->Nat:=fun _=>0
def pD:SV->Option (IntKind×Int)
 | .int k n=>some (k,n)
 | .il k n=>some (k,n)
 | _=>none
theorem dh{s}{k}{n}(h:pD s=some (k,n)) β:val β s=.int k n:=by
 cases s<;>simp[pD,aZ,fm,reduceCtorEq]at h
 all_goals obtain⟨rfl,rfl⟩:=h;rfl
def zz:SV->Option Bool
 | .bl b=>some b
 | .bt b=>some b
 | _=>none
theorem lN{s}{b}(h:zz s=some b) β:val β s=.bool b:=by
 cases s<;>simp[zz,aZ,reduceCtorEq]at h
 all_goals subst h;rfl
def uI:SV->Option ByteArray
 | .str s=>some s
 | _=>none
theorem ic{s}{b}(h:uI s=some b) β:val β s=.string b:=by
 cases s<;>simp[uI,aZ,reduceCtorEq]at h
 all_goals subst h;rfl
def KO:SV->Option Sl
 | .sl s=>some s
 | .nsl=>some Sl.nil
 | _=>none
theorem jL{s}{b}(h:KO s=some b) β:val β s=b.v:=by
 cases s<;>simp[KO,aZ,reduceCtorEq]at h
 all_goals subst h;rfl
def ib(op:BinOp)(k:IntKind)(m n:Int):Option SV:=match op with
 | .add=>some (.int k (k.wrap (m+n)))
 | .sub=>some (.int k (k.wrap (m-n)))
 | .mul=>some (.int k (k.wrap (m*n)))
 | .eql=>some (.bt (m==n))
 | .neq=>some (.bt (m !=n))
 | .lss=>some (.bt (decide (m<n)))
 | .leq=>some (.bt (decide (m<=n)))
 | .gtr=>some (.bt (decide (m>n)))
 | .geq=>some (.bt (decide (m>=n)))
 | .and=>some (.int k (bits .and k m n))
 | .or=>some (.int k (bits .or k m n))
 | .xor=>some (.int k (bits .xor k m n))
 | .andNot=>some (.int k (bits .andNot k m n))
 | _=>none
def sb(op:BinOp)(s u:ByteArray):Option SV:=match op with
 | .eql=>some (.bt (s.toList==u.toList))
 | .neq=>some (.bt (!(s.toList==u.toList)))
 | .lss=>some (.bt (Op.bytesLess s.toList u.toList))
 | .geq=>some (.bt (!(Op.bytesLess s.toList u.toList)))
 | .leq=>some (.bt (Op.bytesLess s.toList u.toList||(s.toList==u.toList)))
 | .gtr=>some (.bt (!(Op.bytesLess s.toList u.toList||(s.toList==u.toList))))
 | _=>none
def nz(gs:List (Bool×Bool))(b:SV)(n:Int)(K:Prop):Prop:=match b with
 | .il _ _=>bif n==0 then False else K
 | _=>gi gs (n≠0)/\K
def ge0(gs:List (Bool×Bool))(b:SV)(n:Int)(K:Prop):Prop:=match b with
 | .il _ _=>bif decide (0<=n)then K else False
 | _=>gi gs (0<=n)/\K
def vh:SV->Option (Option Addr)
 | .np=>some none
 | .ptr p=>some p
 | .ad a=>some (some a)
 | _=>none
theorem U7{s}{p}(h:vh s=some p) β:val β s=.pointer p:=by
 cases s<;>simp[vh,aZ,reduceCtorEq]at h
 all_goals subst h;rfl
def pn(op:BinOp)(a:SV):Option SV:=match op,a with
 | .eql,.ptr p=>some (.bt p.isNone)
 | .neq,.ptr p=>some (.bt (!p.isNone))
 | .eql,.ad _=>some (.bl false)
 | .neq,.ad _=>some (.bl true)
 | .eql,.box _ _=>some (.bl false)
 | .neq,.box _ _=>some (.bl true)
 | .eql,.np=>some (.bl true)
 | .neq,.np=>some (.bl false)
 | _,_=>none
def sn(op:BinOp)(s:Sl):Option SV:=match op with
 | .eql=>some (.bt s.a.isNone)
 | .neq=>some (.bt (!s.a.isNone))
 | _=>none
def P4:SV->Bool
 | .np=>true
 | _=>false
def FT:SV->Bool
 | .nsl=>true
 | _=>false
def eq1(P:Program)(t:TypeId)(x y:SV):Option Bool:=match P.underlying t with
 | some (.int _)=>(match pD x,pD y with
  | some (k,m),some (k',n)=>bif decide (k=k')then some (m==n)else none
  | _,_=>none)
 | some .string=>(match uI x,uI y with
  | some s,some u=>some (s==u)
  | _,_=>none)
 | some .bool=>(match zz x,zz y with
  | some s,some u=>some (s==u)
  | _,_=>none)
 | _=>none
def FU(P:Program)(xs ys:List SV):List Field->Option Bool
 | []=>some true
 | f::r=>bif f.name== "_" then none else match xs[f.offset]?,ys[f.offset]? with
  | some x,some y=>(match eq1 P f.type x y,FU P xs ys r,r with
   | some b,some _,[]=>some b
   | some b,some c,_=>some (b&&c)
   | _,_,_=>none)
  | _,_=>none
def Zw(P:Program)(t:TypeId)(fs:Array Field)(a b:SV):Option Bool:=match a,b with
 | .agg l,.agg m=>bif BE l&&BE m&&!P.stoodInHeld t&&!P.eqGuardType P.depth t then FU P (mB l) (mB m) fs.toList else none
 | _,_=>none
def Zx(op:BinOp)(b:Bool):Option SV:=match op with
 | .eql=>some (.bt b)
 | .neq=>some (.bt (!b))
 | _=>none
def mn(op:BinOp)(a b:SV):Option SV:=match op,a,b with
 | .eql,.map m,.map none=>some (.bt m.isNone)
 | .neq,.map m,.map none=>some (.bt (!m.isNone))
 | _,_,_=>none
def Zy(P:Program)(gs:List (Bool×Bool))(op:BinOp)(t:TypeId)(a b:SV)(K:SV->Prop):Prop:=
 match pD a,pD b with
 | some (k,m),some (k',n)=>(match op with
  | .shl=>ge0 gs b n (K (.int k (k.wrap (m*2 ^ (min n.toNat k.bits)))))
  | .shr=>ge0 gs b n (K (.int k (m.fdiv (2 ^ (min n.toNat k.bits)))))
  | .quo=>bif decide (k=k')then nz gs b n (K (.int k (k.wrap (m.tdiv n))))else False
  | .rem=>bif decide (k=k')then nz gs b n (K (.int k (m.tmod n)))else False
  | _=>bif decide (k=k')then cd (ib op k m n) K else False)
 | _,_=>match uI a,uI b with
  | some s,some u=>(match op with
   | .add=>gi gs ((s.size:Int)+u.size<=9223372036854775807)/\K (.str (s++u))
   | _=>cd (sb op s u) K)
  | _,_=>match zz a,zz b,P.underlying t with
   | some s,some u,some .bool=>(match op with
    | .eql=>K (.bt (s==u))
    | .neq=>K (.bt (!(s==u)))
    | _=>False)
   | _,_,_=>match P.underlying t with
    | some (.pointer _)=>bif P4 b then cd (pn op a) K else bif P4 a then cd (pn op b) K else False
    | some (.slice _)=>bif FT b then cd ((KO a).bind (sn op)) K else bif FT a then cd ((KO b).bind (sn op)) K else False
    | some (.struct fs)=>cd (Zw P t fs a b) fun r=>cd (Zx op r) K
    | some (.map _ _)=>cd (mn op a b) K
    | _=>False
section
variable {P:Program} {gs:List (Bool×Bool)} {K:SV->Prop}
theorem Xy{b}{k}{n}{K}(hb:pD b=some (k,n))(h:nz gs b n K):K/\(gh gs->n≠0):=by
 unfold nz at h;split at h
 ·cases hn:(n==0)with
  | true=>rw[hn]at h;exact h.elim
  | false=>rw[hn]at h;exact⟨h,fun _=>by simpa using hn⟩
 ·exact⟨h.2,fun g=>gy h.1 g⟩
theorem P5{b}{n}{K}(h:ge0 gs b n K):K/\(gh gs->0<=n):=by
 unfold ge0 at h;split at h
 ·by_cases hn:0<=n
  ·rw[bL hn]at h;exact⟨h,fun _=>hn⟩
  ·rw[bC hn]at h;exact h.elim
 ·exact⟨h.2,fun g=>gy h.1 g⟩
theorem dw{b}{p}(h:bif b then p else False):b=true/\p:=by
 cases b with
 | true=>exact⟨rfl,h⟩
 | false=>exact h.elim
def mj(P:Program)(op:BinOp)(t:TypeId)(a b v:SV):Prop:=
 ∀β (act:Act) x y dst ty t' p af g w,act.eval x=val β a->act.eval y=val β b->
  (execOp act.eval ⟨dst,.binOp op t x y ty,t',p,af,g⟩).run P w=.ok (.value (val β v)) w
theorem aeu{op}{t}{a b v}{k}{m n}(ha:pD a=some (k,m))(hb:pD b=some (k,n))(h:ib op k m n=some v):mj P op t a b v:=by
 intro β act x y dst ty t' p af g w hx hy;rw[dh ha]at hx;rw[dh hb]at hy;cases op<;>simp[ib,aZ,reduceCtorEq]at h
 all_goals subst h;simp[execOp,hx,hy];cases k<;>rfl
theorem aev{op}{t}{a b v}{s u}(ha:uI a=some s)(hb:uI b=some u)(h:sb op s u=some v):mj P op t a b v:=by
 intro β act x y dst ty t' p af g w hx hy;rw[ic ha]at hx;rw[ic hb]at hy;cases op<;>simp only[sb,aZ,reduceCtorEq]at h
 all_goals subst h;simp only[execOp,hx,hy];rfl
theorem Xz{op}{t e}{a b v}(hu:P.underlying t=some (.pointer e))(hb:P4 b=true)(h:pn op a=some v):mj P op t a b v/\mj P op t b a v:=by
 have hbv:∀β,val β b=.pointer none:=fun β=>by
  unfold P4 at hb;split at hb
  ·rfl
  ·cases hb
 have key:∀β,∃(q:Option Addr) (r:Bool),val β a=.pointer q/\val β v=.bool r/\((op=.eql/\q.isNone=r)∨(op=.neq/\(!q.isNone)=r)):=by
  intro β;unfold pn at h;split at h<;>simp only[aZ,reduceCtorEq]at h<;>subst h
  ·exact⟨_,_,rfl,rfl,.inl ⟨rfl,rfl⟩⟩
  ·exact⟨_,_,rfl,rfl,.inr ⟨rfl,rfl⟩⟩
  ·exact⟨_,_,rfl,rfl,.inl ⟨rfl,rfl⟩⟩
  ·exact⟨_,_,rfl,rfl,.inr ⟨rfl,rfl⟩⟩
  ·exact⟨_,_,rfl,rfl,.inl ⟨rfl,rfl⟩⟩
  ·exact⟨_,_,rfl,rfl,.inr ⟨rfl,rfl⟩⟩
  ·exact⟨_,_,rfl,rfl,.inl ⟨rfl,rfl⟩⟩
  ·exact⟨_,_,rfl,rfl,.inr ⟨rfl,rfl⟩⟩
 constructor
 ·intro β act x y dst ty t' p af g w hx hy;obtain⟨q,r,h1,h2,h3⟩:=key β;rw[h1]at hx;rw[hbv]at hy;rw[h2];rcases h3 with⟨rfl,h3⟩ | ⟨rfl,h3⟩
  ·exact Di (run_underlying hu w) hx hy h3
  ·exact Dl (run_underlying hu w) hx hy h3
 ·intro β act x y dst ty t' p af g w hx hy;obtain⟨q,r,h1,h2,h3⟩:=key β;rw[h1]at hy;rw[hbv]at hx;rw[h2];rcases h3 with⟨rfl,h3⟩ | ⟨rfl,h3⟩
  ·exact Dk (run_underlying hu w) hx hy h3
  ·exact Dm (run_underlying hu w) hx hy h3
theorem XA{op}{t e}{a b v}(hu:P.underlying t=some (.slice e))(hb:FT b=true)(h:(KO a).bind (sn op)=some v):mj P op t a b v/\mj P op t b a v:=by
 have hbv:∀β,val β b=.slice none 0 0:=fun β=>by
  unfold FT at hb;split at hb
  ·rfl
  ·cases hb
 cases hs:KO a with
 | none=>rw[hs]at h;cases h
 | some s=>
  rw[hs]at h;simp at h;constructor
  ·intro β act x y dst ty t' p af g w hx hy;rw[jL hs]at hx;rw[hbv]at hy;cases op<;>simp only[sn,aZ,reduceCtorEq]at h<;>subst h
   ·exact FH (run_underlying hu w) hx hy
   ·exact FJ (run_underlying hu w) hx hy
  ·intro β act x y dst ty t' p af g w hx hy;rw[jL hs]at hy;rw[hbv]at hx;cases op<;>simp only[sn,aZ,reduceCtorEq]at h<;>subst h
   ·exact FI (run_underlying hu w) hx hy
   ·exact FK (run_underlying hu w) hx hy
theorem aew{op:BinOp}{t k e:TypeId}{a b v}(hu:P.underlying t=some (.map k e))(h:mn op a b=some v):mj P op t a b v:=by
 intro β act x y dst ty t' p af g w hx hy;unfold mn at h;split at h<;>simp only[aZ,reduceCtorEq]at h<;>subst h
 all_goals
  rename_i m;change act.eval x=.map m at hx;change act.eval y=.map none at hy;have hE:∀d,(Op.equalIn (d+1) t (.map m) (.map none)).run P w=.ok m.isNone w:=fun d=>by
   unfold Op.equalIn;cases m<;>simp[Sem.run_bind,run_underlying hu w,Result.andThen_ok]<;>rfl
 ·have hB:binOp .eql t (.map m) (.map none)=(do pure (.bool ((<-Op.equal t (.map m) (.map none))))):=by cases m<;>rfl
  have hG:eqGuard .eql t x y (.map m) (.map none)=pure _:=rfl;simp[execOp,hx,hy,hG,hB,Op.equal,Op.maxDepth,Sem.run_bind,Sem.run_pure,Result.andThen_ok,hE 9999];rfl
 ·have hB:binOp .neq t (.map m) (.map none)=(do pure (.bool (!(<-Op.equal t (.map m) (.map none))))):=by cases m<;>rfl
  have hG:eqGuard .neq t x y (.map m) (.map none)=pure _:=rfl;simp[execOp,hx,hy,hG,hB,Op.equal,Op.maxDepth,Sem.run_bind,Sem.run_pure,Result.andThen_ok,hE 9999];rfl
theorem U8{t}{x y}{b}(h:eq1 P t x y=some b) β d w:P.plainKey t=true/\(Op.equalIn (d+1) t (val β x) (val β y)).run P w=.ok b w:=by
 unfold eq1 at h;split at h
 ·rename_i k hu;refine⟨by simp[Program.plainKey,hu],?_⟩;split at h
  ·rename_i k1 m k2 n hx hy;cases hk:decide (k1=k2)with
   | false=>rw[hk]at h;cases h
   | true=>
    rw[hk]at h;injection h with h;subst h;have hk:=aO hk;subst hk;rw[dh hx,dh hy];simp[Op.equalIn,run_underlying hu]
  ·cases h
 ·rename_i hu;refine⟨by simp[Program.plainKey,hu],?_⟩;split at h
  ·rename_i s u hx hy;injection h with h;subst h;rw[ic hx,ic hy];simp[Op.equalIn,run_underlying hu]
  ·cases h
 ·rename_i hu;refine⟨by simp[Program.plainKey,hu],?_⟩;split at h
  ·rename_i s u hx hy;injection h with h;subst h;rw[lN hx,lN hy];simp[Op.equalIn,run_underlying hu]
  ·cases h
 ·cases h
theorem FV{xs ys} β d w:∀{fs:List Field} {b:Bool},FU P xs ys fs=some b->(Op.eqFields (d+1) (cw β xs).toArray (cw β ys).toArray fs).run P w=.ok b w
 | [],b,h=>by
  simp[FU,aZ]at h;subst h;simp[Op.eqFields]
 | f::r,b,h=>by
  unfold FU at h;cases hn:(f.name== "_")with
  | true=>rw[hn]at h;cases h
  | false=>
   rw[hn,uk]at h;split at h
   ·rename_i x y hx hy;have px:(cw β xs).toArray[f.offset]? =some (val β x):=by simp[cw,hx]
    have py:(cw β ys).toArray[f.offset]? =some (val β y):=by simp[cw,hy]
    have go:∀{b1 c:Bool},eq1 P f.type x y=some b1->FU P xs ys r=some c->(Op.eqFields (d+1) (cw β xs).toArray (cw β ys).toArray (f::r)).run P w=.ok (b1&&c) w:=fun{b1 c} h1 h2=>by
     obtain⟨k1,k2⟩:=U8 h1 β d w;simp only[Op.eqFields,by simpa using hn,ne_eq,not_false_eq_true,if_true,Sem.run_bind,run_part_plain w k1 px,run_part_plain w k1 py,k2,Result.andThen_ok];cases b1
     ·simp
     ·simpa using FV β d w h2
    split at h
    ·rename_i b1 c h1 h2;injection h with h;subst h;have:=go h1 h2;simp[FU,aZ]at h2;subst h2;rwa[kM]at this
    ·rename_i b1 c h1 _ h2;injection h with h;subst h;exact go h1 h2
    ·cases h
   ·cases h
theorem U9{op}{t}{fs}{a b v}{r}(hu:P.underlying t=some (.struct fs))(h:Zw P t fs a b=some r)(hv:Zx op r=some v):mj P op t a b v:=by
 unfold Zw at h;split at h
 ·rename_i l m;obtain⟨h0,h⟩:(BE l&&BE m&&!P.stoodInHeld t&&!P.eqGuardType P.depth t)=true/\FU P _ _ fs.toList=some r:=by
   cases hc:(BE l&&BE m&&!P.stoodInHeld t&&!P.eqGuardType P.depth t)with
   | true=>rw[hc]at h;exact⟨rfl,h⟩
   | false=>rw[hc]at h;cases h
  simp at h0;obtain⟨⟨⟨h1,h2⟩,h3⟩,h4⟩:=h0;intro β act x y dst ty t' p af g w hx hy;have ea:∀{l:SV},BE l=true->val β (.agg l)=.agg (cw β _).toArray:=fun hl=>by
   show Value.agg (pC β _).toArray=_;rw[mh β hl]
  rw[ea h1]at hx;rw[ea h2]at hy;have hfs:P.fieldsOf t=fs:=by simp[Program.fieldsOf,hu]
  have hE:(Op.equalIn 10000 t (.agg (cw β (mB l)).toArray) (.agg (cw β (mB m)).toArray)).run P w=.ok r w:=by
   rw[show 10000=9999+1 from rfl,run_equalIn_struct w 9999 t _ _ (by rw[hfs];exact hu) h3,hfs];exact FV β 9998 w h
  have hG:∀op,(eqGuard op t x y (.agg (cw β (mB l)).toArray) (.agg (cw β (mB m)).toArray)).run P w=.ok () w:=fun op=>by
   unfold eqGuard;cases op<;>simp[run_program,h4]
  unfold Zx at hv;split at hv
  ·injection hv with hv;subst hv;have hB:binOp .eql t (.agg (cw β (mB l)).toArray) _=(do pure (.bool (<-Op.equal t _ (.agg (cw β (mB m)).toArray)))):=rfl;simp[execOp,hx,hy,hB,Op.equal,Op.maxDepth,Sem.run_bind,Sem.run_pure,Result.andThen_ok,hE,hG];rfl
  ·injection hv with hv;subst hv;have hB:binOp .neq t (.agg (cw β (mB l)).toArray) _=(do pure (.bool (!(<-Op.equal t _ (.agg (cw β (mB m)).toArray))))):=rfl;simp[execOp,hx,hy,hB,Op.equal,Op.maxDepth,Sem.run_bind,Sem.run_pure,Result.andThen_ok,hE,hG];rfl
  ·cases hv
 ·cases h
theorem Va{op}{t}{a b}(h:Zy P gs op t a b K):∃v,K v/\(gh gs->mj P op t a b v):=by
 unfold Zy at h;split at h
 ·rename_i k m k' n ha hb;have gen:∀{K:SV->Prop},(bif decide (k=k')then cd _ K else False)->∃v,K v/\(gh gs->mj P op t a b v):=fun h=>by
   obtain⟨gu,h1⟩:=dw h;have hk:=aO gu;subst hk;obtain⟨v,hv,hK⟩:=bB h1;exact⟨v,hK,fun _=>aeu ha hb hv⟩
  split at h
  ·obtain⟨h,hn⟩:=P5 h;exact⟨_,h,fun g β act x y dst ty t' p af gg w hx hy=>aej (by rw[hx,dh ha]) (by rw[hy,dh hb]) (hn g)⟩
  ·obtain⟨h,hn⟩:=P5 h;exact⟨_,h,fun g β act x y dst ty t' p af gg w hx hy=>aek (by rw[hx,dh ha]) (by rw[hy,dh hb]) (hn g)⟩
  ·obtain⟨gu,h1⟩:=dw h;have hk:=aO gu;subst hk;obtain⟨h2,hn⟩:=Xy hb h1;exact⟨_,h2,fun g β act x y dst ty t' p af gg w hx hy=>aeh (by rw[hx,dh ha]) (by rw[hy,dh hb]) (hn g)⟩
  ·obtain⟨gu,h1⟩:=dw h;have hk:=aO gu;subst hk;obtain⟨h2,hn⟩:=Xy hb h1;exact⟨_,h2,fun g β act x y dst ty t' p af gg w hx hy=>aei (by rw[hx,dh ha]) (by rw[hy,dh hb]) (hn g)⟩
  ·exact gen h
 ·split at h
  ·rename_i s u ha hb;split at h
   ·exact⟨_,h.2,fun g β act x y dst ty t' p af gg w hx hy=>PT (by rw[hx,ic ha]) (by rw[hy,ic hb]) (gy h.1 g)⟩
   ·obtain⟨v,hv,hK⟩:=bB h;exact⟨v,hK,fun _=>aev ha hb hv⟩
  ·split at h
   ·rename_i s u ha hb hu;split at h
    ·exact⟨_,h,fun g β act x y dst ty t' p af gg w hx hy=>Nw hu (by rw[hx,lN ha]) (by rw[hy,lN hb])⟩
    ·exact⟨_,h,fun g β act x y dst ty t' p af gg w hx hy=>Nx hu (by rw[hx,lN ha]) (by rw[hy,lN hb])⟩
    ·exact h.elim
   ·split at h
    ·rename_i e hu;cases hb:P4 b with
     | true=>
      rw[hb]at h;obtain⟨v,hv,hK⟩:=bB h;exact⟨v,hK,fun _=>(Xz hu hb hv).1⟩
     | false=>
      rw[hb]at h;obtain⟨ha,h⟩:=dw h;obtain⟨v,hv,hK⟩:=bB h;exact⟨v,hK,fun _=>(Xz hu ha hv).2⟩
    ·rename_i e hu;cases hb:FT b with
     | true=>
      rw[hb]at h;obtain⟨v,hv,hK⟩:=bB h;exact⟨v,hK,fun _=>(XA hu hb hv).1⟩
     | false=>
      rw[hb]at h;obtain⟨ha,h⟩:=dw h;obtain⟨v,hv,hK⟩:=bB h;exact⟨v,hK,fun _=>(XA hu ha hv).2⟩
    ·rename_i fs hu;obtain⟨r,hr,h⟩:=bB h;obtain⟨v,hv,hK⟩:=bB h;exact⟨v,hK,fun _=>U9 hu hr hv⟩
    ·rename_i kk ee hu;obtain⟨v,hv,hK⟩:=bB h;exact⟨v,hK,fun _=>aew hu hv⟩
    ·exact h.elim
end
def Vb:SV->Bool
 | .agg _=>false
 | .tup _=>false
 | .un=>false
 | .e=>false
 | .c _ _=>false
 | _=>true
def KP:List SV->Bool
 | []=>true
 | s::r=>Vb s&&KP r
theorem FW{s}(h:Vb s=true) β:(val β s).oneCell'=true/\(val β s).cells=#[val β s]:=by
 cases s with
 | raw v=>
  have e:val β (.raw v)=v.v:=rfl;refine⟨v.one,?_⟩;obtain⟨v,hv⟩:=v;cases v<;>first | rfl | (simp[Value.oneCell']at hv)
 | _=>first | exact⟨rfl,rfl⟩ | (simp[Vb]at h)
theorem B8:∀{l:List SV},KP l=true->∀β,(cw β l).all Value.oneCell'=true
 | [],_,_=>rfl
 | s::r,h,β=>by
  simp[KP,aQ]at h;simp only[cw,bD,List.all_cons,aQ];exact⟨(FW h.1 β).1,B8 h.2 β⟩
def zA:SV->Option (List SV)
 | .agg l=>bif BE l&&KP (mB l)then some (mB l)else none
 | s=>bif Vb s then some [s]else none
theorem Dt{α:Type}{b}{x}{y:α}(h:(bif b then some x else none)=some y):b=true/\x=y:=by
 cases b with
 | true=>exact⟨rfl,by simpa using h⟩
 | false=>cases h
theorem wR{s}{l}(h:zA s=some l) β:(val β s).cells=(cw β l).toArray/\(cw β l).all Value.oneCell'=true:=by
 unfold zA at h;split at h
 ·obtain⟨h1,rfl⟩:=Dt h;simp at h1;refine⟨?_,B8 h1.2 β⟩;show(pC β _).toArray=_;rw[mh β h1.1]
 ·obtain⟨h1,rfl⟩:=Dt h;obtain⟨h2,h3⟩:=FW h1 β;exact⟨h3,by simp[cw,h2]⟩
def IT:List aw->Option (List SV)
 | []=>some []
 | v::r=>match P1 v,IT r with
  | some s,some l=>some (s::l)
  | _,_=>none
theorem yM β:∀{l:List aw} {s:List SV},IT l=some s->cw β s=l
 | [],s,h=>by simp[IT,aZ]at h;subst h;rfl
 | v::r,s,h=>by
  simp[IT]at h;split at h
  ·rename_i s' l' h1 h2;simp at h;subst h;have:=yM β h2;simp only[cw,bD]at this⊢;rw[zy h1,this]
  ·cases h
def spl(cs:List SV)(o:Nat)(vs:List SV):List SV:=cs.take o++vs++cs.drop (o+vs.length)
theorem FX β cs o vs:cw β (spl cs o vs)=cj (cw β cs) o (cw β vs):=by
 simp[cw,spl,cj,cJ,mY,qA,bm]
theorem FY{off}:∀vs k cs,off+k+vs.length<=cs.length->
  (vs.zipIdx k).foldl (fun cs x=>cs.setIfInBounds (off+x.2) x.1) cs.toArray=(cj cs (off+k) vs).toArray
 | [],k,cs,_=>by simp[cj]
 | v::vs,k,cs,h=>by
  simp at h;have e:cs.toArray.setIfInBounds (off+k) v=(cs.set (off+k) v).toArray:=by simp
  rw[List.zipIdx_cons,rM];rw[e,FY vs _ _ (by rw[ij];omega)];simp[cj,bf];rw[show off+_=off+k+1 by omega,bJ,oB (by omega),Fm (aX _),Fp (by omega),show off+k+1+vs.length=off+k+(vs.length+1) by omega];simp
def B9(place:Nat->Option (Nat×Nat)):List SV->List (Nat×SV)->Option (List SV)
 | cells,[]=>some cells
 | cells,(i,v)::rest=>match place i,zA v with
  | some (off,size),some vs=>bif Nat.beq vs.length size&&Nat.ble (off+vs.length) cells.length then B9 place (spl cells off vs) rest else none
  | _,_=>none
theorem zC β {place}:∀{parts:List _} {cells r:List SV},B9 place cells parts=some r->Instr.fill place (cw β cells).toArray (B7 β parts)=some (cw β r).toArray
 | [],cells,r,h=>by simp[B9,aZ]at h;subst h;rfl
 | _::rest,cells,r,h=>by
  simp[B9]at h;split at h
  ·rename_i off size vs hp hc;cases hb:(Nat.beq vs.length size&&Nat.ble _ cells.length)with
   | false=>rw[hb]at h;cases h
   | true=>
    rw[hb]at h;simp only[aQ]at hb;have h1:=ca hb.1;have h2:=cy hb.2;obtain⟨e1,_⟩:=wR hc β;have ih:=zC β (parts:=rest) (cells:=spl cells off vs) h;rw[FX]at ih;simp only[B7,bD,Instr.fill,hp,e1,kQ,fh];rw[if_neg (by simp;omega)];have e2:=FY (off:=off) (cw β vs) 0 (cw β cells) (by rw[fh,fh];omega);rw[dG]at e2;have e3:(cw β vs).toArray.zipIdx.foldl (fun cs x=>cs.setIfInBounds (off+x.2) x.1) (cw β cells).toArray=(cj (cw β cells) off (cw β vs)).toArray:=by
     rw[<-e2];simp
    exact(bI (fun a=>Instr.fill place a _) e3).trans ih
  ·cases h
def Zz(P:Program)(t:TypeId)(parts:List (Nat×SV)):Option (List SV):=
 match P.info? t,P.underlying t with
 | some it,some (.array _ e)=>(match it.zero,P.info? e with
  | some z,some ie=>(match IT z.cells.toList with
   | some zs=>B9 (fun i=>some (i*ie.size,ie.size)) zs parts
   | none=>none)
  | _,_=>none)
 | some it,some (.struct fields)=>(match it.zero,fields.toList.mapM (fun f=>(P.info? f.type).map fun i=>(f.offset,i.size))with
  | some z,some places=>(match IT z.cells.toList with
   | some zs=>B9 (places.toArray[·]?) zs parts
   | none=>none)
  | _,_=>none)
 | _,_=>none
theorem Vd{P}{t}{parts}{r}(h:Zz P t parts=some r) β w:(Instr.build t (B7 β parts).toArray).run P w=.ok (.agg (cw β r).toArray) w:=by
 refine run_build w t _ _ ?_;unfold Zz at h;split at h
 ·rename_i it n e h1 h2;split at h
  ·rename_i z ie h3 h4;split at h
   ·rename_i zs h5;have:=zC β h;rw[yM β h5]at this;simp[Program.built,h1,h2,h3,h4];simpa using this
   ·cases h
  ·cases h
 ·rename_i it fields h1 h2;split at h
  ·rename_i z places h3 h4;split at h
   ·rename_i zs h5;have:=zC β h;rw[yM β h5]at this;simp[Program.built,h1,h2,h3,h4];simpa using this
   ·cases h
  ·cases h
 ·cases h
def sz(P:Program)(t:TypeId)(n:Nat):Bool:=match P.info? t with
 | some i=>Nat.beq i.size n
 | none=>false
theorem oV{P}{t}{n}(h:sz P t n=true) w:(sizeOf t).run P w=.ok n w:=by
 unfold sz at h;cases hi:P.info? t with
 | none=>rw[hi]at h;cases h
 | some i=>
  rw[hi]at h;rw[<-ca h];simp[sizeOf,typeInfo,hi]
def mZ(P:Program)(t:TypeId):Nat:=match P.info? t with
 | some i=>i.size
 | none=>0
theorem kl{P}{t}{d}(h:P.underlying t=some d) w:(isAgg t).run P w=.ok (lM d) w:=by
 unfold isAgg;rw[Sem.run_bind,run_underlying h,Result.andThen_ok];cases d<;>rfl
def IU(b:SV)(K:Nat->(Prop->Prop)->Prop):Prop:=match b with
 | .il _ n=>bif decide (0<=n)then K n.toNat id else False
 | .int _ n=>∃v,K v fun p=>n=v/\p
 | _=>False
theorem lO{b}{K}(h:IU b K):∃(v:Nat) (e:Prop->Prop) (k:IntKind) (n:Int),K v e/\pD b=some (k,n)/\(∀p,e p->n=v/\p):=by
 unfold IU at h;split at h
 ·rename_i k n;obtain⟨h1,h2⟩:=dw h;have h1:=aO h1;exact⟨_,_,k,n,h2,rfl,fun p hp=>⟨by omega,hp⟩⟩
 ·rename_i k n;obtain⟨v,hv⟩:=h;exact⟨v,_,k,n,hv,rfl,fun p hp=>hp⟩
 ·exact h.elim
def slS(gs:List (Bool×Bool))(s:Sl)(es:Nat)(st:St)(lo hi mx:Option Operand)(K:SV->Prop):Prop:=match lo,hi,mx with
 | some lo,none,none=>cd (st.ev lo) fun a=>IU a fun l e=>gi gs (e (l<=s.n/\s.n<=s.c))/\K (.sl (s.cut l s.n s.c es))
 | none,some hi,none=>cd (st.ev hi) fun a=>IU a fun h e=>gi gs (e (h<=s.c))/\K (.sl (s.cut 0 h s.c es))
 | some lo,some hi,none=>cd (st.ev lo) fun a=>cd (st.ev hi) fun b=>IU a fun l e=>IU b fun h f=>gi gs (e (f (l<=h/\h<=s.c)))/\K (.sl (s.cut l h s.c es))
 | none,some hi,some mx=>cd (st.ev hi) fun b=>cd (st.ev mx) fun c=>IU b fun h e=>IU c fun m f=>gi gs (e (f (h<=m/\m<=s.c)))/\K (.sl (s.cut 0 h m es))
 | some lo,some hi,some mx=>cd (st.ev lo) fun a=>cd (st.ev hi) fun b=>cd (st.ev mx) fun c=>IU a fun l e=>IU b fun h f=>IU c fun m g=>gi gs (e (f (g (l<=h/\h<=m/\m<=s.c))))/\K (.sl (s.cut l h m es))
 | _,_,_=>False
def slT(gs:List (Bool×Bool))(s:ByteArray)(st:St)(lo hi mx:Option Operand)(K:SV->Prop):Prop:=match lo,hi,mx with
 | some lo,none,none=>cd (st.ev lo) fun a=>IU a fun l e=>gi gs (e (l<=s.size))/\K (.str (s.extract l s.size))
 | none,some hi,none=>cd (st.ev hi) fun a=>IU a fun h e=>gi gs (e (h<=s.size))/\K (.str (s.extract 0 h))
 | some lo,some hi,none=>cd (st.ev lo) fun a=>cd (st.ev hi) fun b=>IU a fun l e=>IU b fun h f=>gi gs (e (f (l<=h/\h<=s.size)))/\K (.str (s.extract l h))
 | _,_,_=>False
def FZ(P:Program)(b:Builtin)(xs:List Operand)(ts:List TypeId)(st:St)(K:SV->Prop):Prop:=match b,xs,ts with
 | .len,[x],[t]=>cd (st.ev x) fun a=>(match P.underlying t with
  | some (.slice _)=>cd (KO a) fun s=>K (.int .i64 s.n)
  | some .string=>cd (uI a) fun s=>K (.int .i64 s.size)
  | _=>False)
 | .cap,[x],[t]=>cd (st.ev x) fun a=>(match P.underlying t with
  | some (.slice _)=>cd (KO a) fun s=>K (.int .i64 s.c)
  | _=>False)
 | .min,[x,y],_=>cd (st.ev x) fun a=>cd (st.ev y) fun b=>cd (pD a) fun p=>cd (pD b) fun q=>K (.int p.1 (if q.2<p.2 then q.2 else p.2))
 | .max,[x,y],_=>cd (st.ev x) fun a=>cd (st.ev y) fun b=>cd (pD a) fun p=>cd (pD b) fun q=>K (.int p.1 (if q.2>p.2 then q.2 else p.2))
 | _,_,_=>False
def nif:TypeDesc->Bool
 | .interface _=>false
 | _=>true
def cvP(P:Program)(gs:List (Bool×Bool))(st:St)(s d:TypeId)(a:SV)(K:SV->Prop):Prop:=match P.underlying s,P.underlying d with
 | some (.int _),some (.int kd)=>cd (pD a) fun p=>K (.int kd (kd.wrap p.2))
 | some .string,some .string=>cd (uI a) fun u=>K (.str u)
 | some (.slice e),some .string=>(match P.underlying e with
  | some (.int .u8)=>cd (KO a) fun u=>bif st.mv then False else ∃l,gi gs (zo st.w0 u l)/\K (.str ⟨l.toArray⟩)
  | _=>False)
 | _,_=>False
def ldP(P:Program)(gs:List (Bool×Bool))(st:St)(t:TypeId)(a:SV)(K:SV->Prop):Prop:=match P.underlying t with
 | none=>False
 | some d=>(match a with
  | .box i o=>cd (cV st.bx i) fun b=>bif b.ok&&sz P t ((b.cells.drop o).take (mZ P t)).length&&(lM d||Nat.beq ((b.cells.drop o).take (mZ P t)).length 1)then K (NC (lM d) ((b.cells.drop o).take (mZ P t)))else False
  | .ad p=>bif !st.mv&&sz P t (P3 P 12 t).length&&(lM d||Nat.beq (P3 P 12 t).length 1)then Xx (P3 P 12 t) fun vs=>gi gs (Cells st.w0 p (cw β0 vs))/\K (NC (lM d) vs)else False
  | _=>False)
def KQ:Operand->Bool
 | .const .nilIface=>true
 | _=>false
def niV:aw->Bool
 | .nilIface=>true
 | _=>false
def Ifc(v:aw):Prop:=v=.nilIface∨∃t x,v=.iface t x
def niP(P:Program)(gs:List (Bool×Bool))(op:BinOp)(t:TypeId)(a:SV)(K:SV->Prop):Prop:=match a,P.underlying t,op with
 | .raw v,some (.interface _),.eql=>gi gs (Ifc v.v)/\K (.bt (niV v.v))
 | .raw v,some (.interface _),.neq=>gi gs (Ifc v.v)/\K (.bt (!niV v.v))
 | _,_,_=>False
theorem P6{y}(h:KQ y=true):y=.const .nilIface:=by
 unfold KQ at h;split at h
 ·rfl
 ·cases h
theorem XC{P}{t}{ms}{v}(hu:P.underlying t=some (.interface ms))(hv:Ifc v) w:(Op.equal t v .nilIface).run P w=.ok (niV v) w:=by
 unfold Op.equal Op.maxDepth Op.equalIn;rcases hv with rfl | ⟨tx,x,rfl⟩<;>simp[Sem.run_bind,run_underlying hu,Result.andThen_ok]<;>rfl
theorem F0{P}{op}{t}{x}{v}(hv:Ifc v) w:(eqGuard op t x (.const .nilIface) v .nilIface).run P w=.ok () w:=by
 unfold eqGuard;rcases hv with rfl | ⟨tx,x,rfl⟩<;>first | rfl | simp
theorem ZA{P}{gs}{st}{K}{op}{t ty}{x}{a}(hx:st.ev x=some a)(h:niP P gs op t a K):∃v,K v/\(gh gs->∀β c w,Rep β st c w->∀d t' p af g w',
  (execOp c.eval ⟨d,.binOp op t x (.const .nilIface) ty,t',p,af,g⟩).run P w'=.ok (.value (val β v)) w'):=by
 unfold niP at h;split at h
 ·rename_i v ms hu;refine⟨_,h.2,fun hg β c w hR d t' p af g w'=>?_⟩;have hv:=gy h.1 hg;have e:c.eval x=v.v:=hR.ev hx;have e2:c.eval (.const .nilIface)=.nilIface:=rfl;have hb:binOp .eql t v.v .nilIface=(do pure (.bool (<-Op.equal t v.v .nilIface))):=by
   rcases hv with h | ⟨tx,x,h⟩<;>rw[h]<;>rfl
  simp[execOp,e,e2,hb,Sem.run_bind,F0 hv,Result.andThen_ok,XC hu hv,Sem.run_pure];rfl
 ·rename_i v ms hu;refine⟨_,h.2,fun hg β c w hR d t' p af g w'=>?_⟩;have hv:=gy h.1 hg;have e:c.eval x=v.v:=hR.ev hx;have e2:c.eval (.const .nilIface)=.nilIface:=rfl;have hb:binOp .neq t v.v .nilIface=(do pure (.bool (!(<-Op.equal t v.v .nilIface)))):=by
   rcases hv with h | ⟨tx,x,h⟩<;>rw[h]<;>rfl
  simp[execOp,e,e2,hb,Sem.run_bind,F0 hv,Result.andThen_ok,XC hu hv,Sem.run_pure];rfl
 ·exact h.elim
def F1(p:Addr)(i:Int)(len size:Nat)(q:Addr):Prop:=0<=i/\i<len/\p.add (i.toNat*size)=q
def ZB(n:Int)(F:Nat->Prop):Nat->Prop
 | 0=>True
 | 1=>n=0->F 0
 | j+2=>ZB n F (j+1)/\(n=((j+1))->F (j+1))
theorem KR{n}{F}:∀{m:Nat},ZB n F m->0<=n->n<m->F n.toNat
 | 0,_,h0,h1=>by omega
 | 1,h,h0,h1=>by
  have e:n=0:=by omega
  subst e;exact h rfl
 | j+2,h,h0,h1=>by
  by_cases e:n=((j+1))
  ·have:=h.2 e;rw[e];exact this
  ·exact KR h.1 h0 (by omega)
def ZC(P:Program)(gs:List (Bool×Bool))(st:St)(o:Op)(K:SV->Prop):Prop:=match o with
 | .move x=>cd (st.ev x) K
 | .assign x=>cd (st.ev x) K
 | .pick c x y=>cd (st.ev c) fun c=>(match c with
  | .bl true=>cd (st.ev x) K
  | .bl false=>cd (st.ev y) K
  | _=>False)
 | .binOp op t x y _=>cd (st.ev x) fun a=>cd (st.ev y) fun b=>bif KQ y then niP P gs op t a K else Zy P gs op t a b K
 | .unOp .not _ x=>cd (st.ev x) fun a=>(match a with
  | .bl b=>K (.bl (!b))
  | .bt b=>K (.bt (!b))
  | _=>False)
 | .unOp .neg _ x=>cd (st.ev x) fun a=>cd (pD a) fun p=>K (.int p.1 (p.1.wrap (0-p.2)))
 | .convert s d x=>cd (st.ev x) fun a=>cvP P gs st s d a K
 | .extract x i=>cd (st.ev x) fun a=>(match a with
  | .tup l=>bif BE l then cd ((mB l)[i]?) K else False
  | _=>False)
 | .build t parts=>cd (st.Un parts.toList) fun ps=>cd (Zz P t ps) fun r=>K (.agg (lJ r))
 | .makeFunc fn fs cs=>(match fn with
  | .func f=>cd (st.M5 fs.toList) fun a=>cd (st.M5 cs.toList) fun b=>K (.fn f (lJ a) (lJ b))
  | _=>False)
 | .makeInterface t x=>cd (st.ev x) fun a=>cd (P.underlying t) fun d=>bif nif d&&cln (fun _=>false) a then K (.raw ⟨.iface t (val β0 a),rfl⟩)else False
 | .nilCheck x=>cd (st.ev x) fun a=>(match a with
  | .ad p=>K (.ad p)
  | .box i o=>K (.box i o)
  | .ptr p=>∃q,gi gs (p=some q)/\K (.ad q)
  | .fn f .e cs=>K (.fn f .e cs)
  | _=>False)
 | .fieldAddr s x k=>cd (st.ev x) fun a=>(match P.underlying s with
  | some (.struct fs)=>cd (fs[k]?) fun f=>bif Nat.ble 1 (mZ P f.type)then(match a with
   | .ad p=>K (.ad (p.add f.offset))
   | .box i o=>K (.box i (o+f.offset))
   | _=>False)else False
  | _=>False)
 | .field t x k=>cd (st.ev x) fun a=>(match a,P.underlying t with
  | .agg l,some (.struct fs)=>cd (fs[k]?) fun f=>cd (P.underlying f.type) fun d=>bif BE l&&sz P f.type (((mB l).drop f.offset).take (mZ P f.type)).length&&(lM d||Nat.beq (((mB l).drop f.offset).take (mZ P f.type)).length 1)
   then K (NC (lM d) (((mB l).drop f.offset).take (mZ P f.type)))else False
  | _,_=>False)
 | .indexAddr t x i=>cd (st.ev x) fun a=>cd (st.ev i) fun j=>cd (pD j) fun n=>(match P.underlying t with
  | some (.slice e)=>cd (KO a) fun s=>bif (P.info? e).isSome then ∃q,gi gs (cW s n.2 (mZ P e) q)/\K (.ad q)else False
  | some (.array len e)=>bif (P.info? e).isSome then(match a,j with
   | .box b o,.il _ n=>bif decide (0<=n)&&decide (n<len)then K (.box b (o+n.toNat*mZ P e))else False
   | .ad p,.il _ n=>bif decide (0<=n)&&decide (n<len)then K (.ad (p.add (n.toNat*mZ P e)))else False
   | .ad p,_=>∃q,gi gs (F1 p n.2 len (mZ P e) q)/\K (.ad q)
   | .box b o,_=>bif Nat.ble len 8 then(0<=n.2/\n.2<len)/\ZB n.2 (fun j=>K (.box b (o+j*mZ P e))) len else False
   | _,_=>False)else False
  | _=>False)
 | .load t x=>cd (st.ev x) fun a=>ldP P gs st t a K
 | .index t x i=>cd (st.ev x) fun a=>cd (st.ev i) fun j=>cd (pD j) fun n=>(match P.underlying t with
  | some .string=>cd (uI a) fun s=>∃c,gi gs (0<=n.2/\s[n.2.toNat]? =some c)/\K (.int .u8 c.toNat)
  | _=>False)
 | .slice t x lo hi mx=>cd (st.ev x) fun a=>(match P.underlying t with
  | some (.slice e)=>cd (KO a) fun s=>bif (P.info? e).isSome then slS gs s (mZ P e) st lo hi mx K else False
  | some .string=>cd (uI a) fun s=>slT gs s st lo hi mx K
  | _=>False)
 | .call c=>(match c.callee with
  | .builtin b=>FZ P b c.args.toList c.argTypes.toList st K
  | _=>False)
 | _=>False
def mem:Op->Bool
 | .load _ _=>true
 | .convert _ _ _=>true
 | _=>false
def Y(P:Program)(st:St)(o:Op)(v:SV):Prop:=∀β a w,Rep β st a w->∀d t p af g w',(mem o=true->w'.heap=w.heap)->
 (execOp a.eval ⟨d,o,t,p,af,g⟩).run P w'=.ok (.value (val β v)) w'
theorem kq{P}{t}(h:(P.info? t).isSome=true) w:(sizeOf t).run P w=.ok (mZ P t) w:=by
 unfold mZ;cases hi:P.info? t with
 | none=>rw[hi]at h;cases h
 | some i=>simp[sizeOf,typeInfo,hi]
theorem Du b o n:(⟨b,o,none⟩:Addr).add n=⟨b,o+n,none⟩:=by unfold Addr.add;split<;>simp_all
theorem oH{d}(h:lM d=true) β l:val β (NC (lM d) l)=.agg (cw β l).toArray:=by
 rw[h];show Value.agg (pC β _).toArray=_;rw[qF]
theorem zD{l:List SV}(h:Nat.beq l.length 1=true):∃s,l=[s]:=by
 have:=ca h
 match l,this with
 | [s],_=>exact⟨s,rfl⟩
section
variable {P:Program} {gs:List (Bool×Bool)} {st:St} {K:SV->Prop}
theorem ZD{t}{x}{a}(hx:st.ev x=some a)(h:ldP P gs st t a K):∃v,K v/\(gh gs->Y P st (.load t x) v):=by
 unfold ldP at h;split at h
 ·exact h.elim
 ·rename_i d hu;split at h
  ·rename_i i o;obtain⟨b,hb,h⟩:=bB h;obtain⟨h1,h2⟩:=dw h;simp only[aQ,cn]at h1;obtain⟨⟨oe,hsz⟩,jZ⟩:=h1;refine⟨_,h2,fun _ β act w hR dst t' p af g w' hh=>?_⟩;have hB:=(hR.bx i b hb oe).blk;have hB':Blk w' (β i) b.ty (cw β b.cells):=by unfold Blk at hB⊢;rw[hh rfl];exact hB
   have Ng:=hR.ev hx;generalize hl:(b.cells.drop o).take _=l at*
   have hC:Cells w' _ (cw β l):=hB'.EP o _ (by
    rw[fh,<-hl];simp only[cw,mY,qA];rw[cT,pz];simp only[cH,bm];omega)
   rcases jZ with rC | jZ
   ·rw[oH rC];have:=kl (P:=P) hu w';rw[rC]at this;exact tz this (oV hsz w') (fh β l) Ng hC
   ·cases rC:lM d with
    | true=>
     have e:=oH rC β l;rw[rC]at e;rw[e];have:=kl (P:=P) hu w';rw[rC]at this;exact tz this (oV hsz w') (fh β l) Ng hC
    | false=>
     obtain⟨s,rfl⟩:=zD jZ;have:=kl (P:=P) hu w';rw[rC]at this;exact Dd this Ng (Cells.one hC)
  ·rename_i ad;obtain⟨h1,h2⟩:=dw h;simp only[aQ,cn,dS]at h1;obtain⟨⟨qy,hsz⟩,jZ⟩:=h1;obtain⟨vs,⟨hF,hK⟩,fi,mT⟩:=uH h2;refine⟨_,hK,fun hg β act w hR dst t' p af g w' hh=>?_⟩;have hw:=hR.still qy;subst hw;have hC:Cells w' ad (cw β vs):=by
    rw[gx (β:=β) (β':=β0) (g:=fun _=>false) (fun i h=>(by cases h)) vs (mT _)];exact(gy hF hg).keep (by rw[hh rfl])
   have Ng:=hR.ev hx;rw[<-fi]at hsz jZ;rcases jZ with rC | jZ
   ·rw[oH rC];have:=kl (P:=P) hu w';rw[rC]at this;exact tz this (oV hsz w') (fh β vs) Ng hC
   ·cases rC:lM d with
    | true=>
     have e:=oH rC β vs;rw[rC]at e;rw[e];have:=kl (P:=P) hu w';rw[rC]at this;exact tz this (oV hsz w') (fh β vs) Ng hC
    | false=>
     obtain⟨s,rfl⟩:=zD jZ;have:=kl (P:=P) hu w';rw[rC]at this;exact Dd this Ng (Cells.one hC)
  ·exact h.elim
theorem ZE{s d}{x}{a}(hx:st.ev x=some a)(h:cvP P gs st s d a K):∃v,K v/\(gh gs->Y P st (.convert s d x) v):=by
 unfold cvP at h;split at h
 ·rename_i ks kd h1 h2;obtain⟨⟨k,n⟩,hp,h⟩:=bB h;exact⟨_,h,fun _ β act w hR dst t' p af g w' hh=>B0 (run_underlying h1 w') (run_underlying h2 w') ((hR.ev hx).trans (dh hp β))⟩
 ·rename_i h1 h2;obtain⟨u,hp,h⟩:=bB h;exact⟨_,h,fun _ β act w hR dst t' p af g w' hh=>B1 (run_underlying h1 w') (run_underlying h2 w') ((hR.ev hx).trans (ic hp β))⟩
 ·rename_i e h1 h2;split at h
  ·rename_i h3;obtain⟨u,hp,h⟩:=bB h;cases hm:st.mv with
   | true=>rw[hm]at h;exact h.elim
   | false=>
    rw[hm]at h;obtain⟨l,hF,hK⟩:=h;refine⟨_,hK,fun hg β act w hR dst t' p af g w' hh=>?_⟩;have hw:=hR.still hm;subst hw;exact zr h1 h3 h2 ((hR.ev hx).trans (jL hp β)) (IL _ _ (by rw[hh rfl]) (gy hF hg))
  ·exact h.elim
 ·exact h.elim
theorem ZF{b}{xs}{ts}(h:FZ P b xs ts st K):∃v,K v/\(gh gs->Y P st (.call ⟨.builtin b,xs.toArray,ts.toArray⟩) v):=by
 unfold FZ at h;split at h
 ·obtain⟨a,hx,h⟩:=bB h;split at h
  ·rename_i hu;obtain⟨s,hs,h⟩:=bB h;exact⟨_,h,fun _ β act w hR dst t' p af g w' hh=>aeg (run_underlying hu w') ((hR.ev hx).trans (jL hs β))⟩
  ·rename_i hu;obtain⟨s,hs,h⟩:=bB h;exact⟨_,h,fun _ β act w hR dst t' p af g w' hh=>PU (run_underlying hu w') ((hR.ev hx).trans (ic hs β))⟩
  ·exact h.elim
 ·obtain⟨a,hx,h⟩:=bB h;split at h
  ·rename_i hu;obtain⟨s,hs,h⟩:=bB h;exact⟨_,h,fun _ β act w hR dst t' p af g w' hh=>ael (run_underlying hu w') ((hR.ev hx).trans (jL hs β))⟩
  ·exact h.elim
 ·obtain⟨a,hx,h⟩:=bB h;obtain⟨b,hy,h⟩:=bB h;obtain⟨⟨k,m⟩,hp,h⟩:=bB h;obtain⟨_,hq,h⟩:=bB h;exact⟨_,h,fun _ β act w hR dst t' p af g w' hh=>aem ((hR.ev hx).trans (dh hp β)) ((hR.ev hy).trans (dh hq β))⟩
 ·obtain⟨a,hx,h⟩:=bB h;obtain⟨b,hy,h⟩:=bB h;obtain⟨⟨k,m⟩,hp,h⟩:=bB h;obtain⟨_,hq,h⟩:=bB h;exact⟨_,h,fun _ β act w hR dst t' p af g w' hh=>aen ((hR.ev hx).trans (dh hp β)) ((hR.ev hy).trans (dh hq β))⟩
 ·exact h.elim
theorem ZG{t e}{x}{lo hi mx}{a}{s}(hu:P.underlying t=some (.slice e))(Be:(P.info? e).isSome=true)(hx:st.ev x=some a)(hs:KO a=some s)(h:slS gs s (mZ P e) st lo hi mx K):∃v,K v/\(gh gs->Y P st (.slice t x lo hi mx) v):=by
 unfold slS at h;split at h
 ·obtain⟨a1,h1,h⟩:=bB h;obtain⟨l,e1,k1,n1,⟨hF,hK⟩,o1,u1⟩:=lO h;refine⟨_,hK,fun hg β act w hR dst t' p af g w' hh=>?_⟩;obtain⟨rfl,f1,f2⟩:=u1 _ (gy hF hg);exact IA (run_underlying hu w') (kq Be w') ((hR.ev hx).trans (jL hs β)) ((hR.ev h1).trans (dh o1 β)) f1 f2 (aX _)
 ·obtain⟨a1,h1,h⟩:=bB h;obtain⟨l,e1,k1,n1,⟨hF,hK⟩,o1,u1⟩:=lO h;refine⟨_,hK,fun hg β act w hR dst t' p af g w' hh=>?_⟩;obtain⟨rfl,f1⟩:=u1 _ (gy hF hg);exact IB (run_underlying hu w') (kq Be w') ((hR.ev hx).trans (jL hs β)) ((hR.ev h1).trans (dh o1 β)) (bh _) f1 (aX _)
 ·obtain⟨a1,h1,h⟩:=bB h;obtain⟨a2,h2,h⟩:=bB h;obtain⟨l,e1,k1,n1,h,o1,u1⟩:=lO h;obtain⟨m,e2,k2,n2,⟨hF,hK⟩,o2,u2⟩:=lO h;refine⟨_,hK,fun hg β act w hR dst t' p af g w' hh=>?_⟩;obtain⟨rfl,f1⟩:=u1 _ (gy hF hg);obtain⟨rfl,f1,f2⟩:=u2 _ f1;exact IC (run_underlying hu w') (kq Be w') ((hR.ev hx).trans (jL hs β)) ((hR.ev h1).trans (dh o1 β)) ((hR.ev h2).trans (dh o2 β)) f1 f2 (aX _)
 ·obtain⟨a1,h1,h⟩:=bB h;obtain⟨a2,h2,h⟩:=bB h;obtain⟨l,e1,k1,n1,h,o1,u1⟩:=lO h;obtain⟨m,e2,k2,n2,⟨hF,hK⟩,o2,u2⟩:=lO h;refine⟨_,hK,fun hg β act w hR dst t' p af g w' hh=>?_⟩;obtain⟨rfl,f1⟩:=u1 _ (gy hF hg);obtain⟨rfl,f1,f2⟩:=u2 _ f1;exact IE (run_underlying hu w') (kq Be w') ((hR.ev hx).trans (jL hs β)) ((hR.ev h1).trans (dh o1 β)) ((hR.ev h2).trans (dh o2 β)) (bh _) f1 f2
 ·obtain⟨a1,h1,h⟩:=bB h;obtain⟨a2,h2,h⟩:=bB h;obtain⟨a3,h3,h⟩:=bB h;obtain⟨l,e1,k1,n1,h,o1,u1⟩:=lO h;obtain⟨m,e2,k2,n2,h,o2,u2⟩:=lO h;obtain⟨q,e3,k3,n3,⟨hF,hK⟩,o3,u3⟩:=lO h;refine⟨_,hK,fun hg β act w hR dst t' p af g w' hh=>?_⟩;obtain⟨rfl,f1⟩:=u1 _ (gy hF hg);obtain⟨rfl,f1⟩:=u2 _ f1;obtain⟨rfl,f1,f2,f3⟩:=u3 _ f1;exact IG (run_underlying hu w') (kq Be w') ((hR.ev hx).trans (jL hs β)) ((hR.ev h1).trans (dh o1 β)) ((hR.ev h2).trans (dh o2 β)) ((hR.ev h3).trans (dh o3 β)) f1 f2 f3
 ·exact h.elim
theorem ZH{t}{x}{lo hi mx}{a}{s}(hu:P.underlying t=some .string)(hx:st.ev x=some a)(hs:uI a=some s)(h:slT gs s st lo hi mx K):∃v,K v/\(gh gs->Y P st (.slice t x lo hi mx) v):=by
 unfold slT at h;split at h
 ·obtain⟨a1,h1,h⟩:=bB h;obtain⟨l,e1,k1,n1,⟨hF,hK⟩,o1,u1⟩:=lO h;refine⟨_,hK,fun hg β act w hR dst t' p af g w' hh=>?_⟩;obtain⟨rfl,f1⟩:=u1 _ (gy hF hg);exact Df (run_underlying hu w') ((hR.ev hx).trans (ic hs β)) ((hR.ev h1).trans (dh o1 β)) f1 (aX _)
 ·obtain⟨a1,h1,h⟩:=bB h;obtain⟨l,e1,k1,n1,⟨hF,hK⟩,o1,u1⟩:=lO h;refine⟨_,hK,fun hg β act w hR dst t' p af g w' hh=>?_⟩;obtain⟨rfl,f1⟩:=u1 _ (gy hF hg);exact Dg (run_underlying hu w') ((hR.ev hx).trans (ic hs β)) ((hR.ev h1).trans (dh o1 β)) (bh _) f1
 ·obtain⟨a1,h1,h⟩:=bB h;obtain⟨a2,h2,h⟩:=bB h;obtain⟨l,e1,k1,n1,h,o1,u1⟩:=lO h;obtain⟨m,e2,k2,n2,⟨hF,hK⟩,o2,u2⟩:=lO h;refine⟨_,hK,fun hg β act w hR dst t' p af g w' hh=>?_⟩;obtain⟨rfl,f1⟩:=u1 _ (gy hF hg);obtain⟨rfl,f1,f2⟩:=u2 _ f1;exact Dh (run_underlying hu w') ((hR.ev hx).trans (ic hs β)) ((hR.ev h1).trans (dh o1 β)) ((hR.ev h2).trans (dh o2 β)) f1 f2
 ·exact h.elim
theorem Ve{t}{d}{l:List aw}{off n}(hu:P.underlying t=some d)(hn:sz P t n=true)(rC:lM d=true) w:(part t l.toArray off).run P w=.ok (.agg ((l.drop off).take n).toArray) w:=by
 have h:=kl (P:=P) hu w;rw[rC]at h;unfold part;simp only[Sem.run_bind,h,Result.andThen_ok,if_true,oV hn w,Sem.run_pure];rw[List.extract_toArray,List.extract_eq_take_drop,dF]
theorem P7{t}{d}{l:List aw}{off}{v}(hu:P.underlying t=some d)(rC:lM d=false)(hv:l[off]? =some v) w:(part t l.toArray off).run P w=.ok v w:=by
 have h:=kl (P:=P) hu w;rw[rC]at h;unfold part;simp[Sem.run_bind,h,Result.andThen_ok];simp[hv]
theorem IV{o:Op}(h:ZC P gs st o K):∃v,K v/\(gh gs->Y P st o v):=by
 unfold ZC at h;split at h
 ·obtain⟨v,hx,hK⟩:=bB h;exact⟨v,hK,fun _ β act w hR dst t' p af g w' hh=>by simp only[execOp,hR.ev hx,Sem.run_pure]⟩
 ·obtain⟨v,hx,hK⟩:=bB h;exact⟨v,hK,fun _ β act w hR dst t' p af g w' hh=>by simp only[execOp,hR.ev hx,Sem.run_pure]⟩
 ·obtain⟨c,hc,h⟩:=bB h;split at h
  ·obtain⟨v,hx,hK⟩:=bB h;exact⟨v,hK,fun _ β act w hR dst t' p af g w' hh=>U0 (hR.ev hc) (hR.ev hx)⟩
  ·obtain⟨v,hx,hK⟩:=bB h;exact⟨v,hK,fun _ β act w hR dst t' p af g w' hh=>U1 (hR.ev hc) (hR.ev hx)⟩
  ·exact h.elim
 ·rename_i op t x y ty;obtain⟨a,hx,h⟩:=bB h;obtain⟨b,hy,h⟩:=bB h;cases hn:KQ y with
  | true=>
   rw[hn]at h;have e:=P6 hn;subst e;obtain⟨v,hK,hr⟩:=ZA hx h;exact⟨v,hK,fun hg β act w hR dst t' p af g w' hh=>hr hg β act w hR _ _ _ _ _ _⟩
  | false=>
  rw[hn]at h;obtain⟨v,hK,hr⟩:=Va h;exact⟨v,hK,fun hg β act w hR dst t' p af g w' hh=>hr hg β act _ _ _ _ _ _ _ _ _ (hR.ev hx) (hR.ev hy)⟩
 ·obtain⟨a,hx,h⟩:=bB h;split at h
  ·exact⟨_,h,fun _ β act w hR dst t' p af g w' hh=>by simp only[execOp,hR.ev hx];rfl⟩
  ·exact⟨_,h,fun _ β act w hR dst t' p af g w' hh=>by simp only[execOp,hR.ev hx];rfl⟩
  ·exact h.elim
 ·obtain⟨a,hx,h⟩:=bB h;obtain⟨⟨k,n⟩,hp,h⟩:=bB h;exact⟨_,h,fun _ β act w hR dst t' p af g w' hh=>by simp only[execOp,hR.ev hx,dh hp];rfl⟩
 ·obtain⟨a,hx,h⟩:=bB h;exact ZE hx h
 ·rename_i x i;obtain⟨a,hx,h⟩:=bB h;split at h
  ·rename_i l;obtain⟨h1,h⟩:=dw h;obtain⟨v,hv,hK⟩:=bB h;refine⟨v,hK,fun _ β act w hR dst t' p af g w' hh=>?_⟩;have e:=(hR.ev hx).trans (by
    show Value.tuple (pC β l).toArray=_;rw[mh β h1])
   have e2:(cw β (mB l))[i]? =some (val β v):=by rw[cw,ch,hv];rfl
   simp only[execOp,e,Instr.extract];simp[e2]
  ·exact h.elim
 ·rename_i t parts;obtain⟨ps,hp,h⟩:=bB h;obtain⟨r,hr,hK⟩:=bB h;refine⟨_,hK,fun _ β act w hR dst t' p af g w' hh=>?_⟩;have e:val β (.agg (lJ r))=.agg (cw β r).toArray:=by
   show Value.agg (pC β (lJ r)).toArray=_;rw[qF]
  rw[e];obtain⟨pl⟩:=parts;exact U2 (hR.Un hp) (Vd hr β w')
 ·rename_i fn fs cs;split at h
  ·rename_i f;obtain⟨a,ha,h⟩:=bB h;obtain⟨b,hb,hK⟩:=bB h;refine⟨_,hK,fun _ β act w hR dst t' p af g w' hh=>?_⟩;obtain⟨cl⟩:=cs;have:=Iy (P:=P) (w:=w') (dst:=dst) (t':=t') (p:=p) (af:=af) (g:=g) (fn:=.func f) (hR.M5 ha) (hR.M5 hb);rw[<-qF,<-qF]at this;exact this
  ·exact h.elim
 ·obtain⟨a,hx,h⟩:=bB h;obtain⟨d,hu,h⟩:=bB h;obtain⟨h1,hK⟩:=dw h;simp at h1;refine⟨_,hK,fun _ β act w hR dst t' p af g w' hh=>?_⟩;have e:val β a=val β0 a:=iC (g:=fun _=>false) (fun i h=>(by cases h)) a h1.2;exact U3 (run_underlying hu w') (by unfold nif at h1;cases d<;>first | rfl | exact h1.1) ((hR.ev hx).trans e)
 ·obtain⟨a,hx,h⟩:=bB h;split at h
  ·exact⟨_,h,fun _ β act w hR dst t' p af g w' hh=>PO (hR.ev hx)⟩
  ·exact⟨_,h,fun _ β act w hR dst t' p af g w' hh=>PO (hR.ev hx)⟩
  ·obtain⟨q,hF,hK⟩:=h;refine⟨_,hK,fun hg β act w hR dst t' p af g w' hh=>PO ((hR.ev hx).trans ?_)⟩;have:=gy hF hg;subst this;rfl
  ·exact⟨_,h,fun _ β act w hR dst t' p af g w' hh=>by
    have e:=hR.ev hx;simp only[execOp,e,Sem.run_pure,val,pC,zl]⟩
  ·exact h.elim
 ·obtain⟨a,hx,h⟩:=bB h;split at h
  ·rename_i fs hu;obtain⟨f,hf,h⟩:=bB h;obtain⟨hs,h⟩:=dw h;have hs:=cy hs;have hso:(P.info? f.type).isSome=true:=by
    unfold mZ at hs;split at hs
    ·rename_i hi;rw[hi];rfl
    ·omega
   obtain⟨m,hm⟩:∃m,mZ P f.type=m+1:=⟨mZ P f.type-1,by omega⟩
   split at h
   ·exact⟨_,h,fun _ β act w hR dst t' p af g w' hh=>KK (run_underlying hu w') hf (by rw[kq hso,hm]) (hR.ev hx) rfl⟩
   ·exact⟨_,h,fun _ β act w hR dst t' p af g w' hh=>KK (run_underlying hu w') hf (by rw[kq hso,hm]) (hR.ev hx) (Du _ _ _)⟩
   ·exact h.elim
  ·exact h.elim
 ·obtain⟨a,hx,h⟩:=bB h;split at h
  ·rename_i l fs hu;obtain⟨f,hf,h⟩:=bB h;obtain⟨d,hd,h⟩:=bB h;obtain⟨h1,hK⟩:=dw h;simp only[aQ,cn]at h1;obtain⟨⟨hl,hsz⟩,jZ⟩:=h1;refine⟨_,hK,fun _ β act w hR dst t' p af g w' hh=>?_⟩;have e:=(hR.ev hx).trans (by
    show Value.agg (pC β l).toArray=_;rw[mh β hl])
   have hv:cw β (((mB l).drop f.offset).take (mZ P f.type))=((cw β (mB l)).drop f.offset).take (mZ P f.type):=by
    simp only[cw,mY,qA]
   have key:(part f.type (cw β (mB l)).toArray f.offset).run P w'=.ok (val β (NC (lM d) (((mB l).drop f.offset).take (mZ P f.type)))) w':=by
    cases rC:lM d with
    | true=>
     have e2:=oH rC β (((mB l).drop f.offset).take (mZ P f.type));rw[rC]at e2;rw[e2,hv];rw[Ve (l:=cw β (mB l)) (off:=f.offset) hd hsz rC w'];congr 3;rw[pz];simp only[cT,cH,fh];omega
    | false=>
     rcases jZ with jZ | jZ
     ·rw[rC]at jZ;cases jZ
     obtain⟨s,hs⟩:=zD jZ;rw[hs];refine P7 hd rC ?_ w';have h4:(((mB l).drop f.offset).take (mZ P f.type))[0]? =some s:=by rw[hs];rfl
     rw[List.getElem?_take]at h4;split at h4
     ·rw[kg,dG]at h4;rw[cw,ch,h4];rfl
     ·cases h4
   simp only[execOp,e,Instr.field,Sem.run_bind,run_underlying hu,Result.andThen_ok,hf,asAgg,Sem.run_pure,key]
  ·exact h.elim
 ·obtain⟨a,hx,h⟩:=bB h;obtain⟨j,hj,h⟩:=bB h;obtain⟨⟨k,n⟩,hn,h⟩:=bB h;split at h
  ·rename_i e hu;obtain⟨s,hs,h⟩:=bB h;obtain⟨hi,h⟩:=dw h;obtain⟨q,hF,hK⟩:=h;exact⟨_,hK,fun hg β act w hR dst t' p af g w' hh=>PQ (run_underlying hu w') (kq hi w') ((hR.ev hx).trans (jL hs β)) ((hR.ev hj).trans (dh hn β)) (gy hF hg)⟩
  ·rename_i len e hu;obtain⟨hi,h⟩:=dw h;split at h
   ·obtain⟨h1,hK⟩:=dw h;simp at h1;exact⟨_,hK,fun hg β act w hR dst t' p af g w' hh=>vE (run_underlying hu w') (kq hi w') (hR.ev hx) (hR.ev hj) h1.1 h1.2 (Du _ _ _)⟩
   ·obtain⟨h1,hK⟩:=dw h;simp at h1;exact⟨_,hK,fun hg β act w hR dst t' p af g w' hh=>vE (run_underlying hu w') (kq hi w') (hR.ev hx) (hR.ev hj) h1.1 h1.2 rfl⟩
   ·obtain⟨q,hF,hK⟩:=h;exact⟨_,hK,fun hg β act w hR dst t' p af g w' hh=>vE (run_underlying hu w') (kq hi w') (hR.ev hx) ((hR.ev hj).trans (dh hn β)) (gy hF hg).1 (gy hF hg).2.1 (gy hF hg).2.2⟩
   ·obtain⟨_,⟨h0,h1⟩,hK⟩:=dw h;exact⟨_,KR hK h0 h1,fun hg β act w hR dst t' p af g w' hh=>vE (run_underlying hu w') (kq hi w') (hR.ev hx) ((hR.ev hj).trans (dh hn β)) h0 h1 (Du _ _ _)⟩
   ·exact h.elim
  ·exact h.elim
 ·obtain⟨a,hx,h⟩:=bB h;exact ZD hx h
 ·obtain⟨a,hx,h⟩:=bB h;obtain⟨j,hj,h⟩:=bB h;obtain⟨⟨k,n⟩,hn,h⟩:=bB h;split at h
  ·rename_i hu;obtain⟨s,hs,h⟩:=bB h;obtain⟨c,hF,hK⟩:=h;exact⟨_,hK,fun hg β act w hR dst t' p af g w' hh=>Iz (run_underlying hu w') ((hR.ev hx).trans (ic hs β)) ((hR.ev hj).trans (dh hn β)) (gy hF hg).1 (gy hF hg).2⟩
  ·exact h.elim
 ·obtain⟨a,hx,h⟩:=bB h;split at h
  ·rename_i e hu;obtain⟨s,hs,h⟩:=bB h;obtain⟨hi,h⟩:=dw h;exact ZG hu hi hx hs h
  ·rename_i hu;obtain⟨s,hs,h⟩:=bB h;exact ZH hu hx hs h
  ·exact h.elim
 ·rename_i c;obtain⟨callee,⟨xs⟩,⟨ts⟩⟩:=c;split at h
  ·rename_i b hb;subst hb;exact ZF h
  ·exact h.elim
 ·exact h.elim
end
structure WL (β:Nat->Nat) (n:Nat) (fr:List (Nat×Nat×SV)) (D:List Deferred) (a:Act):Prop where
 sz:a.tmps.size=n
 df:a.defers=D
 at_:∀i p,dK fr i=some p->i<n->a.tmps[i]? =some (val β p.2)
theorem qG{β}{n}{fr}{D}{a}(h:WL β n fr D a):∃us,a=frD n us (cv β fr) D:=by
 refine⟨fun i=>(a.tmps[i]?).getD undef,?_⟩;obtain⟨tmps,df⟩:=a;obtain⟨h1,h2,h3⟩:=h;dsimp only at h1 h2 h3;congr 1;apply Array.ext';apply jp;intro i;by_cases hi:i<n
 ·rw[mg _ _ _ _ _ hi,bO];cases hl:dK fr i with
  | none=>
   rw[Ds (l:=cv β fr) (by rw[kR,hl];rfl)];have:i<tmps.size:=by omega
   simp[this]
  | some p=>
   rw[tA (l:=cv β fr) (v:=val β p.2) (by rw[kR,hl];rfl)];have:=h3 i p hl hi;simpa using this
 ·rw[dH (by simp;omega),dH (by rw[ny];exact xJ hi)]
theorem Vf{β}{n}{fr}{D}{us}:WL β n fr D (frD n us (cv β fr) D):=by
 refine⟨by simp[frD,ny],rfl,fun i p hl hi=>?_⟩;simp[frD,kO];rw[mg _ _ _ _ _ hi,bO,tA (l:=cv β fr) (v:=val β p.2) (by rw[kR,hl];rfl)]
theorem Rep.ok{β}{st}{a}{w}(h:Rep β st a w):WL β st.n st.fr (Xw st.df) a:=by
 obtain⟨us,rfl⟩:=h.fr;exact Vf
def ZI(st:St)(ops:List Oper)(j:Nat):Option (Nat×SV):=match gv ops j with
 | some o=>(match o.dst with
  | some d=>(st.get d).map fun s=>(d,s)
  | none=>none)
 | none=>none
theorem zE{st}{ops}{j d}{s}(h:ZI st ops j=some (d,s)):∃oj,gv ops j=some oj/\oj.dst=some d/\st.get d=some s:=by
 unfold ZI at h;split at h
 ·rename_i o ho;split at h
  ·rename_i e he;cases hg:st.get e with
   | none=>rw[hg]at h;cases h
   | some u=>
    rw[hg]at h;obtain⟨rfl,rfl⟩:=h;exact⟨o,ho,he,hg⟩
  ·cases h
 ·cases h
section
variable {β:Nat->Nat} {st:St} {a:Act} {w:av} {ops:List Oper} {o:Oper} {j d:Nat} {want b:Bool}
theorem pE(hR:Rep β st a w)(hg:o.guard=some (j,want)){s}(ht:ZI st ops j=some (d,s))(hs:val β s=.bool b):Region.wanted o (yielded ops.toArray a.tmps)=(b==want):=by
 obtain⟨oj,h1,h2,h3⟩:=zE ht;obtain⟨us,rfl⟩:=hR.fr;exact wtF hg h1 h2 (by rw[<-hs];exact St.evO β h3) rfl
theorem wS(hR:Rep β st a w)(hg:o.guard=some (j,want))(ht:ZI st ops j=some (d,.un)):Region.wanted o (yielded ops.toArray a.tmps)=false:=by
 obtain⟨oj,h1,h2,h3⟩:=zE ht;obtain⟨us,rfl⟩:=hR.fr;exact wuF hg h1 h2 (St.evO β (x:=.tmp d) (s:=.un) h3)
theorem Rep.set(hR:Rep β st a w){s s'}(hg:st.get d=some s)(hv:val β s=val β s'):Rep β (st.put (some d) s') a w:=by
 refine⟨qG ⟨hR.ok.sz,hR.ok.df,fun i p hl hi=>?_⟩,hR.bx,hR.ne,hR.only,hR.still⟩;simp[St.put,dK]at hl;cases hb:Nat.beq d i with
 | true=>
  rw[hb]at hl;simp at hl;subst hl;have:=ca hb;subst this;unfold St.get at hg;cases bS:Nat.blt d st.n with
  | false=>rw[bS]at hg;cases hg
  | true=>
   rw[bS,nQ]at hg;cases hq:dK st.fr d with
   | none=>rw[hq]at hg;cases hg
   | some q=>
    rw[hq]at hg;simp at hg;rw[hR.ok.at_ d q hq hi,hg,hv]
 | false=>rw[hb]at hl;exact hR.ok.at_ i p (by simpa using hl) hi
end
section
variable {P:Program} {ops:List Oper} {w:av}
def vK(P:Program)(ops:List Oper)(w:av):List Oper->Act->Act->Prop
 | [],a,a'=>a'=a
 | o::r,a,a'=>(Region.wanted o (yielded ops.toArray a.tmps)=true/\∃v,(∀w',w'.heap=w.heap->(execOp a.eval o).run P w'=.ok (.value v) w')/\vK P ops w r (a.put o.dst v) a')∨
  (Region.wanted o (yielded ops.toArray a.tmps)=false/\vK P ops w r (a.put o.dst undef) a')
theorem zF:∀{l m:List Oper} {a b c:Act},vK P ops w l a b->vK P ops w m b c->vK P ops w (l++m) a c
 | [],_,_,_,_,h,k=>by
  subst h;exact k
 | o::r,m,a,b,c,h,k=>by
  rcases h with⟨h1,v,h2,h3⟩ | ⟨h1,h3⟩
  ·exact .inl ⟨h1,v,h2,zF (l:=r) h3 k⟩
  ·exact .inr ⟨h1,zF (l:=r) h3 k⟩
theorem Dv{Q}:∀{l rest:List Oper} {a a':Act},vK P ops w l a a'->wpList P ops.toArray Q rest a' w->wpList P ops.toArray Q (l++rest) a w
 | [],_,_,_,h,k=>by
  subst h;exact k
 | o::r,m,a,b,h,k=>by
  rcases h with⟨h1,v,h2,h3⟩ | ⟨h1,h3⟩
  ·exact Dc v h1 (h2 w rfl) rfl (Dv (l:=r) h3 k)
  ·exact Xt h1 rfl (Dv (l:=r) h3 k)
theorem IW{Q}:∀{l rest:List Oper} {a a':Act},vK P ops w l a a'->wpQuiet P ops.toArray (fun w'=>∃n,w'=w.drewN n) Q rest a'->wpQuiet P ops.toArray (fun w'=>∃n,w'=w.drewN n) Q (l++rest) a
 | [],_,_,_,h,k=>by
  subst h;exact k
 | o::r,m,a,b,h,k=>by
  rcases h with⟨h1,v,h2,h3⟩ | ⟨h1,h3⟩
  ·exact aeo v h1 (by rintro _ ⟨n,rfl⟩;exact h2 _ rfl) rfl (IW (l:=r) h3 k)
  ·exact akz h1 rfl (IW (l:=r) h3 k)
def Dw:List Oper->List Nat
 | []=>[]
 | o::r=>match o.dst with
  | some d=>d::Dw r
  | none=>Dw r
theorem ka(a:Act) d v:(a.put d v).tmps.size=a.tmps.size/\(a.put d v).defers=a.defers/\∀i,d≠some i->(a.put d v).tmps[i]? =a.tmps[i]? :=by
 cases d with
 | none=>exact⟨rfl,rfl,fun _ _=>rfl⟩
 | some k=>
  refine⟨by simp[Act.put],rfl,fun i hi=>?_⟩;simp[Act.put];rw[pq (fun e=>hi (by rw[e]))]
theorem zG:∀{l:List Oper} {a a':Act},vK P ops w l a a'->a'.tmps.size=a.tmps.size/\a'.defers=a.defers/\∀i,(Dw l).elem i=false->a'.tmps[i]? =a.tmps[i]?
 | [],_,_,h=>by
  subst h;exact⟨rfl,rfl,fun _ _=>rfl⟩
 | o::r,a,b,h=>by
  have key:∀v,vK P ops w r _ b->b.tmps.size=a.tmps.size/\b.defers=a.defers/\∀i,(Dw (o::r)).elem i=false->b.tmps[i]? =a.tmps[i]? :=fun v h3=>by
   obtain⟨k1,k2,k3⟩:=zG h3;obtain⟨p1,p2,p3⟩:=ka a o.dst v;refine⟨k1.trans p1,k2.trans p2,fun i hi=>?_⟩;cases hd:o.dst with
   | none=>
    simp only[Dw,hd]at hi;rw[k3 i hi,p3 i (by rw[hd];simp)]
   | some d=>
    simp only[Dw,hd,lz]at hi;split at hi
    ·cases hi
    ·rename_i ik;rw[k3 i hi,p3 i (by rw[hd];intro e;simp at e;subst e;simp at ik)]
  rcases h with⟨h1,v,h2,h3⟩ | ⟨h1,h3⟩
  ·exact key v h3
  ·exact key _ h3
end
def aez(ops:List Oper):Nat->Nat->Nat->Bool
 | 0,_,_=>false
 | f+1,q,j=>bif Nat.beq q j then true else match gv ops q with
  | some o=>(match o.guard with
   | some (r,_)=>aez ops f r j
   | none=>false)
  | none=>false
def yv(ops:List Oper)(j:Nat):List Oper->Nat
 | []=>0
 | o::r=>match o.guard with
  | some (q,_)=>bif aez ops 50 q j then yv ops j r+1 else 0
  | none=>0
def mrg(t:Bool)(a b:SV):Option SV:=match a,b with
 | .bl true,.bl false=>some (.bt t)
 | .bl true,.bt y=>some (.bt (t||y))
 | .bt x,.bl false=>some (.bt (t&&x))
 | .bl false,.bl true=>some (.bt (!t))
 | .bl false,.bt y=>some (.bt (!t&&y))
 | .bt x,.bl true=>some (.bt (!t||x))
 | .bt x,.bt y=>some (.bt (bif t then x else y))
 | .bl true,.bl true=>some (.bl true)
 | .bl false,.bl false=>some (.bl false)
 | _,_=>none
theorem P8{t}{a b v}(h:mrg t a b=some v) β:(t=true->val β v=val β a)/\(t=false->val β v=val β b):=by
 unfold mrg at h;split at h<;>simp at h<;>subst h<;>refine⟨fun e=>?_,fun e=>?_⟩<;>subst e<;>simp[val,pC]
def zH(ds:List Nat):List (Nat×Nat×SV)->List (Nat×Nat×SV)
 | []=>[]
 | p::r=>bif ds.elem p.1 then zH ds r else p::zH ds r
theorem kw{ds}:∀{l:List _} {i:Nat},(ds.elem i=true->dK (zH ds l) i=none)/\(ds.elem i=false->dK (zH ds l) i=dK l i)
 | [],i=>⟨fun _=>rfl,fun _=>rfl⟩
 | (k,p)::r,i=>by
  obtain⟨h1,h2⟩:=kw (ds:=ds) (l:=r) (i:=i);simp only[zH];cases hk:ds.elem k with
  | true=>
   simp only[nQ];refine⟨h1,fun hi=>?_⟩;rw[h2 hi];simp[dK];cases hb:Nat.beq k i with
   | true=>have:=ca hb;subst this;rw[hi]at hk;cases hk
   | false=>rfl
  | false=>
   simp only[uk,dK];cases hb:Nat.beq k i with
   | true=>
    have:=ca hb;subst this;exact⟨fun hi=>(by rw[hi]at hk;cases hk),fun _=>rfl⟩
   | false=>exact⟨h1,h2⟩
def St.od(st:St)(ds:List Nat):St:={st with fr:=zH ds st.fr}
theorem Ext.od st ds:Ext st (st.od ds):=
 ⟨rfl,aX _,fun i k v hl _=>by
  cases he:ds.elem i with
  | true=>rw[show dK (st.od ds).fr i=none from(kw (l:=st.fr)).1 he]at hl;cases hl
  | false=>rw[show dK (st.od ds).fr i=dK st.fr i from(kw (l:=st.fr)).2 he]at hl;exact hl,fun i b h ho _=>⟨b,h,ho,rfl,rfl,rfl,fun _ h=>h⟩,P2,Fs⟩
structure Alike (s t:St):Prop where
 bx:t.bx=s.bx
 w0:t.w0=s.w0
 mv:t.mv=s.mv
 dt:t.dt=s.dt
 n:t.n=s.n
 df:t.df=s.df
theorem Alike.refl s:Alike s s:=⟨rfl,rfl,rfl,rfl,rfl,rfl⟩
theorem Alike.trans{s t u}(h:Alike s t)(k:Alike t u):Alike s u:=⟨k.bx.trans h.bx,k.w0.trans h.w0,k.mv.trans h.mv,k.dt.trans h.dt,k.n.trans h.n,k.df.trans h.df⟩
theorem Alike.put s d v:Alike s (s.put d v):=by cases d<;>exact⟨rfl,rfl,rfl,rfl,rfl,rfl⟩
theorem Rep.alike{β}{s t}{a a'}{w}(h:Rep β s a w)(k:Alike s t)(hf:WL β t.n t.fr (Xw t.df) a'):Rep β t a' w:=by
 obtain⟨k1,k2,k3,k4,k5,k6⟩:=k;refine⟨qG hf,fun i b hb ho=>?_,fun i j bi bj h1 h2 h3 h4=>?_,?_,fun hm=>?_⟩
 ·rw[k1]at hb;obtain⟨g1,g2,g3⟩:=h.bx i b hb ho;exact⟨g1,g2,fun e=>by rw[k2];exact g3 e⟩
 ·rw[k1]at h1 h2;exact h.ne i j bi bj h1 h2 h3 h4
 ·rw[k2,k4];exact h.only
 ·rw[k2];exact h.still (by rw[<-k3];exact hm)
def wT(P:Program)(ops:List Oper):Nat->List (Bool×Bool)->List Oper->St->(St->Prop)->Prop
 | 0,_,_,_,_=>False
 | _+1,_,[],st,K=>K st
 | f+1,gs,o::rest,st,K=>match o.guard with
  | none=>ZC P gs st o.op fun v=>wT P ops f gs rest (st.put o.dst v) K
  | some (j,want)=>(match ZI st ops j with
   | some (_,.un)=>wT P ops f gs rest (st.put o.dst .un) K
   | some (_,.bl b)=>bif b==want then ZC P gs st o.op fun v=>wT P ops f gs rest (st.put o.dst v) K else wT P ops f gs rest (st.put o.dst .un) K
   | some (d,.bt t)=>(match(o::rest)[yv ops j (o::rest)]? with
    | some pk=>(match pk.dst with
     | some k=>
      wT P ops f (gs++[(t,true)]) ((o::rest).take (yv ops j (o::rest)+1)) (st.put (some d) (.bl true)) fun sa=>
      cd (sa.get k) fun va=>
      wT P ops f (gs++[(t,false)]) ((o::rest).take (yv ops j (o::rest)+1)) (st.put (some d) (.bl false)) fun sb=>
      cd (sb.get k) fun vb=>
      cd (mrg t va vb) fun v=>
      wT P ops f gs ((o::rest).drop (yv ops j (o::rest)+1)) ((st.od (Dw ((o::rest).take (yv ops j (o::rest)+1)))).put (some k) v) K
     | none=>False)
    | none=>False)
   | _=>False)
theorem IX:∀{gs:List _} {t b:Bool},gh gs->t=b->gh (gs++[(t,b)])
 | [],_,_,_,h=>⟨h,trivial⟩
 | _::r,_,_,h,k=>⟨h.1,IX (gs:=r) h.2 k⟩
theorem qH{P}{ops}:∀{f:Nat} {gs:List _} {l:List Oper} {st:St} {K:St->Prop},wT P ops f gs l st K->
  ∃cE,K cE/\Ext st cE/\Alike st cE/\(gh gs->∀β a w,Rep β st a w->∃a',vK P ops w l a a'/\Rep β cE a' w)
 | 0,_,_,_,_,h=>h.elim
 | _+1,gs,[],st,K,h=>⟨st,h,Ext.refl _,Alike.refl _,fun _ β a w hR=>⟨a,rfl,hR⟩⟩
 | f+1,gs,o::rest,st,K,h=>by
  have one:(Region.wanted o=fun _=>true)∨True->∀{K:St->Prop},(ZC P gs st o.op fun v=>wT P ops f gs rest (st.put o.dst v) K)->
    (gh gs->∀β a w,Rep β st a w->Region.wanted o _=true)->
    ∃cE,K cE/\Ext st cE/\Alike st cE/\(gh gs->∀β a w,Rep β st a w->∃a',vK P ops w (o::rest) a a'/\Rep β cE a' w):=fun _ K h hw=>by
   obtain⟨v,h1,hy⟩:=IV h;obtain⟨cE,k1,k2,k3,k4⟩:=qH h1;refine⟨cE,k1,(Ext.put _ _ _).trans k2,(Alike.put _ _ _).trans k3,fun hg β a w hR=>?_⟩;obtain⟨a',g1,g2⟩:=k4 hg β _ w (hR.put o.dst v);exact⟨a',.inl ⟨hw hg β a w hR,_,fun w' hh=>hy hg β a w hR _ _ _ _ _ w' fun _=>hh,g1⟩,g2⟩
  have no:∀{K:St->Prop},wT P ops f gs rest (st.put o.dst .un) K->(gh gs->∀β a w,Rep β st a w->Region.wanted o _=false)->
    ∃cE,K cE/\Ext st cE/\Alike st cE/\(gh gs->∀β a w,Rep β st a w->∃a',vK P ops w (o::rest) a a'/\Rep β cE a' w):=fun h1 hw=>by
   obtain⟨cE,k1,k2,k3,k4⟩:=qH h1;refine⟨cE,k1,(Ext.put _ _ _).trans k2,(Alike.put _ _ _).trans k3,fun hg β a w hR=>?_⟩;obtain⟨a',g1,g2⟩:=k4 hg β _ w (hR.put o.dst .un);exact⟨a',.inr ⟨hw hg β a w hR,g1⟩,g2⟩
  unfold wT at h;split at h
  ·rename_i hg0;exact one (.inr trivial) h fun _ β a w hR=>wn hg0
  ·rename_i j want hg0;split at h
   ·rename_i d ht;exact no h fun _ β a w hR=>wS hR hg0 ht
   ·rename_i d b ht;cases hb:(b==want)with
    | true=>
     rw[hb]at h;exact one (.inr trivial) h fun _ β a w hR=>by rw[pE hR hg0 ht (b:=b) rfl,hb]
    | false=>
     rw[hb]at h;exact no h fun _ β a w hR=>by rw[pE hR hg0 ht (b:=b) rfl,hb]
   ·rename_i d t ht;obtain⟨oj,WM,hj2,Uq⟩:=zE ht;split at h
    ·rename_i pk WN;split at h
     ·rename_i k hk;generalize yv ops j _=m at h WN;obtain⟨sa,ha,ea1,ea2,ea3⟩:=qH h;obtain⟨va,hva,ha⟩:=bB ha;obtain⟨sb,hb,eb1,eb2,eb3⟩:=qH ha;obtain⟨vb,hvb,hb⟩:=bB hb;obtain⟨v,hv,hb⟩:=bB hb;obtain⟨cE,k1,k2,k3,k4⟩:=qH hb;refine⟨cE,k1,((Ext.od _ _).trans (Ext.put _ _ _)).trans k2,((⟨rfl,rfl,rfl,rfl,rfl,rfl⟩:Alike st (st.od _)).trans (Alike.put _ _ _)).trans k3,fun hg β a w hR=>?_⟩;have fin:∀(s:SV) u x,Rep β u a w->(∃a',vK P ops w ((o::rest).take (m+1)) a a'/\∃u',Rep β u' a' w/\u'.n=st.n/\u'.get k=some x/\val β v=val β x)->∃a',vK P ops w (o::rest) a a'/\Rep β cE a' w:=by
       rintro s u x hu ⟨a1,g1,u',r1,r2,r3,r4⟩;obtain⟨f1,f2,f3⟩:=zG g1;have gX:Rep β ((st.od (Dw ((o::rest).take (m+1)))).put (some k) v) a1 w:=by
        refine hR.alike ((⟨rfl,rfl,rfl,rfl,rfl,rfl⟩:Alike st (st.od _)).trans (Alike.put _ _ _)) ⟨f1.trans hR.ok.sz,f2.trans hR.ok.df,fun i p hl hi=>?_⟩;simp only[St.put,dK]at hl;cases Pv:Nat.beq k i with
        | true=>
         rw[Pv]at hl;simp at hl;subst hl;have:=ca Pv;subst this;rw[r4,<-r1.get r3];have hs:k<a1.tmps.size:=by rw[f1,hR.ok.sz];exact hi
         simp[Act.eval,hs]
        | false=>
         rw[Pv]at hl;cases he:(Dw _).elem i with
         | true=>rw[show dK (st.od _).fr i=none from(kw (l:=st.fr)).1 he]at hl;cases hl
         | false=>
          rw[show dK (st.od _).fr i=dK st.fr i from(kw (l:=st.fr)).2 he]at hl;rw[f3 i he];exact hR.ok.at_ i p hl hi
       obtain⟨a2,g2,g3⟩:=k4 hg β a1 w gX;refine⟨a2,?_,g3⟩;have:=zF g1 g2;rwa[cZ]at this
      cases t with
      | true=>
       have hu:Rep β (st.put _ (.bl true)) a w:=hR.set Uq rfl;obtain⟨a1,g1,g2⟩:=ea3 (IX hg rfl) β a w hu;exact fin (.bl true) _ va hu ⟨a1,g1,sa,g2,ea2.n.trans rfl,hva,(P8 hv β).1 rfl⟩
      | false=>
       have hu:Rep β (st.put _ (.bl false)) a w:=hR.set Uq rfl;obtain⟨a1,g1,g2⟩:=eb3 (IX hg rfl) β a w hu;exact fin (.bl false) _ vb hu ⟨a1,g1,sb,g2,eb2.n.trans rfl,hvb,(P8 hv β).2 rfl⟩
     ·exact h.elim
    ·exact h.elim
   ·exact h.elim
theorem kb:∀l b i,cV (l++[b]) i=if i=l.length then some b else cV l i
 | [],b,0=>rfl
 | [],b,i+1=>rfl
 | a::r,b,0=>rfl
 | a::r,b,i+1=>by
  simp;exact kb r b i
theorem qI:∀{l:List jY} {i:Nat} {b:jY},cV l i=some b->i<l.length
 | a::r,0,_,_=>by simp
 | a::r,i+1,b,h=>by simp[cV]at h;have:=qI h;simp;omega
theorem iZ:∀{l:List jY} {i:Nat} {b c:jY},cV l i=some b->∀j,cV (NB l i c) j=if j=i then some c else cV l j
 | a::r,0,b,c,_,0=>rfl
 | a::r,0,b,c,_,j+1=>rfl
 | a::r,i+1,b,c,h,0=>rfl
 | a::r,i+1,b,c,h,j+1=>by
  simp[cV]at h;simp;exact iZ h j
theorem mC{b}{p q}(h:bif b then p else q):(b=true/\p)∨(b=false/\q):=by
 cases b with
 | true=>exact .inl ⟨rfl,h⟩
 | false=>exact .inr ⟨rfl,h⟩
def H9(bx:List jY)(i:Nat):Nat:=match cV bx i with
 | some b=>b.blk.getD 0
 | none=>0
def F2(bx:List jY)(i:Nat):Bool:=match cV bx i with
 | some b=>b.ok&&b.blk.isSome
 | none=>false
abbrev St.bl(st:St)(i:Nat):Nat:=H9 st.bx i
abbrev St.JQ(st:St)(i:Nat):Bool:=F2 st.bx i
theorem Rep.bl{β}{st}{a}{w}(h:Rep β st a w) i (hg:st.JQ i=true):st.bl i=β i:=by
 unfold St.JQ F2 at hg;unfold St.bl H9;cases hb:cV st.bx i with
 | none=>rw[hb]at hg;cases hg
 | some b=>
  rw[hb]at hg;simp at hg;cases hk:b.blk with
  | none=>rw[hk]at hg;cases hg.2
  | some k=>
   have:=(h.bx i b hb hg.1).at_ k hk;simp[hk,this]
theorem Rep.sZ{β}{st}{a}{w}(h:Rep β st a w){l}(hc:ia st.JQ l=true):cw st.bl l=cw β l:=gx (g:=st.JQ) h.bl l hc
theorem Rep.agz{β}{st}{a}{w}(h:Rep β st a w){s}(hc:cln st.JQ s=true):val st.bl s=val β s:=iC (g:=st.JQ) h.bl s hc
def F3:List jY->(List jY->Prop)->Prop
 | [],K=>K []
 | b::r,K=>match b.ok,b.blk with
  | true,none=>∀k,F3 r fun r'=>K ({b with blk:=some k}::r')
  | _,_=>F3 r fun r'=>K (b::r')
def rU(k:Nat)(b:jY):jY:=match b.ok,b.blk with
 | true,none=>{b with blk:=some k}
 | _,_=>b
def mD(β:Nat->Nat):Nat->List jY->List jY
 | _,[]=>[]
 | n,b::r=>rU (β n) b::mD β (n+1) r
theorem zI β:∀{bs:List jY} n {K:List jY->Prop},F3 bs K->K (mD β n bs)
 | [],_,_,h=>h
 | b::r,n,K,h=>by
  unfold F3 at h;unfold mD;split at h
  ·have:=zI β (n+1) (h (β n));have e:rU (β n) b={b with blk:=some (β n)}:=by unfold rU<;>simp_all
   rw[e];exact this
  ·rename_i h1;have:=zI β (n+1) h;have e:rU (β n) b=b:=by
    unfold rU;split
    ·rename_i e1 e2;exact absurd e2 (fun e2=>h1 e1 e2)
    ·rfl
   rw[e];exact this
theorem zJ β:∀bs n i,cV (mD β n bs) i=(cV bs i).map (rU (β (n+i)))
 | [],_,_=>rfl
 | b::r,n,0=>rfl
 | b::r,n,i+1=>by
  simp[mD,cV];rw[zJ β r _ i,show n+1+i=n+(i+1) by omega]
def F4(w0 w:av):List jY->List jY->Prop->Prop
 | b::r,b'::r',p=>match b.ok,b.blk with
  | true,none=>w0.heap.size<=b'.blk.getD 0->b'.blk.getD 0<w.heap.size->F4 w0 w r r' p
  | _,_=>F4 w0 w r r' p
 | _,_,p=>p
theorem zK{β}{w0 w}:∀{bs:List jY} n {p:Prop},F4 w0 w bs (mD β n bs) p->(∀i b,cV bs i=some b->b.ok=true->b.blk=none->w0.heap.size<=β (n+i)/\β (n+i)<w.heap.size)->p
 | [],_,_,h,_=>h
 | b::r,n,p,h,hb=>by
  simp[mD]at h;unfold F4 at h;split at h
  ·rename_i h1 h2;obtain⟨e1,e2⟩:=hb 0 b rfl h1 h2;have e:(rU (β n) b).blk.getD 0=β n:=by unfold rU;rw[h1,h2];rfl
   rw[e]at h;exact zK _ (h e1 e2) fun i c hc=>by have:=hb (i+1) c hc;rwa[show n+_=n+1+i by omega]at this
  ·exact zK _ h fun i c hc=>by have:=hb (i+1) c hc;rwa[show n+_=n+1+i by omega]at this
def shB(g:Nat->Bool)(bl:Nat->Nat)(w:av)(all:Bool):List jY->Prop->Prop
 | [],p=>p
 | b::r,p=>bif b.ok&&b.blk.isSome&&b.esc&&(all||!b.sh)&&ia g b.cells then Blk w (b.blk.getD 0) b.ty (cw bl b.cells)->shB g bl w all r p else shB g bl w all r p
theorem Dx{g}{bl}{w}{all}:∀{bs:List jY} {p:Prop},shB g bl w all bs p->(∀i b,cV bs i=some b->b.ok=true->b.blk.isSome=true->ia g b.cells=true->Blk w (b.blk.getD 0) b.ty (cw bl b.cells))->p
 | [],_,h,_=>h
 | b::r,p,h,hb=>by
  unfold shB at h;cases hc:(b.ok&&b.blk.isSome&&b.esc&&_&&ia g b.cells)with
  | true=>
   rw[hc]at h;simp at hc;exact Dx (h (hb 0 b rfl hc.1.1.1.1 hc.1.1.1.2 hc.2)) fun i c hi=>hb (i+1) c hi
  | false=>
   rw[hc]at h;exact Dx h fun i c hi=>hb (i+1) c hi
def vL:List jY->List jY
 | []=>[]
 | b::r=>{b with sh:=b.esc}::vL r
theorem pF:∀l i,cV (vL l) i=(cV l i).map fun b=>{b with sh:=b.esc}
 | [],_=>rfl
 | b::r,0=>rfl
 | b::r,i+1=>pF r i
def zL(bs:List jY):List Nat->Bool
 | []=>true
 | i::r=>(match cV bs i with
  | some b=>b.ok
  | none=>false)&&zL bs r
theorem tB{bs}:∀{l:List Nat},zL bs l=true->∀i∈l,∃b,cV bs i=some b/\b.ok=true
 | i::r,h,j,hj=>by
  simp[zL,aQ]at h;rcases aU.1 hj with rfl | hj
  ·split at h
   ·rename_i b hb;exact⟨b,hb,h.1⟩
   ·cases h.1
  ·exact tB h.2 j hj
def ND:List jY->List jY->List (Nat×Bool)
 | b::r,b'::r'=>bif b.ok&&b.blk.isNone then(b'.blk.getD 0,b.esc)::ND r r' else ND r r'
 | _,_=>[]
def P9(k:Nat):List (Nat×Bool)->Prop->Prop
 | [],p=>p
 | x::r,p=>bif x.2 then P9 k r p else(x.1≠k->P9 k r p)
def Qa(all:List (Nat×Bool)):List (Nat×Bool)->Prop->Prop
 | [],p=>p
 | x::r,p=>bif x.2 then P9 x.1 all (Qa all r p)else Qa all r p
theorem Dy{k}:∀{l:List _} {p:Prop},P9 k l p->(∀y,y∈l->y.2=false->y.1≠k)->p
 | [],_,h,_=>h
 | x::r,p,h,hd=>by
  unfold P9 at h;cases hx:x.2 with
  | true=>rw[hx]at h;exact Dy h fun y hy=>hd y (cX _ hy)
  | false=>rw[hx]at h;exact Dy (h (hd x dT hx)) fun y hy=>hd y (cX _ hy)
theorem Dz{all}:∀{l:List _} {p:Prop},Qa all l p->(∀x,x∈l->x.2=true->∀y,y∈all->y.2=false->y.1≠x.1)->p
 | [],_,h,_=>h
 | x::r,p,h,hd=>by
  unfold Qa at h;cases hx:x.2 with
  | true=>rw[hx]at h;exact Dz (Dy h fun y hy hf=>hd x dT hx y hy hf) fun z hz=>hd z (cX _ hz)
  | false=>rw[hx]at h;exact Dz h fun z hz=>hd z (cX _ hz)
theorem vM{β}:∀{bs:List jY} n {x:Nat×Bool},x∈ND bs (mD β n bs)->∃i b,cV bs i=some b/\b.ok=true/\x=(β (n+i),b.esc)
 | [],_,_,h=>by cases h
 | b::r,n,x,h=>by
  simp[mD,ND]at h;cases hc:(b.ok&&b.blk.isNone)with
  | true=>
   rw[hc]at h;simp at hc;rcases aU.1 h with rfl | h
   ·refine⟨0,b,rfl,hc.1,?_⟩;have:(rU (β n) b).blk.getD 0=β n:=by unfold rU;rw[hc.1,hc.2];rfl
    rw[this];rfl
   ·obtain⟨i,c,h1,h2,h3⟩:=vM _ h;exact⟨i+1,c,h1,h2,by rw[h3,show n+1+i=n+(i+1) by omega]⟩
  | false=>
   rw[hc]at h;obtain⟨i,c,h1,h2,h3⟩:=vM _ h;exact⟨i+1,c,h1,h2,by rw[h3,show n+1+i=n+(i+1) by omega]⟩
def zM:List jY->List Nat
 | []=>[]
 | b::r=>bif b.ok&&b.blk.isSome&&b.esc&&!b.sh then b.blk.getD 0::zM r else zM r
def zN:List jY->List Nat
 | []=>[]
 | b::r=>bif b.ok&&b.blk.isSome&&!b.esc then b.blk.getD 0::zN r else zN r
def ZJ(k:Nat):List Nat->Prop->Prop
 | [],p=>p
 | x::r,p=>x≠k->ZJ k r p
def Vg(Ta:List Nat):List Nat->Prop->Prop
 | [],p=>p
 | k::r,p=>ZJ k Ta (Vg Ta r p)
theorem KS{k}:∀{l:List Nat} {p:Prop},ZJ k l p->(∀y,y∈l->y≠k)->p
 | [],_,h,_=>h
 | x::r,p,h,hd=>KS (h (hd x dT)) fun y hy=>hd y (cX _ hy)
theorem DA{Ta}:∀{l:List Nat} {p:Prop},Vg Ta l p->(∀k,k∈l->∀y,y∈Ta->y≠k)->p
 | [],_,h,_=>h
 | k::r,p,h,hd=>DA (KS h fun y hy=>hd k dT y hy) fun z hz=>hd z (cX _ hz)
theorem wU:∀{bs:List jY} {x:Nat},x∈zM bs->∃i b,cV bs i=some b/\b.ok=true/\b.esc=true/\b.blk=some x
 | [],_,h=>by cases h
 | b::r,x,h=>by
  simp[zM]at h;cases hc:(b.ok&&b.blk.isSome&&b.esc&&!b.sh)with
  | true=>
   rw[hc]at h;simp at hc;rcases aU.1 h with rfl | h
   ·obtain⟨k,hk⟩:=fH.1 hc.1.1.2;exact⟨0,b,rfl,hc.1.1.1,hc.1.2,by rw[hk];rfl⟩
   ·obtain⟨i,c,h1,h2⟩:=wU h;exact⟨i+1,c,h1,h2⟩
  | false=>
   rw[hc]at h;obtain⟨i,c,h1,h2⟩:=wU h;exact⟨i+1,c,h1,h2⟩
theorem wV:∀{bs:List jY} {x:Nat},x∈zN bs->∃i b,cV bs i=some b/\b.ok=true/\b.esc=false/\b.blk=some x
 | [],_,h=>by cases h
 | b::r,x,h=>by
  simp[zN]at h;cases hc:(b.ok&&b.blk.isSome&&!b.esc)with
  | true=>
   rw[hc]at h;simp at hc;rcases aU.1 h with rfl | h
   ·obtain⟨k,hk⟩:=fH.1 hc.1.2;exact⟨0,b,rfl,hc.1.1,hc.2,by rw[hk];rfl⟩
   ·obtain⟨i,c,h1,h2⟩:=wV h;exact⟨i+1,c,h1,h2⟩
  | false=>
   rw[hc]at h;obtain⟨i,c,h1,h2⟩:=wV h;exact⟨i+1,c,h1,h2⟩
theorem F5{β}{st}{a}{w}(hR:Rep β st a w):∀k,k∈zM st.bx->∀y,y∈zN st.bx->y≠k:=fun k hk y hy=>by
 obtain⟨i,b,i1,i2,i3,i4⟩:=wU hk;obtain⟨j,c,j1,j2,j3,j4⟩:=wV hy;rw[<-(hR.bx i b i1 i2).at_ k i4,<-(hR.bx j c j1 j2).at_ y j4];refine hR.ne j i c b j1 i1 j2 i2 fun e=>?_;subst e;rw[i1]at j1;injection j1 with j1;subst j1;rw[i3]at j3;cases j3
def eN(st:St)(K:St->Prop):Prop:=
 bif st.mv then
  bif zL st.bx st.dt then
   F3 st.bx fun bx=>∀w,F4 st.w0 w st.bx bx (Only (st.dt.map (H9 bx)) st.w0 w->
    shB (F2 bx) (H9 bx) w true bx (Qa (ND st.bx bx) (ND st.bx bx) (Vg (zN st.bx) (zM st.bx) (K {st with bx:=vL bx,w0:=w,mv:=false,dt:=[]}))))
  else False
 else shB st.JQ st.bl st.w0 false st.bx (Vg (zN st.bx) (zM st.bx) (K {st with bx:=vL st.bx}))
theorem dP{st}{K}(h:eN st K){β}{a}{w}(hR:Rep β st a w):∃cE,K cE/\Ext st cE/\Rep β cE a w/\cE.mv=false/\cE.fr=st.fr/\cE.n=st.n/\cE.ct=st.ct/\cE.bx.length=st.bx.length:=by
 rcases mC h with⟨hm,h⟩ | ⟨hm,h⟩
 case inr=>
  have hk:=Dx h fun i b hb ho hs hc=>by
   have:=(hR.bx i b hb ho).blk;cases hk:b.blk with
   | none=>rw[hk]at hs;cases hs
   | some k=>
    have e:=(hR.bx i b hb ho).at_ k hk;rw[hR.sZ hc,<-hR.still hm];rw[e]at this;exact this
  have hk:=DA hk (F5 hR);have key:∀i b',cV (vL st.bx) i=some b'->∃b,cV st.bx i=some b/\b'={b with sh:=b.esc}:=fun i b' hb=>by
   rw[pF]at hb;cases hn:cV st.bx i with
   | none=>rw[hn]at hb;cases hb
   | some b=>rw[hn]at hb;exact⟨b,rfl,by simpa using hb.symm⟩
  refine⟨_,hk,⟨rfl,aX _,fun _ _ _ h _=>h,fun i b' hb ho _=>?_,fun i b hb=>?_,Fs⟩,⟨hR.fr,fun i b' hb ho=>?_,fun i j bi bj h1 h2 h3 h4 tW=>?_,hR.only,hR.still⟩,hm,rfl,rfl,rfl,?_⟩
  ·obtain⟨b,h1,rfl⟩:=key i b' hb;exact⟨b,h1,ho,rfl,rfl,rfl,fun _ h=>h⟩
  ·exact⟨{b with sh:=b.esc},by rw[pF,hb];rfl,rfl,rfl,fun _ h=>h⟩
  ·obtain⟨b,h1,rfl⟩:=key i b' hb;have:=hR.bx i b h1 ho;exact⟨this.blk,this.at_,this.new⟩
  ·obtain⟨b,g1,rfl⟩:=key i bi h1;obtain⟨c,g2,rfl⟩:=key j bj h2;exact hR.ne i j b c g1 g2 h3 h4 tW
  ·have:∀l:List jY,(vL l).length=l.length:=fun l=>by
    induction l with
    | nil=>rfl
    | cons b r ih=>simp[vL,ih]
   exact this _
 case inl=>
  obtain⟨mc,h⟩:=dw h;have h:=zI β 0 h w;have yI:∀i,cV _ i=(cV st.bx i).map (rU (β i)):=fun i=>by rw[zJ,bO]
  have C4:∀i b,cV st.bx i=some b->b.ok=true->∃b',cV _ i=some b'/\b'.ok=true/\b'.blk=some _/\b'.cells=b.cells/\b'.ty=b.ty/\b'.stp=b.stp:=fun i b hb ho=>by
   refine⟨rU _ b,by rw[yI,hb];rfl,?_⟩;unfold rU;split
   ·exact⟨ho,rfl,rfl,rfl,rfl⟩
   ·rename_i ik;refine⟨ho,?_,rfl,rfl,rfl⟩;cases hk:b.blk with
    | none=>exact absurd hk (fun e=>ik ho e)
    | some k=>rw[(hR.bx i b hb ho).at_ k hk]
  have Tc:∀i b',cV (mD β 0 st.bx) i=some b'->b'.ok=true->∃b,cV st.bx i=some b/\b.ok=true/\b'.blk=some _/\b'.cells=b.cells/\b'.ty=b.ty/\b'.stp=b.stp:=fun i b' hb ho=>by
   rw[yI]at hb;cases hn:cV st.bx i with
   | none=>rw[hn]at hb;cases hb
   | some b=>
    rw[hn]at hb;simp at hb;subst hb;have hob:=by
     unfold rU at ho;split at ho
     ·assumption
     ·exact ho
    obtain⟨b2,e1,e2,e3,e4,e5,e6⟩:=C4 i b hn hob;rw[yI,hn]at e1;simp at e1;subst e1;exact⟨b,rfl,hob,e3,e4,e5,e6⟩
  have h:=zK 0 h fun i b hb ho hk=>by
   rw[bO];exact⟨(hR.bx i b hb ho).new hk,(hR.bx i b hb ho).blk.lt⟩
  have edt:st.dt.map (H9 (mD β 0 st.bx))=st.dt.map β:=by
   refine mw fun i hi=>?_;obtain⟨b,h1,h2⟩:=tB mc i hi;obtain⟨b',e1,e2,e3,_⟩:=C4 i b h1 h2;unfold H9;rw[e1];simp[e3]
  have h:=h (by rw[edt];exact hR.only);have mT:∀i,F2 (mD β 0 st.bx) i=true->H9 (mD β 0 st.bx) i=β i:=fun i hg=>by
   unfold F2 at hg;unfold H9;cases hn:cV (mD β 0 st.bx) i with
   | none=>rw[hn]at hg;cases hg
   | some b'=>
    rw[hn]at hg;simp at hg;obtain⟨b,_,_,e3,_⟩:=Tc i b' hn hg.1;simp[e3]
  have hk:=Dx h fun i b' hb ho hs hc=>by
   obtain⟨b,e1,e2,e3,e4,e5,e6⟩:=Tc i b' hb ho;rw[gx mT _ hc,e3,e4,e5];exact(hR.bx i b e1 e2).blk
  have hk:=Dz hk fun x hx YI y hy hye=>by
   obtain⟨i,b,i1,i2,rfl⟩:=vM 0 hx;obtain⟨j,c,j1,j2,rfl⟩:=vM 0 hy;rw[bO,bO];refine hR.ne j i c b j1 i1 j2 i2 fun e=>?_;subst e;rw[i1]at j1;injection j1 with j1;subst j1;rw[YI]at hye;cases hye
  have hk:=DA hk (F5 hR);have key:∀i b',cV _ i=some b'->b'.ok=true->∃b,cV st.bx i=some b/\b.ok=true/\b'.blk=some _/\b'.cells=b.cells/\b'.ty=b.ty/\b'.stp=b.stp:=fun i b' hb ho=>by
   rw[pF]at hb;cases hn:cV (mD β 0 st.bx) i with
   | none=>rw[hn]at hb;cases hb
   | some c=>
    rw[hn]at hb;simp at hb;subst hb;exact Tc i c hn ho
  refine⟨_,hk,⟨rfl,aX _,fun _ _ _ h _=>h,fun i b' hb ho _=>?_,fun i b hb=>?_,Fs⟩,⟨hR.fr,fun i b' hb ho=>?_,fun i j bi bj h1 h2 h3 h4 tW=>?_,Only.refl _ _,fun _=>rfl⟩,rfl,rfl,rfl,rfl,?_⟩
  ·obtain⟨b,e1,e2,e3,e4,e5,e6⟩:=key i b' hb ho;exact⟨b,e1,e2,e4.symm,e5.symm,e6.symm,fun k hk=>by rw[e3,(hR.bx i b e1 e2).at_ k hk]⟩
  ·refine⟨{rU _ b with sh:=(rU _ b).esc},by rw[pF,yI,hb];rfl,?_⟩;unfold rU;split
   ·rename_i e1 e2;exact⟨rfl,rfl,fun k hk=>by rw[e2]at hk;cases hk⟩
   ·exact⟨rfl,rfl,fun _ h=>h⟩
  ·obtain⟨b,e1,e2,e3,e4,e5,e6⟩:=key i b' hb ho;refine⟨by rw[e4,e5];exact(hR.bx i b e1 e2).blk,fun k hk=>by rw[e3]at hk;simpa using hk,fun hk=>by rw[e3]at hk;cases hk⟩
  ·obtain⟨b,e1,e2,_⟩:=key i bi h1 h3;obtain⟨c,f1,f2,_⟩:=key j bj h2 h4;exact hR.ne i j b c e1 f1 e2 f2 tW
  ·have l1:∀l:List jY,(vL l).length=l.length:=fun l=>by
    induction l with
    | nil=>rfl
    | cons b r ih=>simp[vL,ih]
   have l2:∀(l:List jY) n,(mD β n l).length=l.length:=fun l=>by
    induction l with
    | nil=>intro n;rfl
    | cons b r ih=>intro n;simp[mD,ih]
   exact(l1 _).trans (l2 _ _)
def noB(n:Nat)(s:SV):Bool:=cln (fun j=>!Nat.beq j n) s
def Vh(n:Nat)(l:List SV):Bool:=ia (fun j=>!Nat.beq j n) l
def NE(n:Nat):List (Nat×Nat×SV)->Bool
 | []=>true
 | p::r=>noB n p.2.2&&NE n r
def IY(n:Nat):List jY->Bool
 | []=>true
 | b::r=>(!b.ok||Vh n b.cells)&&IY n r
theorem DB{n}:∀{l:List _},NE n l=true->∀i p,dK l i=some p->noB n p.2=true
 | [],_,i,p,h=>by cases h
 | (k,q)::r,h,i,p,hl=>by
  simp[NE,aQ]at h;simp[dK]at hl;cases hb:Nat.beq k i with
  | true=>rw[hb]at hl;simp at hl;subst hl;exact h.1
  | false=>rw[hb]at hl;exact DB h.2 i p (by simpa using hl)
theorem DC{n}:∀{l:List jY},IY n l=true->∀i b,cV l i=some b->b.ok=true->Vh n b.cells=true
 | c::r,h,0,b,hb,ho=>by
  simp[IY,aQ,cn,dS]at h;simp[cV,aZ]at hb;subst hb;rcases h.1 with h1 | h1
  ·rw[ho]at h1;cases h1
  ·exact h1
 | c::r,h,i+1,b,hb,ho=>by
  simp[IY,aQ]at h;exact DC h.2 i b hb ho
def Bo(β:Nat->Nat)(n b:Nat):Nat->Nat:=fun i=>if i=n then b else β i
theorem zO{β}{n b:Nat}:∀i,(!Nat.beq i n)=true->β i=Bo β n b i:=fun i h=>by
 unfold Bo;rw[if_neg];rintro rfl;simp at h
section
variable {β:Nat->Nat} {st:St} {a:Act} {w w1:av}
def St.ER(st:St)(d:Option Tmp)(t:TypeId)(zs:List SV):St:=
 St.put {st with bx:=st.bx++[⟨none,t,zs,st.ct,true,false,false⟩],mv:=true,ct:=st.ct+1} d (.box st.bx.length 0)
theorem Ext.ER st d t zs:Ext st (st.ER d t zs):=by
 refine Ext.trans (t:={st with bx:=st.bx++[_],mv:=true,ct:=st.ct+1}) ⟨rfl,iA _,fun _ _ _ h _=>h,fun i b' hb ho hs=>?_,fun i b hb=>?_,Fs⟩ (Ext.put _ _ _)
 ·rw[kb]at hb;split at hb
  ·simp at hb;subst hb;dsimp only at hs;omega
  ·exact⟨b',hb,ho,rfl,rfl,rfl,fun _ h=>h⟩
 ·exact⟨b,by dsimp only;rw[kb,if_neg (by have:=qI hb;omega)];exact hb,rfl,rfl,fun _ h=>h⟩
theorem Rep.ER(hR:Rep β st a w){d}{t}{zs}{b:Nat}(h1:NE st.bx.length st.fr=true)(h2:IY st.bx.length st.bx=true)(h3:Vh st.bx.length zs=true)
  (hb:w.heap.size<=b) (hO:Only [] w w1) (hB:Blk w1 b t (cw β zs)) (hdt:zL st.bx st.dt=true):
  Rep (Bo β st.bx.length b) (st.ER d t zs) (a.put d (.pointer (some ⟨b,0,none⟩))) w1:=by
 have uz:Bo β st.bx.length b st.bx.length=b:=by unfold Bo;rw[if_pos rfl]
 have bS:∀{i c},cV st.bx i=some c->Bo β st.bx.length b i=β i:=fun{i c} h=>by
  unfold Bo;rw[if_neg];have:=qI h;omega
 have base:Rep (Bo β st.bx.length b) {st with bx:=st.bx++[⟨none,t,zs,st.ct,true,false,false⟩],mv:=true,ct:=st.ct+1} a w1:=by
  refine⟨qG ⟨hR.ok.sz,hR.ok.df,fun i p hl hi=>?_⟩,fun i c hc ho=>?_,fun i j bi bj g1 g2 g3 g4 tW=>?_,?_,fun h=>by cases h⟩
  ·rw[hR.ok.at_ i p hl hi];congr 1;exact iC (g:=fun j=>!Nat.beq j st.bx.length) zO _ (DB h1 i p hl)
  ·rw[kb]at hc;split at hc
   ·rename_i he;simp at hc;subst hc;subst he;refine⟨?_,fun k hk=>(by cases hk),fun _=>?_⟩
    ·rw[uz];rw[<-gx (g:=fun j=>!Nat.beq j st.bx.length) (β:=β) (β':=Bo β st.bx.length b) zO _ h3];exact hB
    ·rw[uz];exact bp hR.only.size hb
   ·have e:=bS hc;obtain⟨k1,k2,k3⟩:=hR.bx i c hc ho;refine⟨?_,fun k hk=>by rw[e];exact k2 k hk,fun hk=>by rw[e];exact k3 hk⟩;rw[e,<-gx (g:=fun j=>!Nat.beq j st.bx.length) (β:=β) (β':=Bo β st.bx.length b) zO _ (DC h2 i c hc ho)];exact hO.blk k1 (by simp)
  ·rw[kb]at g1 g2;split at g1
   ·rename_i e1;split at g2
    ·omega
    ·subst e1;rw[uz,bS g2];have:=(hR.bx j bj g2 g4).blk.lt;omega
   ·split at g2
    ·rename_i e2;subst e2;rw[uz,bS g1];have:=(hR.bx i bi g1 g3).blk.lt;omega
    ·rw[bS g1,bS g2];exact hR.ne i j bi bj g1 g2 g3 g4 tW
  ·have e:=mw fun i hi=>by
    obtain⟨c,hc,_⟩:=tB hdt i hi;exact bS hc
   rw[e];exact hR.only.cf hO
 have:=base.put d (.box st.bx.length 0);rw[show val (Bo β st.bx.length b) _=.pointer _ by
  show Value.pointer _=_;rw[uz]]at this
 exact this
def St.ta(st:St)(i:Nat)(b:jY)(cs:List SV):St:=
 {st with bx:=NB st.bx i {b with cells:=cs,stp:=st.ct,sh:=false},mv:=true,dt:=(bif b.blk.isSome&&!st.dt.elem i then i::st.dt else st.dt),ct:=st.ct+1}
theorem Ext.ta{st}{i}{b}{cs}(h:cV st.bx i=some b):Ext st (st.ta i b cs):=by
 refine⟨rfl,iA _,fun _ _ _ h _=>h,fun j b' hb ho hs=>?_,fun j c hc=>?_,Fs⟩
 ·simp[St.ta]at hb;rw[iZ h]at hb;split at hb
  ·simp at hb;subst hb;dsimp only at hs;omega
  ·exact⟨b',hb,ho,rfl,rfl,rfl,fun _ h=>h⟩
 ·simp[St.ta];rw[iZ h];split
  ·rename_i e;subst e;rw[h]at hc;simp at hc;subst hc;exact⟨_,rfl,rfl,rfl,fun _ h=>h⟩
  ·exact⟨c,hc,rfl,rfl,fun _ h=>h⟩
theorem Rep.ta(hR:Rep β st a w){i}{b}{cs}(h:cV st.bx i=some b)(ho:b.ok=true)(hO:Only [β i] w w1)(hB:Blk w1 (β i) b.ty (cw β cs)):Rep β (st.ta i b cs) a w1:=by
 have hk:=hR.bx i b h ho;refine⟨hR.fr,fun j c hc oe=>?_,fun j l bj bl g1 g2 g3 g4 tW=>?_,?_,fun h=>by cases h⟩
 ·simp[St.ta]at hc;rw[iZ h]at hc;split at hc
  ·rename_i e;subst e;simp at hc;subst hc;exact⟨hB,hk.at_,hk.new⟩
  ·rename_i ik;obtain⟨k1,k2,k3⟩:=hR.bx j c hc oe;exact⟨hO.blk k1 (by simpa using hR.ne j i c b hc h oe ho ik),k2,k3⟩
 ·simp[St.ta]at g1 g2;rw[iZ h]at g1 g2;have key:∀{j c},(if j=i then some {b with cells:=cs,stp:=st.ct,sh:=false}else cV st.bx j)=some c->c.ok=true->∃c',cV st.bx j=some c'/\c'.ok=true:=fun{j c} g hc=>by
   split at g
   ·rename_i e;subst e;exact⟨b,h,ho⟩
   ·exact⟨c,g,hc⟩
  obtain⟨c1,e1,e2⟩:=key g1 g3;obtain⟨c2,f1,f2⟩:=key g2 g4;exact hR.ne j l c1 c2 e1 f1 e2 f2 tW
 ·show Only ((bif b.blk.isSome&&!st.dt.elem i then i::st.dt else st.dt).map β) st.w0 w1;cases hb:(b.blk.isSome&&!st.dt.elem i)with
  | true=>exact hR.only.cons hO
  | false=>
   simp only[Bool.and_eq_false_iff,H5]at hb;rcases hb with hb | hb
   ·refine hR.only.new hO (hk.new ?_);cases hn:b.blk with
    | none=>rfl
    | some k=>rw[hn]at hb;cases hb
   ·refine hR.only.mem hO (eE.2 ⟨i,?_,rfl⟩);simpa using hb
structure Flg (l l':List jY):Prop where
 fw:∀i b,cV l' i=some b->∃c,cV l i=some c/\c.blk=b.blk/\c.ty=b.ty/\c.cells=b.cells/\c.stp=b.stp/\c.ok=b.ok
 bw:∀i b,cV l i=some b->∃c,cV l' i=some c/\c.ty=b.ty/\c.ok=b.ok/\∀k,b.blk=some k->c.blk=some k
theorem Flg.refl l:Flg l l:=⟨fun i b h=>⟨b,h,rfl,rfl,rfl,rfl,rfl⟩,P2⟩
theorem Flg.trans{l m n}(h:Flg l m)(k:Flg m n):Flg l n:=⟨fun i b hb=>by
 obtain⟨c,c1,c2,c3,c4,c5,c6⟩:=k.fw i b hb;obtain⟨d,d1,d2,d3,d4,d5,d6⟩:=h.fw i c c1;exact⟨d,d1,d2.trans c2,d3.trans c3,d4.trans c4,d5.trans c5,d6.trans c6⟩,fun i b hb=>by
 obtain⟨c,c1,c2,c3,c4⟩:=h.bw i b hb;obtain⟨d,d1,d2,d3,d4⟩:=k.bw i c c1;exact⟨d,d1,d2.trans c2,d3.trans c3,fun m hm=>d4 m (c4 m hm)⟩⟩
theorem Ext.flg{l'}(h:Flg st.bx l'):Ext st {st with bx:=l'}:=⟨rfl,aX _,fun _ _ _ h _=>h,fun i b' hb ho _=>by
 obtain⟨c,c1,c2,c3,c4,c5,c6⟩:=h.fw i b' hb;exact⟨c,c1,c6.trans ho,c4,c3,c5,fun k hk=>by rw[<-c2];exact hk⟩,h.bw,Fs⟩
theorem Rep.flg{l'}(hR:Rep β st a w)(h:Flg st.bx l'):Rep β {st with bx:=l'} a w:=by
 refine⟨hR.fr,fun i b hb ho=>?_,fun i j bi bj g1 g2 g3 g4 tW=>?_,hR.only,hR.still⟩
 ·obtain⟨c,c1,c2,c3,c4,c5,c6⟩:=h.fw i b hb;obtain⟨k1,k2,k3⟩:=hR.bx i c c1 (c6.trans ho);exact⟨by rw[<-c3,<-c4];exact k1,fun k hk=>k2 k (c2.trans hk),fun hk=>k3 (c2.trans hk)⟩
 ·obtain⟨c,c1,_,_,_,_,c6⟩:=h.fw i bi g1;obtain⟨d,d1,_,_,_,_,d6⟩:=h.fw j bj g2;exact hR.ne i j c d c1 d1 (c6.trans g3) (d6.trans g4) tW
def XD:SV->List Nat
 | .box i _=>[i]
 | .fn _ fs cs=>XD fs++XD cs
 | .agg l=>XD l
 | .tup l=>XD l
 | .c h t=>XD h++XD t
 | _=>[]
def NF:Nat->List Nat->List jY->List jY
 | 0,_,bx=>bx
 | _+1,[],bx=>bx
 | f+1,i::r,bx=>match cV bx i with
  | some b=>bif b.esc then NF f r bx else NF f (flat XD b.cells++r) (NB bx i {b with esc:=true,sh:=false})
  | none=>NF f r bx
theorem rV:∀f l bx,Flg bx (NF f l bx)
 | 0,_,bx=>Flg.refl _
 | _+1,[],bx=>Flg.refl _
 | f+1,i::r,bx=>by
  unfold NF;split
  ·rename_i b hb;cases he:b.esc with
   | true=>exact rV f r bx
   | false=>
    refine Flg.trans ⟨fun j c hc=>?_,fun j c hc=>?_⟩ (rV f _ _);rotate_left
    ·rw[iZ hb];split
     ·rename_i e;subst e;rw[hb]at hc;simp at hc;subst hc;exact⟨_,rfl,rfl,rfl,fun _ h=>h⟩
     ·exact⟨c,hc,rfl,rfl,fun _ h=>h⟩
    rw[iZ hb]at hc;split at hc
    ·rename_i e;subst e;simp at hc;subst hc;exact⟨b,hb,rfl,rfl,rfl,rfl,rfl⟩
    ·exact⟨c,hc,rfl,rfl,rfl,rfl,rfl⟩
  ·exact rV f r bx
def St.esc(st:St)(l:List SV):St:={st with bx:=NF 1000 (flat XD l) st.bx}
theorem Ext.esc st l:Ext st (st.esc l):=Ext.flg (rV _ _ _)
theorem Rep.esc(hR:Rep β st a w) l:Rep β (st.esc l) a w:=hR.flg (rV _ _ _)
end
def zc(P:Program)(t:TypeId):Option (List SV):=match P.info? t with
 | some i=>(match i.zero with
  | some z=>IT z.cells.toList
  | none=>none)
 | none=>none
theorem XE{P}{t}{zs}(h:zc P t=some zs) w:∃z,(zeroValue t).run P w=.ok z w/\∀β,z.cells=(cw β zs).toArray:=by
 unfold zc at h;split at h
 ·rename_i i hi;split at h
  ·rename_i z hz;exact⟨z,by simp[zeroValue,typeInfo,hi,hz],fun β=>by rw[yM β h]⟩
  ·cases h
 ·cases h
def chk(st:St)(zs:List SV):Bool:=NE st.bx.length st.fr&&IY st.bx.length st.bx&&Vh st.bx.length zs&&zL st.bx st.dt
def pG:List jY->Bool
 | []=>true
 | b::r=>(!b.ok||b.blk.isSome)&&pG r
theorem vN:∀{l:List jY},pG l=true->∀i b,cV l i=some b->b.ok=true->b.blk.isSome=true
 | c::r,h,0,b,hb,ho=>by
  simp[pG,aQ,cn,dS]at h;simp[cV,aZ]at hb;subst hb;rcases h.1 with h1 | h1
  ·rw[ho]at h1;cases h1
  ·exact h1
 | c::r,h,i+1,b,hb,ho=>by
  simp[pG,aQ]at h;exact vN h.2 i b hb ho
def neB(bk:Nat):List jY->Prop->Prop
 | [],p=>p
 | b::r,p=>bif b.ok then b.blk.getD 0≠bk/\neB bk r p else neB bk r p
theorem IZ{bk}:∀{l:List jY} {p:Prop},neB bk l p->p/\∀i b,cV l i=some b->b.ok=true->b.blk.getD 0≠bk
 | [],p,h=>⟨h,fun i b hb=>by cases hb⟩
 | c::r,p,h=>by
  rcases mC h with⟨hc,h⟩ | ⟨hc,h⟩
  ·obtain⟨h1,h2⟩:=h;obtain⟨h3,h4⟩:=IZ h2;refine⟨h3,fun i b hb ho=>?_⟩;cases i with
   | zero=>simp[cV,aZ]at hb;subst hb;exact h1
   | succ i=>exact h4 i b hb ho
  ·obtain⟨h3,h4⟩:=IZ h;refine⟨h3,fun i b hb ho=>?_⟩;cases i with
   | zero=>simp[cV,aZ]at hb;subst hb;rw[hc]at ho;cases ho
   | succ i=>exact h4 i b hb ho
def uo(esc:Bool):List jY->List Nat
 | []=>[]
 | b::r=>bif b.ok&&(esc||!b.esc)then b.blk.getD 0::uo esc r else uo esc r
theorem nL{esc}:∀{l:List jY} {i:Nat} {b:jY},cV l i=some b->b.ok=true->(esc||!b.esc)=true->b.blk.getD 0∈uo esc l
 | c::r,0,b,h,ho,he=>by
  simp[cV,aZ]at h;subst h;simp[uo,ho,he]
 | c::r,i+1,b,h,ho,he=>by
  have:=nL (l:=r) (i:=i) h ho he;simp[uo];cases(c.ok&&_)with
  | true=>simp[this]
  | false=>exact this
def zP(l:List Nat)(w0 w1:av)(p:Prop):Prop:=match l with
 | []=>p
 | _=>bU l w0 w1/\p
theorem rW{l}{w0 w1}{p}(h:zP l w0 w1 p):p/\bU l w0 w1:=by
 unfold zP at h;split at h
 ·exact⟨h,PW⟩
 ·exact⟨h.2,h.1⟩
def Qb(P:Program)(w1:av)(ct:Nat):List jY->(List jY->Prop)->Prop
 | [],K=>K []
 | b::r,K=>bif b.ok&&b.esc then Xx (P3 P 12 b.ty) fun vs=>Blk w1 (b.blk.getD 0) b.ty (cw β0 vs)/\Qb P w1 ct r fun r'=>K ({b with cells:=vs,stp:=ct,sh:=true}::r')
  else Qb P w1 ct r fun r'=>K (b::r')
theorem yN{P}{w1}{ct}:∀{l:List jY} {K:List jY->Prop},Qb P w1 ct l K->∃l',K l'/\(∀i b',cV l' i=some b'->∃b,cV l i=some b/\b'.ok=b.ok/\b'.blk=b.blk/\b'.ty=b.ty/\
  ((b'=b/\(b.ok&&b.esc)=false)∨(b'.stp=ct/\(∀β,cw β b'.cells=cw β0 b'.cells)/\Blk w1 (b.blk.getD 0) b.ty (cw β0 b'.cells))))/\
  ∀i b,cV l i=some b->∃b',cV l' i=some b'/\b'.ty=b.ty/\b'.ok=b.ok/\∀k,b.blk=some k->b'.blk=some k
 | [],K,h=>⟨[],h,fun i b' hb=>(by cases hb),fun i b hb=>(by cases hb)⟩
 | c::r,K,h=>by
  rcases mC h with⟨hc,h⟩ | ⟨hc,h⟩
  ·obtain⟨vs,⟨hB,h⟩,_,mT⟩:=uH h;obtain⟨l',h1,h2,h3⟩:=yN h;refine⟨_,h1,fun i b' hb=>?_,fun i b hb=>?_⟩;rotate_left
   ·cases i with
    | zero=>simp[cV,aZ]at hb;subst hb;exact⟨_,rfl,rfl,rfl,fun _ h=>h⟩
    | succ i=>exact h3 i b hb
   cases i with
   | zero=>
    simp[cV,aZ]at hb;subst hb;exact⟨c,rfl,rfl,rfl,rfl,.inr ⟨rfl,fun β=>gx (g:=fun _=>false) (fun i h=>(by cases h)) vs (mT _),hB⟩⟩
   | succ i=>exact h2 i b' hb
  ·obtain⟨l',h1,h2,h3⟩:=yN h;refine⟨_,h1,fun i b' hb=>?_,fun i b hb=>?_⟩;rotate_left
   ·cases i with
    | zero=>simp[cV,aZ]at hb;subst hb;exact⟨_,rfl,rfl,rfl,fun _ h=>h⟩
    | succ i=>exact h3 i b hb
   cases i with
   | zero=>
    simp[cV,aZ]at hb;subst hb;exact⟨c,rfl,rfl,rfl,rfl,.inl ⟨rfl,hc⟩⟩
   | succ i=>exact h2 i b' hb
def exR(P:Program):List TypeId->(List SV->Prop)->Prop
 | [],K=>K []
 | t::r,K=>Xx (P3 P 12 t) fun vs=>exR P r fun rs=>K (NC (match P.underlying t with | some d=>lM d | none=>false) vs::rs)
theorem DD g:∀l,cln g (lJ l)=ia g l
 | []=>rfl
 | s::r=>by simp[lJ,cln,ia,DD g r]
theorem KT g ag {l} (h:ia g l=true):cln g (NC ag l)=true:=by
 cases ag with
 | true=>show cln g (lJ l)=true;rw[DD];exact h
 | false=>
  cases l with
  | nil=>rfl
  | cons s r=>simp[ia,aQ]at h;exact h.1
theorem zQ{P}:∀{ts:List TypeId} {K:List SV->Prop},exR P ts K->∃rs,K rs/\∀g,ia g rs=true
 | [],K,h=>⟨[],h,fun _=>rfl⟩
 | t::r,K,h=>by
  obtain⟨vs,h,_,h2⟩:=uH h;obtain⟨rs,h3,h4⟩:=zQ h;exact⟨_,h3,fun g=>by simp[ia,KT g _ (h2 g),h4 g,kM]⟩
def zR(rs:List SV):SV:=match rs with
 | [r]=>r
 | rs=>.tup (lJ rs)
theorem vO{g}{rs}(h:ia g rs=true):cln g (zR rs)=true:=by
 unfold zR;split
 ·simp only[ia,aQ]at h;exact h.1
 ·show cln g (lJ _)=true;rw[DD];exact h
def BG(P:Program)(t:TypeId):List TypeId:=match P.underlying t with
 | some (.tuple ts)=>ts.toList
 | _=>[t]
def Qc(P:Program)(f:FuncId):Bool:=match P.funcs[f]? with
 | some fn=>!(fn.name== "runtime.NumGoroutine")&&fn.body.isSome
 | none=>false
theorem fu{P}{f}(h:Qc P f=true) args w:(callFunc f args).run P w=.ok (.enter f args) w:=by
 unfold Qc at h;split at h
 ·rename_i fn hf;simp at h;have hb:fn.body≠none:=by
   intro hq;rw[hq]at h;cases h.2
  have hn:fn.name≠ "runtime.NumGoroutine" :=by
   intro hq;rw[hq]at h;simp at h
  simp[callFunc,hf,hn,hb]
 ·cases h
def aeA(P:Program)(f:FuncId):List TypeId:=match P.funcs[f]? with
 | some fn=>fn.resultTypes.toList
 | none=>[]
abbrev XT:=av->av->Prop->Prop
section
variable {P:Program} {β:Nat->Nat} {st:St} {a:Act} {w w1:av}
theorem Rep.next(hR:Rep β st a w)(hm:st.mv=false)(hb:pG st.bx=true){bx'}{ct'}
  (h:∀i b',cV bx' i=some b'->b'.ok=true->∃b,cV st.bx i=some b/\b.ok=true/\b'.blk=b.blk/\Blk w1 (β i) b'.ty (cw β b'.cells)):Rep β {st with bx:=bx',w0:=w1,ct:=ct'} a w1:=by
 have key:∀i b,cV st.bx i=some b->b.ok=true->b.blk=some (β i):=fun i b h1 h2=>by
  have:=vN hb i b h1 h2;cases hk:b.blk with
  | none=>rw[hk]at this;cases this
  | some k=>rw[(hR.bx i b h1 h2).at_ k hk]
 refine⟨hR.fr,fun i b' j9 ho=>?_,fun i j bi bj g1 g2 g3 g4 tW=>?_,Only.refl _ _,fun _=>rfl⟩
 ·obtain⟨b,h1,h2,h3,h4⟩:=h i b' j9 ho;exact⟨h4,fun k hk=>by rw[h3,key i b h1 h2]at hk;simpa using hk,fun hk=>by rw[h3,key i b h1 h2]at hk;cases hk⟩
 ·obtain⟨b,h1,h2,_⟩:=h i bi g1 g3;obtain⟨c,k1,k2,_⟩:=h j bj g2 g4;exact hR.ne i j b c h1 k1 h2 k2 tW
theorem Rep.Oy(hR:Rep β st a w)(hb:pG st.bx=true){i}{b}(h1:cV st.bx i=some b)(h2:b.ok=true):b.blk.getD 0=β i:=by
 have:=vN hb i b h1 h2;cases hk:b.blk with
 | none=>rw[hk]at this;cases this
 | some k=>rw[(hR.bx i b h1 h2).at_ k hk];rfl
def Qd(P:Program)(X:XT)(st:St)(d:Option Tmp)(E2:List TypeId)(f:FuncId)(args:List SV)(og:List aw)(K:St->Prop):Prop:=
 bif ia st.JQ args&&pG st.bx then
  Calls P f (cw st.bl args++og).toArray st.w0 fun e w1=>exR P E2 fun rs=>e=.returned (val β0 (zR rs))/\
   zP (uo false st.bx) st.w0 w1 (Qb P w1 st.ct st.bx fun bx=>X st.w0 w1 (K (St.put {st with bx:=bx,w0:=w1,ct:=st.ct+1} d (zR rs))))
 else False
theorem Qe{X}{E:av->av->Prop}(hX:∀w0 w1 p,X w0 w1 p->p/\E w0 w1){d}{E2}{f}{args}{og}{K}(h:Qd P X st d E2 f args og K)(hm:st.mv=false)(hR:Rep β st a w):
  Calls P f (cw β args++og).toArray w fun e w'=>∃v,e=.returned v/\∃cE,K cE/\Ext st cE/\E w w'/\Rep β cE (a.put d v) w':=by
 obtain⟨h0,h⟩:=dw h;simp at h0;rw[hR.sZ h0.1,<-hR.still hm]at h;refine h.mono ?_;rintro e w1 h;obtain⟨rs,⟨rfl,h1⟩,mT⟩:=zQ h;obtain⟨h2,hS⟩:=rW h1;obtain⟨bx',h3,hb,Nh⟩:=yN h2;obtain⟨h,hE⟩:=hX _ _ _ h3;have ev:val β0 _=val β _:=iC (g:=fun _=>false) (fun i h=>(by cases h)) _ (vO (mT _));refine⟨_,rfl,_,h,?_,hE,?_⟩
 ·refine Ext.trans (t:={st with bx:=bx',w0:=w1,ct:=st.ct+1}) ⟨rfl,iA _,fun _ _ _ h _=>h,fun i b' j9 ho hs=>?_,Nh,Fs⟩ (Ext.put _ _ _);obtain⟨b,h1,h2,h3,h4,h5⟩:=hb i b' j9;rcases h5 with⟨rfl,_⟩ | _
  ·exact⟨b',h1,ho,rfl,rfl,rfl,fun _ h=>h⟩
  ·omega
 ·rw[ev];refine Rep.put (Rep.next hR hm h0.2 fun i b' j9 ho=>?_) _ _;obtain⟨b,h1,h2,h3,h4,h5⟩:=hb i b' j9;have Fx:b.ok=true:=by rw[<-h2];exact ho
  refine⟨b,h1,Fx,h3,?_⟩;have eD:=hR.Oy h0.2 h1 Fx;rcases h5 with⟨rfl,h6⟩ | ⟨_,h6,h7⟩
  ·have th:=nL (esc:=false) h1 Fx (by rw[Fx]at h6;simpa using h6);rw[eD]at th;exact(hS _ th).trans (hR.bx i b' h1 Fx).blk
  ·rw[h4,h6 β,<-eD];exact h7
def uJ(a b:List aw):List aw:=a++b
def Qf(P:Program)(X:XT)(st:St)(d:Option Tmp)(E2:List TypeId)(f:FuncId)(fst:List aw)(args:List SV)(og:List aw)(K:St->Prop):Prop:=
 bif ia st.JQ args&&pG st.bx then
  Calls P f (uJ (uJ fst (cw st.bl args)) og).toArray st.w0 fun e w1=>exR P E2 fun rs=>e=.returned (val β0 (zR rs))/\
   zP (uo false st.bx) st.w0 w1 (Qb P w1 st.ct st.bx fun bx=>X st.w0 w1 (K (St.put {st with bx:=bx,w0:=w1,ct:=st.ct+1} d (zR rs))))
 else False
theorem Qg{X}{E:av->av->Prop}(hX:∀w0 w1 p,X w0 w1 p->p/\E w0 w1){d}{E2}{f}{fst}{args}{og}{K}(h:Qf P X st d E2 f fst args og K)(hm:st.mv=false)(hR:Rep β st a w):
  Calls P f (uJ (uJ fst (cw β args)) og).toArray w fun e w'=>∃v,e=.returned v/\∃cE,K cE/\Ext st cE/\E w w'/\Rep β cE (a.put d v) w':=by
 obtain⟨h0,h⟩:=dw h;simp at h0;rw[hR.sZ h0.1,<-hR.still hm]at h;refine h.mono ?_;rintro e w1 h;obtain⟨rs,⟨rfl,h1⟩,mT⟩:=zQ h;obtain⟨h2,hS⟩:=rW h1;obtain⟨bx',h3,hb,Nh⟩:=yN h2;obtain⟨h,hE⟩:=hX _ _ _ h3;have ev:val β0 _=val β _:=iC (g:=fun _=>false) (fun i h=>(by cases h)) _ (vO (mT _));refine⟨_,rfl,_,h,?_,hE,?_⟩
 ·refine Ext.trans (t:={st with bx:=bx',w0:=w1,ct:=st.ct+1}) ⟨rfl,iA _,fun _ _ _ h _=>h,fun i b' j9 ho hs=>?_,Nh,Fs⟩ (Ext.put _ _ _);obtain⟨b,h1,h2,h3,h4,h5⟩:=hb i b' j9;rcases h5 with⟨rfl,_⟩ | _
  ·exact⟨b',h1,ho,rfl,rfl,rfl,fun _ h=>h⟩
  ·omega
 ·rw[ev];refine Rep.put (Rep.next hR hm h0.2 fun i b' j9 ho=>?_) _ _;obtain⟨b,h1,h2,h3,h4,h5⟩:=hb i b' j9;have Fx:b.ok=true:=by rw[<-h2];exact ho
  refine⟨b,h1,Fx,h3,?_⟩;have eD:=hR.Oy h0.2 h1 Fx;rcases h5 with⟨rfl,h6⟩ | ⟨_,h6,h7⟩
  ·have th:=nL (esc:=false) h1 Fx (by rw[Fx]at h6;simpa using h6);rw[eD]at th;exact(hS _ th).trans (hR.bx i b' h1 Fx).blk
  ·rw[h4,h6 β,<-eD];exact h7
def rD(P:Program)(X:XT)(st:St)(d:Option Tmp)(E2:List TypeId)(args:List SV)(run:List aw->Sem aw)(K:St->Prop):Prop:=
 bif ia st.JQ args&&pG st.bx then
  exR P E2 fun rs=>∃w1,(run (cw st.bl args)).run P st.w0=.ok (val β0 (zR rs)) w1/\zP (uo true st.bx) st.w0 w1 (X st.w0 w1 (K (St.put {st with w0:=w1} d (zR rs))))
 else False
theorem KU{X}{E:av->av->Prop}(hX:∀w0 w1 p,X w0 w1 p->p/\E w0 w1){d}{E2}{args}{run}{K}(h:rD P X st d E2 args run K)(hm:st.mv=false)(hR:Rep β st a w):
  ∃v w',(run (cw β args)).run P w=.ok v w'/\∃cE,K cE/\Ext st cE/\E w w'/\Rep β cE (a.put d v) w':=by
 obtain⟨h0,h⟩:=dw h;simp at h0;rw[hR.sZ h0.1,<-hR.still hm]at h;obtain⟨rs,⟨w1,hr,h⟩,mT⟩:=zQ h;obtain⟨h,hS⟩:=rW h;obtain⟨h,hE⟩:=hX _ _ _ h;have ev:val β0 _=val β _:=iC (g:=fun _=>false) (fun i h=>(by cases h)) _ (vO (mT _));refine⟨_,w1,hr,_,h,?_,hE,?_⟩
 ·refine Ext.trans (t:={st with w0:=w1}) ⟨rfl,aX _,fun _ _ _ h _=>h,fun i b' j9 ho hs=>⟨b',j9,ho,rfl,rfl,rfl,fun _ h=>h⟩,P2,Fs⟩ (Ext.put _ _ _)
 ·rw[ev];refine Rep.put (Rep.next (ct':=st.ct) hR hm h0.2 fun i b' j9 ho=>⟨b',j9,ho,rfl,?_⟩) _ _;have th:=nL (esc:=true) j9 ho rfl;rw[hR.Oy h0.2 j9 ho]at th;exact(hS _ th).trans (hR.bx i b' j9 ho).blk
def Qh(P:Program)(X:XT)(st:St)(d:Option Tmp)(args:List SV)(run:List aw->Sem aw)(rs:SV)(K:St->Prop):Prop:=
 bif ia st.JQ args&&pG st.bx&&cln (fun _=>false) rs then
  ∃w1,(run (cw st.bl args)).run P st.w0=.ok (val β0 rs) w1/\zP (uo true st.bx) st.w0 w1 (X st.w0 w1 (K (St.put {st with w0:=w1} d rs)))
 else False
theorem yO{X}{E:av->av->Prop}(hX:∀w0 w1 p,X w0 w1 p->p/\E w0 w1){d}{args}{run}{rs}{K}(h:Qh P X st d args run rs K)(hm:st.mv=false)(hR:Rep β st a w):
  ∃v w',(run (cw β args)).run P w=.ok v w'/\∃cE,K cE/\Ext st cE/\E w w'/\Rep β cE (a.put d v) w':=by
 obtain⟨h0,h⟩:=dw h;simp at h0;rw[hR.sZ h0.1.1,<-hR.still hm]at h;obtain⟨w1,hr,h⟩:=h;obtain⟨h,hS⟩:=rW h;obtain⟨h,hE⟩:=hX _ _ _ h;have ev:val β0 rs=val β rs:=iC (g:=fun _=>false) (fun i h=>(by cases h)) _ h0.2;refine⟨_,w1,hr,_,h,?_,hE,?_⟩
 ·refine Ext.trans (t:={st with w0:=w1}) ⟨rfl,aX _,fun _ _ _ h _=>h,fun i b' j9 ho hs=>⟨b',j9,ho,rfl,rfl,rfl,fun _ h=>h⟩,P2,Fs⟩ (Ext.put _ _ _)
 ·rw[ev];refine Rep.put (Rep.next (ct':=st.ct) hR hm h0.1.2 fun i b' j9 ho=>⟨b',j9,ho,rfl,?_⟩) _ _;have th:=nL (esc:=true) j9 ho rfl;rw[hR.Oy h0.1.2 j9 ho]at th;exact(hS _ th).trans (hR.bx i b' j9 ho).blk
def Vi(P:Program)(X:XT)(st:St)(d:Option Tmp)(args:List SV)(run:List aw->Sem Unit)(K:St->Prop):Prop:=
 bif ia st.JQ args&&pG st.bx then
  ∃w1,(run (cw st.bl args)).run P st.w0=.ok () w1/\zP (uo true st.bx) st.w0 w1 (X st.w0 w1 (K (St.put {st with w0:=w1} d .un)))
 else False
theorem Vj{X}{E:av->av->Prop}(hX:∀w0 w1 p,X w0 w1 p->p/\E w0 w1){d}{args}{run}{K}(h:Vi P X st d args run K)(hm:st.mv=false)(hR:Rep β st a w):
  ∃w',(run (cw β args)).run P w=.ok () w'/\∃cE,K cE/\Ext st cE/\E w w'/\Rep β cE (a.put d undef) w':=by
 obtain⟨h0,h⟩:=dw h;simp at h0;rw[hR.sZ h0.1,<-hR.still hm]at h;obtain⟨w1,hr,h⟩:=h;obtain⟨h,hS⟩:=rW h;obtain⟨h,hE⟩:=hX _ _ _ h;refine⟨w1,hr,_,h,?_,hE,?_⟩
 ·refine Ext.trans (t:={st with w0:=w1}) ⟨rfl,aX _,fun _ _ _ h _=>h,fun i b' j9 ho hs=>⟨b',j9,ho,rfl,rfl,rfl,fun _ h=>h⟩,P2,Fs⟩ (Ext.put _ _ _)
 ·refine Rep.put (v:=.un) (Rep.next (ct':=st.ct) hR hm h0.2 fun i b' j9 ho=>⟨b',j9,ho,rfl,?_⟩) _;have th:=nL (esc:=true) j9 ho rfl;rw[hR.Oy h0.2 j9 ho]at th;exact(hS _ th).trans (hR.bx i b' j9 ho).blk
end
end Go.Kt.V
