import Derived.Test.YtbkjcdocjfknfaaGreatDoorQp1
import Derived.Shelf.Strings.Builder1
import Derived.Shelf.Strings.Builder2
import Derived.Shelf.Strings.OnBuilder
import Derived.Shelf.Small.Bits
import Derived.Shelf.Strings.BuilderF
import Derived.Shelf.Strconv.Itoa0
import Derived.Shelf.Strconv.Itoa1
import Derived.Shelf.LaysM
import Derived.Shelf.Strconv.Itoa2
import Derived.Shelf.Strconv.Itoa3
import Derived.Shelf.Strconv.ParseIntEmpty
import Derived.Shelf.Strconv.Clone
import Derived.Shelf.Strconv.SyntaxError
import Derived.Shelf.LaysC
import Derived.Shelf.Strconv.ToError
import Derived.Shelf.Strconv.Lower
import Derived.Shelf.Strconv.ParseUint10
import Derived.Shelf.Strconv.ParseUint10Empty
import Derived.Shelf.Strconv.ParseUint10Any
import Derived.Shelf.Strconv.ParseInt10
import Derived.Shelf.Strconv.RangeError
import Derived.Shelf.Strconv.ToErrorRange
import Derived.Shelf.Strconv.ParseUintEmpty
import Derived.Shelf.Strconv.ParseUint10b64
import Derived.Shelf.Strconv.ParseUint10b32
import Derived.Shelf.Strconv.ParseUint10b16
import Derived.Shelf.Strconv.ParseUint10b8
import Derived.Shelf.Strconv.ParseUint10At
import Derived.Shelf.Strconv.ParseInt10At64
import Derived.Shelf.Strconv.ParseInt10At32
import Derived.Shelf.Strconv.ParseInt10At16
import Derived.Shelf.Strconv.ParseInt10At8
import Derived.Shelf.Strconv.ParseInt10All
import Derived.Shelf.Strconv.ParseIntPublic10
import Derived.Shelf.Strconv.ErrVarParseInt
import Derived.Shelf.Strings.Search1
import Derived.Shelf.Strings.Search2
import Derived.Shelf.Strings.Cut
import Derived.Shelf.Strings.Shaped
import Derived.Shelf.Sort.Plain
import Derived.Shelf.Strings.Prefix
import Derived.Shelf.Bits.Mul64
import Derived.Shelf.Strings.Repeat
import Derived.Shelf.Slices.Clone
import Derived.Shelf.Slices.CompactI
import Derived.Shelf.Slices.SearchI
import Derived.Shelf.Slices.Cells
import Derived.Shelf.Slices.In.SortNone
import Derived.Shelf.Slices.Empties
import Derived.Shelf.SlicesE.Clone
import Derived.Shelf.SlIterI.Nil
import Derived.Shelf.SortM.Plain
import Derived.Shelf.SortM.SortNone
import Derived.Shelf.SlSortCmp.NoneTotal
import Derived.Shelf.SlicesG.Cmp
set_option linter.unusedSectionVars false
namespace Go.Kt.V
open Go renaming World->ay,Value->az
open Go Go.RowKit Go.Kt
set_option linter.unusedSimpArgs false
set_option linter.unusedVariables false
def cj{α:Type}(o:Option α)(K:α->Prop):Prop:=match o with
 | some v=>K v
 | none=>False
theorem bB{α}{o:Option α}{K}(h:cj o K):∃v,o=some v/\K v:=by
 cases o with
 | none=>exact h.elim
 | some v=>exact⟨v,rfl,h⟩
def gi:List (Bool×Bool)->Prop->Prop
 | [],p=>p
 | (t,b)::r,p=>t=b->gi r p
def gh:List (Bool×Bool)->Prop
 | []=>True
 | (t,b)::r=>t=b/\gh r
theorem gJ:∀{gs:List _} {p:Prop},gi gs p->gh gs->p
 | [],_,h,_=>h
 | _::r,p,h,k=>gJ (gs:=r) (h k.1) k.2
inductive Lf where
 | int (k:IntKind)
 | bool
 | str
 | ptr
 | sl
 | map
 | raw
def Lf.T:Lf->Type
 | .int _=>Int
 | .bool=>Bool
 | .str=>ByteArray
 | .ptr=>Option Addr
 | .sl=>Sl
 | .map=>Option Nat
 | .raw=>OV
def Lf.sv:(l:Lf)->l.T->SV
 | .int k,x=>.int k x
 | .bool,x=>.bt x
 | .str,x=>.str x
 | .ptr,x=>.ptr x
 | .sl,x=>.sl x
 | .map,x=>.map x
 | .raw,x=>.raw x
theorem Lf.cln g (l:Lf) x:V.cln g (l.sv x)=true:=by cases l<;>rfl
def S1:List Lf->(List SV->Prop)->Prop
 | [],K=>K []
 | l::r,K=>∃x,S1 r fun vs=>K (l.sv x::vs)
theorem rD:∀{ls:List Lf} {K:List SV->Prop},S1 ls K->∃vs,K vs/\vs.length=ls.length/\∀g,gZ g vs=true
 | [],K,h=>⟨[],h,rfl,fun _=>rfl⟩
 | l::r,K,h=>by
  obtain⟨x,h⟩:=h;obtain⟨vs,h1,h2,h3⟩:=rD (ls:=r) h;exact⟨_,h1,by simp[h2],fun g=>by simp[gZ,Lf.cln,h3 g,mO]⟩
def ait:TypeDesc->Lf
 | .int k=>.int k
 | .bool=>.bool
 | .string=>.str
 | .pointer _=>.ptr
 | .slice _=>.sl
 | .map _ _=>.map
 | _=>.raw
def rep{α:Type}:Nat->List α->List α
 | 0,_=>[]
 | n+1,l=>l++rep n l
def flat{α β:Type}(f:α->List β):List α->List β
 | []=>[]
 | x::r=>f x++flat f r
def Oh(P:Program):Nat->TypeId->List Lf
 | 0,_=>[]
 | n+1,t=>match P.underlying t with
  | some (.struct fs)=>flat (fun f:Field=>Oh P n f.type) fs.toList
  | some (.array len e)=>rep len (Oh P n e)
  | some d=>[ait d]
  | none=>[]
def lq:TypeDesc->Bool
 | .struct _=>true
 | .array _ _=>true
 | _=>false
def L3(ag:Bool)(l:List SV):SV:=bif ag then .agg (mA l)else l.headD .un
def β0:Nat->Nat:=fun _=>0
def pC:SV->Option (IntKind×Int)
 | .int k n=>some (k,n)
 | .il k n=>some (k,n)
 | _=>none
theorem di{s}{k}{n}(h:pC s=some (k,n)) β:val β s=.int k n:=by
 cases s<;>simp[pC,ba,fJ,reduceCtorEq]at h
 all_goals obtain⟨rfl,rfl⟩:=h;rfl
def yJ:SV->Option Bool
 | .bl b=>some b
 | .bt b=>some b
 | _=>none
theorem lr{s}{b}(h:yJ s=some b) β:val β s=.bool b:=by
 cases s<;>simp[yJ,ba,reduceCtorEq]at h
 all_goals subst h;rfl
def tY:SV->Option ByteArray
 | .str s=>some s
 | _=>none
theorem hY{s}{b}(h:tY s=some b) β:val β s=.string b:=by
 cases s<;>simp[tY,ba,reduceCtorEq]at h
 all_goals subst h;rfl
def Jf:SV->Option Sl
 | .sl s=>some s
 | .nsl=>some Sl.nil
 | _=>none
theorem jD{s}{b}(h:Jf s=some b) β:val β s=b.v:=by
 cases s<;>simp[Jf,ba,reduceCtorEq]at h
 all_goals subst h;rfl
def ib(op:BinOp)(k:IntKind)(m n:Int):Option SV:=match op with
 | .add=>some (.int k (k.wrap (m+n)))
 | .sub=>some (.int k (k.wrap (m-n)))
 | .mul=>some (.int k (k.wrap (m*n)))
 | .eql=>some (.bt (m==n))
 | .neq=>some (.bt (m !=n))
 | .lss=>some (.bt (decide (m<n)))
 | .leq=>some (.bt (decide (m<=n)))
 | .gtr=>some (.bt (decide (m>n)))
 | .geq=>some (.bt (decide (m>=n)))
 | .and=>some (.int k (bits .and k m n))
 | .or=>some (.int k (bits .or k m n))
 | .xor=>some (.int k (bits .xor k m n))
 | .andNot=>some (.int k (bits .andNot k m n))
 | _=>none
def sb(op:BinOp)(s u:ByteArray):Option SV:=match op with
 | .eql=>some (.bt (s.toList==u.toList))
 | .neq=>some (.bt (!(s.toList==u.toList)))
 | .lss=>some (.bt (Op.bytesLess s.toList u.toList))
 | .geq=>some (.bt (!(Op.bytesLess s.toList u.toList)))
 | .leq=>some (.bt (Op.bytesLess s.toList u.toList||(s.toList==u.toList)))
 | .gtr=>some (.bt (!(Op.bytesLess s.toList u.toList||(s.toList==u.toList))))
 | _=>none
def nz(gs:List (Bool×Bool))(b:SV)(n:Int)(K:Prop):Prop:=match b with
 | .il _ _=>bif n==0 then False else K
 | _=>gi gs (n≠0)/\K
def ge0(gs:List (Bool×Bool))(b:SV)(n:Int)(K:Prop):Prop:=match b with
 | .il _ _=>bif decide (0<=n)then K else False
 | _=>gi gs (0<=n)/\K
def uv:SV->Option (Option Addr)
 | .np=>some none
 | .ptr p=>some p
 | .ad a=>some (some a)
 | _=>none
theorem S2{s}{p}(h:uv s=some p) β:val β s=.pointer p:=by
 cases s<;>simp[uv,ba,reduceCtorEq]at h
 all_goals subst h;rfl
def pn(op:BinOp)(a:SV):Option SV:=match op,a with
 | .eql,.ptr p=>some (.bt p.isNone)
 | .neq,.ptr p=>some (.bt (!p.isNone))
 | .eql,.ad _=>some (.bl false)
 | .neq,.ad _=>some (.bl true)
 | .eql,.box _ _=>some (.bl false)
 | .neq,.box _ _=>some (.bl true)
 | .eql,.np=>some (.bl true)
 | .neq,.np=>some (.bl false)
 | _,_=>none
def sn(op:BinOp)(s:Sl):Option SV:=match op with
 | .eql=>some (.bt s.a.isNone)
 | .neq=>some (.bt (!s.a.isNone))
 | _=>none
def Oi:SV->Bool
 | .np=>true
 | _=>false
def EV:SV->Bool
 | .nsl=>true
 | _=>false
def eq1(P:Program)(t:TypeId)(x y:SV):Option Bool:=match P.underlying t with
 | some (.int _)=>(match pC x,pC y with
  | some (k,m),some (k',n)=>bif decide (k=k')then some (m==n)else none
  | _,_=>none)
 | some .string=>(match tY x,tY y with
  | some s,some u=>some (s==u)
  | _,_=>none)
 | some .bool=>(match yJ x,yJ y with
  | some s,some u=>some (s==u)
  | _,_=>none)
 | _=>none
def EW(P:Program)(xs ys:List SV):List Field->Option Bool
 | []=>some true
 | f::r=>bif f.name== "_" then none else match xs[f.offset]?,ys[f.offset]? with
  | some x,some y=>(match eq1 P f.type x y,EW P xs ys r,r with
   | some b,some _,[]=>some b
   | some b,some c,_=>some (b&&c)
   | _,_,_=>none)
  | _,_=>none
def Xl(P:Program)(t:TypeId)(fs:Array Field)(a b:SV):Option Bool:=match a,b with
 | .agg l,.agg m=>bif AR l&&AR m&&!P.stoodInHeld t&&!P.eqGuardType P.depth t then EW P (mg l) (mg m) fs.toList else none
 | _,_=>none
def Xm(op:BinOp)(b:Bool):Option SV:=match op with
 | .eql=>some (.bt b)
 | .neq=>some (.bt (!b))
 | _=>none
def mn(op:BinOp)(a b:SV):Option SV:=match op,a,b with
 | .eql,.map m,.map none=>some (.bt m.isNone)
 | .neq,.map m,.map none=>some (.bt (!m.isNone))
 | _,_,_=>none
def Xn(P:Program)(gs:List (Bool×Bool))(op:BinOp)(t:TypeId)(a b:SV)(K:SV->Prop):Prop:=
 match pC a,pC b with
 | some (k,m),some (k',n)=>(match op with
  | .shl=>ge0 gs b n (K (.int k (k.wrap (m*2 ^ (min n.toNat k.bits)))))
  | .shr=>ge0 gs b n (K (.int k (m.fdiv (2 ^ (min n.toNat k.bits)))))
  | .quo=>bif decide (k=k')then nz gs b n (K (.int k (k.wrap (m.tdiv n))))else False
  | .rem=>bif decide (k=k')then nz gs b n (K (.int k (m.tmod n)))else False
  | _=>bif decide (k=k')then cj (ib op k m n) K else False)
 | _,_=>match tY a,tY b with
  | some s,some u=>(match op with
   | .add=>gi gs ((s.size:Int)+u.size<=9223372036854775807)/\K (.str (s++u))
   | _=>cj (sb op s u) K)
  | _,_=>match yJ a,yJ b,P.underlying t with
   | some s,some u,some .bool=>(match op with
    | .eql=>K (.bt (s==u))
    | .neq=>K (.bt (!(s==u)))
    | _=>False)
   | _,_,_=>match P.underlying t with
    | some (.pointer _)=>bif Oi b then cj (pn op a) K else bif Oi a then cj (pn op b) K else False
    | some (.slice _)=>bif EV b then cj ((Jf a).bind (sn op)) K else bif EV a then cj ((Jf b).bind (sn op)) K else False
    | some (.struct fs)=>cj (Xl P t fs a b) fun r=>cj (Xm op r) K
    | some (.map _ _)=>cj (mn op a b) K
    | _=>False
section
variable {P:Program} {gs:List (Bool×Bool)} {K:SV->Prop}
theorem Vy{b}{k}{n}{K}(hb:pC b=some (k,n))(h:nz gs b n K):K/\(gh gs->n≠0):=by
 unfold nz at h;split at h
 ·cases hn:(n==0)with
  | true=>rw[hn]at h;exact h.elim
  | false=>rw[hn]at h;exact⟨h,fun _=>by simpa using hn⟩
 ·exact⟨h.2,fun g=>gJ h.1 g⟩
theorem Oj{b}{n}{K}(h:ge0 gs b n K):K/\(gh gs->0<=n):=by
 unfold ge0 at h;split at h
 ·by_cases hn:0<=n
  ·rw[bK hn]at h;exact⟨h,fun _=>hn⟩
  ·rw[bG hn]at h;exact h.elim
 ·exact⟨h.2,fun g=>gJ h.1 g⟩
theorem dw{b}{p}(h:bif b then p else False):b=true/\p:=by
 cases b with
 | true=>exact⟨rfl,h⟩
 | false=>exact h.elim
def lW(P:Program)(op:BinOp)(t:TypeId)(a b v:SV):Prop:=
 ∀β (act:Act) x y dst ty t' p af g w,act.eval x=val β a->act.eval y=val β b->
  (execOp act.eval ⟨dst,.binOp op t x y ty,t',p,af,g⟩).run P w=.ok (.value (val β v)) w
theorem ab3{op}{t}{a b v}{k}{m n}(ha:pC a=some (k,m))(hb:pC b=some (k,n))(h:ib op k m n=some v):lW P op t a b v:=by
 intro β act x y dst ty t' p af g w hx hy;rw[di ha]at hx;rw[di hb]at hy;cases op<;>simp[ib,ba,reduceCtorEq]at h
 all_goals subst h;simp[execOp,hx,hy];cases k<;>rfl
theorem ab4{op}{t}{a b v}{s u}(ha:tY a=some s)(hb:tY b=some u)(h:sb op s u=some v):lW P op t a b v:=by
 intro β act x y dst ty t' p af g w hx hy;rw[hY ha]at hx;rw[hY hb]at hy;cases op<;>simp only[sb,ba,reduceCtorEq]at h
 all_goals subst h;simp only[execOp,hx,hy];rfl
theorem Vz{op}{t e}{a b v}(hu:P.underlying t=some (.pointer e))(hb:Oi b=true)(h:pn op a=some v):lW P op t a b v/\lW P op t b a v:=by
 have hbv:∀β,val β b=.pointer none:=fun β=>by
  unfold Oi at hb;split at hb
  ·rfl
  ·cases hb
 have key:∀β,∃(q:Option Addr) (r:Bool),val β a=.pointer q/\val β v=.bool r/\((op=.eql/\q.isNone=r)∨(op=.neq/\(!q.isNone)=r)):=by
  intro β;unfold pn at h;split at h<;>simp only[ba,reduceCtorEq]at h<;>subst h
  ·exact⟨_,_,rfl,rfl,.inl ⟨rfl,rfl⟩⟩
  ·exact⟨_,_,rfl,rfl,.inr ⟨rfl,rfl⟩⟩
  ·exact⟨_,_,rfl,rfl,.inl ⟨rfl,rfl⟩⟩
  ·exact⟨_,_,rfl,rfl,.inr ⟨rfl,rfl⟩⟩
  ·exact⟨_,_,rfl,rfl,.inl ⟨rfl,rfl⟩⟩
  ·exact⟨_,_,rfl,rfl,.inr ⟨rfl,rfl⟩⟩
  ·exact⟨_,_,rfl,rfl,.inl ⟨rfl,rfl⟩⟩
  ·exact⟨_,_,rfl,rfl,.inr ⟨rfl,rfl⟩⟩
 constructor
 ·intro β act x y dst ty t' p af g w hx hy;obtain⟨q,r,h1,h2,h3⟩:=key β;rw[h1]at hx;rw[hbv]at hy;rw[h2];rcases h3 with⟨rfl,h3⟩ | ⟨rfl,h3⟩
  ·exact CB (run_underlying hu w) hx hy h3
  ·exact CE (run_underlying hu w) hx hy h3
 ·intro β act x y dst ty t' p af g w hx hy;obtain⟨q,r,h1,h2,h3⟩:=key β;rw[h1]at hy;rw[hbv]at hx;rw[h2];rcases h3 with⟨rfl,h3⟩ | ⟨rfl,h3⟩
  ·exact CD (run_underlying hu w) hx hy h3
  ·exact CF (run_underlying hu w) hx hy h3
theorem VA{op}{t e}{a b v}(hu:P.underlying t=some (.slice e))(hb:EV b=true)(h:(Jf a).bind (sn op)=some v):lW P op t a b v/\lW P op t b a v:=by
 have hbv:∀β,val β b=.slice none 0 0:=fun β=>by
  unfold EV at hb;split at hb
  ·rfl
  ·cases hb
 cases hs:Jf a with
 | none=>rw[hs]at h;cases h
 | some s=>
  rw[hs]at h;simp at h;constructor
  ·intro β act x y dst ty t' p af g w hx hy;rw[jD hs]at hx;rw[hbv]at hy;cases op<;>simp only[sn,ba,reduceCtorEq]at h<;>subst h
   ·exact EK (run_underlying hu w) hx hy
   ·exact EM (run_underlying hu w) hx hy
  ·intro β act x y dst ty t' p af g w hx hy;rw[jD hs]at hy;rw[hbv]at hx;cases op<;>simp only[sn,ba,reduceCtorEq]at h<;>subst h
   ·exact EL (run_underlying hu w) hx hy
   ·exact EN (run_underlying hu w) hx hy
theorem ab5{op:BinOp}{t k e:TypeId}{a b v}(hu:P.underlying t=some (.map k e))(h:mn op a b=some v):lW P op t a b v:=by
 intro β act x y dst ty t' p af g w hx hy;unfold mn at h;split at h<;>simp only[ba,reduceCtorEq]at h<;>subst h
 all_goals
  rename_i m;change act.eval x=.map m at hx;change act.eval y=.map none at hy;have hE:∀d,(Op.equalIn (d+1) t (.map m) (.map none)).run P w=.ok m.isNone w:=fun d=>by
   unfold Op.equalIn;cases m<;>simp[Sem.run_bind,run_underlying hu w,Result.andThen_ok]<;>rfl
 ·have hB:binOp .eql t (.map m) (.map none)=(do pure (.bool ((<-Op.equal t (.map m) (.map none))))):=by cases m<;>rfl
  have hG:eqGuard .eql t x y (.map m) (.map none)=pure _:=rfl;simp[execOp,hx,hy,hG,hB,Op.equal,Op.maxDepth,Sem.run_bind,Sem.run_pure,Result.andThen_ok,hE 9999];rfl
 ·have hB:binOp .neq t (.map m) (.map none)=(do pure (.bool (!(<-Op.equal t (.map m) (.map none))))):=by cases m<;>rfl
  have hG:eqGuard .neq t x y (.map m) (.map none)=pure _:=rfl;simp[execOp,hx,hy,hG,hB,Op.equal,Op.maxDepth,Sem.run_bind,Sem.run_pure,Result.andThen_ok,hE 9999];rfl
theorem S4{t}{x y}{b}(h:eq1 P t x y=some b) β d w:P.plainKey t=true/\(Op.equalIn (d+1) t (val β x) (val β y)).run P w=.ok b w:=by
 unfold eq1 at h;split at h
 ·rename_i k hu;refine⟨by simp[Program.plainKey,hu],?_⟩;split at h
  ·rename_i k1 m k2 n hx hy;cases hk:decide (k1=k2)with
   | false=>rw[hk]at h;cases h
   | true=>
    rw[hk]at h;injection h with h;subst h;have hk:=aP hk;subst hk;rw[di hx,di hy];simp[Op.equalIn,run_underlying hu]
  ·cases h
 ·rename_i hu;refine⟨by simp[Program.plainKey,hu],?_⟩;split at h
  ·rename_i s u hx hy;injection h with h;subst h;rw[hY hx,hY hy];simp[Op.equalIn,run_underlying hu]
  ·cases h
 ·rename_i hu;refine⟨by simp[Program.plainKey,hu],?_⟩;split at h
  ·rename_i s u hx hy;injection h with h;subst h;rw[lr hx,lr hy];simp[Op.equalIn,run_underlying hu]
  ·cases h
 ·cases h
theorem EX{xs ys} β d w:∀{fs:List Field} {b:Bool},EW P xs ys fs=some b->(Op.eqFields (d+1) (cu β xs).toArray (cu β ys).toArray fs).run P w=.ok b w
 | [],b,h=>by
  simp[EW,ba]at h;subst h;simp[Op.eqFields]
 | f::r,b,h=>by
  unfold EW at h;cases hn:(f.name== "_")with
  | true=>rw[hn]at h;cases h
  | false=>
   rw[hn,tH]at h;split at h
   ·rename_i x y hx hy;have px:(cu β xs).toArray[f.offset]? =some (val β x):=by simp[cu,hx]
    have py:(cu β ys).toArray[f.offset]? =some (val β y):=by simp[cu,hy]
    have go:∀{b1 c:Bool},eq1 P f.type x y=some b1->EW P xs ys r=some c->(Op.eqFields (d+1) (cu β xs).toArray (cu β ys).toArray (f::r)).run P w=.ok (b1&&c) w:=fun{b1 c} h1 h2=>by
     obtain⟨k1,k2⟩:=S4 h1 β d w;simp only[Op.eqFields,by simpa using hn,ne_eq,not_false_eq_true,if_true,Sem.run_bind,run_part_plain w k1 px,run_part_plain w k1 py,k2,Result.andThen_ok];cases b1
     ·simp
     ·simpa using EX β d w h2
    split at h
    ·rename_i b1 c h1 h2;injection h with h;subst h;have:=go h1 h2;simp[EW,ba]at h2;subst h2;rwa[mO]at this
    ·rename_i b1 c h1 _ h2;injection h with h;subst h;exact go h1 h2
    ·cases h
   ·cases h
theorem S5{op}{t}{fs}{a b v}{r}(hu:P.underlying t=some (.struct fs))(h:Xl P t fs a b=some r)(hv:Xm op r=some v):lW P op t a b v:=by
 unfold Xl at h;split at h
 ·rename_i l m;obtain⟨h0,h⟩:(AR l&&AR m&&!P.stoodInHeld t&&!P.eqGuardType P.depth t)=true/\EW P _ _ fs.toList=some r:=by
   cases hc:(AR l&&AR m&&!P.stoodInHeld t&&!P.eqGuardType P.depth t)with
   | true=>rw[hc]at h;exact⟨rfl,h⟩
   | false=>rw[hc]at h;cases h
  simp at h0;obtain⟨⟨⟨h1,h2⟩,h3⟩,h4⟩:=h0;intro β act x y dst ty t' p af g w hx hy;have ea:∀{l:SV},AR l=true->val β (.agg l)=.agg (cu β _).toArray:=fun hl=>by
   show Value.agg (pB β _).toArray=_;rw[lV β hl]
  rw[ea h1]at hx;rw[ea h2]at hy;have hfs:P.fieldsOf t=fs:=by simp[Program.fieldsOf,hu]
  have hE:(Op.equalIn 10000 t (.agg (cu β (mg l)).toArray) (.agg (cu β (mg m)).toArray)).run P w=.ok r w:=by
   rw[show 10000=9999+1 from rfl,run_equalIn_struct w 9999 t _ _ (by rw[hfs];exact hu) h3,hfs];exact EX β 9998 w h
  have hG:∀op,(eqGuard op t x y (.agg (cu β (mg l)).toArray) (.agg (cu β (mg m)).toArray)).run P w=.ok () w:=fun op=>by
   unfold eqGuard;cases op<;>simp[run_program,h4]
  unfold Xm at hv;split at hv
  ·injection hv with hv;subst hv;have hB:binOp .eql t (.agg (cu β (mg l)).toArray) _=(do pure (.bool (<-Op.equal t _ (.agg (cu β (mg m)).toArray)))):=rfl;simp[execOp,hx,hy,hB,Op.equal,Op.maxDepth,Sem.run_bind,Sem.run_pure,Result.andThen_ok,hE,hG];rfl
  ·injection hv with hv;subst hv;have hB:binOp .neq t (.agg (cu β (mg l)).toArray) _=(do pure (.bool (!(<-Op.equal t _ (.agg (cu β (mg m)).toArray))))):=rfl;simp[execOp,hx,hy,hB,Op.equal,Op.maxDepth,Sem.run_bind,Sem.run_pure,Result.andThen_ok,hE,hG];rfl
  ·cases hv
 ·cases h
theorem S6{op}{t}{a b}(h:Xn P gs op t a b K):∃v,K v/\(gh gs->lW P op t a b v):=by
 unfold Xn at h;split at h
 ·rename_i k m k' n ha hb;have gen:∀{K:SV->Prop},(bif decide (k=k')then cj _ K else False)->∃v,K v/\(gh gs->lW P op t a b v):=fun h=>by
   obtain⟨gU,h1⟩:=dw h;have hk:=aP gU;subst hk;obtain⟨v,hv,hK⟩:=bB h1;exact⟨v,hK,fun _=>ab3 ha hb hv⟩
  split at h
  ·obtain⟨h,hn⟩:=Oj h;exact⟨_,h,fun g β act x y dst ty t' p af gg w hx hy=>abR (by rw[hx,di ha]) (by rw[hy,di hb]) (hn g)⟩
  ·obtain⟨h,hn⟩:=Oj h;exact⟨_,h,fun g β act x y dst ty t' p af gg w hx hy=>abT (by rw[hx,di ha]) (by rw[hy,di hb]) (hn g)⟩
  ·obtain⟨gU,h1⟩:=dw h;have hk:=aP gU;subst hk;obtain⟨h2,hn⟩:=Vy hb h1;exact⟨_,h2,fun g β act x y dst ty t' p af gg w hx hy=>abP (by rw[hx,di ha]) (by rw[hy,di hb]) (hn g)⟩
  ·obtain⟨gU,h1⟩:=dw h;have hk:=aP gU;subst hk;obtain⟨h2,hn⟩:=Vy hb h1;exact⟨_,h2,fun g β act x y dst ty t' p af gg w hx hy=>abQ (by rw[hx,di ha]) (by rw[hy,di hb]) (hn g)⟩
  ·exact gen h
 ·split at h
  ·rename_i s u ha hb;split at h
   ·exact⟨_,h.2,fun g β act x y dst ty t' p af gg w hx hy=>N6 (by rw[hx,hY ha]) (by rw[hy,hY hb]) (gJ h.1 g)⟩
   ·obtain⟨v,hv,hK⟩:=bB h;exact⟨v,hK,fun _=>ab4 ha hb hv⟩
  ·split at h
   ·rename_i s u ha hb hu;split at h
    ·exact⟨_,h,fun g β act x y dst ty t' p af gg w hx hy=>LV hu (by rw[hx,lr ha]) (by rw[hy,lr hb])⟩
    ·exact⟨_,h,fun g β act x y dst ty t' p af gg w hx hy=>LW hu (by rw[hx,lr ha]) (by rw[hy,lr hb])⟩
    ·exact h.elim
   ·split at h
    ·rename_i e hu;cases hb:Oi b with
     | true=>
      rw[hb]at h;obtain⟨v,hv,hK⟩:=bB h;exact⟨v,hK,fun _=>(Vz hu hb hv).1⟩
     | false=>
      rw[hb]at h;obtain⟨ha,h⟩:=dw h;obtain⟨v,hv,hK⟩:=bB h;exact⟨v,hK,fun _=>(Vz hu ha hv).2⟩
    ·rename_i e hu;cases hb:EV b with
     | true=>
      rw[hb]at h;obtain⟨v,hv,hK⟩:=bB h;exact⟨v,hK,fun _=>(VA hu hb hv).1⟩
     | false=>
      rw[hb]at h;obtain⟨ha,h⟩:=dw h;obtain⟨v,hv,hK⟩:=bB h;exact⟨v,hK,fun _=>(VA hu ha hv).2⟩
    ·rename_i fs hu;obtain⟨r,hr,h⟩:=bB h;obtain⟨v,hv,hK⟩:=bB h;exact⟨v,hK,fun _=>S5 hu hr hv⟩
    ·rename_i kk ee hu;obtain⟨v,hv,hK⟩:=bB h;exact⟨v,hK,fun _=>ab5 hu hv⟩
    ·exact h.elim
end
def S7:SV->Bool
 | .agg _=>false
 | .tup _=>false
 | .un=>false
 | .e=>false
 | .c _ _=>false
 | _=>true
def Jg:List SV->Bool
 | []=>true
 | s::r=>S7 s&&Jg r
theorem EY{s}(h:S7 s=true) β:(val β s).oneCell'=true/\(val β s).cells=#[val β s]:=by
 cases s with
 | raw v=>
  have e:val β (.raw v)=v.v:=rfl;refine⟨v.one,?_⟩;obtain⟨v,hv⟩:=v;cases v<;>first | rfl | (simp[Value.oneCell']at hv)
 | _=>first | exact⟨rfl,rfl⟩ | (simp[S7]at h)
theorem Bn:∀{l:List SV},Jg l=true->∀β,(cu β l).all Value.oneCell'=true
 | [],_,_=>rfl
 | s::r,h,β=>by
  simp[Jg,aQ]at h;simp only[cu,bF,List.all_cons,aQ];exact⟨(EY h.1 β).1,Bn h.2 β⟩
def yK:SV->Option (List SV)
 | .agg l=>bif AR l&&Jg (mg l)then some (mg l)else none
 | s=>bif S7 s then some [s]else none
theorem CL{α:Type}{b}{x}{y:α}(h:(bif b then some x else none)=some y):b=true/\x=y:=by
 cases b with
 | true=>exact⟨rfl,by simpa using h⟩
 | false=>cases h
theorem vP{s}{l}(h:yK s=some l) β:(val β s).cells=(cu β l).toArray/\(cu β l).all Value.oneCell'=true:=by
 unfold yK at h;split at h
 ·obtain⟨h1,rfl⟩:=CL h;simp at h1;refine⟨?_,Bn h1.2 β⟩;show(pB β _).toArray=_;rw[lV β h1.1]
 ·obtain⟨h1,rfl⟩:=CL h;obtain⟨h2,h3⟩:=EY h1 β;exact⟨h3,by simp[cu,h2]⟩
def HA:List az->Option (List SV)
 | []=>some []
 | v::r=>match Oe v,HA r with
  | some s,some l=>some (s::l)
  | _,_=>none
theorem xZ β:∀{l:List az} {s:List SV},HA l=some s->cu β s=l
 | [],s,h=>by simp[HA,ba]at h;subst h;rfl
 | v::r,s,h=>by
  simp[HA]at h;split at h
  ·rename_i s' l' h1 h2;simp at h;subst h;have:=xZ β h2;simp only[cu,bF]at this⊢;rw[yI h1,this]
  ·cases h
def spl(cs:List SV)(o:Nat)(vs:List SV):List SV:=cs.take o++vs++cs.drop (o+vs.length)
theorem EZ β cs o vs:cu β (spl cs o vs)=cD (cu β cs) o (cu β vs):=by
 simp[cu,spl,cD,da,mP,qt,bq]
theorem E1{off}:∀vs k cs,off+k+vs.length<=cs.length->
  (vs.zipIdx k).foldl (fun cs x=>cs.setIfInBounds (off+x.2) x.1) cs.toArray=(cD cs (off+k) vs).toArray
 | [],k,cs,_=>by simp[cD]
 | v::vs,k,cs,h=>by
  simp at h;have e:cs.toArray.setIfInBounds (off+k) v=(cs.set (off+k) v).toArray:=by simp
  rw[List.zipIdx_cons,mY];rw[e,E1 vs _ _ (by rw[ii];omega)];simp[cD,bp];rw[show off+_=off+k+1 by omega,bI,oz (by omega),Eo (aY _),Ep (by omega),show off+k+1+vs.length=off+k+(vs.length+1) by omega];simp
def Bo(place:Nat->Option (Nat×Nat)):List SV->List (Nat×SV)->Option (List SV)
 | cells,[]=>some cells
 | cells,(i,v)::rest=>match place i,yK v with
  | some (off,size),some vs=>bif Nat.beq vs.length size&&Nat.ble (off+vs.length) cells.length then Bo place (spl cells off vs) rest else none
  | _,_=>none
theorem yL β {place}:∀{parts:List _} {cells r:List SV},Bo place cells parts=some r->Instr.fill place (cu β cells).toArray (Bm β parts)=some (cu β r).toArray
 | [],cells,r,h=>by simp[Bo,ba]at h;subst h;rfl
 | _::rest,cells,r,h=>by
  simp[Bo]at h;split at h
  ·rename_i off size vs hp hc;cases hb:(Nat.beq vs.length size&&Nat.ble _ cells.length)with
   | false=>rw[hb]at h;cases h
   | true=>
    rw[hb]at h;simp only[aQ]at hb;have h1:=bW hb.1;have h2:=cP hb.2;obtain⟨e1,_⟩:=vP hc β;have ih:=yL β (parts:=rest) (cells:=spl cells off vs) h;rw[EZ]at ih;simp only[Bm,bF,Instr.fill,hp,e1,eh,fk];rw[if_neg (by simp;omega)];have e2:=E1 (off:=off) (cu β vs) 0 (cu β cells) (by rw[fk,fk];omega);rw[fx]at e2;have e3:(cu β vs).toArray.zipIdx.foldl (fun cs x=>cs.setIfInBounds (off+x.2) x.1) (cu β cells).toArray=(cD (cu β cells) off (cu β vs)).toArray:=by
     rw[<-e2];simp
    exact(bm (fun a=>Instr.fill place a _) e3).trans ih
  ·cases h
def Xo(P:Program)(t:TypeId)(parts:List (Nat×SV)):Option (List SV):=
 match P.info? t,P.underlying t with
 | some it,some (.array _ e)=>(match it.zero,P.info? e with
  | some z,some ie=>(match HA z.cells.toList with
   | some zs=>Bo (fun i=>some (i*ie.size,ie.size)) zs parts
   | none=>none)
  | _,_=>none)
 | some it,some (.struct fields)=>(match it.zero,fields.toList.mapM (fun f=>(P.info? f.type).map fun i=>(f.offset,i.size))with
  | some z,some places=>(match HA z.cells.toList with
   | some zs=>Bo (places.toArray[·]?) zs parts
   | none=>none)
  | _,_=>none)
 | _,_=>none
theorem S8{P}{t}{parts}{r}(h:Xo P t parts=some r) β w:(Instr.build t (Bm β parts).toArray).run P w=.ok (.agg (cu β r).toArray) w:=by
 refine run_build w t _ _ ?_;unfold Xo at h;split at h
 ·rename_i it n e h1 h2;split at h
  ·rename_i z ie h3 h4;split at h
   ·rename_i zs h5;have:=yL β h;rw[xZ β h5]at this;simp[Program.built,h1,h2,h3,h4];simpa using this
   ·cases h
  ·cases h
 ·rename_i it fields h1 h2;split at h
  ·rename_i z places h3 h4;split at h
   ·rename_i zs h5;have:=yL β h;rw[xZ β h5]at this;simp[Program.built,h1,h2,h3,h4];simpa using this
   ·cases h
  ·cases h
 ·cases h
def sz(P:Program)(t:TypeId)(n:Nat):Bool:=match P.info? t with
 | some i=>Nat.beq i.size n
 | none=>false
theorem oT{P}{t}{n}(h:sz P t n=true) w:(sizeOf t).run P w=.ok n w:=by
 unfold sz at h;cases hi:P.info? t with
 | none=>rw[hi]at h;cases h
 | some i=>
  rw[hi]at h;rw[<-bW h];simp[sizeOf,typeInfo,hi]
def mQ(P:Program)(t:TypeId):Nat:=match P.info? t with
 | some i=>i.size
 | none=>0
theorem j9{P}{t}{d}(h:P.underlying t=some d) w:(isAgg t).run P w=.ok (lq d) w:=by
 unfold isAgg;rw[Sem.run_bind,run_underlying h,Result.andThen_ok];cases d<;>rfl
def HB(b:SV)(K:Nat->(Prop->Prop)->Prop):Prop:=match b with
 | .il _ n=>bif decide (0<=n)then K n.toNat id else False
 | .int _ n=>∃v,K v fun p=>n=v/\p
 | _=>False
theorem lu{b}{K}(h:HB b K):∃(v:Nat) (e:Prop->Prop) (k:IntKind) (n:Int),K v e/\pC b=some (k,n)/\(∀p,e p->n=v/\p):=by
 unfold HB at h;split at h
 ·rename_i k n;obtain⟨h1,h2⟩:=dw h;have h1:=aP h1;exact⟨_,_,k,n,h2,rfl,fun p hp=>⟨by omega,hp⟩⟩
 ·rename_i k n;obtain⟨v,hv⟩:=h;exact⟨v,_,k,n,hv,rfl,fun p hp=>hp⟩
 ·exact h.elim
def slS(gs:List (Bool×Bool))(s:Sl)(es:Nat)(st:St)(lo hi mx:Option Operand)(K:SV->Prop):Prop:=match lo,hi,mx with
 | some lo,none,none=>cj (st.ev lo) fun a=>HB a fun l e=>gi gs (e (l<=s.n/\s.n<=s.c))/\K (.sl (s.cut l s.n s.c es))
 | none,some hi,none=>cj (st.ev hi) fun a=>HB a fun h e=>gi gs (e (h<=s.c))/\K (.sl (s.cut 0 h s.c es))
 | some lo,some hi,none=>cj (st.ev lo) fun a=>cj (st.ev hi) fun b=>HB a fun l e=>HB b fun h f=>gi gs (e (f (l<=h/\h<=s.c)))/\K (.sl (s.cut l h s.c es))
 | none,some hi,some mx=>cj (st.ev hi) fun b=>cj (st.ev mx) fun c=>HB b fun h e=>HB c fun m f=>gi gs (e (f (h<=m/\m<=s.c)))/\K (.sl (s.cut 0 h m es))
 | some lo,some hi,some mx=>cj (st.ev lo) fun a=>cj (st.ev hi) fun b=>cj (st.ev mx) fun c=>HB a fun l e=>HB b fun h f=>HB c fun m g=>gi gs (e (f (g (l<=h/\h<=m/\m<=s.c))))/\K (.sl (s.cut l h m es))
 | _,_,_=>False
def slT(gs:List (Bool×Bool))(s:ByteArray)(st:St)(lo hi mx:Option Operand)(K:SV->Prop):Prop:=match lo,hi,mx with
 | some lo,none,none=>cj (st.ev lo) fun a=>HB a fun l e=>gi gs (e (l<=s.size))/\K (.str (s.extract l s.size))
 | none,some hi,none=>cj (st.ev hi) fun a=>HB a fun h e=>gi gs (e (h<=s.size))/\K (.str (s.extract 0 h))
 | some lo,some hi,none=>cj (st.ev lo) fun a=>cj (st.ev hi) fun b=>HB a fun l e=>HB b fun h f=>gi gs (e (f (l<=h/\h<=s.size)))/\K (.str (s.extract l h))
 | _,_,_=>False
def E2(P:Program)(b:Builtin)(xs:List Operand)(ts:List TypeId)(st:St)(K:SV->Prop):Prop:=match b,xs,ts with
 | .len,[x],[t]=>cj (st.ev x) fun a=>(match P.underlying t with
  | some (.slice _)=>cj (Jf a) fun s=>K (.int .i64 s.n)
  | some .string=>cj (tY a) fun s=>K (.int .i64 s.size)
  | _=>False)
 | .cap,[x],[t]=>cj (st.ev x) fun a=>(match P.underlying t with
  | some (.slice _)=>cj (Jf a) fun s=>K (.int .i64 s.c)
  | _=>False)
 | .min,[x,y],_=>cj (st.ev x) fun a=>cj (st.ev y) fun b=>cj (pC a) fun p=>cj (pC b) fun q=>K (.int p.1 (if q.2<p.2 then q.2 else p.2))
 | .max,[x,y],_=>cj (st.ev x) fun a=>cj (st.ev y) fun b=>cj (pC a) fun p=>cj (pC b) fun q=>K (.int p.1 (if q.2>p.2 then q.2 else p.2))
 | _,_,_=>False
def nif:TypeDesc->Bool
 | .interface _=>false
 | _=>true
def cvP(P:Program)(gs:List (Bool×Bool))(st:St)(s d:TypeId)(a:SV)(K:SV->Prop):Prop:=match P.underlying s,P.underlying d with
 | some (.int _),some (.int kd)=>cj (pC a) fun p=>K (.int kd (kd.wrap p.2))
 | some .string,some .string=>cj (tY a) fun u=>K (.str u)
 | some (.slice e),some .string=>(match P.underlying e with
  | some (.int .u8)=>cj (Jf a) fun u=>bif st.mv then False else ∃l,gi gs (yD st.w0 u l)/\K (.str ⟨l.toArray⟩)
  | _=>False)
 | _,_=>False
def ldP(P:Program)(gs:List (Bool×Bool))(st:St)(t:TypeId)(a:SV)(K:SV->Prop):Prop:=match P.underlying t with
 | none=>False
 | some d=>(match a with
  | .box i o=>cj (cV st.bx i) fun b=>bif b.ok&&sz P t ((b.cells.drop o).take (mQ P t)).length&&(lq d||Nat.beq ((b.cells.drop o).take (mQ P t)).length 1)then K (L3 (lq d) ((b.cells.drop o).take (mQ P t)))else False
  | .ad p=>bif !st.mv&&sz P t (Oh P 12 t).length&&(lq d||Nat.beq (Oh P 12 t).length 1)then S1 (Oh P 12 t) fun vs=>gi gs (Cells st.w0 p (cu β0 vs))/\K (L3 (lq d) vs)else False
  | _=>False)
def Jh:Operand->Bool
 | .const .nilIface=>true
 | _=>false
def niV:az->Bool
 | .nilIface=>true
 | _=>false
def Ifc(v:az):Prop:=v=.nilIface∨∃t x,v=.iface t x
def niP(P:Program)(gs:List (Bool×Bool))(op:BinOp)(t:TypeId)(a:SV)(K:SV->Prop):Prop:=match a,P.underlying t,op with
 | .raw v,some (.interface _),.eql=>gi gs (Ifc v.v)/\K (.bt (niV v.v))
 | .raw v,some (.interface _),.neq=>gi gs (Ifc v.v)/\K (.bt (!niV v.v))
 | _,_,_=>False
theorem Ol{y}(h:Jh y=true):y=.const .nilIface:=by
 unfold Jh at h;split at h
 ·rfl
 ·cases h
theorem VB{P}{t}{ms}{v}(hu:P.underlying t=some (.interface ms))(hv:Ifc v) w:(Op.equal t v .nilIface).run P w=.ok (niV v) w:=by
 unfold Op.equal Op.maxDepth Op.equalIn;rcases hv with rfl | ⟨tx,x,rfl⟩<;>simp[Sem.run_bind,run_underlying hu,Result.andThen_ok]<;>rfl
theorem E3{P}{op}{t}{x}{v}(hv:Ifc v) w:(eqGuard op t x (.const .nilIface) v .nilIface).run P w=.ok () w:=by
 unfold eqGuard;rcases hv with rfl | ⟨tx,x,rfl⟩<;>first | rfl | simp
theorem Xp{P}{gs}{st}{K}{op}{t ty}{x}{a}(hx:st.ev x=some a)(h:niP P gs op t a K):∃v,K v/\(gh gs->∀β c w,Rep β st c w->∀d t' p af g w',
  (execOp c.eval ⟨d,.binOp op t x (.const .nilIface) ty,t',p,af,g⟩).run P w'=.ok (.value (val β v)) w'):=by
 unfold niP at h;split at h
 ·rename_i v ms hu;refine⟨_,h.2,fun hg β c w hR d t' p af g w'=>?_⟩;have hv:=gJ h.1 hg;have e:c.eval x=v.v:=hR.ev hx;have e2:c.eval (.const .nilIface)=.nilIface:=rfl;have hb:binOp .eql t v.v .nilIface=(do pure (.bool (<-Op.equal t v.v .nilIface))):=by
   rcases hv with h | ⟨tx,x,h⟩<;>rw[h]<;>rfl
  simp[execOp,e,e2,hb,Sem.run_bind,E3 hv,Result.andThen_ok,VB hu hv,Sem.run_pure];rfl
 ·rename_i v ms hu;refine⟨_,h.2,fun hg β c w hR d t' p af g w'=>?_⟩;have hv:=gJ h.1 hg;have e:c.eval x=v.v:=hR.ev hx;have e2:c.eval (.const .nilIface)=.nilIface:=rfl;have hb:binOp .neq t v.v .nilIface=(do pure (.bool (!(<-Op.equal t v.v .nilIface)))):=by
   rcases hv with h | ⟨tx,x,h⟩<;>rw[h]<;>rfl
  simp[execOp,e,e2,hb,Sem.run_bind,E3 hv,Result.andThen_ok,VB hu hv,Sem.run_pure];rfl
 ·exact h.elim
def Ji(p:Addr)(i:Int)(len size:Nat)(q:Addr):Prop:=0<=i/\i<len/\p.add (i.toNat*size)=q
def Xq(n:Int)(F:Nat->Prop):Nat->Prop
 | 0=>True
 | 1=>n=0->F 0
 | j+2=>Xq n F (j+1)/\(n=((j+1))->F (j+1))
theorem Jj{n}{F}:∀{m:Nat},Xq n F m->0<=n->n<m->F n.toNat
 | 0,_,h0,h1=>by omega
 | 1,h,h0,h1=>by
  have e:n=0:=by omega
  subst e;exact h rfl
 | j+2,h,h0,h1=>by
  by_cases e:n=((j+1))
  ·have:=h.2 e;rw[e];exact this
  ·exact Jj h.1 h0 (by omega)
def Xr(P:Program)(gs:List (Bool×Bool))(st:St)(o:Op)(K:SV->Prop):Prop:=match o with
 | .move x=>cj (st.ev x) K
 | .assign x=>cj (st.ev x) K
 | .pick c x y=>cj (st.ev c) fun c=>(match c with
  | .bl true=>cj (st.ev x) K
  | .bl false=>cj (st.ev y) K
  | _=>False)
 | .binOp op t x y _=>cj (st.ev x) fun a=>cj (st.ev y) fun b=>bif Jh y then niP P gs op t a K else Xn P gs op t a b K
 | .unOp .not _ x=>cj (st.ev x) fun a=>(match a with
  | .bl b=>K (.bl (!b))
  | .bt b=>K (.bt (!b))
  | _=>False)
 | .unOp .neg _ x=>cj (st.ev x) fun a=>cj (pC a) fun p=>K (.int p.1 (p.1.wrap (0-p.2)))
 | .convert s d x=>cj (st.ev x) fun a=>cvP P gs st s d a K
 | .extract x i=>cj (st.ev x) fun a=>(match a with
  | .tup l=>bif AR l then cj ((mg l)[i]?) K else False
  | _=>False)
 | .build t parts=>cj (st.Sq parts.toList) fun ps=>cj (Xo P t ps) fun r=>K (.agg (mA r))
 | .makeFunc fn fs cs=>(match fn with
  | .func f=>cj (st.Lp fs.toList) fun a=>cj (st.Lp cs.toList) fun b=>K (.fn f (mA a) (mA b))
  | _=>False)
 | .makeInterface t x=>cj (st.ev x) fun a=>cj (P.underlying t) fun d=>bif nif d&&cln (fun _=>false) a then K (.raw ⟨.iface t (val β0 a),rfl⟩)else False
 | .nilCheck x=>cj (st.ev x) fun a=>(match a with
  | .ad p=>K (.ad p)
  | .box i o=>K (.box i o)
  | .ptr p=>∃q,gi gs (p=some q)/\K (.ad q)
  | .fn f .e cs=>K (.fn f .e cs)
  | _=>False)
 | .fieldAddr s x k=>cj (st.ev x) fun a=>(match P.underlying s with
  | some (.struct fs)=>cj (fs[k]?) fun f=>bif Nat.ble 1 (mQ P f.type)then(match a with
   | .ad p=>K (.ad (p.add f.offset))
   | .box i o=>K (.box i (o+f.offset))
   | _=>False)else False
  | _=>False)
 | .field t x k=>cj (st.ev x) fun a=>(match a,P.underlying t with
  | .agg l,some (.struct fs)=>cj (fs[k]?) fun f=>cj (P.underlying f.type) fun d=>bif AR l&&sz P f.type (((mg l).drop f.offset).take (mQ P f.type)).length&&(lq d||Nat.beq (((mg l).drop f.offset).take (mQ P f.type)).length 1)
   then K (L3 (lq d) (((mg l).drop f.offset).take (mQ P f.type)))else False
  | _,_=>False)
 | .indexAddr t x i=>cj (st.ev x) fun a=>cj (st.ev i) fun j=>cj (pC j) fun n=>(match P.underlying t with
  | some (.slice e)=>cj (Jf a) fun s=>bif (P.info? e).isSome then ∃q,gi gs (dL s n.2 (mQ P e) q)/\K (.ad q)else False
  | some (.array len e)=>bif (P.info? e).isSome then(match a,j with
   | .box b o,.il _ n=>bif decide (0<=n)&&decide (n<len)then K (.box b (o+n.toNat*mQ P e))else False
   | .ad p,.il _ n=>bif decide (0<=n)&&decide (n<len)then K (.ad (p.add (n.toNat*mQ P e)))else False
   | .ad p,_=>∃q,gi gs (Ji p n.2 len (mQ P e) q)/\K (.ad q)
   | .box b o,_=>bif Nat.ble len 8 then(0<=n.2/\n.2<len)/\Xq n.2 (fun j=>K (.box b (o+j*mQ P e))) len else False
   | _,_=>False)else False
  | _=>False)
 | .load t x=>cj (st.ev x) fun a=>ldP P gs st t a K
 | .index t x i=>cj (st.ev x) fun a=>cj (st.ev i) fun j=>cj (pC j) fun n=>(match P.underlying t with
  | some .string=>cj (tY a) fun s=>∃c,gi gs (0<=n.2/\s[n.2.toNat]? =some c)/\K (.int .u8 c.toNat)
  | _=>False)
 | .slice t x lo hi mx=>cj (st.ev x) fun a=>(match P.underlying t with
  | some (.slice e)=>cj (Jf a) fun s=>bif (P.info? e).isSome then slS gs s (mQ P e) st lo hi mx K else False
  | some .string=>cj (tY a) fun s=>slT gs s st lo hi mx K
  | _=>False)
 | .call c=>(match c.callee with
  | .builtin b=>E2 P b c.args.toList c.argTypes.toList st K
  | _=>False)
 | _=>False
def mem:Op->Bool
 | .load _ _=>true
 | .convert _ _ _=>true
 | _=>false
def Y(P:Program)(st:St)(o:Op)(v:SV):Prop:=∀β a w,Rep β st a w->∀d t p af g w',(mem o=true->w'.heap=w.heap)->
 (execOp a.eval ⟨d,o,t,p,af,g⟩).run P w'=.ok (.value (val β v)) w'
theorem ka{P}{t}(h:(P.info? t).isSome=true) w:(sizeOf t).run P w=.ok (mQ P t) w:=by
 unfold mQ;cases hi:P.info? t with
 | none=>rw[hi]at h;cases h
 | some i=>simp[sizeOf,typeInfo,hi]
theorem CM b o n:(⟨b,o,none⟩:Addr).add n=⟨b,o+n,none⟩:=by unfold Addr.add;split<;>simp_all
theorem oH{d}(h:lq d=true) β l:val β (L3 (lq d) l)=.agg (cu β l).toArray:=by
 rw[h];show Value.agg (pB β _).toArray=_;rw[qx]
theorem yM{l:List SV}(h:Nat.beq l.length 1=true):∃s,l=[s]:=by
 have:=bW h
 match l,this with
 | [s],_=>exact⟨s,rfl⟩
section
variable {P:Program} {gs:List (Bool×Bool)} {st:St} {K:SV->Prop}
theorem Xs{t}{x}{a}(hx:st.ev x=some a)(h:ldP P gs st t a K):∃v,K v/\(gh gs->Y P st (.load t x) v):=by
 unfold ldP at h;split at h
 ·exact h.elim
 ·rename_i d hu;split at h
  ·rename_i i o;obtain⟨b,hb,h⟩:=bB h;obtain⟨h1,h2⟩:=dw h;simp only[aQ,cp]at h1;obtain⟨⟨nE,hsz⟩,kr⟩:=h1;refine⟨_,h2,fun _ β act w hR dst t' p af g w' hh=>?_⟩;have hB:=(hR.bx i b hb nE).blk;have hB':Blk w' (β i) b.ty (cu β b.cells):=by unfold Blk at hB⊢;rw[hh rfl];exact hB
   have LC:=hR.ev hx;generalize hl:(b.cells.drop o).take _=l at*
   have hC:Cells w' _ (cu β l):=hB'.DY o _ (by
    rw[fk,<-hl];simp only[cu,mP,qt];rw[dd,pv];simp only[cG,bq];omega)
   rcases kr with ra | kr
   ·rw[oH ra];have:=j9 (P:=P) hu w';rw[ra]at this;exact sJ this (oT hsz w') (fk β l) LC hC
   ·cases ra:lq d with
    | true=>
     have e:=oH ra β l;rw[ra]at e;rw[e];have:=j9 (P:=P) hu w';rw[ra]at this;exact sJ this (oT hsz w') (fk β l) LC hC
    | false=>
     obtain⟨s,rfl⟩:=yM kr;have:=j9 (P:=P) hu w';rw[ra]at this;exact Cw this LC (Cells.one hC)
  ·rename_i ad;obtain⟨h1,h2⟩:=dw h;simp only[aQ,cp,dy]at h1;obtain⟨⟨rB,hsz⟩,kr⟩:=h1;obtain⟨vs,⟨hF,hK⟩,fu,qf⟩:=rD h2;refine⟨_,hK,fun hg β act w hR dst t' p af g w' hh=>?_⟩;have hw:=hR.still rB;subst hw;have hC:Cells w' ad (cu β vs):=by
    rw[gH (β:=β) (β':=β0) (g:=fun _=>false) (fun i h=>(by cases h)) vs (qf _)];exact(gJ hF hg).keep (by rw[hh rfl])
   have LC:=hR.ev hx;rw[<-fu]at hsz kr;rcases kr with ra | kr
   ·rw[oH ra];have:=j9 (P:=P) hu w';rw[ra]at this;exact sJ this (oT hsz w') (fk β vs) LC hC
   ·cases ra:lq d with
    | true=>
     have e:=oH ra β vs;rw[ra]at e;rw[e];have:=j9 (P:=P) hu w';rw[ra]at this;exact sJ this (oT hsz w') (fk β vs) LC hC
    | false=>
     obtain⟨s,rfl⟩:=yM kr;have:=j9 (P:=P) hu w';rw[ra]at this;exact Cw this LC (Cells.one hC)
  ·exact h.elim
theorem Xt{s d}{x}{a}(hx:st.ev x=some a)(h:cvP P gs st s d a K):∃v,K v/\(gh gs->Y P st (.convert s d x) v):=by
 unfold cvP at h;split at h
 ·rename_i ks kd h1 h2;obtain⟨⟨k,n⟩,hp,h⟩:=bB h;exact⟨_,h,fun _ β act w hR dst t' p af g w' hh=>Bg (run_underlying h1 w') (run_underlying h2 w') ((hR.ev hx).trans (di hp β))⟩
 ·rename_i h1 h2;obtain⟨u,hp,h⟩:=bB h;exact⟨_,h,fun _ β act w hR dst t' p af g w' hh=>Bh (run_underlying h1 w') (run_underlying h2 w') ((hR.ev hx).trans (hY hp β))⟩
 ·rename_i e h1 h2;split at h
  ·rename_i h3;obtain⟨u,hp,h⟩:=bB h;cases hm:st.mv with
   | true=>rw[hm]at h;exact h.elim
   | false=>
    rw[hm]at h;obtain⟨l,hF,hK⟩:=h;refine⟨_,hK,fun hg β act w hR dst t' p af g w' hh=>?_⟩;have hw:=hR.still hm;subst hw;exact yF h1 h3 h2 ((hR.ev hx).trans (jD hp β)) (Hw _ _ (by rw[hh rfl]) (gJ hF hg))
  ·exact h.elim
 ·exact h.elim
theorem Xu{b}{xs}{ts}(h:E2 P b xs ts st K):∃v,K v/\(gh gs->Y P st (.call ⟨.builtin b,xs.toArray,ts.toArray⟩) v):=by
 unfold E2 at h;split at h
 ·obtain⟨a,hx,h⟩:=bB h;split at h
  ·rename_i hu;obtain⟨s,hs,h⟩:=bB h;exact⟨_,h,fun _ β act w hR dst t' p af g w' hh=>abO (run_underlying hu w') ((hR.ev hx).trans (jD hs β))⟩
  ·rename_i hu;obtain⟨s,hs,h⟩:=bB h;exact⟨_,h,fun _ β act w hR dst t' p af g w' hh=>N7 (run_underlying hu w') ((hR.ev hx).trans (hY hs β))⟩
  ·exact h.elim
 ·obtain⟨a,hx,h⟩:=bB h;split at h
  ·rename_i hu;obtain⟨s,hs,h⟩:=bB h;exact⟨_,h,fun _ β act w hR dst t' p af g w' hh=>abU (run_underlying hu w') ((hR.ev hx).trans (jD hs β))⟩
  ·exact h.elim
 ·obtain⟨a,hx,h⟩:=bB h;obtain⟨b,hy,h⟩:=bB h;obtain⟨⟨k,m⟩,hp,h⟩:=bB h;obtain⟨_,hq,h⟩:=bB h;exact⟨_,h,fun _ β act w hR dst t' p af g w' hh=>abV ((hR.ev hx).trans (di hp β)) ((hR.ev hy).trans (di hq β))⟩
 ·obtain⟨a,hx,h⟩:=bB h;obtain⟨b,hy,h⟩:=bB h;obtain⟨⟨k,m⟩,hp,h⟩:=bB h;obtain⟨_,hq,h⟩:=bB h;exact⟨_,h,fun _ β act w hR dst t' p af g w' hh=>abW ((hR.ev hx).trans (di hp β)) ((hR.ev hy).trans (di hq β))⟩
 ·exact h.elim
theorem Xv{t e}{x}{lo hi mx}{a}{s}(hu:P.underlying t=some (.slice e))(Au:(P.info? e).isSome=true)(hx:st.ev x=some a)(hs:Jf a=some s)(h:slS gs s (mQ P e) st lo hi mx K):∃v,K v/\(gh gs->Y P st (.slice t x lo hi mx) v):=by
 unfold slS at h;split at h
 ·obtain⟨a1,h1,h⟩:=bB h;obtain⟨l,e1,k1,n1,⟨hF,hK⟩,o1,u1⟩:=lu h;refine⟨_,hK,fun hg β act w hR dst t' p af g w' hh=>?_⟩;obtain⟨rfl,f1,f2⟩:=u1 _ (gJ hF hg);exact Ho (run_underlying hu w') (ka Au w') ((hR.ev hx).trans (jD hs β)) ((hR.ev h1).trans (di o1 β)) f1 f2 (aY _)
 ·obtain⟨a1,h1,h⟩:=bB h;obtain⟨l,e1,k1,n1,⟨hF,hK⟩,o1,u1⟩:=lu h;refine⟨_,hK,fun hg β act w hR dst t' p af g w' hh=>?_⟩;obtain⟨rfl,f1⟩:=u1 _ (gJ hF hg);exact Hp (run_underlying hu w') (ka Au w') ((hR.ev hx).trans (jD hs β)) ((hR.ev h1).trans (di o1 β)) (bA _) f1 (aY _)
 ·obtain⟨a1,h1,h⟩:=bB h;obtain⟨a2,h2,h⟩:=bB h;obtain⟨l,e1,k1,n1,h,o1,u1⟩:=lu h;obtain⟨m,e2,k2,n2,⟨hF,hK⟩,o2,u2⟩:=lu h;refine⟨_,hK,fun hg β act w hR dst t' p af g w' hh=>?_⟩;obtain⟨rfl,f1⟩:=u1 _ (gJ hF hg);obtain⟨rfl,f1,f2⟩:=u2 _ f1;exact Hq (run_underlying hu w') (ka Au w') ((hR.ev hx).trans (jD hs β)) ((hR.ev h1).trans (di o1 β)) ((hR.ev h2).trans (di o2 β)) f1 f2 (aY _)
 ·obtain⟨a1,h1,h⟩:=bB h;obtain⟨a2,h2,h⟩:=bB h;obtain⟨l,e1,k1,n1,h,o1,u1⟩:=lu h;obtain⟨m,e2,k2,n2,⟨hF,hK⟩,o2,u2⟩:=lu h;refine⟨_,hK,fun hg β act w hR dst t' p af g w' hh=>?_⟩;obtain⟨rfl,f1⟩:=u1 _ (gJ hF hg);obtain⟨rfl,f1,f2⟩:=u2 _ f1;exact Hr (run_underlying hu w') (ka Au w') ((hR.ev hx).trans (jD hs β)) ((hR.ev h1).trans (di o1 β)) ((hR.ev h2).trans (di o2 β)) (bA _) f1 f2
 ·obtain⟨a1,h1,h⟩:=bB h;obtain⟨a2,h2,h⟩:=bB h;obtain⟨a3,h3,h⟩:=bB h;obtain⟨l,e1,k1,n1,h,o1,u1⟩:=lu h;obtain⟨m,e2,k2,n2,h,o2,u2⟩:=lu h;obtain⟨q,e3,k3,n3,⟨hF,hK⟩,o3,u3⟩:=lu h;refine⟨_,hK,fun hg β act w hR dst t' p af g w' hh=>?_⟩;obtain⟨rfl,f1⟩:=u1 _ (gJ hF hg);obtain⟨rfl,f1⟩:=u2 _ f1;obtain⟨rfl,f1,f2,f3⟩:=u3 _ f1;exact Hs (run_underlying hu w') (ka Au w') ((hR.ev hx).trans (jD hs β)) ((hR.ev h1).trans (di o1 β)) ((hR.ev h2).trans (di o2 β)) ((hR.ev h3).trans (di o3 β)) f1 f2 f3
 ·exact h.elim
theorem Xw{t}{x}{lo hi mx}{a}{s}(hu:P.underlying t=some .string)(hx:st.ev x=some a)(hs:tY a=some s)(h:slT gs s st lo hi mx K):∃v,K v/\(gh gs->Y P st (.slice t x lo hi mx) v):=by
 unfold slT at h;split at h
 ·obtain⟨a1,h1,h⟩:=bB h;obtain⟨l,e1,k1,n1,⟨hF,hK⟩,o1,u1⟩:=lu h;refine⟨_,hK,fun hg β act w hR dst t' p af g w' hh=>?_⟩;obtain⟨rfl,f1⟩:=u1 _ (gJ hF hg);exact Cy (run_underlying hu w') ((hR.ev hx).trans (hY hs β)) ((hR.ev h1).trans (di o1 β)) f1 (aY _)
 ·obtain⟨a1,h1,h⟩:=bB h;obtain⟨l,e1,k1,n1,⟨hF,hK⟩,o1,u1⟩:=lu h;refine⟨_,hK,fun hg β act w hR dst t' p af g w' hh=>?_⟩;obtain⟨rfl,f1⟩:=u1 _ (gJ hF hg);exact Cz (run_underlying hu w') ((hR.ev hx).trans (hY hs β)) ((hR.ev h1).trans (di o1 β)) (bA _) f1
 ·obtain⟨a1,h1,h⟩:=bB h;obtain⟨a2,h2,h⟩:=bB h;obtain⟨l,e1,k1,n1,h,o1,u1⟩:=lu h;obtain⟨m,e2,k2,n2,⟨hF,hK⟩,o2,u2⟩:=lu h;refine⟨_,hK,fun hg β act w hR dst t' p af g w' hh=>?_⟩;obtain⟨rfl,f1⟩:=u1 _ (gJ hF hg);obtain⟨rfl,f1,f2⟩:=u2 _ f1;exact CA (run_underlying hu w') ((hR.ev hx).trans (hY hs β)) ((hR.ev h1).trans (di o1 β)) ((hR.ev h2).trans (di o2 β)) f1 f2
 ·exact h.elim
theorem S9{t}{d}{l:List az}{off n}(hu:P.underlying t=some d)(hn:sz P t n=true)(ra:lq d=true) w:(part t l.toArray off).run P w=.ok (.agg ((l.drop off).take n).toArray) w:=by
 have h:=j9 (P:=P) hu w;rw[ra]at h;unfold part;simp only[Sem.run_bind,h,Result.andThen_ok,if_true,oT hn w,Sem.run_pure];rw[List.extract_toArray,List.extract_eq_take_drop,dY]
theorem Om{t}{d}{l:List az}{off}{v}(hu:P.underlying t=some d)(ra:lq d=false)(hv:l[off]? =some v) w:(part t l.toArray off).run P w=.ok v w:=by
 have h:=j9 (P:=P) hu w;rw[ra]at h;unfold part;simp[Sem.run_bind,h,Result.andThen_ok];simp[hv]
theorem HC{o:Op}(h:Xr P gs st o K):∃v,K v/\(gh gs->Y P st o v):=by
 unfold Xr at h;split at h
 ·obtain⟨v,hx,hK⟩:=bB h;exact⟨v,hK,fun _ β act w hR dst t' p af g w' hh=>by simp only[execOp,hR.ev hx,Sem.run_pure]⟩
 ·obtain⟨v,hx,hK⟩:=bB h;exact⟨v,hK,fun _ β act w hR dst t' p af g w' hh=>by simp only[execOp,hR.ev hx,Sem.run_pure]⟩
 ·obtain⟨c,hc,h⟩:=bB h;split at h
  ·obtain⟨v,hx,hK⟩:=bB h;exact⟨v,hK,fun _ β act w hR dst t' p af g w' hh=>SP (hR.ev hc) (hR.ev hx)⟩
  ·obtain⟨v,hx,hK⟩:=bB h;exact⟨v,hK,fun _ β act w hR dst t' p af g w' hh=>SQ (hR.ev hc) (hR.ev hx)⟩
  ·exact h.elim
 ·rename_i op t x y ty;obtain⟨a,hx,h⟩:=bB h;obtain⟨b,hy,h⟩:=bB h;cases hn:Jh y with
  | true=>
   rw[hn]at h;have e:=Ol hn;subst e;obtain⟨v,hK,hr⟩:=Xp hx h;exact⟨v,hK,fun hg β act w hR dst t' p af g w' hh=>hr hg β act w hR _ _ _ _ _ _⟩
  | false=>
  rw[hn]at h;obtain⟨v,hK,hr⟩:=S6 h;exact⟨v,hK,fun hg β act w hR dst t' p af g w' hh=>hr hg β act _ _ _ _ _ _ _ _ _ (hR.ev hx) (hR.ev hy)⟩
 ·obtain⟨a,hx,h⟩:=bB h;split at h
  ·exact⟨_,h,fun _ β act w hR dst t' p af g w' hh=>by simp only[execOp,hR.ev hx];rfl⟩
  ·exact⟨_,h,fun _ β act w hR dst t' p af g w' hh=>by simp only[execOp,hR.ev hx];rfl⟩
  ·exact h.elim
 ·obtain⟨a,hx,h⟩:=bB h;obtain⟨⟨k,n⟩,hp,h⟩:=bB h;exact⟨_,h,fun _ β act w hR dst t' p af g w' hh=>by simp only[execOp,hR.ev hx,di hp];rfl⟩
 ·obtain⟨a,hx,h⟩:=bB h;exact Xt hx h
 ·rename_i x i;obtain⟨a,hx,h⟩:=bB h;split at h
  ·rename_i l;obtain⟨h1,h⟩:=dw h;obtain⟨v,hv,hK⟩:=bB h;refine⟨v,hK,fun _ β act w hR dst t' p af g w' hh=>?_⟩;have e:=(hR.ev hx).trans (by
    show Value.tuple (pB β l).toArray=_;rw[lV β h1])
   have e2:(cu β (mg l))[i]? =some (val β v):=by rw[cu,bZ,hv];rfl
   simp only[execOp,e,Instr.extract];simp[e2]
  ·exact h.elim
 ·rename_i t parts;obtain⟨ps,hp,h⟩:=bB h;obtain⟨r,hr,hK⟩:=bB h;refine⟨_,hK,fun _ β act w hR dst t' p af g w' hh=>?_⟩;have e:val β (.agg (mA r))=.agg (cu β r).toArray:=by
   show Value.agg (pB β (mA r)).toArray=_;rw[qx]
  rw[e];obtain⟨pl⟩:=parts;exact SR (hR.Sq hp) (S8 hr β w')
 ·rename_i fn fs cs;split at h
  ·rename_i f;obtain⟨a,ha,h⟩:=bB h;obtain⟨b,hb,hK⟩:=bB h;refine⟨_,hK,fun _ β act w hR dst t' p af g w' hh=>?_⟩;obtain⟨cl⟩:=cs;have:=Hm (P:=P) (w:=w') (dst:=dst) (t':=t') (p:=p) (af:=af) (g:=g) (fn:=.func f) (hR.Lp ha) (hR.Lp hb);rw[<-qx,<-qx]at this;exact this
  ·exact h.elim
 ·obtain⟨a,hx,h⟩:=bB h;obtain⟨d,hu,h⟩:=bB h;obtain⟨h1,hK⟩:=dw h;simp at h1;refine⟨_,hK,fun _ β act w hR dst t' p af g w' hh=>?_⟩;have e:val β a=val β0 a:=iz (g:=fun _=>false) (fun i h=>(by cases h)) a h1.2;exact SU (run_underlying hu w') (by unfold nif at h1;cases d<;>first | rfl | exact h1.1) ((hR.ev hx).trans e)
 ·obtain⟨a,hx,h⟩:=bB h;split at h
  ·exact⟨_,h,fun _ β act w hR dst t' p af g w' hh=>N2 (hR.ev hx)⟩
  ·exact⟨_,h,fun _ β act w hR dst t' p af g w' hh=>N2 (hR.ev hx)⟩
  ·obtain⟨q,hF,hK⟩:=h;refine⟨_,hK,fun hg β act w hR dst t' p af g w' hh=>N2 ((hR.ev hx).trans ?_)⟩;have:=gJ hF hg;subst this;rfl
  ·exact⟨_,h,fun _ β act w hR dst t' p af g w' hh=>by
    have e:=hR.ev hx;simp only[execOp,e,Sem.run_pure,val,pB,yA]⟩
  ·exact h.elim
 ·obtain⟨a,hx,h⟩:=bB h;split at h
  ·rename_i fs hu;obtain⟨f,hf,h⟩:=bB h;obtain⟨hs,h⟩:=dw h;have hs:=cP hs;have hso:(P.info? f.type).isSome=true:=by
    unfold mQ at hs;split at hs
    ·rename_i hi;rw[hi];rfl
    ·omega
   obtain⟨m,hm⟩:∃m,mQ P f.type=m+1:=⟨mQ P f.type-1,by omega⟩
   split at h
   ·exact⟨_,h,fun _ β act w hR dst t' p af g w' hh=>Jc (run_underlying hu w') hf (by rw[ka hso,hm]) (hR.ev hx) rfl⟩
   ·exact⟨_,h,fun _ β act w hR dst t' p af g w' hh=>Jc (run_underlying hu w') hf (by rw[ka hso,hm]) (hR.ev hx) (CM _ _ _)⟩
   ·exact h.elim
  ·exact h.elim
 ·obtain⟨a,hx,h⟩:=bB h;split at h
  ·rename_i l fs hu;obtain⟨f,hf,h⟩:=bB h;obtain⟨d,hd,h⟩:=bB h;obtain⟨h1,hK⟩:=dw h;simp only[aQ,cp]at h1;obtain⟨⟨hl,hsz⟩,kr⟩:=h1;refine⟨_,hK,fun _ β act w hR dst t' p af g w' hh=>?_⟩;have e:=(hR.ev hx).trans (by
    show Value.agg (pB β l).toArray=_;rw[lV β hl])
   have hv:cu β (((mg l).drop f.offset).take (mQ P f.type))=((cu β (mg l)).drop f.offset).take (mQ P f.type):=by
    simp only[cu,mP,qt]
   have key:(part f.type (cu β (mg l)).toArray f.offset).run P w'=.ok (val β (L3 (lq d) (((mg l).drop f.offset).take (mQ P f.type)))) w':=by
    cases ra:lq d with
    | true=>
     have e2:=oH ra β (((mg l).drop f.offset).take (mQ P f.type));rw[ra]at e2;rw[e2,hv];rw[S9 (l:=cu β (mg l)) (off:=f.offset) hd hsz ra w'];congr 3;rw[pv];simp only[dd,cG,fk];omega
    | false=>
     rcases kr with kr | kr
     ·rw[ra]at kr;cases kr
     obtain⟨s,hs⟩:=yM kr;rw[hs];refine Om hd ra ?_ w';have h4:(((mg l).drop f.offset).take (mQ P f.type))[0]? =some s:=by rw[hs];rfl
     rw[List.getElem?_take]at h4;split at h4
     ·rw[jZ,fx]at h4;rw[cu,bZ,h4];rfl
     ·cases h4
   simp only[execOp,e,Instr.field,Sem.run_bind,run_underlying hu,Result.andThen_ok,hf,asAgg,Sem.run_pure,key]
  ·exact h.elim
 ·obtain⟨a,hx,h⟩:=bB h;obtain⟨j,hj,h⟩:=bB h;obtain⟨⟨k,n⟩,hn,h⟩:=bB h;split at h
  ·rename_i e hu;obtain⟨s,hs,h⟩:=bB h;obtain⟨hi,h⟩:=dw h;obtain⟨q,hF,hK⟩:=h;exact⟨_,hK,fun hg β act w hR dst t' p af g w' hh=>N3 (run_underlying hu w') (ka hi w') ((hR.ev hx).trans (jD hs β)) ((hR.ev hj).trans (di hn β)) (gJ hF hg)⟩
  ·rename_i len e hu;obtain⟨hi,h⟩:=dw h;split at h
   ·obtain⟨h1,hK⟩:=dw h;simp at h1;exact⟨_,hK,fun hg β act w hR dst t' p af g w' hh=>uD (run_underlying hu w') (ka hi w') (hR.ev hx) (hR.ev hj) h1.1 h1.2 (CM _ _ _)⟩
   ·obtain⟨h1,hK⟩:=dw h;simp at h1;exact⟨_,hK,fun hg β act w hR dst t' p af g w' hh=>uD (run_underlying hu w') (ka hi w') (hR.ev hx) (hR.ev hj) h1.1 h1.2 rfl⟩
   ·obtain⟨q,hF,hK⟩:=h;exact⟨_,hK,fun hg β act w hR dst t' p af g w' hh=>uD (run_underlying hu w') (ka hi w') (hR.ev hx) ((hR.ev hj).trans (di hn β)) (gJ hF hg).1 (gJ hF hg).2.1 (gJ hF hg).2.2⟩
   ·obtain⟨_,⟨h0,h1⟩,hK⟩:=dw h;exact⟨_,Jj hK h0 h1,fun hg β act w hR dst t' p af g w' hh=>uD (run_underlying hu w') (ka hi w') (hR.ev hx) ((hR.ev hj).trans (di hn β)) h0 h1 (CM _ _ _)⟩
   ·exact h.elim
  ·exact h.elim
 ·obtain⟨a,hx,h⟩:=bB h;exact Xs hx h
 ·obtain⟨a,hx,h⟩:=bB h;obtain⟨j,hj,h⟩:=bB h;obtain⟨⟨k,n⟩,hn,h⟩:=bB h;split at h
  ·rename_i hu;obtain⟨s,hs,h⟩:=bB h;obtain⟨c,hF,hK⟩:=h;exact⟨_,hK,fun hg β act w hR dst t' p af g w' hh=>Hn (run_underlying hu w') ((hR.ev hx).trans (hY hs β)) ((hR.ev hj).trans (di hn β)) (gJ hF hg).1 (gJ hF hg).2⟩
  ·exact h.elim
 ·obtain⟨a,hx,h⟩:=bB h;split at h
  ·rename_i e hu;obtain⟨s,hs,h⟩:=bB h;obtain⟨hi,h⟩:=dw h;exact Xv hu hi hx hs h
  ·rename_i hu;obtain⟨s,hs,h⟩:=bB h;exact Xw hu hx hs h
  ·exact h.elim
 ·rename_i c;obtain⟨callee,⟨xs⟩,⟨ts⟩⟩:=c;split at h
  ·rename_i b hb;subst hb;exact Xu h
  ·exact h.elim
 ·exact h.elim
end
structure UN (β:Nat->Nat) (n:Nat) (fr:List (Nat×Nat×SV)) (D:List Deferred) (a:Act):Prop where
 sz:a.tmps.size=n
 df:a.defers=D
 at_:∀i p,dK fr i=some p->i<n->a.tmps[i]? =some (val β p.2)
theorem qy{β}{n}{fr}{D}{a}(h:UN β n fr D a):∃us,a=frD n us (cv β fr) D:=by
 refine⟨fun i=>(a.tmps[i]?).getD undef,?_⟩;obtain⟨tmps,df⟩:=a;obtain⟨h1,h2,h3⟩:=h;dsimp only at h1 h2 h3;congr 1;apply Array.ext';apply jh;intro i;by_cases hi:i<n
 ·rw[lU _ _ _ _ _ hi,bM];cases hl:dK fr i with
  | none=>
   rw[CK (l:=cv β fr) (by rw[kD,hl];rfl)];have:i<tmps.size:=by omega
   simp[this]
  | some p=>
   rw[sK (l:=cv β fr) (v:=val β p.2) (by rw[kD,hl];rfl)];have:=h3 i p hl hi;simpa using this
 ·rw[du (by simp;omega),du (by rw[nc];exact qp hi)]
theorem Ta{β}{n}{fr}{D}{us}:UN β n fr D (frD n us (cv β fr) D):=by
 refine⟨by simp[frD,nc],rfl,fun i p hl hi=>?_⟩;simp[frD,iM];rw[lU _ _ _ _ _ hi,bM,sK (l:=cv β fr) (v:=val β p.2) (by rw[kD,hl];rfl)]
theorem Rep.ok{β}{st}{a}{w}(h:Rep β st a w):UN β st.n st.fr (Vx st.df) a:=by
 obtain⟨us,rfl⟩:=h.fr;exact Ta
def Xx(st:St)(ops:List Oper)(j:Nat):Option (Nat×SV):=match gM ops j with
 | some o=>(match o.dst with
  | some d=>(st.get d).map fun s=>(d,s)
  | none=>none)
 | none=>none
theorem yN{st}{ops}{j d}{s}(h:Xx st ops j=some (d,s)):∃oj,gM ops j=some oj/\oj.dst=some d/\st.get d=some s:=by
 unfold Xx at h;split at h
 ·rename_i o ho;split at h
  ·rename_i e he;cases hg:st.get e with
   | none=>rw[hg]at h;cases h
   | some u=>
    rw[hg]at h;obtain⟨rfl,rfl⟩:=h;exact⟨o,ho,he,hg⟩
  ·cases h
 ·cases h
section
variable {β:Nat->Nat} {st:St} {a:Act} {w:ay} {ops:List Oper} {o:Oper} {j d:Nat} {want b:Bool}
theorem pD(hR:Rep β st a w)(hg:o.guard=some (j,want)){s}(ht:Xx st ops j=some (d,s))(hs:val β s=.bool b):Region.wanted o (yielded ops.toArray a.tmps)=(b==want):=by
 obtain⟨oj,h1,h2,h3⟩:=yN ht;obtain⟨us,rfl⟩:=hR.fr;exact wtF hg h1 h2 (by rw[<-hs];exact St.evO β h3) rfl
theorem vQ(hR:Rep β st a w)(hg:o.guard=some (j,want))(ht:Xx st ops j=some (d,.un)):Region.wanted o (yielded ops.toArray a.tmps)=false:=by
 obtain⟨oj,h1,h2,h3⟩:=yN ht;obtain⟨us,rfl⟩:=hR.fr;exact wuF hg h1 h2 (St.evO β (x:=.tmp d) (s:=.un) h3)
theorem Rep.set(hR:Rep β st a w){s s'}(hg:st.get d=some s)(hv:val β s=val β s'):Rep β (st.put (some d) s') a w:=by
 refine⟨qy ⟨hR.ok.sz,hR.ok.df,fun i p hl hi=>?_⟩,hR.bx,hR.ne,hR.only,hR.still⟩;simp[St.put,dK]at hl;cases hb:Nat.beq d i with
 | true=>
  rw[hb]at hl;simp at hl;subst hl;have:=bW hb;subst this;unfold St.get at hg;cases bX:Nat.blt d st.n with
  | false=>rw[bX]at hg;cases hg
  | true=>
   rw[bX,nI]at hg;cases hq:dK st.fr d with
   | none=>rw[hq]at hg;cases hg
   | some q=>
    rw[hq]at hg;simp at hg;rw[hR.ok.at_ d q hq hi,hg,hv]
 | false=>rw[hb]at hl;exact hR.ok.at_ i p (by simpa using hl) hi
end
section
variable {P:Program} {ops:List Oper} {w:ay}
def uK(P:Program)(ops:List Oper)(w:ay):List Oper->Act->Act->Prop
 | [],a,a'=>a'=a
 | o::r,a,a'=>(Region.wanted o (yielded ops.toArray a.tmps)=true/\∃v,(∀w',w'.heap=w.heap->(execOp a.eval o).run P w'=.ok (.value v) w')/\uK P ops w r (a.put o.dst v) a')∨
  (Region.wanted o (yielded ops.toArray a.tmps)=false/\uK P ops w r (a.put o.dst undef) a')
theorem yO:∀{l m:List Oper} {a b c:Act},uK P ops w l a b->uK P ops w m b c->uK P ops w (l++m) a c
 | [],_,_,_,_,h,k=>by
  subst h;exact k
 | o::r,m,a,b,c,h,k=>by
  rcases h with⟨h1,v,h2,h3⟩ | ⟨h1,h3⟩
  ·exact .inl ⟨h1,v,h2,yO (l:=r) h3 k⟩
  ·exact .inr ⟨h1,yO (l:=r) h3 k⟩
theorem CN{Q}:∀{l rest:List Oper} {a a':Act},uK P ops w l a a'->wpList P ops.toArray Q rest a' w->wpList P ops.toArray Q (l++rest) a w
 | [],_,_,_,h,k=>by
  subst h;exact k
 | o::r,m,a,b,h,k=>by
  rcases h with⟨h1,v,h2,h3⟩ | ⟨h1,h3⟩
  ·exact Cv v h1 (h2 w rfl) rfl (CN (l:=r) h3 k)
  ·exact Vu h1 rfl (CN (l:=r) h3 k)
theorem HD{Q}:∀{l rest:List Oper} {a a':Act},uK P ops w l a a'->wpQuiet P ops.toArray (fun w'=>∃n,w'=w.drewN n) Q rest a'->wpQuiet P ops.toArray (fun w'=>∃n,w'=w.drewN n) Q (l++rest) a
 | [],_,_,_,h,k=>by
  subst h;exact k
 | o::r,m,a,b,h,k=>by
  rcases h with⟨h1,v,h2,h3⟩ | ⟨h1,h3⟩
  ·exact abX v h1 (by rintro _ ⟨n,rfl⟩;exact h2 _ rfl) rfl (HD (l:=r) h3 k)
  ·exact aiq h1 rfl (HD (l:=r) h3 k)
def CO:List Oper->List Nat
 | []=>[]
 | o::r=>match o.dst with
  | some d=>d::CO r
  | none=>CO r
theorem jQ(a:Act) d v:(a.put d v).tmps.size=a.tmps.size/\(a.put d v).defers=a.defers/\∀i,d≠some i->(a.put d v).tmps[i]? =a.tmps[i]? :=by
 cases d with
 | none=>exact⟨rfl,rfl,fun _ _=>rfl⟩
 | some k=>
  refine⟨by simp[Act.put],rfl,fun i hi=>?_⟩;simp[Act.put];rw[gu (fun e=>hi (by rw[e]))]
theorem yP:∀{l:List Oper} {a a':Act},uK P ops w l a a'->a'.tmps.size=a.tmps.size/\a'.defers=a.defers/\∀i,(CO l).elem i=false->a'.tmps[i]? =a.tmps[i]?
 | [],_,_,h=>by
  subst h;exact⟨rfl,rfl,fun _ _=>rfl⟩
 | o::r,a,b,h=>by
  have key:∀v,uK P ops w r _ b->b.tmps.size=a.tmps.size/\b.defers=a.defers/\∀i,(CO (o::r)).elem i=false->b.tmps[i]? =a.tmps[i]? :=fun v h3=>by
   obtain⟨k1,k2,k3⟩:=yP h3;obtain⟨p1,p2,p3⟩:=jQ a o.dst v;refine⟨k1.trans p1,k2.trans p2,fun i hi=>?_⟩;cases hd:o.dst with
   | none=>
    simp only[CO,hd]at hi;rw[k3 i hi,p3 i (by rw[hd];simp)]
   | some d=>
    simp only[CO,hd,kY]at hi;split at hi
    ·cases hi
    ·rename_i gz;rw[k3 i hi,p3 i (by rw[hd];intro e;simp at e;subst e;simp at gz)]
  rcases h with⟨h1,v,h2,h3⟩ | ⟨h1,h3⟩
  ·exact key v h3
  ·exact key _ h3
end
def ab8(ops:List Oper):Nat->Nat->Nat->Bool
 | 0,_,_=>false
 | f+1,q,j=>bif Nat.beq q j then true else match gM ops q with
  | some o=>(match o.guard with
   | some (r,_)=>ab8 ops f r j
   | none=>false)
  | none=>false
def xC(ops:List Oper)(j:Nat):List Oper->Nat
 | []=>0
 | o::r=>match o.guard with
  | some (q,_)=>bif ab8 ops 50 q j then xC ops j r+1 else 0
  | none=>0
def mrg(t:Bool)(a b:SV):Option SV:=match a,b with
 | .bl true,.bl false=>some (.bt t)
 | .bl true,.bt y=>some (.bt (t||y))
 | .bt x,.bl false=>some (.bt (t&&x))
 | .bl false,.bl true=>some (.bt (!t))
 | .bl false,.bt y=>some (.bt (!t&&y))
 | .bt x,.bl true=>some (.bt (!t||x))
 | .bt x,.bt y=>some (.bt (bif t then x else y))
 | .bl true,.bl true=>some (.bl true)
 | .bl false,.bl false=>some (.bl false)
 | _,_=>none
theorem Oo{t}{a b v}(h:mrg t a b=some v) β:(t=true->val β v=val β a)/\(t=false->val β v=val β b):=by
 unfold mrg at h;split at h<;>simp at h<;>subst h<;>refine⟨fun e=>?_,fun e=>?_⟩<;>subst e<;>simp[val,pB]
def yQ(ds:List Nat):List (Nat×Nat×SV)->List (Nat×Nat×SV)
 | []=>[]
 | p::r=>bif ds.elem p.1 then yQ ds r else p::yQ ds r
theorem kf{ds}:∀{l:List _} {i:Nat},(ds.elem i=true->dK (yQ ds l) i=none)/\(ds.elem i=false->dK (yQ ds l) i=dK l i)
 | [],i=>⟨fun _=>rfl,fun _=>rfl⟩
 | (k,p)::r,i=>by
  obtain⟨h1,h2⟩:=kf (ds:=ds) (l:=r) (i:=i);simp only[yQ];cases hk:ds.elem k with
  | true=>
   simp only[nI];refine⟨h1,fun hi=>?_⟩;rw[h2 hi];simp[dK];cases hb:Nat.beq k i with
   | true=>have:=bW hb;subst this;rw[hi]at hk;cases hk
   | false=>rfl
  | false=>
   simp only[tH,dK];cases hb:Nat.beq k i with
   | true=>
    have:=bW hb;subst this;exact⟨fun hi=>(by rw[hi]at hk;cases hk),fun _=>rfl⟩
   | false=>exact⟨h1,h2⟩
def St.ob(st:St)(ds:List Nat):St:={st with fr:=yQ ds st.fr}
theorem Ext.ob st ds:Ext st (st.ob ds):=
 ⟨rfl,aY _,fun i k v hl _=>by
  cases he:ds.elem i with
  | true=>rw[show dK (st.ob ds).fr i=none from(kf (l:=st.fr)).1 he]at hl;cases hl
  | false=>rw[show dK (st.ob ds).fr i=dK st.fr i from(kf (l:=st.fr)).2 he]at hl;exact hl,fun i b h ho _=>⟨b,h,ho,rfl,rfl,rfl,fun _ h=>h⟩,Og,Et⟩
structure Alike (s t:St):Prop where
 bx:t.bx=s.bx
 w0:t.w0=s.w0
 mv:t.mv=s.mv
 dt:t.dt=s.dt
 n:t.n=s.n
 df:t.df=s.df
theorem Alike.refl s:Alike s s:=⟨rfl,rfl,rfl,rfl,rfl,rfl⟩
theorem Alike.trans{s t u}(h:Alike s t)(k:Alike t u):Alike s u:=⟨k.bx.trans h.bx,k.w0.trans h.w0,k.mv.trans h.mv,k.dt.trans h.dt,k.n.trans h.n,k.df.trans h.df⟩
theorem Alike.put s d v:Alike s (s.put d v):=by cases d<;>exact⟨rfl,rfl,rfl,rfl,rfl,rfl⟩
theorem Rep.alike{β}{s t}{a a'}{w}(h:Rep β s a w)(k:Alike s t)(hf:UN β t.n t.fr (Vx t.df) a'):Rep β t a' w:=by
 obtain⟨k1,k2,k3,k4,k5,k6⟩:=k;refine⟨qy hf,fun i b hb ho=>?_,fun i j bi bj h1 h2 h3 h4=>?_,?_,fun hm=>?_⟩
 ·rw[k1]at hb;obtain⟨g1,g2,g3⟩:=h.bx i b hb ho;exact⟨g1,g2,fun e=>by rw[k2];exact g3 e⟩
 ·rw[k1]at h1 h2;exact h.ne i j bi bj h1 h2 h3 h4
 ·rw[k2,k4];exact h.only
 ·rw[k2];exact h.still (by rw[<-k3];exact hm)
def vR(P:Program)(ops:List Oper):Nat->List (Bool×Bool)->List Oper->St->(St->Prop)->Prop
 | 0,_,_,_,_=>False
 | _+1,_,[],st,K=>K st
 | f+1,gs,o::rest,st,K=>match o.guard with
  | none=>Xr P gs st o.op fun v=>vR P ops f gs rest (st.put o.dst v) K
  | some (j,want)=>(match Xx st ops j with
   | some (_,.un)=>vR P ops f gs rest (st.put o.dst .un) K
   | some (_,.bl b)=>bif b==want then Xr P gs st o.op fun v=>vR P ops f gs rest (st.put o.dst v) K else vR P ops f gs rest (st.put o.dst .un) K
   | some (d,.bt t)=>(match(o::rest)[xC ops j (o::rest)]? with
    | some pk=>(match pk.dst with
     | some k=>
      vR P ops f (gs++[(t,true)]) ((o::rest).take (xC ops j (o::rest)+1)) (st.put (some d) (.bl true)) fun sa=>
      cj (sa.get k) fun va=>
      vR P ops f (gs++[(t,false)]) ((o::rest).take (xC ops j (o::rest)+1)) (st.put (some d) (.bl false)) fun sb=>
      cj (sb.get k) fun vb=>
      cj (mrg t va vb) fun v=>
      vR P ops f gs ((o::rest).drop (xC ops j (o::rest)+1)) ((st.ob (CO ((o::rest).take (xC ops j (o::rest)+1)))).put (some k) v) K
     | none=>False)
    | none=>False)
   | _=>False)
theorem HE:∀{gs:List _} {t b:Bool},gh gs->t=b->gh (gs++[(t,b)])
 | [],_,_,_,h=>⟨h,trivial⟩
 | _::r,_,_,h,k=>⟨h.1,HE (gs:=r) h.2 k⟩
theorem qz{P}{ops}:∀{f:Nat} {gs:List _} {l:List Oper} {st:St} {K:St->Prop},vR P ops f gs l st K->
  ∃cH,K cH/\Ext st cH/\Alike st cH/\(gh gs->∀β a w,Rep β st a w->∃a',uK P ops w l a a'/\Rep β cH a' w)
 | 0,_,_,_,_,h=>h.elim
 | _+1,gs,[],st,K,h=>⟨st,h,Ext.refl _,Alike.refl _,fun _ β a w hR=>⟨a,rfl,hR⟩⟩
 | f+1,gs,o::rest,st,K,h=>by
  have one:(Region.wanted o=fun _=>true)∨True->∀{K:St->Prop},(Xr P gs st o.op fun v=>vR P ops f gs rest (st.put o.dst v) K)->
    (gh gs->∀β a w,Rep β st a w->Region.wanted o _=true)->
    ∃cH,K cH/\Ext st cH/\Alike st cH/\(gh gs->∀β a w,Rep β st a w->∃a',uK P ops w (o::rest) a a'/\Rep β cH a' w):=fun _ K h hw=>by
   obtain⟨v,h1,hy⟩:=HC h;obtain⟨cH,k1,k2,k3,k4⟩:=qz h1;refine⟨cH,k1,(Ext.put _ _ _).trans k2,(Alike.put _ _ _).trans k3,fun hg β a w hR=>?_⟩;obtain⟨a',g1,g2⟩:=k4 hg β _ w (hR.put o.dst v);exact⟨a',.inl ⟨hw hg β a w hR,_,fun w' hh=>hy hg β a w hR _ _ _ _ _ w' fun _=>hh,g1⟩,g2⟩
  have no:∀{K:St->Prop},vR P ops f gs rest (st.put o.dst .un) K->(gh gs->∀β a w,Rep β st a w->Region.wanted o _=false)->
    ∃cH,K cH/\Ext st cH/\Alike st cH/\(gh gs->∀β a w,Rep β st a w->∃a',uK P ops w (o::rest) a a'/\Rep β cH a' w):=fun h1 hw=>by
   obtain⟨cH,k1,k2,k3,k4⟩:=qz h1;refine⟨cH,k1,(Ext.put _ _ _).trans k2,(Alike.put _ _ _).trans k3,fun hg β a w hR=>?_⟩;obtain⟨a',g1,g2⟩:=k4 hg β _ w (hR.put o.dst .un);exact⟨a',.inr ⟨hw hg β a w hR,g1⟩,g2⟩
  unfold vR at h;split at h
  ·rename_i hg0;exact one (.inr trivial) h fun _ β a w hR=>wn hg0
  ·rename_i j want hg0;split at h
   ·rename_i d ht;exact no h fun _ β a w hR=>vQ hR hg0 ht
   ·rename_i d b ht;cases hb:(b==want)with
    | true=>
     rw[hb]at h;exact one (.inr trivial) h fun _ β a w hR=>by rw[pD hR hg0 ht (b:=b) rfl,hb]
    | false=>
     rw[hb]at h;exact no h fun _ β a w hR=>by rw[pD hR hg0 ht (b:=b) rfl,hb]
   ·rename_i d t ht;obtain⟨oj,NG,WC,Su⟩:=yN ht;split at h
    ·rename_i pk UO;split at h
     ·rename_i k hk;generalize xC ops j _=m at h UO;obtain⟨sa,ha,ea1,ea2,ea3⟩:=qz h;obtain⟨va,hva,ha⟩:=bB ha;obtain⟨sb,hb,eb1,eb2,eb3⟩:=qz ha;obtain⟨vb,hvb,hb⟩:=bB hb;obtain⟨v,hv,hb⟩:=bB hb;obtain⟨cH,k1,k2,k3,k4⟩:=qz hb;refine⟨cH,k1,((Ext.ob _ _).trans (Ext.put _ _ _)).trans k2,((⟨rfl,rfl,rfl,rfl,rfl,rfl⟩:Alike st (st.ob _)).trans (Alike.put _ _ _)).trans k3,fun hg β a w hR=>?_⟩;have fin:∀(s:SV) u x,Rep β u a w->(∃a',uK P ops w ((o::rest).take (m+1)) a a'/\∃u',Rep β u' a' w/\u'.n=st.n/\u'.get k=some x/\val β v=val β x)->∃a',uK P ops w (o::rest) a a'/\Rep β cH a' w:=by
       rintro s u x hu ⟨a1,g1,u',r1,r2,r3,r4⟩;obtain⟨f1,f2,f3⟩:=yP g1;have gY:Rep β ((st.ob (CO ((o::rest).take (m+1)))).put (some k) v) a1 w:=by
        refine hR.alike ((⟨rfl,rfl,rfl,rfl,rfl,rfl⟩:Alike st (st.ob _)).trans (Alike.put _ _ _)) ⟨f1.trans hR.ok.sz,f2.trans hR.ok.df,fun i p hl hi=>?_⟩;simp only[St.put,dK]at hl;cases NH:Nat.beq k i with
        | true=>
         rw[NH]at hl;simp at hl;subst hl;have:=bW NH;subst this;rw[r4,<-r1.get r3];have hs:k<a1.tmps.size:=by rw[f1,hR.ok.sz];exact hi
         simp[Act.eval,hs]
        | false=>
         rw[NH]at hl;cases he:(CO _).elem i with
         | true=>rw[show dK (st.ob _).fr i=none from(kf (l:=st.fr)).1 he]at hl;cases hl
         | false=>
          rw[show dK (st.ob _).fr i=dK st.fr i from(kf (l:=st.fr)).2 he]at hl;rw[f3 i he];exact hR.ok.at_ i p hl hi
       obtain⟨a2,g2,g3⟩:=k4 hg β a1 w gY;refine⟨a2,?_,g3⟩;have:=yO g1 g2;rwa[dv]at this
      cases t with
      | true=>
       have hu:Rep β (st.put _ (.bl true)) a w:=hR.set Su rfl;obtain⟨a1,g1,g2⟩:=ea3 (HE hg rfl) β a w hu;exact fin (.bl true) _ va hu ⟨a1,g1,sa,g2,ea2.n.trans rfl,hva,(Oo hv β).1 rfl⟩
      | false=>
       have hu:Rep β (st.put _ (.bl false)) a w:=hR.set Su rfl;obtain⟨a1,g1,g2⟩:=eb3 (HE hg rfl) β a w hu;exact fin (.bl false) _ vb hu ⟨a1,g1,sb,g2,eb2.n.trans rfl,hvb,(Oo hv β).2 rfl⟩
     ·exact h.elim
    ·exact h.elim
   ·exact h.elim
theorem jR:∀l b i,cV (l++[b]) i=if i=l.length then some b else cV l i
 | [],b,0=>rfl
 | [],b,i+1=>rfl
 | a::r,b,0=>rfl
 | a::r,b,i+1=>by
  simp;exact jR r b i
theorem qA:∀{l:List jN} {i:Nat} {b:jN},cV l i=some b->i<l.length
 | a::r,0,_,_=>by simp
 | a::r,i+1,b,h=>by simp[cV]at h;have:=qA h;simp;omega
theorem iU:∀{l:List jN} {i:Nat} {b c:jN},cV l i=some b->∀j,cV (L2 l i c) j=if j=i then some c else cV l j
 | a::r,0,b,c,_,0=>rfl
 | a::r,0,b,c,_,j+1=>rfl
 | a::r,i+1,b,c,h,0=>rfl
 | a::r,i+1,b,c,h,j+1=>by
  simp[cV]at h;simp;exact iU h j
theorem mh{b}{p q}(h:bif b then p else q):(b=true/\p)∨(b=false/\q):=by
 cases b with
 | true=>exact .inl ⟨rfl,h⟩
 | false=>exact .inr ⟨rfl,h⟩
def G8(bx:List jN)(i:Nat):Nat:=match cV bx i with
 | some b=>b.blk.getD 0
 | none=>0
def E4(bx:List jN)(i:Nat):Bool:=match cV bx i with
 | some b=>b.ok&&b.blk.isSome
 | none=>false
abbrev St.bl(st:St)(i:Nat):Nat:=G8 st.bx i
abbrev St.Ix(st:St)(i:Nat):Bool:=E4 st.bx i
theorem Rep.bl{β}{st}{a}{w}(h:Rep β st a w) i (hg:st.Ix i=true):st.bl i=β i:=by
 unfold St.Ix E4 at hg;unfold St.bl G8;cases hb:cV st.bx i with
 | none=>rw[hb]at hg;cases hg
 | some b=>
  rw[hb]at hg;simp at hg;cases hk:b.blk with
  | none=>rw[hk]at hg;cases hg.2
  | some k=>
   have:=(h.bx i b hb hg.1).at_ k hk;simp[hk,this]
theorem Rep.sD{β}{st}{a}{w}(h:Rep β st a w){l}(hc:gZ st.Ix l=true):cu st.bl l=cu β l:=gH (g:=st.Ix) h.bl l hc
theorem Rep.aei{β}{st}{a}{w}(h:Rep β st a w){s}(hc:cln st.Ix s=true):val st.bl s=val β s:=iz (g:=st.Ix) h.bl s hc
def E5:List jN->(List jN->Prop)->Prop
 | [],K=>K []
 | b::r,K=>match b.ok,b.blk with
  | true,none=>∀k,E5 r fun r'=>K ({b with blk:=some k}::r')
  | _,_=>E5 r fun r'=>K (b::r')
def rF(k:Nat)(b:jN):jN:=match b.ok,b.blk with
 | true,none=>{b with blk:=some k}
 | _,_=>b
def mj(β:Nat->Nat):Nat->List jN->List jN
 | _,[]=>[]
 | n,b::r=>rF (β n) b::mj β (n+1) r
theorem yR β:∀{bs:List jN} n {K:List jN->Prop},E5 bs K->K (mj β n bs)
 | [],_,_,h=>h
 | b::r,n,K,h=>by
  unfold E5 at h;unfold mj;split at h
  ·have:=yR β (n+1) (h (β n));have e:rF (β n) b={b with blk:=some (β n)}:=by unfold rF<;>simp_all
   rw[e];exact this
  ·rename_i h1;have:=yR β (n+1) h;have e:rF (β n) b=b:=by
    unfold rF;split
    ·rename_i e1 e2;exact absurd e2 (fun e2=>h1 e1 e2)
    ·rfl
   rw[e];exact this
theorem yS β:∀bs n i,cV (mj β n bs) i=(cV bs i).map (rF (β (n+i)))
 | [],_,_=>rfl
 | b::r,n,0=>rfl
 | b::r,n,i+1=>by
  simp[mj,cV];rw[yS β r _ i,show n+1+i=n+(i+1) by omega]
def E6(w0 w:ay):List jN->List jN->Prop->Prop
 | b::r,b'::r',p=>match b.ok,b.blk with
  | true,none=>w0.heap.size<=b'.blk.getD 0->b'.blk.getD 0<w.heap.size->E6 w0 w r r' p
  | _,_=>E6 w0 w r r' p
 | _,_,p=>p
theorem yT{β}{w0 w}:∀{bs:List jN} n {p:Prop},E6 w0 w bs (mj β n bs) p->(∀i b,cV bs i=some b->b.ok=true->b.blk=none->w0.heap.size<=β (n+i)/\β (n+i)<w.heap.size)->p
 | [],_,_,h,_=>h
 | b::r,n,p,h,hb=>by
  simp[mj]at h;unfold E6 at h;split at h
  ·rename_i h1 h2;obtain⟨e1,e2⟩:=hb 0 b rfl h1 h2;have e:(rF (β n) b).blk.getD 0=β n:=by unfold rF;rw[h1,h2];rfl
   rw[e]at h;exact yT _ (h e1 e2) fun i c hc=>by have:=hb (i+1) c hc;rwa[show n+_=n+1+i by omega]at this
  ·exact yT _ h fun i c hc=>by have:=hb (i+1) c hc;rwa[show n+_=n+1+i by omega]at this
def shB(g:Nat->Bool)(bl:Nat->Nat)(w:ay)(all:Bool):List jN->Prop->Prop
 | [],p=>p
 | b::r,p=>bif b.ok&&b.blk.isSome&&b.esc&&(all||!b.sh)&&gZ g b.cells then Blk w (b.blk.getD 0) b.ty (cu bl b.cells)->shB g bl w all r p else shB g bl w all r p
theorem CP{g}{bl}{w}{all}:∀{bs:List jN} {p:Prop},shB g bl w all bs p->(∀i b,cV bs i=some b->b.ok=true->b.blk.isSome=true->gZ g b.cells=true->Blk w (b.blk.getD 0) b.ty (cu bl b.cells))->p
 | [],_,h,_=>h
 | b::r,p,h,hb=>by
  unfold shB at h;cases hc:(b.ok&&b.blk.isSome&&b.esc&&_&&gZ g b.cells)with
  | true=>
   rw[hc]at h;simp at hc;exact CP (h (hb 0 b rfl hc.1.1.1.1 hc.1.1.1.2 hc.2)) fun i c hi=>hb (i+1) c hi
  | false=>
   rw[hc]at h;exact CP h fun i c hi=>hb (i+1) c hi
def uL:List jN->List jN
 | []=>[]
 | b::r=>{b with sh:=b.esc}::uL r
theorem pE:∀l i,cV (uL l) i=(cV l i).map fun b=>{b with sh:=b.esc}
 | [],_=>rfl
 | b::r,0=>rfl
 | b::r,i+1=>pE r i
def yU(bs:List jN):List Nat->Bool
 | []=>true
 | i::r=>(match cV bs i with
  | some b=>b.ok
  | none=>false)&&yU bs r
theorem sL{bs}:∀{l:List Nat},yU bs l=true->∀i∈l,∃b,cV bs i=some b/\b.ok=true
 | i::r,h,j,hj=>by
  simp[yU,aQ]at h;rcases aR.1 hj with rfl | hj
  ·split at h
   ·rename_i b hb;exact⟨b,hb,h.1⟩
   ·cases h.1
  ·exact sL h.2 j hj
def L4:List jN->List jN->List (Nat×Bool)
 | b::r,b'::r'=>bif b.ok&&b.blk.isNone then(b'.blk.getD 0,b.esc)::L4 r r' else L4 r r'
 | _,_=>[]
def Oq(k:Nat):List (Nat×Bool)->Prop->Prop
 | [],p=>p
 | x::r,p=>bif x.2 then Oq k r p else(x.1≠k->Oq k r p)
def Ot(all:List (Nat×Bool)):List (Nat×Bool)->Prop->Prop
 | [],p=>p
 | x::r,p=>bif x.2 then Oq x.1 all (Ot all r p)else Ot all r p
theorem CQ{k}:∀{l:List _} {p:Prop},Oq k l p->(∀y,y∈l->y.2=false->y.1≠k)->p
 | [],_,h,_=>h
 | x::r,p,h,hd=>by
  unfold Oq at h;cases hx:x.2 with
  | true=>rw[hx]at h;exact CQ h fun y hy=>hd y (dc _ hy)
  | false=>rw[hx]at h;exact CQ (h (hd x dV hx)) fun y hy=>hd y (dc _ hy)
theorem CR{all}:∀{l:List _} {p:Prop},Ot all l p->(∀x,x∈l->x.2=true->∀y,y∈all->y.2=false->y.1≠x.1)->p
 | [],_,h,_=>h
 | x::r,p,h,hd=>by
  unfold Ot at h;cases hx:x.2 with
  | true=>rw[hx]at h;exact CR (CQ h fun y hy hf=>hd x dV hx y hy hf) fun z hz=>hd z (dc _ hz)
  | false=>rw[hx]at h;exact CR h fun z hz=>hd z (dc _ hz)
theorem uM{β}:∀{bs:List jN} n {x:Nat×Bool},x∈L4 bs (mj β n bs)->∃i b,cV bs i=some b/\b.ok=true/\x=(β (n+i),b.esc)
 | [],_,_,h=>by cases h
 | b::r,n,x,h=>by
  simp[mj,L4]at h;cases hc:(b.ok&&b.blk.isNone)with
  | true=>
   rw[hc]at h;simp at hc;rcases aR.1 h with rfl | h
   ·refine⟨0,b,rfl,hc.1,?_⟩;have:(rF (β n) b).blk.getD 0=β n:=by unfold rF;rw[hc.1,hc.2];rfl
    rw[this];rfl
   ·obtain⟨i,c,h1,h2,h3⟩:=uM _ h;exact⟨i+1,c,h1,h2,by rw[h3,show n+1+i=n+(i+1) by omega]⟩
  | false=>
   rw[hc]at h;obtain⟨i,c,h1,h2,h3⟩:=uM _ h;exact⟨i+1,c,h1,h2,by rw[h3,show n+1+i=n+(i+1) by omega]⟩
def yV:List jN->List Nat
 | []=>[]
 | b::r=>bif b.ok&&b.blk.isSome&&b.esc&&!b.sh then b.blk.getD 0::yV r else yV r
def yW:List jN->List Nat
 | []=>[]
 | b::r=>bif b.ok&&b.blk.isSome&&!b.esc then b.blk.getD 0::yW r else yW r
def Xy(k:Nat):List Nat->Prop->Prop
 | [],p=>p
 | x::r,p=>x≠k->Xy k r p
def Tc(Ri:List Nat):List Nat->Prop->Prop
 | [],p=>p
 | k::r,p=>Xy k Ri (Tc Ri r p)
theorem Jk{k}:∀{l:List Nat} {p:Prop},Xy k l p->(∀y,y∈l->y≠k)->p
 | [],_,h,_=>h
 | x::r,p,h,hd=>Jk (h (hd x dV)) fun y hy=>hd y (dc _ hy)
theorem CS{Ri}:∀{l:List Nat} {p:Prop},Tc Ri l p->(∀k,k∈l->∀y,y∈Ri->y≠k)->p
 | [],_,h,_=>h
 | k::r,p,h,hd=>CS (Jk h fun y hy=>hd k dV y hy) fun z hz=>hd z (dc _ hz)
theorem vS:∀{bs:List jN} {x:Nat},x∈yV bs->∃i b,cV bs i=some b/\b.ok=true/\b.esc=true/\b.blk=some x
 | [],_,h=>by cases h
 | b::r,x,h=>by
  simp[yV]at h;cases hc:(b.ok&&b.blk.isSome&&b.esc&&!b.sh)with
  | true=>
   rw[hc]at h;simp at hc;rcases aR.1 h with rfl | h
   ·obtain⟨k,hk⟩:=dQ.1 hc.1.1.2;exact⟨0,b,rfl,hc.1.1.1,hc.1.2,by rw[hk];rfl⟩
   ·obtain⟨i,c,h1,h2⟩:=vS h;exact⟨i+1,c,h1,h2⟩
  | false=>
   rw[hc]at h;obtain⟨i,c,h1,h2⟩:=vS h;exact⟨i+1,c,h1,h2⟩
theorem vT:∀{bs:List jN} {x:Nat},x∈yW bs->∃i b,cV bs i=some b/\b.ok=true/\b.esc=false/\b.blk=some x
 | [],_,h=>by cases h
 | b::r,x,h=>by
  simp[yW]at h;cases hc:(b.ok&&b.blk.isSome&&!b.esc)with
  | true=>
   rw[hc]at h;simp at hc;rcases aR.1 h with rfl | h
   ·obtain⟨k,hk⟩:=dQ.1 hc.1.2;exact⟨0,b,rfl,hc.1.1,hc.2,by rw[hk];rfl⟩
   ·obtain⟨i,c,h1,h2⟩:=vT h;exact⟨i+1,c,h1,h2⟩
  | false=>
   rw[hc]at h;obtain⟨i,c,h1,h2⟩:=vT h;exact⟨i+1,c,h1,h2⟩
theorem E7{β}{st}{a}{w}(hR:Rep β st a w):∀k,k∈yV st.bx->∀y,y∈yW st.bx->y≠k:=fun k hk y hy=>by
 obtain⟨i,b,i1,i2,i3,i4⟩:=vS hk;obtain⟨j,c,j1,j2,j3,j4⟩:=vT hy;rw[<-(hR.bx i b i1 i2).at_ k i4,<-(hR.bx j c j1 j2).at_ y j4];refine hR.ne j i c b j1 i1 j2 i2 fun e=>?_;subst e;rw[i1]at j1;injection j1 with j1;subst j1;rw[i3]at j3;cases j3
def eN(st:St)(K:St->Prop):Prop:=
 bif st.mv then
  bif yU st.bx st.dt then
   E5 st.bx fun bx=>∀w,E6 st.w0 w st.bx bx (Only (st.dt.map (G8 bx)) st.w0 w->
    shB (E4 bx) (G8 bx) w true bx (Ot (L4 st.bx bx) (L4 st.bx bx) (Tc (yW st.bx) (yV st.bx) (K {st with bx:=uL bx,w0:=w,mv:=false,dt:=[]}))))
  else False
 else shB st.Ix st.bl st.w0 false st.bx (Tc (yW st.bx) (yV st.bx) (K {st with bx:=uL st.bx}))
theorem dR{st}{K}(h:eN st K){β}{a}{w}(hR:Rep β st a w):∃cH,K cH/\Ext st cH/\Rep β cH a w/\cH.mv=false/\cH.fr=st.fr/\cH.n=st.n/\cH.ct=st.ct/\cH.bx.length=st.bx.length:=by
 rcases mh h with⟨hm,h⟩ | ⟨hm,h⟩
 case inr=>
  have hk:=CP h fun i b hb ho hs hc=>by
   have:=(hR.bx i b hb ho).blk;cases hk:b.blk with
   | none=>rw[hk]at hs;cases hs
   | some k=>
    have e:=(hR.bx i b hb ho).at_ k hk;rw[hR.sD hc,<-hR.still hm];rw[e]at this;exact this
  have hk:=CS hk (E7 hR);have key:∀i b',cV (uL st.bx) i=some b'->∃b,cV st.bx i=some b/\b'={b with sh:=b.esc}:=fun i b' hb=>by
   rw[pE]at hb;cases hn:cV st.bx i with
   | none=>rw[hn]at hb;cases hb
   | some b=>rw[hn]at hb;exact⟨b,rfl,by simpa using hb.symm⟩
  refine⟨_,hk,⟨rfl,aY _,fun _ _ _ h _=>h,fun i b' hb ho _=>?_,fun i b hb=>?_,Et⟩,⟨hR.fr,fun i b' hb ho=>?_,fun i j bi bj h1 h2 h3 h4 rk=>?_,hR.only,hR.still⟩,hm,rfl,rfl,rfl,?_⟩
  ·obtain⟨b,h1,rfl⟩:=key i b' hb;exact⟨b,h1,ho,rfl,rfl,rfl,fun _ h=>h⟩
  ·exact⟨{b with sh:=b.esc},by rw[pE,hb];rfl,rfl,rfl,fun _ h=>h⟩
  ·obtain⟨b,h1,rfl⟩:=key i b' hb;have:=hR.bx i b h1 ho;exact⟨this.blk,this.at_,this.new⟩
  ·obtain⟨b,g1,rfl⟩:=key i bi h1;obtain⟨c,g2,rfl⟩:=key j bj h2;exact hR.ne i j b c g1 g2 h3 h4 rk
  ·have:∀l:List jN,(uL l).length=l.length:=fun l=>by
    induction l with
    | nil=>rfl
    | cons b r ih=>simp[uL,ih]
   exact this _
 case inl=>
  obtain⟨jw,h⟩:=dw h;have h:=yR β 0 h w;have wH:∀i,cV _ i=(cV st.bx i).map (rF (β i)):=fun i=>by rw[yS,bM]
  have Ck:∀i b,cV st.bx i=some b->b.ok=true->∃b',cV _ i=some b'/\b'.ok=true/\b'.blk=some _/\b'.cells=b.cells/\b'.ty=b.ty/\b'.stp=b.stp:=fun i b hb ho=>by
   refine⟨rF _ b,by rw[wH,hb];rfl,?_⟩;unfold rF;split
   ·exact⟨ho,rfl,rfl,rfl,rfl⟩
   ·rename_i gz;refine⟨ho,?_,rfl,rfl,rfl⟩;cases hk:b.blk with
    | none=>exact absurd hk (fun e=>gz ho e)
    | some k=>rw[(hR.bx i b hb ho).at_ k hk]
  have Rj:∀i b',cV (mj β 0 st.bx) i=some b'->b'.ok=true->∃b,cV st.bx i=some b/\b.ok=true/\b'.blk=some _/\b'.cells=b.cells/\b'.ty=b.ty/\b'.stp=b.stp:=fun i b' hb ho=>by
   rw[wH]at hb;cases hn:cV st.bx i with
   | none=>rw[hn]at hb;cases hb
   | some b=>
    rw[hn]at hb;simp at hb;subst hb;have hob:=by
     unfold rF at ho;split at ho
     ·assumption
     ·exact ho
    obtain⟨b2,e1,e2,e3,e4,e5,e6⟩:=Ck i b hn hob;rw[wH,hn]at e1;simp at e1;subst e1;exact⟨b,rfl,hob,e3,e4,e5,e6⟩
  have h:=yT 0 h fun i b hb ho hk=>by
   rw[bM];exact⟨(hR.bx i b hb ho).new hk,(hR.bx i b hb ho).blk.lt⟩
  have edt:st.dt.map (G8 (mj β 0 st.bx))=st.dt.map β:=by
   refine ru fun i hi=>?_;obtain⟨b,h1,h2⟩:=sL jw i hi;obtain⟨b',e1,e2,e3,_⟩:=Ck i b h1 h2;unfold G8;rw[e1];simp[e3]
  have h:=h (by rw[edt];exact hR.only);have qf:∀i,E4 (mj β 0 st.bx) i=true->G8 (mj β 0 st.bx) i=β i:=fun i hg=>by
   unfold E4 at hg;unfold G8;cases hn:cV (mj β 0 st.bx) i with
   | none=>rw[hn]at hg;cases hg
   | some b'=>
    rw[hn]at hg;simp at hg;obtain⟨b,_,_,e3,_⟩:=Rj i b' hn hg.1;simp[e3]
  have hk:=CP h fun i b' hb ho hs hc=>by
   obtain⟨b,e1,e2,e3,e4,e5,e6⟩:=Rj i b' hb ho;rw[gH qf _ hc,e3,e4,e5];exact(hR.bx i b e1 e2).blk
  have hk:=CR hk fun x hx M7 y hy hye=>by
   obtain⟨i,b,i1,i2,rfl⟩:=uM 0 hx;obtain⟨j,c,j1,j2,rfl⟩:=uM 0 hy;rw[bM,bM];refine hR.ne j i c b j1 i1 j2 i2 fun e=>?_;subst e;rw[i1]at j1;injection j1 with j1;subst j1;rw[M7]at hye;cases hye
  have hk:=CS hk (E7 hR);have key:∀i b',cV _ i=some b'->b'.ok=true->∃b,cV st.bx i=some b/\b.ok=true/\b'.blk=some _/\b'.cells=b.cells/\b'.ty=b.ty/\b'.stp=b.stp:=fun i b' hb ho=>by
   rw[pE]at hb;cases hn:cV (mj β 0 st.bx) i with
   | none=>rw[hn]at hb;cases hb
   | some c=>
    rw[hn]at hb;simp at hb;subst hb;exact Rj i c hn ho
  refine⟨_,hk,⟨rfl,aY _,fun _ _ _ h _=>h,fun i b' hb ho _=>?_,fun i b hb=>?_,Et⟩,⟨hR.fr,fun i b' hb ho=>?_,fun i j bi bj h1 h2 h3 h4 rk=>?_,Only.refl _ _,fun _=>rfl⟩,rfl,rfl,rfl,rfl,?_⟩
  ·obtain⟨b,e1,e2,e3,e4,e5,e6⟩:=key i b' hb ho;exact⟨b,e1,e2,e4.symm,e5.symm,e6.symm,fun k hk=>by rw[e3,(hR.bx i b e1 e2).at_ k hk]⟩
  ·refine⟨{rF _ b with sh:=(rF _ b).esc},by rw[pE,wH,hb];rfl,?_⟩;unfold rF;split
   ·rename_i e1 e2;exact⟨rfl,rfl,fun k hk=>by rw[e2]at hk;cases hk⟩
   ·exact⟨rfl,rfl,fun _ h=>h⟩
  ·obtain⟨b,e1,e2,e3,e4,e5,e6⟩:=key i b' hb ho;refine⟨by rw[e4,e5];exact(hR.bx i b e1 e2).blk,fun k hk=>by rw[e3]at hk;simpa using hk,fun hk=>by rw[e3]at hk;cases hk⟩
  ·obtain⟨b,e1,e2,_⟩:=key i bi h1 h3;obtain⟨c,f1,f2,_⟩:=key j bj h2 h4;exact hR.ne i j b c e1 f1 e2 f2 rk
  ·have l1:∀l:List jN,(uL l).length=l.length:=fun l=>by
    induction l with
    | nil=>rfl
    | cons b r ih=>simp[uL,ih]
   have l2:∀(l:List jN) n,(mj β n l).length=l.length:=fun l=>by
    induction l with
    | nil=>intro n;rfl
    | cons b r ih=>intro n;simp[mj,ih]
   exact(l1 _).trans (l2 _ _)
def noB(n:Nat)(s:SV):Bool:=cln (fun j=>!Nat.beq j n) s
def Td(n:Nat)(l:List SV):Bool:=gZ (fun j=>!Nat.beq j n) l
def L5(n:Nat):List (Nat×Nat×SV)->Bool
 | []=>true
 | p::r=>noB n p.2.2&&L5 n r
def HF(n:Nat):List jN->Bool
 | []=>true
 | b::r=>(!b.ok||Td n b.cells)&&HF n r
theorem CT{n}:∀{l:List _},L5 n l=true->∀i p,dK l i=some p->noB n p.2=true
 | [],_,i,p,h=>by cases h
 | (k,q)::r,h,i,p,hl=>by
  simp[L5,aQ]at h;simp[dK]at hl;cases hb:Nat.beq k i with
  | true=>rw[hb]at hl;simp at hl;subst hl;exact h.1
  | false=>rw[hb]at hl;exact CT h.2 i p (by simpa using hl)
theorem CU{n}:∀{l:List jN},HF n l=true->∀i b,cV l i=some b->b.ok=true->Td n b.cells=true
 | c::r,h,0,b,hb,ho=>by
  simp[HF,aQ,cp,dy]at h;simp[cV,ba]at hb;subst hb;rcases h.1 with h1 | h1
  ·rw[ho]at h1;cases h1
  ·exact h1
 | c::r,h,i+1,b,hb,ho=>by
  simp[HF,aQ]at h;exact CU h.2 i b hb ho
def AG(β:Nat->Nat)(n b:Nat):Nat->Nat:=fun i=>if i=n then b else β i
theorem yX{β}{n b:Nat}:∀i,(!Nat.beq i n)=true->β i=AG β n b i:=fun i h=>by
 unfold AG;rw[if_neg];rintro rfl;simp at h
section
variable {β:Nat->Nat} {st:St} {a:Act} {w w1:ay}
def St.DZ(st:St)(d:Option Tmp)(t:TypeId)(zs:List SV):St:=
 St.put {st with bx:=st.bx++[⟨none,t,zs,st.ct,true,false,false⟩],mv:=true,ct:=st.ct+1} d (.box st.bx.length 0)
theorem Ext.DZ st d t zs:Ext st (st.DZ d t zs):=by
 refine Ext.trans (t:={st with bx:=st.bx++[_],mv:=true,ct:=st.ct+1}) ⟨rfl,iy _,fun _ _ _ h _=>h,fun i b' hb ho hs=>?_,fun i b hb=>?_,Et⟩ (Ext.put _ _ _)
 ·rw[jR]at hb;split at hb
  ·simp at hb;subst hb;dsimp only at hs;omega
  ·exact⟨b',hb,ho,rfl,rfl,rfl,fun _ h=>h⟩
 ·exact⟨b,by dsimp only;rw[jR,if_neg (by have:=qA hb;omega)];exact hb,rfl,rfl,fun _ h=>h⟩
theorem Rep.DZ(hR:Rep β st a w){d}{t}{zs}{b:Nat}(h1:L5 st.bx.length st.fr=true)(h2:HF st.bx.length st.bx=true)(h3:Td st.bx.length zs=true)
  (hb:w.heap.size<=b) (hO:Only [] w w1) (hB:Blk w1 b t (cu β zs)) (hdt:yU st.bx st.dt=true):
  Rep (AG β st.bx.length b) (st.DZ d t zs) (a.put d (.pointer (some ⟨b,0,none⟩))) w1:=by
 have tR:AG β st.bx.length b st.bx.length=b:=by unfold AG;rw[if_pos rfl]
 have bX:∀{i c},cV st.bx i=some c->AG β st.bx.length b i=β i:=fun{i c} h=>by
  unfold AG;rw[if_neg];have:=qA h;omega
 have base:Rep (AG β st.bx.length b) {st with bx:=st.bx++[⟨none,t,zs,st.ct,true,false,false⟩],mv:=true,ct:=st.ct+1} a w1:=by
  refine⟨qy ⟨hR.ok.sz,hR.ok.df,fun i p hl hi=>?_⟩,fun i c hc ho=>?_,fun i j bi bj g1 g2 g3 g4 rk=>?_,?_,fun h=>by cases h⟩
  ·rw[hR.ok.at_ i p hl hi];congr 1;exact iz (g:=fun j=>!Nat.beq j st.bx.length) yX _ (CT h1 i p hl)
  ·rw[jR]at hc;split at hc
   ·rename_i he;simp at hc;subst hc;subst he;refine⟨?_,fun k hk=>(by cases hk),fun _=>?_⟩
    ·rw[tR];rw[<-gH (g:=fun j=>!Nat.beq j st.bx.length) (β:=β) (β':=AG β st.bx.length b) yX _ h3];exact hB
    ·rw[tR];exact bh hR.only.size hb
   ·have e:=bX hc;obtain⟨k1,k2,k3⟩:=hR.bx i c hc ho;refine⟨?_,fun k hk=>by rw[e];exact k2 k hk,fun hk=>by rw[e];exact k3 hk⟩;rw[e,<-gH (g:=fun j=>!Nat.beq j st.bx.length) (β:=β) (β':=AG β st.bx.length b) yX _ (CU h2 i c hc ho)];exact hO.blk k1 (by simp)
  ·rw[jR]at g1 g2;split at g1
   ·rename_i e1;split at g2
    ·omega
    ·subst e1;rw[tR,bX g2];have:=(hR.bx j bj g2 g4).blk.lt;omega
   ·split at g2
    ·rename_i e2;subst e2;rw[tR,bX g1];have:=(hR.bx i bi g1 g3).blk.lt;omega
    ·rw[bX g1,bX g2];exact hR.ne i j bi bj g1 g2 g3 g4 rk
  ·have e:=ru fun i hi=>by
    obtain⟨c,hc,_⟩:=sL hdt i hi;exact bX hc
   rw[e];exact hR.only.cz hO
 have:=base.put d (.box st.bx.length 0);rw[show val (AG β st.bx.length b) _=.pointer _ by
  show Value.pointer _=_;rw[tR]]at this
 exact this
def St.sE(st:St)(i:Nat)(b:jN)(cs:List SV):St:=
 {st with bx:=L2 st.bx i {b with cells:=cs,stp:=st.ct,sh:=false},mv:=true,dt:=(bif b.blk.isSome&&!st.dt.elem i then i::st.dt else st.dt),ct:=st.ct+1}
theorem Ext.sE{st}{i}{b}{cs}(h:cV st.bx i=some b):Ext st (st.sE i b cs):=by
 refine⟨rfl,iy _,fun _ _ _ h _=>h,fun j b' hb ho hs=>?_,fun j c hc=>?_,Et⟩
 ·simp[St.sE]at hb;rw[iU h]at hb;split at hb
  ·simp at hb;subst hb;dsimp only at hs;omega
  ·exact⟨b',hb,ho,rfl,rfl,rfl,fun _ h=>h⟩
 ·simp[St.sE];rw[iU h];split
  ·rename_i e;subst e;rw[h]at hc;simp at hc;subst hc;exact⟨_,rfl,rfl,rfl,fun _ h=>h⟩
  ·exact⟨c,hc,rfl,rfl,fun _ h=>h⟩
theorem Rep.sE(hR:Rep β st a w){i}{b}{cs}(h:cV st.bx i=some b)(ho:b.ok=true)(hO:Only [β i] w w1)(hB:Blk w1 (β i) b.ty (cu β cs)):Rep β (st.sE i b cs) a w1:=by
 have hk:=hR.bx i b h ho;refine⟨hR.fr,fun j c hc nE=>?_,fun j l bj bl g1 g2 g3 g4 rk=>?_,?_,fun h=>by cases h⟩
 ·simp[St.sE]at hc;rw[iU h]at hc;split at hc
  ·rename_i e;subst e;simp at hc;subst hc;exact⟨hB,hk.at_,hk.new⟩
  ·rename_i gz;obtain⟨k1,k2,k3⟩:=hR.bx j c hc nE;exact⟨hO.blk k1 (by simpa using hR.ne j i c b hc h nE ho gz),k2,k3⟩
 ·simp[St.sE]at g1 g2;rw[iU h]at g1 g2;have key:∀{j c},(if j=i then some {b with cells:=cs,stp:=st.ct,sh:=false}else cV st.bx j)=some c->c.ok=true->∃c',cV st.bx j=some c'/\c'.ok=true:=fun{j c} g hc=>by
   split at g
   ·rename_i e;subst e;exact⟨b,h,ho⟩
   ·exact⟨c,g,hc⟩
  obtain⟨c1,e1,e2⟩:=key g1 g3;obtain⟨c2,f1,f2⟩:=key g2 g4;exact hR.ne j l c1 c2 e1 f1 e2 f2 rk
 ·show Only ((bif b.blk.isSome&&!st.dt.elem i then i::st.dt else st.dt).map β) st.w0 w1;cases hb:(b.blk.isSome&&!st.dt.elem i)with
  | true=>exact hR.only.cons hO
  | false=>
   simp only[Bool.and_eq_false_iff,G6]at hb;rcases hb with hb | hb
   ·refine hR.only.new hO (hk.new ?_);cases hn:b.blk with
    | none=>rfl
    | some k=>rw[hn]at hb;cases hb
   ·refine hR.only.mem hO (cJ.2 ⟨i,?_,rfl⟩);simpa using hb
structure Flg (l l':List jN):Prop where
 fw:∀i b,cV l' i=some b->∃c,cV l i=some c/\c.blk=b.blk/\c.ty=b.ty/\c.cells=b.cells/\c.stp=b.stp/\c.ok=b.ok
 bw:∀i b,cV l i=some b->∃c,cV l' i=some c/\c.ty=b.ty/\c.ok=b.ok/\∀k,b.blk=some k->c.blk=some k
theorem Flg.refl l:Flg l l:=⟨fun i b h=>⟨b,h,rfl,rfl,rfl,rfl,rfl⟩,Og⟩
theorem Flg.trans{l m n}(h:Flg l m)(k:Flg m n):Flg l n:=⟨fun i b hb=>by
 obtain⟨c,c1,c2,c3,c4,c5,c6⟩:=k.fw i b hb;obtain⟨d,d1,d2,d3,d4,d5,d6⟩:=h.fw i c c1;exact⟨d,d1,d2.trans c2,d3.trans c3,d4.trans c4,d5.trans c5,d6.trans c6⟩,fun i b hb=>by
 obtain⟨c,c1,c2,c3,c4⟩:=h.bw i b hb;obtain⟨d,d1,d2,d3,d4⟩:=k.bw i c c1;exact⟨d,d1,d2.trans c2,d3.trans c3,fun m hm=>d4 m (c4 m hm)⟩⟩
theorem Ext.flg{l'}(h:Flg st.bx l'):Ext st {st with bx:=l'}:=⟨rfl,aY _,fun _ _ _ h _=>h,fun i b' hb ho _=>by
 obtain⟨c,c1,c2,c3,c4,c5,c6⟩:=h.fw i b' hb;exact⟨c,c1,c6.trans ho,c4,c3,c5,fun k hk=>by rw[<-c2];exact hk⟩,h.bw,Et⟩
theorem Rep.flg{l'}(hR:Rep β st a w)(h:Flg st.bx l'):Rep β {st with bx:=l'} a w:=by
 refine⟨hR.fr,fun i b hb ho=>?_,fun i j bi bj g1 g2 g3 g4 rk=>?_,hR.only,hR.still⟩
 ·obtain⟨c,c1,c2,c3,c4,c5,c6⟩:=h.fw i b hb;obtain⟨k1,k2,k3⟩:=hR.bx i c c1 (c6.trans ho);exact⟨by rw[<-c3,<-c4];exact k1,fun k hk=>k2 k (c2.trans hk),fun hk=>k3 (c2.trans hk)⟩
 ·obtain⟨c,c1,_,_,_,_,c6⟩:=h.fw i bi g1;obtain⟨d,d1,_,_,_,_,d6⟩:=h.fw j bj g2;exact hR.ne i j c d c1 d1 (c6.trans g3) (d6.trans g4) rk
def VC:SV->List Nat
 | .box i _=>[i]
 | .fn _ fs cs=>VC fs++VC cs
 | .agg l=>VC l
 | .tup l=>VC l
 | .c h t=>VC h++VC t
 | _=>[]
def L6:Nat->List Nat->List jN->List jN
 | 0,_,bx=>bx
 | _+1,[],bx=>bx
 | f+1,i::r,bx=>match cV bx i with
  | some b=>bif b.esc then L6 f r bx else L6 f (flat VC b.cells++r) (L2 bx i {b with esc:=true,sh:=false})
  | none=>L6 f r bx
theorem rG:∀f l bx,Flg bx (L6 f l bx)
 | 0,_,bx=>Flg.refl _
 | _+1,[],bx=>Flg.refl _
 | f+1,i::r,bx=>by
  unfold L6;split
  ·rename_i b hb;cases he:b.esc with
   | true=>exact rG f r bx
   | false=>
    refine Flg.trans ⟨fun j c hc=>?_,fun j c hc=>?_⟩ (rG f _ _);rotate_left
    ·rw[iU hb];split
     ·rename_i e;subst e;rw[hb]at hc;simp at hc;subst hc;exact⟨_,rfl,rfl,rfl,fun _ h=>h⟩
     ·exact⟨c,hc,rfl,rfl,fun _ h=>h⟩
    rw[iU hb]at hc;split at hc
    ·rename_i e;subst e;simp at hc;subst hc;exact⟨b,hb,rfl,rfl,rfl,rfl,rfl⟩
    ·exact⟨c,hc,rfl,rfl,rfl,rfl,rfl⟩
  ·exact rG f r bx
def St.esc(st:St)(l:List SV):St:={st with bx:=L6 1000 (flat VC l) st.bx}
theorem Ext.esc st l:Ext st (st.esc l):=Ext.flg (rG _ _ _)
theorem Rep.esc(hR:Rep β st a w) l:Rep β (st.esc l) a w:=hR.flg (rG _ _ _)
end
def zc(P:Program)(t:TypeId):Option (List SV):=match P.info? t with
 | some i=>(match i.zero with
  | some z=>HA z.cells.toList
  | none=>none)
 | none=>none
theorem VD{P}{t}{zs}(h:zc P t=some zs) w:∃z,(zeroValue t).run P w=.ok z w/\∀β,z.cells=(cu β zs).toArray:=by
 unfold zc at h;split at h
 ·rename_i i hi;split at h
  ·rename_i z hz;exact⟨z,by simp[zeroValue,typeInfo,hi,hz],fun β=>by rw[xZ β h]⟩
  ·cases h
 ·cases h
def chk(st:St)(zs:List SV):Bool:=L5 st.bx.length st.fr&&HF st.bx.length st.bx&&Td st.bx.length zs&&yU st.bx st.dt
def pF:List jN->Bool
 | []=>true
 | b::r=>(!b.ok||b.blk.isSome)&&pF r
theorem uN:∀{l:List jN},pF l=true->∀i b,cV l i=some b->b.ok=true->b.blk.isSome=true
 | c::r,h,0,b,hb,ho=>by
  simp[pF,aQ,cp,dy]at h;simp[cV,ba]at hb;subst hb;rcases h.1 with h1 | h1
  ·rw[ho]at h1;cases h1
  ·exact h1
 | c::r,h,i+1,b,hb,ho=>by
  simp[pF,aQ]at h;exact uN h.2 i b hb ho
def neB(bk:Nat):List jN->Prop->Prop
 | [],p=>p
 | b::r,p=>bif b.ok then b.blk.getD 0≠bk/\neB bk r p else neB bk r p
theorem HG{bk}:∀{l:List jN} {p:Prop},neB bk l p->p/\∀i b,cV l i=some b->b.ok=true->b.blk.getD 0≠bk
 | [],p,h=>⟨h,fun i b hb=>by cases hb⟩
 | c::r,p,h=>by
  rcases mh h with⟨hc,h⟩ | ⟨hc,h⟩
  ·obtain⟨h1,h2⟩:=h;obtain⟨h3,h4⟩:=HG h2;refine⟨h3,fun i b hb ho=>?_⟩;cases i with
   | zero=>simp[cV,ba]at hb;subst hb;exact h1
   | succ i=>exact h4 i b hb ho
  ·obtain⟨h3,h4⟩:=HG h;refine⟨h3,fun i b hb ho=>?_⟩;cases i with
   | zero=>simp[cV,ba]at hb;subst hb;rw[hc]at ho;cases ho
   | succ i=>exact h4 i b hb ho
def tI(esc:Bool):List jN->List Nat
 | []=>[]
 | b::r=>bif b.ok&&(esc||!b.esc)then b.blk.getD 0::tI esc r else tI esc r
theorem nD{esc}:∀{l:List jN} {i:Nat} {b:jN},cV l i=some b->b.ok=true->(esc||!b.esc)=true->b.blk.getD 0∈tI esc l
 | c::r,0,b,h,ho,he=>by
  simp[cV,ba]at h;subst h;simp[tI,ho,he]
 | c::r,i+1,b,h,ho,he=>by
  have:=nD (l:=r) (i:=i) h ho he;simp[tI];cases(c.ok&&_)with
  | true=>simp[this]
  | false=>exact this
def yY(l:List Nat)(w0 w1:ay)(p:Prop):Prop:=match l with
 | []=>p
 | _=>ci l w0 w1/\p
theorem rH{l}{w0 w1}{p}(h:yY l w0 w1 p):p/\ci l w0 w1:=by
 unfold yY at h;split at h
 ·exact⟨h,N9⟩
 ·exact⟨h.2,h.1⟩
def Ou(P:Program)(w1:ay)(ct:Nat):List jN->(List jN->Prop)->Prop
 | [],K=>K []
 | b::r,K=>bif b.ok&&b.esc then S1 (Oh P 12 b.ty) fun vs=>Blk w1 (b.blk.getD 0) b.ty (cu β0 vs)/\Ou P w1 ct r fun r'=>K ({b with cells:=vs,stp:=ct,sh:=true}::r')
  else Ou P w1 ct r fun r'=>K (b::r')
theorem yd{P}{w1}{ct}:∀{l:List jN} {K:List jN->Prop},Ou P w1 ct l K->∃l',K l'/\(∀i b',cV l' i=some b'->∃b,cV l i=some b/\b'.ok=b.ok/\b'.blk=b.blk/\b'.ty=b.ty/\
  ((b'=b/\(b.ok&&b.esc)=false)∨(b'.stp=ct/\(∀β,cu β b'.cells=cu β0 b'.cells)/\Blk w1 (b.blk.getD 0) b.ty (cu β0 b'.cells))))/\
  ∀i b,cV l i=some b->∃b',cV l' i=some b'/\b'.ty=b.ty/\b'.ok=b.ok/\∀k,b.blk=some k->b'.blk=some k
 | [],K,h=>⟨[],h,fun i b' hb=>(by cases hb),fun i b hb=>(by cases hb)⟩
 | c::r,K,h=>by
  rcases mh h with⟨hc,h⟩ | ⟨hc,h⟩
  ·obtain⟨vs,⟨hB,h⟩,_,qf⟩:=rD h;obtain⟨l',h1,h2,h3⟩:=yd h;refine⟨_,h1,fun i b' hb=>?_,fun i b hb=>?_⟩;rotate_left
   ·cases i with
    | zero=>simp[cV,ba]at hb;subst hb;exact⟨_,rfl,rfl,rfl,fun _ h=>h⟩
    | succ i=>exact h3 i b hb
   cases i with
   | zero=>
    simp[cV,ba]at hb;subst hb;exact⟨c,rfl,rfl,rfl,rfl,.inr ⟨rfl,fun β=>gH (g:=fun _=>false) (fun i h=>(by cases h)) vs (qf _),hB⟩⟩
   | succ i=>exact h2 i b' hb
  ·obtain⟨l',h1,h2,h3⟩:=yd h;refine⟨_,h1,fun i b' hb=>?_,fun i b hb=>?_⟩;rotate_left
   ·cases i with
    | zero=>simp[cV,ba]at hb;subst hb;exact⟨_,rfl,rfl,rfl,fun _ h=>h⟩
    | succ i=>exact h3 i b hb
   cases i with
   | zero=>
    simp[cV,ba]at hb;subst hb;exact⟨c,rfl,rfl,rfl,rfl,.inl ⟨rfl,hc⟩⟩
   | succ i=>exact h2 i b' hb
def exR(P:Program):List TypeId->(List SV->Prop)->Prop
 | [],K=>K []
 | t::r,K=>S1 (Oh P 12 t) fun vs=>exR P r fun rs=>K (L3 (match P.underlying t with | some d=>lq d | none=>false) vs::rs)
theorem CV g:∀l,cln g (mA l)=gZ g l
 | []=>rfl
 | s::r=>by simp[mA,cln,gZ,CV g r]
theorem Jl g ag {l} (h:gZ g l=true):cln g (L3 ag l)=true:=by
 cases ag with
 | true=>show cln g (mA l)=true;rw[CV];exact h
 | false=>
  cases l with
  | nil=>rfl
  | cons s r=>simp[gZ,aQ]at h;exact h.1
theorem CW{P}:∀{ts:List TypeId} {K:List SV->Prop},exR P ts K->∃rs,K rs/\∀g,gZ g rs=true
 | [],K,h=>⟨[],h,fun _=>rfl⟩
 | t::r,K,h=>by
  obtain⟨vs,h,_,h2⟩:=rD h;obtain⟨rs,h3,h4⟩:=CW h;exact⟨_,h3,fun g=>by simp[gZ,Jl g _ (h2 g),h4 g,mO]⟩
def yZ(rs:List SV):SV:=match rs with
 | [r]=>r
 | rs=>.tup (mA rs)
theorem uO{g}{rs}(h:gZ g rs=true):cln g (yZ rs)=true:=by
 unfold yZ;split
 ·simp only[gZ,aQ]at h;exact h.1
 ·show cln g (mA _)=true;rw[CV];exact h
def CX(P:Program)(t:TypeId):List TypeId:=match P.underlying t with
 | some (.tuple ts)=>ts.toList
 | _=>[t]
def Ov(P:Program)(f:FuncId):Bool:=match P.funcs[f]? with
 | some fn=>!(fn.name== "runtime.NumGoroutine")&&fn.body.isSome
 | none=>false
theorem fF{P}{f}(h:Ov P f=true) args w:(callFunc f args).run P w=.ok (.enter f args) w:=by
 unfold Ov at h;split at h
 ·rename_i fn hf;simp at h;have hb:fn.body≠none:=by
   intro hq;rw[hq]at h;cases h.2
  have hn:fn.name≠ "runtime.NumGoroutine" :=by
   intro hq;rw[hq]at h;simp at h
  simp[callFunc,hf,hn,hb]
 ·cases h
def aca(P:Program)(f:FuncId):List TypeId:=match P.funcs[f]? with
 | some fn=>fn.resultTypes.toList
 | none=>[]
abbrev XT:=ay->ay->Prop->Prop
section
variable {P:Program} {β:Nat->Nat} {st:St} {a:Act} {w w1:ay}
theorem Rep.next(hR:Rep β st a w)(hm:st.mv=false)(hb:pF st.bx=true){bx'}{ct'}
  (h:∀i b',cV bx' i=some b'->b'.ok=true->∃b,cV st.bx i=some b/\b.ok=true/\b'.blk=b.blk/\Blk w1 (β i) b'.ty (cu β b'.cells)):Rep β {st with bx:=bx',w0:=w1,ct:=ct'} a w1:=by
 have key:∀i b,cV st.bx i=some b->b.ok=true->b.blk=some (β i):=fun i b h1 h2=>by
  have:=uN hb i b h1 h2;cases hk:b.blk with
  | none=>rw[hk]at this;cases this
  | some k=>rw[(hR.bx i b h1 h2).at_ k hk]
 refine⟨hR.fr,fun i b' kc ho=>?_,fun i j bi bj g1 g2 g3 g4 rk=>?_,Only.refl _ _,fun _=>rfl⟩
 ·obtain⟨b,h1,h2,h3,h4⟩:=h i b' kc ho;exact⟨h4,fun k hk=>by rw[h3,key i b h1 h2]at hk;simpa using hk,fun hk=>by rw[h3,key i b h1 h2]at hk;cases hk⟩
 ·obtain⟨b,h1,h2,_⟩:=h i bi g1 g3;obtain⟨c,k1,k2,_⟩:=h j bj g2 g4;exact hR.ne i j b c h1 k1 h2 k2 rk
theorem Rep.MZ(hR:Rep β st a w)(hb:pF st.bx=true){i}{b}(h1:cV st.bx i=some b)(h2:b.ok=true):b.blk.getD 0=β i:=by
 have:=uN hb i b h1 h2;cases hk:b.blk with
 | none=>rw[hk]at this;cases this
 | some k=>rw[(hR.bx i b h1 h2).at_ k hk];rfl
def Ow(P:Program)(X:XT)(st:St)(d:Option Tmp)(D9:List TypeId)(f:FuncId)(args:List SV)(oc:List az)(K:St->Prop):Prop:=
 bif gZ st.Ix args&&pF st.bx then
  Calls P f (cu st.bl args++oc).toArray st.w0 fun e w1=>exR P D9 fun rs=>e=.returned (val β0 (yZ rs))/\
   yY (tI false st.bx) st.w0 w1 (Ou P w1 st.ct st.bx fun bx=>X st.w0 w1 (K (St.put {st with bx:=bx,w0:=w1,ct:=st.ct+1} d (yZ rs))))
 else False
theorem Ox{X}{E:ay->ay->Prop}(hX:∀w0 w1 p,X w0 w1 p->p/\E w0 w1){d}{D9}{f}{args}{oc}{K}(h:Ow P X st d D9 f args oc K)(hm:st.mv=false)(hR:Rep β st a w):
  Calls P f (cu β args++oc).toArray w fun e w'=>∃v,e=.returned v/\∃cH,K cH/\Ext st cH/\E w w'/\Rep β cH (a.put d v) w':=by
 obtain⟨h0,h⟩:=dw h;simp at h0;rw[hR.sD h0.1,<-hR.still hm]at h;refine h.mono ?_;rintro e w1 h;obtain⟨rs,⟨rfl,h1⟩,qf⟩:=CW h;obtain⟨h2,hS⟩:=rH h1;obtain⟨bx',h3,hb,He⟩:=yd h2;obtain⟨h,hE⟩:=hX _ _ _ h3;have ev:val β0 _=val β _:=iz (g:=fun _=>false) (fun i h=>(by cases h)) _ (uO (qf _));refine⟨_,rfl,_,h,?_,hE,?_⟩
 ·refine Ext.trans (t:={st with bx:=bx',w0:=w1,ct:=st.ct+1}) ⟨rfl,iy _,fun _ _ _ h _=>h,fun i b' kc ho hs=>?_,He,Et⟩ (Ext.put _ _ _);obtain⟨b,h1,h2,h3,h4,h5⟩:=hb i b' kc;rcases h5 with⟨rfl,_⟩ | _
  ·exact⟨b',h1,ho,rfl,rfl,rfl,fun _ h=>h⟩
  ·omega
 ·rw[ev];refine Rep.put (Rep.next hR hm h0.2 fun i b' kc ho=>?_) _ _;obtain⟨b,h1,h2,h3,h4,h5⟩:=hb i b' kc;have EB:b.ok=true:=by rw[<-h2];exact ho
  refine⟨b,h1,EB,h3,?_⟩;have eD:=hR.MZ h0.2 h1 EB;rcases h5 with⟨rfl,h6⟩ | ⟨_,h6,h7⟩
  ·have qk:=nD (esc:=false) h1 EB (by rw[EB]at h6;simpa using h6);rw[eD]at qk;exact(hS _ qk).trans (hR.bx i b' h1 EB).blk
  ·rw[h4,h6 β,<-eD];exact h7
def vU(a b:List az):List az:=a++b
def Oy(P:Program)(X:XT)(st:St)(d:Option Tmp)(D9:List TypeId)(f:FuncId)(fst:List az)(args:List SV)(oc:List az)(K:St->Prop):Prop:=
 bif gZ st.Ix args&&pF st.bx then
  Calls P f (vU (vU fst (cu st.bl args)) oc).toArray st.w0 fun e w1=>exR P D9 fun rs=>e=.returned (val β0 (yZ rs))/\
   yY (tI false st.bx) st.w0 w1 (Ou P w1 st.ct st.bx fun bx=>X st.w0 w1 (K (St.put {st with bx:=bx,w0:=w1,ct:=st.ct+1} d (yZ rs))))
 else False
theorem Oz{X}{E:ay->ay->Prop}(hX:∀w0 w1 p,X w0 w1 p->p/\E w0 w1){d}{D9}{f}{fst}{args}{oc}{K}(h:Oy P X st d D9 f fst args oc K)(hm:st.mv=false)(hR:Rep β st a w):
  Calls P f (vU (vU fst (cu β args)) oc).toArray w fun e w'=>∃v,e=.returned v/\∃cH,K cH/\Ext st cH/\E w w'/\Rep β cH (a.put d v) w':=by
 obtain⟨h0,h⟩:=dw h;simp at h0;rw[hR.sD h0.1,<-hR.still hm]at h;refine h.mono ?_;rintro e w1 h;obtain⟨rs,⟨rfl,h1⟩,qf⟩:=CW h;obtain⟨h2,hS⟩:=rH h1;obtain⟨bx',h3,hb,He⟩:=yd h2;obtain⟨h,hE⟩:=hX _ _ _ h3;have ev:val β0 _=val β _:=iz (g:=fun _=>false) (fun i h=>(by cases h)) _ (uO (qf _));refine⟨_,rfl,_,h,?_,hE,?_⟩
 ·refine Ext.trans (t:={st with bx:=bx',w0:=w1,ct:=st.ct+1}) ⟨rfl,iy _,fun _ _ _ h _=>h,fun i b' kc ho hs=>?_,He,Et⟩ (Ext.put _ _ _);obtain⟨b,h1,h2,h3,h4,h5⟩:=hb i b' kc;rcases h5 with⟨rfl,_⟩ | _
  ·exact⟨b',h1,ho,rfl,rfl,rfl,fun _ h=>h⟩
  ·omega
 ·rw[ev];refine Rep.put (Rep.next hR hm h0.2 fun i b' kc ho=>?_) _ _;obtain⟨b,h1,h2,h3,h4,h5⟩:=hb i b' kc;have EB:b.ok=true:=by rw[<-h2];exact ho
  refine⟨b,h1,EB,h3,?_⟩;have eD:=hR.MZ h0.2 h1 EB;rcases h5 with⟨rfl,h6⟩ | ⟨_,h6,h7⟩
  ·have qk:=nD (esc:=false) h1 EB (by rw[EB]at h6;simpa using h6);rw[eD]at qk;exact(hS _ qk).trans (hR.bx i b' h1 EB).blk
  ·rw[h4,h6 β,<-eD];exact h7
def rf(P:Program)(X:XT)(st:St)(d:Option Tmp)(D9:List TypeId)(args:List SV)(run:List az->Sem az)(K:St->Prop):Prop:=
 bif gZ st.Ix args&&pF st.bx then
  exR P D9 fun rs=>∃w1,(run (cu st.bl args)).run P st.w0=.ok (val β0 (yZ rs)) w1/\yY (tI true st.bx) st.w0 w1 (X st.w0 w1 (K (St.put {st with w0:=w1} d (yZ rs))))
 else False
theorem Jm{X}{E:ay->ay->Prop}(hX:∀w0 w1 p,X w0 w1 p->p/\E w0 w1){d}{D9}{args}{run}{K}(h:rf P X st d D9 args run K)(hm:st.mv=false)(hR:Rep β st a w):
  ∃v w',(run (cu β args)).run P w=.ok v w'/\∃cH,K cH/\Ext st cH/\E w w'/\Rep β cH (a.put d v) w':=by
 obtain⟨h0,h⟩:=dw h;simp at h0;rw[hR.sD h0.1,<-hR.still hm]at h;obtain⟨rs,⟨w1,hr,h⟩,qf⟩:=CW h;obtain⟨h,hS⟩:=rH h;obtain⟨h,hE⟩:=hX _ _ _ h;have ev:val β0 _=val β _:=iz (g:=fun _=>false) (fun i h=>(by cases h)) _ (uO (qf _));refine⟨_,w1,hr,_,h,?_,hE,?_⟩
 ·refine Ext.trans (t:={st with w0:=w1}) ⟨rfl,aY _,fun _ _ _ h _=>h,fun i b' kc ho hs=>⟨b',kc,ho,rfl,rfl,rfl,fun _ h=>h⟩,Og,Et⟩ (Ext.put _ _ _)
 ·rw[ev];refine Rep.put (Rep.next (ct':=st.ct) hR hm h0.2 fun i b' kc ho=>⟨b',kc,ho,rfl,?_⟩) _ _;have qk:=nD (esc:=true) kc ho rfl;rw[hR.MZ h0.2 kc ho]at qk;exact(hS _ qk).trans (hR.bx i b' kc ho).blk
def OA(P:Program)(X:XT)(st:St)(d:Option Tmp)(args:List SV)(run:List az->Sem az)(rs:SV)(K:St->Prop):Prop:=
 bif gZ st.Ix args&&pF st.bx&&cln (fun _=>false) rs then
  ∃w1,(run (cu st.bl args)).run P st.w0=.ok (val β0 rs) w1/\yY (tI true st.bx) st.w0 w1 (X st.w0 w1 (K (St.put {st with w0:=w1} d rs)))
 else False
theorem ye{X}{E:ay->ay->Prop}(hX:∀w0 w1 p,X w0 w1 p->p/\E w0 w1){d}{args}{run}{rs}{K}(h:OA P X st d args run rs K)(hm:st.mv=false)(hR:Rep β st a w):
  ∃v w',(run (cu β args)).run P w=.ok v w'/\∃cH,K cH/\Ext st cH/\E w w'/\Rep β cH (a.put d v) w':=by
 obtain⟨h0,h⟩:=dw h;simp at h0;rw[hR.sD h0.1.1,<-hR.still hm]at h;obtain⟨w1,hr,h⟩:=h;obtain⟨h,hS⟩:=rH h;obtain⟨h,hE⟩:=hX _ _ _ h;have ev:val β0 rs=val β rs:=iz (g:=fun _=>false) (fun i h=>(by cases h)) _ h0.2;refine⟨_,w1,hr,_,h,?_,hE,?_⟩
 ·refine Ext.trans (t:={st with w0:=w1}) ⟨rfl,aY _,fun _ _ _ h _=>h,fun i b' kc ho hs=>⟨b',kc,ho,rfl,rfl,rfl,fun _ h=>h⟩,Og,Et⟩ (Ext.put _ _ _)
 ·rw[ev];refine Rep.put (Rep.next (ct':=st.ct) hR hm h0.1.2 fun i b' kc ho=>⟨b',kc,ho,rfl,?_⟩) _ _;have qk:=nD (esc:=true) kc ho rfl;rw[hR.MZ h0.1.2 kc ho]at qk;exact(hS _ qk).trans (hR.bx i b' kc ho).blk
def Te(P:Program)(X:XT)(st:St)(d:Option Tmp)(args:List SV)(run:List az->Sem Unit)(K:St->Prop):Prop:=
 bif gZ st.Ix args&&pF st.bx then
  ∃w1,(run (cu st.bl args)).run P st.w0=.ok () w1/\yY (tI true st.bx) st.w0 w1 (X st.w0 w1 (K (St.put {st with w0:=w1} d .un)))
 else False
theorem Tf{X}{E:ay->ay->Prop}(hX:∀w0 w1 p,X w0 w1 p->p/\E w0 w1){d}{args}{run}{K}(h:Te P X st d args run K)(hm:st.mv=false)(hR:Rep β st a w):
  ∃w',(run (cu β args)).run P w=.ok () w'/\∃cH,K cH/\Ext st cH/\E w w'/\Rep β cH (a.put d undef) w':=by
 obtain⟨h0,h⟩:=dw h;simp at h0;rw[hR.sD h0.1,<-hR.still hm]at h;obtain⟨w1,hr,h⟩:=h;obtain⟨h,hS⟩:=rH h;obtain⟨h,hE⟩:=hX _ _ _ h;refine⟨w1,hr,_,h,?_,hE,?_⟩
 ·refine Ext.trans (t:={st with w0:=w1}) ⟨rfl,aY _,fun _ _ _ h _=>h,fun i b' kc ho hs=>⟨b',kc,ho,rfl,rfl,rfl,fun _ h=>h⟩,Og,Et⟩ (Ext.put _ _ _)
 ·refine Rep.put (v:=.un) (Rep.next (ct':=st.ct) hR hm h0.2 fun i b' kc ho=>⟨b',kc,ho,rfl,?_⟩) _;have qk:=nD (esc:=true) kc ho rfl;rw[hR.MZ h0.2 kc ho]at qk;exact(hS _ qk).trans (hR.bx i b' kc ho).blk
end
end Go.Kt.V
