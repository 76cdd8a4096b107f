import Derived.Test.YtmhoiicofhlgbaaGreatDoorQl1
import Derived.Shelf.Strings.Builder1
import Derived.Shelf.Strings.Builder2
import Derived.Shelf.Strings.OnBuilder
import Derived.Shelf.Strings.Trim
import Derived.Shelf.Small.Utf8
import Derived.Shelf.Small.Strs
import Derived.Shelf.Strings.BuilderF
import Derived.Shelf.Strconv.Itoa0
import Derived.Shelf.Strconv.Itoa1
import Derived.Shelf.LaysM
import Derived.Shelf.Strconv.Itoa2
import Derived.Shelf.Strconv.Itoa3
import Derived.Shelf.Strconv.ParseIntEmpty
import Derived.Shelf.Strconv.Clone
import Derived.Shelf.Strconv.SyntaxError
import Derived.Shelf.LaysC
import Derived.Shelf.Strconv.ToError
import Derived.Shelf.Strconv.Lower
import Derived.Shelf.Strconv.ParseUint10
import Derived.Shelf.Strconv.ParseUint10Empty
import Derived.Shelf.Strconv.ParseUint10Any
import Derived.Shelf.Strconv.ParseInt10
import Derived.Shelf.Strconv.RangeError
import Derived.Shelf.Strconv.ToErrorRange
import Derived.Shelf.Strconv.ParseUintEmpty
import Derived.Shelf.Strconv.ParseUint10b64
import Derived.Shelf.Strconv.ParseUint10b32
import Derived.Shelf.Strconv.ParseUint10b16
import Derived.Shelf.Strconv.ParseUint10b8
import Derived.Shelf.Strconv.ParseUint10At
import Derived.Shelf.Strconv.ParseInt10At64
import Derived.Shelf.Strconv.ParseInt10At32
import Derived.Shelf.Strconv.ParseInt10At16
import Derived.Shelf.Strconv.ParseInt10At8
import Derived.Shelf.Strconv.ParseInt10All
import Derived.Shelf.Strconv.ParseIntPublic10
import Derived.Shelf.Strconv.ErrVarParseInt
import Derived.Shelf.Strings.Search1
import Derived.Shelf.Strings.Search2
import Derived.Shelf.Strings.Search3
import Derived.Shelf.Strings.Cut
import Derived.Shelf.Strings.Count
import Derived.Shelf.Strings.Shaped
import Derived.Shelf.Strings.Prefix
import Derived.Shelf.Strings.Split
import Derived.Shelf.Strings.SplitShaped
import Derived.Shelf.Strings.Runes
import Derived.Shelf.Strings.AsciiSet
import Derived.Shelf.Bits.Mul64
import Derived.Shelf.Strings.Repeat
import Derived.Shelf.Unicode.DecodeSlow
set_option linter.unusedSectionVars false
namespace Go.Kt.V
open Go Go.RowKit Go.Kt
set_option linter.unusedSimpArgs false
set_option linter.unusedVariables false
def zc (P:Program) (t:TypeId):Option (List SV):=match P.info? t with
 | some i=>(match i.zero with
  | some z=>EH z.cells.toList
  | none=>none)
 | none=>none
theorem Rr {P:Program} {t:TypeId} {zs:List SV} (h:zc P t=some zs) (w:World):∃z,(zeroValue t).run P w=.ok z w/\∀β,z.cells=(bq β zs).toArray:=by
 unfold zc at h;split at h
 ·rename_i i hi;split at h
  ·rename_i z hz;exact⟨z,by simp[zeroValue,typeInfo,hi,hz],fun β=>by rw[vP β h]⟩
  ·cases h
 ·cases h
def WH (st:St) (zs:List SV):Bool:=IG st.bx.length st.fr&&EM st.bx.length st.bx&&Pu st.bx.length zs&&wP st.bx st.dt
def ny:List fH->Bool
 | []=>true
 | b::r=>(!b.ok||b.blk.isSome)&&ny r
theorem sD:∀{l:List fH},ny l=true->∀i b,bL l i=some b->b.ok=true->b.blk.isSome=true
 | c::r,h,0,b,hb,ho=>by
  simp only[ny,ab,cp,ch]at h;simp only[bL,ai]at hb;subst hb;rcases h.1 with h1 | h1
  ·rw[ho]at h1;cases h1
  ·exact h1
 | c::r,h,i+1,b,hb,ho=>by
  simp only[ny,ab]at h;exact sD h.2 i b hb ho
def XR (bk:Nat):List fH->Prop->Prop
 | [],p=>p
 | b::r,p=>bif b.ok then b.blk.getD 0≠bk/\XR bk r p else XR bk r p
theorem EN {bk:Nat}:∀{l:List fH} {p:Prop},XR bk l p->p/\∀i b,bL l i=some b->b.ok=true->b.blk.getD 0≠bk
 | [],p,h=>⟨h,fun i b hb=>by cases hb⟩
 | c::r,p,h=>by
  unfold XR at h;rcases kB h with⟨hc,h⟩ | ⟨hc,h⟩
  ·obtain⟨h1,h2⟩:=h;obtain⟨h3,h4⟩:=EN h2;refine⟨h3,fun i b hb ho=>?_⟩;cases i with
   | zero=>simp only[bL,ai]at hb;subst hb;exact h1
   | succ i=>exact h4 i b hb ho
  ·obtain⟨h3,h4⟩:=EN h;refine⟨h3,fun i b hb ho=>?_⟩;cases i with
   | zero=>simp only[bL,ai]at hb;subst hb;rw[hc]at ho;cases ho
   | succ i=>exact h4 i b hb ho
def rh (esc:Bool):List fH->List Nat
 | []=>[]
 | b::r=>bif b.ok&&(esc||!b.esc)then b.blk.getD 0::rh esc r else rh esc r
theorem lr {esc:Bool}:∀{l:List fH} {i:Nat} {b:fH},bL l i=some b->b.ok=true->(esc||!b.esc)=true->b.blk.getD 0∈rh esc l
 | c::r,0,b,h,ho,he=>by
  simp only[bL,ai]at h;subst h;simp[rh,ho,he]
 | c::r,i+1,b,h,ho,he=>by
  have:=lr (l:=r) (i:=i) h ho he;simp only[rh];cases(c.ok&&(esc||!c.esc))with
  | true=>simp[this]
  | false=>exact this
def wT (l:List Nat) (w0 w1:World) (p:Prop):Prop:=match l with
 | []=>p
 | _=>aD l w0 w1/\p
theorem pj {l:List Nat} {w0 w1:World} {p:Prop} (h:wT l w0 w1 p):p/\aD l w0 w1:=by
 unfold wT at h;split at h
 ·exact⟨h,Ko⟩
 ·exact⟨h.2,h.1⟩
def II (P:Program) (w1:World) (ct:Nat):List fH->(List fH->Prop)->Prop
 | [],K=>K []
 | b::r,K=>bif b.ok&&b.esc then WE (Ol P 12 b.ty) fun vs=>Blk w1 (b.blk.getD 0) b.ty (bq β0 vs)/\II P w1 ct r fun r'=>K ({b with cells:=vs,stp:=ct,sh:=true}::r')
  else II P w1 ct r fun r'=>K (b::r')
theorem vQ {P:Program} {w1:World} {ct:Nat}:∀{l:List fH} {K:List fH->Prop},II P w1 ct l K->∃l',K l'/\(∀i b',bL l' i=some b'->∃b,bL l i=some b/\b'.ok=b.ok/\b'.blk=b.blk/\b'.ty=b.ty/\
  ((b'=b/\(b.ok&&b.esc)=false)∨(b'.stp=ct/\(∀β,bq β b'.cells=bq β0 b'.cells)/\Blk w1 (b.blk.getD 0) b.ty (bq β0 b'.cells))))/\
  ∀i b,bL l i=some b->∃b',bL l' i=some b'/\b'.ty=b.ty/\b'.ok=b.ok/\∀k,b.blk=some k->b'.blk=some k
 | [],K,h=>⟨[],h,fun i b' hb=>(by cases hb),fun i b hb=>(by cases hb)⟩
 | c::r,K,h=>by
  unfold II at h;rcases kB h with⟨hc,h⟩ | ⟨hc,h⟩
  ·obtain⟨vs,⟨hB,h⟩,_,nY⟩:=wD h;obtain⟨l',h1,h2,h3⟩:=vQ h;refine⟨_,h1,fun i b' hb=>?_,fun i b hb=>?_⟩;rotate_left
   ·cases i with
    | zero=>simp only[bL,ai]at hb;subst hb;exact⟨_,rfl,rfl,rfl,fun _ h=>h⟩
    | succ i=>exact h3 i b hb
   cases i with
   | zero=>
    simp only[bL,ai]at hb;subst hb;exact⟨c,rfl,rfl,rfl,rfl,.inr ⟨rfl,fun β=>fh (g:=fun _=>false) (fun i h=>(by cases h)) vs (nY _),hB⟩⟩
   | succ i=>exact h2 i b' hb
  ·obtain⟨l',h1,h2,h3⟩:=vQ h;refine⟨_,h1,fun i b' hb=>?_,fun i b hb=>?_⟩;rotate_left
   ·cases i with
    | zero=>simp only[bL,ai]at hb;subst hb;exact⟨_,rfl,rfl,rfl,fun _ h=>h⟩
    | succ i=>exact h3 i b hb
   cases i with
   | zero=>
    simp only[bL,ai]at hb;subst hb;exact⟨c,rfl,rfl,rfl,rfl,.inl ⟨rfl,hc⟩⟩
   | succ i=>exact h2 i b' hb
def XS (P:Program):List TypeId->(List SV->Prop)->Prop
 | [],K=>K []
 | t::r,K=>WE (Ol P 12 t) fun vs=>XS P r fun rs=>K (Ky (match P.underlying t with | some d=>kA d | none=>false) vs::rs)
theorem Ao (g:Nat->Bool):∀l,cln g (ld l)=fz g l
 | []=>rfl
 | s::r=>by simp only[ld,cln,fz,Ao g r]
theorem Pv (g:Nat->Bool) (ag:Bool) {l:List SV} (h:fz g l=true):cln g (Ky ag l)=true:=by
 cases ag with
 | true=>show cln g (ld l)=true;rw[Ao];exact h
 | false=>
  cases l with
  | nil=>rfl
  | cons s r=>simp only[fz,ab]at h;exact h.1
theorem Ap {P:Program}:∀{ts:List TypeId} {K:List SV->Prop},XS P ts K->∃rs,K rs/\∀g,fz g rs=true
 | [],K,h=>⟨[],h,fun _=>rfl⟩
 | t::r,K,h=>by
  obtain⟨vs,h,_,h2⟩:=wD h;obtain⟨rs,h3,h4⟩:=Ap h;exact⟨_,h3,fun g=>by simp only[fz,Pv g _ (h2 g),h4 g,dk]⟩
def po (rs:List SV):SV:=match rs with
 | [r]=>r
 | rs=>.tup (ld rs)
theorem sE {g:Nat->Bool} {rs:List SV} (h:fz g rs=true):cln g (po rs)=true:=by
 unfold po;split
 ·simp only[fz,ab]at h;exact h.1
 ·show cln g (ld _)=true;rw[Ao];exact h
def Aq (P:Program) (t:TypeId):List TypeId:=match P.underlying t with
 | some (.tuple ts)=>ts.toList
 | _=>[t]
def KG (P:Program) (f:FuncId):Bool:=match P.funcs[f]? with
 | some fn=>!(fn.name== "runtime.NumGoroutine")&&fn.body.isSome
 | none=>false
theorem gr {P:Program} {f:FuncId} (h:KG P f=true) (args:Array Value) (w:World):(callFunc f args).run P w=.ok (.enter f args) w:=by
 unfold KG at h;split at h
 ·rename_i fn hf;simp only[ab,ch]at h;have hb:fn.body≠none:=by
   intro hq;rw[hq]at h;cases h.2
  have hn:fn.name≠ "runtime.NumGoroutine" :=by
   intro hq;rw[hq]at h;simp at h
  simp[callFunc,hf,hn,hb]
 ·cases h
def XU (P:Program) (f:FuncId):List TypeId:=match P.funcs[f]? with
 | some fn=>fn.resultTypes.toList
 | none=>[]
abbrev XT:=World->World->Prop->Prop
section
variable {P:Program} {β:Nat->Nat} {st:St} {a:Act} {w w1:World}
theorem Rep.next (hR:Rep β st a w) (hm:st.mv=false) (hb:ny st.bx=true) {WS:List fH} {ct':Nat}
  (h:∀i b',bL WS i=some b'->b'.ok=true->∃b,bL st.bx i=some b/\b.ok=true/\b'.blk=b.blk/\Blk w1 (β i) b'.ty (bq β b'.cells)):Rep β {st with bx:=WS,w0:=w1,ct:=ct'} a w1:=by
 have key:∀i b,bL st.bx i=some b->b.ok=true->b.blk=some (β i):=fun i b h1 h2=>by
  have:=sD hb i b h1 h2;cases hk:b.blk with
  | none=>rw[hk]at this;cases this
  | some k=>rw[(hR.bx i b h1 h2).at_ k hk]
 refine⟨hR.fr,fun i b' kH ho=>?_,fun i j bi bj g1 g2 g3 g4 qd=>?_,Only.refl _ _,fun _=>rfl⟩
 ·obtain⟨b,h1,h2,h3,h4⟩:=h i b' kH ho;exact⟨h4,fun k hk=>by rw[h3,key i b h1 h2]at hk;simpa using hk,fun hk=>by rw[h3,key i b h1 h2]at hk;cases hk⟩
 ·obtain⟨b,h1,h2,_⟩:=h i bi g1 g3;obtain⟨c,k1,k2,_⟩:=h j bj g2 g4;exact hR.ne i j b c h1 k1 h2 k2 qd
theorem Rep.Ju (hR:Rep β st a w) (hb:ny st.bx=true) {i:Nat} {b:fH} (h1:bL st.bx i=some b) (h2:b.ok=true):b.blk.getD 0=β i:=by
 have:=sD hb i b h1 h2;cases hk:b.blk with
 | none=>rw[hk]at this;cases this
 | some k=>rw[(hR.bx i b h1 h2).at_ k hk];rfl
def Gr (P:Program) (X:XT) (st:St) (d:Option Tmp) (Bs:List TypeId) (f:FuncId) (args:List SV) (lY:List Value) (K:St->Prop):Prop:=
 bif fz st.FH args&&ny st.bx then
  Calls P f (bq st.bl args++lY).toArray st.w0 fun e w1=>XS P Bs fun rs=>e=.returned (val β0 (po rs))/\
   wT (rh false st.bx) st.w0 w1 (II P w1 st.ct st.bx fun bx=>X st.w0 w1 (K (St.put {st with bx:=bx,w0:=w1,ct:=st.ct+1} d (po rs))))
 else False
theorem KH {X:XT} {E:World->World->Prop} (hX:∀w0 w1 p,X w0 w1 p->p/\E w0 w1) {d:Option Tmp} {Bs:List TypeId} {f:FuncId} {args:List SV} {lY:List Value} {K:St->Prop} (h:Gr P X st d Bs f args lY K) (hm:st.mv=false) (hR:Rep β st a w):
  Calls P f (bq β args++lY).toArray w fun e w'=>∃v,e=.returned v/\∃bH,K bH/\Ext st bH/\E w w'/\Rep β bH (a.put d v) w':=by
 unfold Gr at h;obtain⟨h0,h⟩:=cw h;simp only[ab]at h0;rw[hR.pZ h0.1,<-hR.still hm]at h;refine h.mono ?_;rintro e w1 h;obtain⟨rs,⟨rfl,h1⟩,nY⟩:=Ap h;clear h;obtain⟨h2,hS⟩:=pj h1;obtain⟨WS,h3,hb,El⟩:=vQ h2;obtain⟨h,hE⟩:=hX _ _ _ h3;have ev:val β0 (po rs)=val β (po rs):=gy (g:=fun _=>false) (fun i h=>(by cases h)) _ (sE (nY _));refine⟨_,rfl,_,h,?_,hE,?_⟩
 ·refine Ext.trans (t:={st with bx:=WS,w0:=w1,ct:=st.ct+1}) ⟨rfl,fS _,fun _ _ _ h _=>h,fun i b' kH ho hs=>?_,El,BE⟩ (Ext.put _ _ _);obtain⟨b,h1,h2,h3,h4,h5⟩:=hb i b' kH;rcases h5 with⟨rfl,_⟩ | ⟨h5,_⟩
  ·exact⟨b',h1,ho,rfl,rfl,rfl,fun _ h=>h⟩
  ·omega
 ·rw[ev];refine Rep.put (Rep.next hR hm h0.2 fun i b' kH ho=>?_) _ _;obtain⟨b,h1,h2,h3,h4,h5⟩:=hb i b' kH;have BK:b.ok=true:=by rw[<-h2];exact ho
  refine⟨b,h1,BK,h3,?_⟩;have eD:=hR.Ju h0.2 h1 BK;rcases h5 with⟨rfl,h6⟩ | ⟨_,h6,h7⟩
  ·have hk:=(hR.bx i b' h1 BK).blk;have tI:=lr (esc:=false) h1 BK (by rw[BK]at h6;simpa using h6);rw[eD]at tI;exact(hS _ tI).trans hk
  ·rw[h4,h6 β,<-eD];exact h7
def vi (a b:List Value):List Value:=a++b
def Gs (P:Program) (X:XT) (st:St) (d:Option Tmp) (Bs:List TypeId) (f:FuncId) (fst:List Value) (args:List SV) (lY:List Value) (K:St->Prop):Prop:=
 bif fz st.FH args&&ny st.bx then
  Calls P f (vi (vi fst (bq st.bl args)) lY).toArray st.w0 fun e w1=>XS P Bs fun rs=>e=.returned (val β0 (po rs))/\
   wT (rh false st.bx) st.w0 w1 (II P w1 st.ct st.bx fun bx=>X st.w0 w1 (K (St.put {st with bx:=bx,w0:=w1,ct:=st.ct+1} d (po rs))))
 else False
theorem KI {X:XT} {E:World->World->Prop} (hX:∀w0 w1 p,X w0 w1 p->p/\E w0 w1) {d:Option Tmp} {Bs:List TypeId} {f:FuncId} {fst:List Value} {args:List SV} {lY:List Value} {K:St->Prop} (h:Gs P X st d Bs f fst args lY K) (hm:st.mv=false) (hR:Rep β st a w):
  Calls P f (vi (vi fst (bq β args)) lY).toArray w fun e w'=>∃v,e=.returned v/\∃bH,K bH/\Ext st bH/\E w w'/\Rep β bH (a.put d v) w':=by
 unfold Gs at h;obtain⟨h0,h⟩:=cw h;simp only[ab]at h0;rw[hR.pZ h0.1,<-hR.still hm]at h;refine h.mono ?_;rintro e w1 h;obtain⟨rs,⟨rfl,h1⟩,nY⟩:=Ap h;clear h;obtain⟨h2,hS⟩:=pj h1;obtain⟨WS,h3,hb,El⟩:=vQ h2;obtain⟨h,hE⟩:=hX _ _ _ h3;have ev:val β0 (po rs)=val β (po rs):=gy (g:=fun _=>false) (fun i h=>(by cases h)) _ (sE (nY _));refine⟨_,rfl,_,h,?_,hE,?_⟩
 ·refine Ext.trans (t:={st with bx:=WS,w0:=w1,ct:=st.ct+1}) ⟨rfl,fS _,fun _ _ _ h _=>h,fun i b' kH ho hs=>?_,El,BE⟩ (Ext.put _ _ _);obtain⟨b,h1,h2,h3,h4,h5⟩:=hb i b' kH;rcases h5 with⟨rfl,_⟩ | ⟨h5,_⟩
  ·exact⟨b',h1,ho,rfl,rfl,rfl,fun _ h=>h⟩
  ·omega
 ·rw[ev];refine Rep.put (Rep.next hR hm h0.2 fun i b' kH ho=>?_) _ _;obtain⟨b,h1,h2,h3,h4,h5⟩:=hb i b' kH;have BK:b.ok=true:=by rw[<-h2];exact ho
  refine⟨b,h1,BK,h3,?_⟩;have eD:=hR.Ju h0.2 h1 BK;rcases h5 with⟨rfl,h6⟩ | ⟨_,h6,h7⟩
  ·have hk:=(hR.bx i b' h1 BK).blk;have tI:=lr (esc:=false) h1 BK (by rw[BK]at h6;simpa using h6);rw[eD]at tI;exact(hS _ tI).trans hk
  ·rw[h4,h6 β,<-eD];exact h7
def og (P:Program) (X:XT) (st:St) (d:Option Tmp) (Bs:List TypeId) (args:List SV) (run:List Value->Sem Value) (K:St->Prop):Prop:=
 bif fz st.FH args&&ny st.bx then
  XS P Bs fun rs=>∃w1:World,(run (bq st.bl args)).run P st.w0=.ok (val β0 (po rs)) w1/\wT (rh true st.bx) st.w0 w1 (X st.w0 w1 (K (St.put {st with w0:=w1} d (po rs))))
 else False
theorem Gu {X:XT} {E:World->World->Prop} (hX:∀w0 w1 p,X w0 w1 p->p/\E w0 w1) {d:Option Tmp} {Bs:List TypeId} {args:List SV} {run:List Value->Sem Value} {K:St->Prop} (h:og P X st d Bs args run K) (hm:st.mv=false) (hR:Rep β st a w):
  ∃v w',(run (bq β args)).run P w=.ok v w'/\∃bH,K bH/\Ext st bH/\E w w'/\Rep β bH (a.put d v) w':=by
 unfold og at h;obtain⟨h0,h⟩:=cw h;simp only[ab]at h0;rw[hR.pZ h0.1,<-hR.still hm]at h;obtain⟨rs,⟨w1,hr,h⟩,nY⟩:=Ap h;obtain⟨h,hS⟩:=pj h;obtain⟨h,hE⟩:=hX _ _ _ h;have ev:val β0 (po rs)=val β (po rs):=gy (g:=fun _=>false) (fun i h=>(by cases h)) _ (sE (nY _));refine⟨_,w1,hr,_,h,?_,hE,?_⟩
 ·refine Ext.trans (t:={st with w0:=w1}) ⟨rfl,aq _,fun _ _ _ h _=>h,fun i b' kH ho hs=>⟨b',kH,ho,rfl,rfl,rfl,fun _ h=>h⟩,Kx,BE⟩ (Ext.put _ _ _)
 ·rw[ev];refine Rep.put (Rep.next (ct':=st.ct) hR hm h0.2 fun i b' kH ho=>⟨b',kH,ho,rfl,?_⟩) _ _;have eD:=hR.Ju h0.2 kH ho;have tI:=lr (esc:=true) kH ho rfl;rw[eD]at tI;exact(hS _ tI).trans (hR.bx i b' kH ho).blk
def IJ (P:Program) (X:XT) (st:St) (d:Option Tmp) (args:List SV) (run:List Value->Sem Value) (rs:SV) (K:St->Prop):Prop:=
 bif fz st.FH args&&ny st.bx&&cln (fun _=>false) rs then
  ∃w1:World,(run (bq st.bl args)).run P st.w0=.ok (val β0 rs) w1/\wT (rh true st.bx) st.w0 w1 (X st.w0 w1 (K (St.put {st with w0:=w1} d rs)))
 else False
theorem vR {X:XT} {E:World->World->Prop} (hX:∀w0 w1 p,X w0 w1 p->p/\E w0 w1) {d:Option Tmp} {args:List SV} {run:List Value->Sem Value} {rs:SV} {K:St->Prop} (h:IJ P X st d args run rs K) (hm:st.mv=false) (hR:Rep β st a w):
  ∃v w',(run (bq β args)).run P w=.ok v w'/\∃bH,K bH/\Ext st bH/\E w w'/\Rep β bH (a.put d v) w':=by
 unfold IJ at h;obtain⟨h0,h⟩:=cw h;simp only[ab]at h0;rw[hR.pZ h0.1.1,<-hR.still hm]at h;obtain⟨w1,hr,h⟩:=h;obtain⟨h,hS⟩:=pj h;obtain⟨h,hE⟩:=hX _ _ _ h;have ev:val β0 rs=val β rs:=gy (g:=fun _=>false) (fun i h=>(by cases h)) _ h0.2;refine⟨_,w1,hr,_,h,?_,hE,?_⟩
 ·refine Ext.trans (t:={st with w0:=w1}) ⟨rfl,aq _,fun _ _ _ h _=>h,fun i b' kH ho hs=>⟨b',kH,ho,rfl,rfl,rfl,fun _ h=>h⟩,Kx,BE⟩ (Ext.put _ _ _)
 ·rw[ev];refine Rep.put (Rep.next (ct':=st.ct) hR hm h0.1.2 fun i b' kH ho=>⟨b',kH,ho,rfl,?_⟩) _ _;have eD:=hR.Ju h0.1.2 kH ho;have tI:=lr (esc:=true) kH ho rfl;rw[eD]at tI;exact(hS _ tI).trans (hR.bx i b' kH ho).blk
def KJ (P:Program) (X:XT) (st:St) (d:Option Tmp) (args:List SV) (run:List Value->Sem Unit) (K:St->Prop):Prop:=
 bif fz st.FH args&&ny st.bx then
  ∃w1:World,(run (bq st.bl args)).run P st.w0=.ok () w1/\wT (rh true st.bx) st.w0 w1 (X st.w0 w1 (K (St.put {st with w0:=w1} d .un)))
 else False
theorem Pw {X:XT} {E:World->World->Prop} (hX:∀w0 w1 p,X w0 w1 p->p/\E w0 w1) {d:Option Tmp} {args:List SV} {run:List Value->Sem Unit} {K:St->Prop} (h:KJ P X st d args run K) (hm:st.mv=false) (hR:Rep β st a w):
  ∃w',(run (bq β args)).run P w=.ok () w'/\∃bH,K bH/\Ext st bH/\E w w'/\Rep β bH (a.put d undef) w':=by
 unfold KJ at h;obtain⟨h0,h⟩:=cw h;simp only[ab]at h0;rw[hR.pZ h0.1,<-hR.still hm]at h;obtain⟨w1,hr,h⟩:=h;obtain⟨h,hS⟩:=pj h;obtain⟨h,hE⟩:=hX _ _ _ h;refine⟨w1,hr,_,h,?_,hE,?_⟩
 ·refine Ext.trans (t:={st with w0:=w1}) ⟨rfl,aq _,fun _ _ _ h _=>h,fun i b' kH ho hs=>⟨b',kH,ho,rfl,rfl,rfl,fun _ h=>h⟩,Kx,BE⟩ (Ext.put _ _ _)
 ·refine Rep.put (v:=.un) (Rep.next (ct':=st.ct) hR hm h0.2 fun i b' kH ho=>⟨b',kH,ho,rfl,?_⟩) _;have eD:=hR.Ju h0.2 kH ho;have tI:=lr (esc:=true) kH ho rfl;rw[eD]at tI;exact(hS _ tI).trans (hR.bx i b' kH ho).blk
end
def oh (l:List Value) (i:Nat):Value:=match l,i with
 | [],_=>undef
 | v::_,0=>v
 | _::r,i+1=>oh r i
def zp:List Nat->List Value->List (Nat×Value)
 | i::r,v::s=>(i,v)::zp r s
 | _,_=>[]
def Px:List (Nat×SV)->List Nat
 | []=>[]
 | p::r=>p.1::Px r
def KK:List (Nat×SV)->List SV
 | []=>[]
 | p::r=>p.2::KK r
theorem Rs (β:Nat->Nat):∀l:List (Nat×SV),zp (Px l) (bq β (KK l))=uR β l
 | []=>rfl
 | p::r=>by
  have:=Rs β r;simp only[bq]at this;simp only[Px,KK,bq,aI,zp,uR,this]
def XV (P:Program) (t:TypeId):Bool:=match P.underlying t with
 | some (.pointer _)=>true
 | _=>false
def XW:Operand->Bool
 | .const _=>true
 | _=>false
def ptS:SV->Bool
 | .ptr _=>true
 | .ad _=>true
 | _=>false
def gC (P:Program):Op->Bool
 | .move _=>true
 | .assign _=>true
 | .pick _ _ _=>true
 | .binOp _ t x y _=>!(XV P t)||XW x||XW y
 | .unOp _ _ _=>true
 | .extract _ _=>true
 | .build _ _=>true
 | .makeFunc _ _ _=>true
 | .makeInterface _ _=>true
 | .nilCheck _=>true
 | .fieldAddr _ _ _=>true
 | .field _ _ _=>true
 | .indexAddr _ _ _=>true
 | .load _ _=>true
 | .index _ _ _=>true
 | .slice _ _ _ _ _=>true
 | .convert s d _=>(match P.underlying s,P.underlying d with
  | some (.int _),some (.int _)=>true
  | some .string,some .string=>true
  | some (.slice e),some .string=>(match P.underlying e with
   | some (.int .u8)=>true
   | _=>false)
  | _,_=>false)
 | .call c=>(match c.callee with
  | .builtin .len=>(match c.argTypes.toList with
   | [t]=>(match P.underlying t with
    | some (.slice _)=>true
    | some .string=>true
    | _=>false)
   | _=>false)
  | .builtin .cap=>true
  | .builtin .min=>true
  | .builtin .max=>true
  | _=>false)
 | _=>false
def qQ:Op->Bool
 | .store _ _ _=>true
 | _=>false
def XX (P:Program) (X:XT) (st:St) (o:Oper) (b:Builtin) (ts:Array TypeId) (vs:List SV) (K:St->Prop):Prop:=match b with
 | .append=>og P X st o.dst (Aq P o.type) vs (fun l=>Builtin.append_ ts o.type l.toArray) K
 | .copy=>og P X st o.dst (Aq P o.type) vs (fun l=>Builtin.copy_ ts o.type l.toArray) K
 | .delete=>og P X st o.dst (Aq P o.type) vs (fun l=>Builtin.delete_ ts o.type l.toArray) K
 | .clear=>og P X st o.dst (Aq P o.type) vs (fun l=>Builtin.clear_ ts o.type l.toArray) K
 | .len=>og P X st o.dst (Aq P o.type) vs (fun l=>Builtin.len_ ts o.type l.toArray) K
 | .unsafeSliceData=>og P X st o.dst (Aq P o.type) vs (fun l=>Builtin.unsafeSliceData_ ts o.type l.toArray) K
 | .unsafeString=>og P X st o.dst (Aq P o.type) vs (fun l=>Builtin.unsafeString_ ts o.type l.toArray) K
 | _=>False
def IK (f:FuncId) (args:Array Value):Sem Value:=do
 match <-callFunc f args with
 | .value v=>pure v
 | _=>stuck "extV"
theorem KL {P:Program} {f:FuncId} {args:Array Value} {w w1:World} {v:Value} (h:(IK f args).run P w=.ok v w1):(callFunc f args).run P w=.ok (.value v) w1:=by
 unfold IK at h;rw[Sem.run_bind]at h;cases hc:(callFunc f args).run P w with
 | ok n w2=>
  rw[hc,Result.andThen_ok]at h;cases n<;>first | (simp[stuck]at h;done) | (simp only[Sem.run_pure,Result.ok.injEq]at h;obtain⟨rfl,rfl⟩:=h;rfl) | (simp at h)
 | _=>rw[hc]at h;simp at h
theorem TN {P:Program} {a:Act} {w w1:World} {v:Value} {dst:Option Tmp} {x:Operand} {f:FuncId} {first captured:List Value} {xs:List Operand} {ats:Array TypeId} {t':TypeId} {p:String} {af:Array Edge} {g:Option (Nat×Bool)} {args:List Value}
  (hx:a.eval x=.func (.func f) first.toArray captured.toArray)
  (ha:first++xs.map a.eval++captured=args) (hc:(callFunc f args.toArray).run P w=.ok (.value v) w1):
  (execOp a.eval ⟨dst,.call ⟨.value x,xs.toArray,ats⟩,t',p,af,g⟩).run P w=.ok (.value v) w1:=by
 subst ha;simp only[execOp,resolve,hx,Deferred.ofValue,Sem.run_bind,Sem.run_pure,Result.andThen_ok,invoke];simp only[List.append_toArray,nV]at hc⊢;simpa using hc
def TP (P:Program) (X:XT) (st:St) (o:Oper) (fv:SV) (vs:List SV) (K:St->Prop):Prop:=match fv with
 | .fn g fs cs=>bif yz fs&&yz cs&&KG P g then dh (st.esc (jg fs++vs++jg cs)) fun st=>Gr P X st o.dst (XU P g) g (jg fs++vs++jg cs) [] K
  else bif yz fs&&yz cs then dh (st.esc (jg fs++vs++jg cs)) fun st=>og P X st o.dst (XU P g) (jg fs++vs++jg cs) (fun l=>IK g l.toArray) K else False
 | .raw v=>dh (st.esc vs) fun st=>∃(g:FuncId) (fst cap:List Value),v.v=.func (.func g) fst.toArray cap.toArray/\(∀(args:Array Value) (w:World),(callFunc g args).run P w=.ok (.enter g args) w)/\Gs P X st o.dst (Aq P o.type) g fst vs cap K
 | _=>False
abbrev YT:=Option Nat->Prop->Prop
def XY (P:Program) (X:XT) (Y:YT) (st:St) (o:Oper) (p s:SV) (vs:List SV) (K:St->Prop):Prop:=match p with
 | .box i off=>ba (bL st.bx i) fun b=>bif b.ok&&Nat.ble (off+vs.length) b.cells.length then Y b.blk (K ((st.qb i b (XN b.cells off vs)).put o.dst .un))else False
 | .ad p=>dh (st.esc vs) fun st=>∃(bk off:Nat) (cells:List Value) (ety:TypeId),p=(⟨bk,off,none⟩:Addr)/\Blk st.w0 bk ety cells/\off+vs.length<=cells.length/\
  bif fz st.FH vs&&ny st.bx then XR bk st.bx (∀w1:World,Only [bk] st.w0 w1->Blk w1 bk ety (bF cells off (bq st.bl vs))->X st.w0 w1 (K (St.put {st with w0:=w1} o.dst .un)))else False
 | _=>False
def XZ (P:Program) (st:St) (o:Oper) (fv:SV) (vs:List SV) (K:St->Prop):Prop:=match fv with
 | .fn g fs cs=>bif yz fs&&yz cs&&KG P g then dh (st.esc (jg fs++vs++jg cs)) fun st=>bif fz st.FH (jg fs++vs)&&fz st.FH (jg cs)then
  K (St.put {st with df:=(g,bq st.bl (jg fs++vs),bq st.bl (jg cs))::st.df} o.dst .un)else False else False
 | _=>False
def loud (P:Program) (X:XT) (Y:YT) (st:St) (o:Oper) (K:St->Prop):Prop:=match o.op with
 | .binOp op t x y _=>ba (st.ev x) fun a=>ba (st.ev y) fun b=>bif ptS a&&ptS b then dh (st.esc [a,b]) fun st=>og P X st o.dst [o.type] [a,b] (fun vs=>Go.binOp op t (oh vs 0) (oh vs 1)) K else False
 | .alloc t=>ba (zc P t) fun zs=>bif WH st zs then K (st.Bi o.dst t zs)else False
 | .box t x=>ba (st.ev x) fun s=>ba (wF s) fun zs=>bif WH st zs then K (st.Bi o.dst t zs)else False
 | .store t x y=>ba (st.ev x) fun p=>ba (st.ev y) fun s=>ba (wF s) fun vs=>bif sz P t vs.length then XY P X Y st o p s vs K else False
 | .call c=>ba (st.DU c.args.toList) fun vs=>(match c.callee with
  | .value f=>ba (st.ev f) fun fv=>TP P X st o fv vs K
  | .builtin b=>dh (st.esc vs) fun st=>XX P X st o b c.argTypes vs K
  | _=>False)
 | .defer c=>ba (st.DU c.args.toList) fun vs=>(match c.callee with
  | .value f=>ba (st.ev f) fun fv=>XZ P st o fv vs K
  | _=>False)
 | .buildSlice t n ps=>ba (st.Jt ps.toList) fun l=>dh (st.esc (KK l)) fun st=>og P X st o.dst [t] (KK l) (fun vs=>Instr.buildSlice t n (zp (Px l) vs).toArray) K
 | .makeSlice t x y=>ba (st.ev x) fun a=>ba (st.ev y) fun b=>dh st fun st=>og P X st o.dst [t] [a,b] (fun vs=>Instr.makeSlice t (oh vs 0) (oh vs 1)) K
 | .makeMap t none=>dh st fun st=>og P X st o.dst [t] [] (fun _=>Instr.makeMap t none) K
 | .makeMap t (some x)=>ba (st.ev x) fun a=>dh st fun st=>og P X st o.dst [t] [a] (fun vs=>Instr.makeMap t (some (oh vs 0))) K
 | .lookup t x i ok=>ba (st.ev x) fun a=>ba (st.ev i) fun b=>dh st fun st=>og P X st o.dst (Aq P o.type) [a,b] (fun vs=>Instr.lookup t (oh vs 0) (oh vs 1) ok) K
 | .mapUpdate t x y z=>ba (st.ev x) fun a=>ba (st.ev y) fun b=>ba (st.ev z) fun c=>dh (st.esc [a,b,c]) fun st=>KJ P X st o.dst [a,b,c] (fun vs=>Instr.mapUpdate t (oh vs 0) (oh vs 1) (oh vs 2)) K
 | .insert t x y z=>ba (st.ev x) fun a=>ba (st.ev y) fun b=>ba (st.ev z) fun c=>dh (st.esc [a,b,c]) fun st=>KJ P X st o.dst [a,b,c] (fun vs=>Instr.mapUpdate t (oh vs 0) (oh vs 1) (oh vs 2)) K
 | .convert s d x=>ba (st.ev x) fun a=>dh (st.esc [a]) fun st=>og P X st o.dst [d] [a] (fun vs=>convert s d (oh vs 0)) K
 | .range t x=>ba (st.ev x) fun a=>dh st fun st=>∃p:Option Addr,IJ P X st o.dst [a] (fun vs=>Instr.range t (oh vs 0)) (.ptr p) K
 | .next x false=>ba (st.ev x) fun a=>dh st fun st=>IJ P X st o.dst [a] (fun vs=>Instr.next (oh vs 0) false o.type) (.tup (ld [.bl false])) K∨
  ∃(k:ByteArray) (p:Option Addr),IJ P X st o.dst [a] (fun vs=>Instr.next (oh vs 0) false o.type) (.tup (ld [.bl true,.str k,.ptr p])) K
 | .entry x=>ba (st.ev x) fun a=>dh st fun st=>∃(k:ByteArray) (p:Option Addr),IJ P X st o.dst [a] (fun vs=>Instr.entry (oh vs 0)) (.tup (ld [.str k,.ptr p])) K
 | _=>False
section
variable {P:Program} {β:Nat->Nat} {st:St} {a:Act} {w w1:World} {X:XT} {Y:YT} {E:World->World->Prop} {K:St->Prop} {Q:Exit->Act->World->Prop}
abbrev Rt (E:World->World->Prop) (st:St) (K:St->Prop) (w:World) (a':Act) (w':World):Prop:=∃β' bH,K bH/\Ext st bH/\E w w'/\Rep β' bH a' w'
theorem ju (hX:∀w0 w1 p,X w0 w1 p->p/\E w0 w1) {o:Oper} {Bs:List TypeId} {args l:List SV} {run:List Value->Sem Value} (h:dh (st.esc l) fun st=>og P X st o.dst Bs args run K) (hR:Rep β st a w)
  (hx:∀v w1,(run (bq β args)).run P w=.ok v w1->(execOp a.eval o).run P w=.ok (.value v) w1):o.wp P a w (Rt E st K w) Q:=by
 obtain⟨s1,h1,e1,fx,hm,_⟩:=cP h (hR.esc l);obtain⟨v,w',hr,bH,k1,k2,k3,k4⟩:=Gu hX h1 hm fx;exact uM v (hx v w' hr) rfl ⟨β,bH,k1,(Ext.esc st l).trans (e1.trans k2),k3,k4⟩
theorem sF (hX:∀w0 w1 p,X w0 w1 p->p/\E w0 w1) {o:Oper} {Bs:List TypeId} {args:List SV} {run:List Value->Sem Value} (h:dh st fun st=>og P X st o.dst Bs args run K) (hR:Rep β st a w)
  (hx:∀v w1,(run (bq β args)).run P w=.ok v w1->(execOp a.eval o).run P w=.ok (.value v) w1):o.wp P a w (Rt E st K w) Q:=by
 obtain⟨s1,h1,e1,fx,hm,_⟩:=cP h hR;obtain⟨v,w',hr,bH,k1,k2,k3,k4⟩:=Gu hX h1 hm fx;exact uM v (hx v w' hr) rfl ⟨β,bH,k1,e1.trans k2,k3,k4⟩
theorem Cj (hX:∀w0 w1 p,X w0 w1 p->p/\E w0 w1) {o:Oper} {args l:List SV} {run:List Value->Sem Unit} (h:dh (st.esc l) fun st=>KJ P X st o.dst args run K) (hR:Rep β st a w)
  (hx:∀w1,(run (bq β args)).run P w=.ok () w1->(execOp a.eval o).run P w=.ok .skip w1):o.wp P a w (Rt E st K w) Q:=by
 obtain⟨s1,h1,e1,fx,hm,_⟩:=cP h (hR.esc l);obtain⟨w',hr,bH,k1,k2,k3,k4⟩:=Pw hX h1 hm fx;exact Kn (hx w' hr) rfl ⟨β,bH,k1,(Ext.esc st l).trans (e1.trans k2),k3,k4⟩
theorem Gv (hE:∀w w1,Only [] w w1->E w w1) {d:Option Tmp} {t:TypeId} {zs:List SV} (hc:WH st zs=true) (h:K (st.Bi d t zs)) (hR:Rep β st a w) {b:Nat} (hb:w.heap.size<=b) (hO:Only [] w w1) (hB:Blk w1 b t (bq β zs)):
  Rt E st K w (a.put d (.pointer (some ⟨b,0,none⟩))) w1:=by
 simp only[WH,ab]at hc;exact⟨_,_,h,Ext.Bi _ _ _ _,hE _ _ hO,hR.Bi hc.1.1.1 hc.1.1.2 hc.1.2 hb hO hB hc.2⟩
theorem KM (hX:∀w0 w1 p,X w0 w1 p->p/\E w0 w1) {o:Oper} {Bs:List TypeId} {f:FuncId} {args:List SV} {lY:List Value} {s1:St} (h:Gr P X s1 o.dst Bs f args lY K) (hm:s1.mv=false) (e1:Ext st s1) (hR:Rep β s1 a w)
  (hx:(execOp a.eval o).run P w=.ok (.enter f (bq β args++lY).toArray) w):o.wp P a w (Rt E st K w) Q:=by
 refine Gh hx ((KH hX h hm hR).mono ?_);rintro e w' ⟨v,rfl,bH,k1,k2,k3,k4⟩;exact⟨v,_,rfl,rfl,β,bH,k1,e1.trans k2,k3,k4⟩
theorem IL (hX:∀w0 w1 p,X w0 w1 p->p/\E w0 w1) {o:Oper} {Bs:List TypeId} {f:FuncId} {fst:List Value} {args:List SV} {lY:List Value} {s1:St} (h:Gs P X s1 o.dst Bs f fst args lY K) (hm:s1.mv=false) (e1:Ext st s1) (hR:Rep β s1 a w)
  (hx:(execOp a.eval o).run P w=.ok (.enter f (vi (vi fst (bq β args)) lY).toArray) w):o.wp P a w (Rt E st K w) Q:=by
 refine Gh hx ((KI hX h hm hR).mono ?_);rintro e w' ⟨v,rfl,bH,k1,k2,k3,k4⟩;exact⟨v,_,rfl,rfl,β,bH,k1,e1.trans k2,k3,k4⟩
theorem KN {s:SV} (h:ptS s=true) (β:Nat->Nat):∃q,val β s=.pointer q:=by
 cases s<;>first | (cases h;done) | exact⟨_,rfl⟩
theorem Py {a:Act} {dst:Option Tmp} {op:BinOp} {t ty:TypeId} {x y:Operand} {t':TypeId} {p:String} {af:Array Edge} {g:Option (Nat×Bool)} {u v r:Value} (hu:∃q,u=.pointer q) (hv:∃q,v=.pointer q) (hx:a.eval x=u) (hy:a.eval y=v) {w w1:World}
  (hr:(Go.binOp op t u v).run P w=.ok r w1):(execOp a.eval ⟨dst,.binOp op t x y ty,t',p,af,g⟩).run P w=.ok (.value r) w1:=by
 obtain⟨q,rfl⟩:=hu;obtain⟨q',rfl⟩:=hv;have hg:eqGuard op t x y (.pointer q) (.pointer q')=pure ():=by cases op<;>rfl
 simp only[execOp,hx,hy,hg,Sem.run_bind,Sem.run_pure,Result.andThen_ok,hr]
theorem PA {a:Act} {dst:Option Tmp} {x:Operand} {fn:Fn} {first captured:List Value} {xs:List Operand} {ats:Array TypeId} {t':TypeId} {p:String} {af:Array Edge} {g:Option (Nat×Bool)} {args:List Value} {w:World}
  (hx:a.eval x=.func fn first.toArray captured.toArray) (ha:first++xs.map a.eval=args):
  (execOp a.eval ⟨dst,.defer ⟨.value x,xs.toArray,ats⟩,t',p,af,g⟩).run P w=.ok (.defer {target:=.fn fn captured.toArray,args:=args.toArray}) w:=by
 subst ha;simp only[execOp,resolve,hx,Deferred.ofValue,Sem.run_bind,Sem.run_pure,Result.andThen_ok];simp
theorem KO {a:Act} {dst:Option Tmp} {t:TypeId} {x:Operand} {t':TypeId} {p:String} {af:Array Edge} {g:Option (Nat×Bool)} {u v:Value} {w w1:World} (hx:a.eval x=u) (hr:(Instr.range t u).run P w=.ok v w1):
  (execOp a.eval ⟨dst,.range t x,t',p,af,g⟩).run P w=.ok (.value v) w1:=by
 simp only[execOp,hx,Sem.run_bind,hr,Result.andThen_ok,Sem.run_pure]
theorem Gw {a:Act} {dst:Option Tmp} {x:Operand} {t':TypeId} {p:String} {af:Array Edge} {g:Option (Nat×Bool)} {u v:Value} {w w1:World} (hx:a.eval x=u) (hr:(Instr.next u false t').run P w=.ok v w1):
  (execOp a.eval ⟨dst,.next x false,t',p,af,g⟩).run P w=.ok (.value v) w1:=by
 simp only[execOp,hx,Sem.run_bind,hr,Result.andThen_ok,Sem.run_pure]
theorem KP {a:Act} {dst:Option Tmp} {x:Operand} {t':TypeId} {p:String} {af:Array Edge} {g:Option (Nat×Bool)} {u v:Value} {w w1:World} (hx:a.eval x=u) (hr:(Instr.entry u).run P w=.ok v w1):
  (execOp a.eval ⟨dst,.entry x,t',p,af,g⟩).run P w=.ok (.value v) w1:=by
 simp only[execOp,hx,Sem.run_bind,hr,Result.andThen_ok,Sem.run_pure]
theorem jw (β:Nat->Nat) (l m:List SV):bq β (l++m)=bq β l++bq β m:=by simp[bq]
theorem Ar (hX:∀w0 w1 p,X w0 w1 p->p/\E w0 w1) {o:Oper} (hE:∀w w1,Only [] w w1->E w w1) (hS:qQ o.op=true->∀bk k w w1 p,Y bk p->(∀j,bk=some j->k=j)->Only [k] w w1->p/\E w w1) (h:loud P X Y st o K) (hR:Rep β st a w):o.wp P a w (Rt E st K w) Q:=by
 obtain⟨dst,op,t',p,af,g⟩:=o;unfold loud at h;dsimp only at h;split at h
 ·obtain⟨x,hx,h⟩:=aA h;obtain⟨y,hy,h⟩:=aA h;obtain⟨hp,h⟩:=cw h;simp only[ab]at hp;exact ju hX h hR fun v w1 hr=>Py (KN hp.1 β) (KN hp.2 β) (hR.ev hx) (hR.ev hy) hr
 ·obtain⟨zs,hz,h⟩:=aA h;obtain⟨hc,h⟩:=cw h;obtain⟨z,z1,z2⟩:=Rr hz w;exact BX z1 (z2 β) (fun _=>rfl) fun b w1 hb hO hB=>Gv hE hc h hR hb hO hB
 ·obtain⟨s,hs,h⟩:=aA h;obtain⟨zs,hz,h⟩:=aA h;obtain⟨hc,h⟩:=cw h;exact Tv (by rw[hR.ev hs];exact(tW hz β).1) (fun _=>rfl) fun b w1 hb hO hB=>Gv hE hc h hR hb hO hB
 ·obtain⟨q,hx,h⟩:=aA h;obtain⟨s,hy,h⟩:=aA h;obtain⟨vs,hv,h⟩:=aA h;obtain⟨hsz,h⟩:=cw h;obtain⟨c1,c2⟩:=tW hv β;have hE':=hS rfl;cases q with
  | box i off=>
   obtain⟨b,hb,h⟩:=aA h;obtain⟨h1,h⟩:=cw h;simp only[ab]at h1;have h2:=ca h1.2;refine BW (mH hsz w) (hR.ev hx) (by rw[hR.ev hy];exact c1) (dA β vs) c2 (hR.bx i b hb h1.1).blk (by rw[dA,dA];exact h2) rfl rfl fun w1 hO hB=>?_;rw[<-B8]at hB;obtain⟨h,he⟩:=hE' _ (β i) _ w1 _ h (fun j hj=>(hR.bx i b hb h1.1).at_ j hj) hO;exact⟨β,_,h,(Ext.qb hb).trans (Ext.put _ _ _),he,(hR.qb hb h1.1 hO hB).put dst .un⟩
  | ad ad=>
   simp only[XY]at h;obtain⟨s1,h1,e1,fx,hm,_⟩:=cP h (hR.esc vs);obtain⟨bk,off,cells,ety,rfl,hB,DX,h2⟩:=h1;obtain⟨h3,h2⟩:=cw h2;simp only[ab]at h3;obtain⟨h2,eI⟩:=EN h2;have hw:=fx.still hm;rw[<-hw,fx.pZ h3.1]at h2;rw[<-hw]at hB;refine BW (mH hsz w) (hR.ev hx) (by rw[hR.ev hy];exact c1) (dA β vs) c2 hB (by rw[dA];exact DX) rfl rfl fun w1 hO vG=>?_;obtain⟨h4,h5⟩:=hX _ _ _ (h2 w1 hO vG);refine⟨β,_,h4,((Ext.esc st vs).trans e1).trans (Ext.trans (t:={s1 with w0:=w1}) ⟨rfl,aq _,fun _ _ _ h _=>h,fun i b' kH ho hs=>⟨b',kH,ho,rfl,rfl,rfl,fun _ h=>h⟩,Kx,BE⟩ (Ext.put _ _ _)),h5,?_⟩;refine Rep.put (v:=.un) (Rep.next (ct':=s1.ct) fx hm h3.2 fun i b' kH ho=>⟨b',kH,ho,rfl,?_⟩) _;have eD:=fx.Ju h3.2 kH ho;have:=eI i b' kH ho;rw[eD]at this;exact hO.blk (fx.bx i b' kH ho).blk (by simpa using this)
  | _=>exact h.elim
 ·rename_i c;obtain⟨callee,⟨xs⟩,ts⟩:=c;obtain⟨vs,hv,h⟩:=aA h;have wh:=hR.DU hv;dsimp only at h;cases callee with
  | value f=>
   obtain⟨fv,hf,h⟩:=aA h;cases fv with
   | fn g' fs cs=>
    have ef:yz fs=true->yz cs=true->a.eval f=.func (.func g') (bq β (jg fs)).toArray (bq β (jg cs)).toArray:=fun k1 k2=>by
     rw[hR.ev hf];show Value.func (.func g') (mV β fs).toArray (mV β cs).toArray=_;rw[kn β k1,kn β k2]
    have h':=h;unfold TP at h';rcases kB h' with⟨h0,h1⟩ | ⟨_,h1⟩
    ·simp only[ab]at h0;obtain⟨s1,h1,e1,fx,hm,_⟩:=cP h1 (hR.esc _);refine KM hX h1 hm ((Ext.esc _ _).trans e1) fx ?_;exact BQ (ef h0.1.1 h0.1.2) (gr h0.2) (by rw[wh,jw,jw,aN])
    ·obtain⟨h0,h1⟩:=cw h1;simp only[ab]at h0;exact ju hX h1 hR fun v w1 hr=>TN (ef h0.1 h0.2) (by rw[wh,jw,jw]) (KL hr)
   | raw v=>
    simp only[TP]at h;obtain⟨s1,⟨g',fst,cap,h1,h2,h3⟩,e1,fx,hm,_⟩:=cP h (hR.esc vs);refine IL hX h3 hm ((Ext.esc _ _).trans e1) fx ?_;have ef:a.eval f=.func (.func g') fst.toArray cap.toArray:=(hR.ev hf).trans h1;exact BQ ef h2 (by rw[wh];rfl)
   | _=>exact h.elim
  | builtin b=>
   unfold XX at h;cases b with
   | append=>exact ju hX h hR fun v w1 hr=>tT wh hr
   | copy=>exact ju hX h hR fun v w1 hr=>ww wh hr
   | delete=>exact ju hX h hR fun v w1 hr=>tU wh hr
   | clear=>exact ju hX h hR fun v w1 hr=>vf wh hr
   | len=>exact ju hX h hR fun v w1 hr=>yv wh hr
   | unsafeSliceData=>exact ju hX h hR fun v w1 hr=>(by rw[<-wh]at hr;exact jU (fun _=>rfl) hr)
   | unsafeString=>exact ju hX h hR fun v w1 hr=>(by rw[<-wh]at hr;exact jU (fun _=>rfl) hr)
   | _=>
    obtain⟨s1,h1,_⟩:=cP h (hR.esc vs);exact h1.elim
  | _=>exact h.elim
 ·rename_i c;obtain⟨callee,⟨xs⟩,ts⟩:=c;obtain⟨vs,hv,h⟩:=aA h;have wh:=hR.DU hv;dsimp only at h;cases callee with
  | value f=>
   obtain⟨fv,hf,h⟩:=aA h;cases fv with
   | fn g' fs cs=>
    unfold XZ at h;obtain⟨h0,h1⟩:=cw h;simp only[ab]at h0;have ef:a.eval f=.func (.func g') (bq β (jg fs)).toArray (bq β (jg cs)).toArray:=by
     rw[hR.ev hf];show Value.func (.func g') (mV β fs).toArray (mV β cs).toArray=_;rw[kn β h0.1.1,kn β h0.1.2]
    obtain⟨s1,h1,e1,fx,hm,_⟩:=cP h1 (hR.esc _);obtain⟨hc,h1⟩:=cw h1;simp only[ab]at hc;rw[fx.pZ hc.1,fx.pZ hc.2]at h1;have hr:=PA (P:=P) (dst:=dst) (ats:=ts) (t':=t') (p:=p) (af:=af) (g:=g) (w:=w) ef (by rw[wh,<-jw]);unfold Oper.wp;rw[hr,Oper.upon_defer];have NG:Rep β {s1 with df:=(g',bq β (jg fs++vs),bq β (jg cs))::s1.df} {a with defers:={target:=.fn (.func g') (bq β (jg cs)).toArray,args:=(bq β (jg fs++vs)).toArray}::a.defers} w:=by
     obtain⟨us,hu⟩:=fx.fr;exact⟨⟨us,by rw[hu];rfl⟩,fx.bx,fx.ne,fx.only,fx.still⟩
    exact⟨β,_,h1,((Ext.esc _ _).trans e1).trans (Ext.trans (t:={s1 with df:=(g',bq β (jg fs++vs),bq β (jg cs))::s1.df}) ⟨rfl,aq _,fun _ _ _ h _=>h,fun i b' kH ho hs=>⟨b',kH,ho,rfl,rfl,rfl,fun _ h=>h⟩,Kx,⟨[_],rfl⟩⟩ (Ext.put _ _ _)),hE _ _ (Only.refl _ _),NG.put dst .un⟩
   | _=>exact h.elim
  | _=>exact h.elim
 ·rename_i t n ps;obtain⟨l,hl,h1⟩:=aA h;clear h;obtain⟨ps⟩:=ps;refine ju hX h1 hR fun v w1 hr=>?_;rw[Rs]at hr;exact zQ (hR.Jt hl) hr
 ·obtain⟨u,hx,h⟩:=aA h;obtain⟨v,hy,h⟩:=aA h;exact sF hX h hR fun _ w1 hr=>BO (hR.ev hx) (hR.ev hy) hr
 ·exact sF hX h hR fun _ w1 hr=>Iw hr
 ·obtain⟨u,hx,h⟩:=aA h;exact sF hX h hR fun _ w1 hr=>Es (hR.ev hx) hr
 ·obtain⟨u,hx,h⟩:=aA h;obtain⟨v,hy,h⟩:=aA h;exact sF hX h hR fun _ w1 hr=>Kj (hR.ev hx) (hR.ev hy) hr
 ·obtain⟨u,hx,h⟩:=aA h;obtain⟨v,hy,h⟩:=aA h;obtain⟨z,hz,h⟩:=aA h;exact Cj hX h hR fun w1 hr=>BP (hR.ev hx) (hR.ev hy) (hR.ev hz) hr
 ·obtain⟨u,hx,h⟩:=aA h;obtain⟨v,hy,h⟩:=aA h;obtain⟨z,hz,h⟩:=aA h;exact Cj hX h hR fun w1 hr=>Kk (hR.ev hx) (hR.ev hy) (hR.ev hz) hr
 ·obtain⟨u,hx,h⟩:=aA h;exact ju hX h hR fun _ w1 hr=>Ix (hR.ev hx) hr
 ·obtain⟨u,hx,h⟩:=aA h;obtain⟨s1,⟨q,h1⟩,e1,fx,hm,_⟩:=cP h hR;obtain⟨v,w',hr,bH,k1,k2,k3,k4⟩:=vR hX h1 hm fx;exact uM v (KO (hR.ev hx) hr) rfl ⟨β,bH,k1,e1.trans k2,k3,k4⟩
 ·obtain⟨u,hx,h⟩:=aA h;obtain⟨s1,h1,e1,fx,hm,_⟩:=cP h hR;rcases h1 with h1 | h1
  ·obtain⟨v,w',hr,bH,k1,k2,k3,k4⟩:=vR hX h1 hm fx;exact uM v (Gw (hR.ev hx) hr) rfl ⟨β,bH,k1,e1.trans k2,k3,k4⟩
  ·obtain⟨_,_,h1⟩:=h1;obtain⟨v,w',hr,bH,k1,k2,k3,k4⟩:=vR hX h1 hm fx;exact uM v (Gw (hR.ev hx) hr) rfl ⟨β,bH,k1,e1.trans k2,k3,k4⟩
 ·obtain⟨u,hx,h⟩:=aA h;obtain⟨s1,⟨_,_,h1⟩,e1,fx,hm,_⟩:=cP h hR;obtain⟨v,w',hr,bH,k1,k2,k3,k4⟩:=vR hX h1 hm fx;exact uM v (KP (hR.ev hx) hr) rfl ⟨β,bH,k1,e1.trans k2,k3,k4⟩
 ·exact h.elim
end
def nd (P:Program) (st:St) (o:Op):Bool:=match o with
 | .load _ x=>(match st.ev x with
  | some (.ad _)=>true
  | _=>false)
 | .convert s _ _=>(match P.underlying s with
  | some (.slice _)=>true
  | _=>false)
 | _=>false
def Ru (b:Bool) (st:St) (K:St->Prop):Prop:=bif b&&st.mv then dh st K else K st
theorem ub {b:Bool} {st:St} {K:St->Prop} (h:Ru b st K) {β:Nat->Nat} {a:Act} {w:World} (hR:Rep β st a w):∃bH,K bH/\Ext st bH/\Rep β bH a w/\bH.fr=st.fr/\bH.n=st.n:=by
 unfold Ru at h;rcases kB h with⟨_,h⟩ | ⟨_,h⟩
 ·obtain⟨s,h1,h2,h3,h4,h5,h6,_⟩:=cP h hR;exact⟨s,h1,h2,h3,h5,h6⟩
 ·exact⟨st,h,Ext.refl _,hR,rfl,rfl⟩
def Au (P:Program):List Oper->Bool
 | []=>true
 | o::r=>gC P o.op&&Au P r
def EO:List Oper->Bool
 | []=>false
 | o::r=>mem o.op||EO r
def X0:XT:=fun _ _ p=>p
def Y0:YT:=fun _ p=>p
def Ck (P:Program) (st:St) (o:Oper) (K:St->Prop):Prop:=
 bif gC P o.op then Ru (nd P st o.op) st fun st=>TF P [] st o.op fun v=>K (st.put o.dst v)else loud P X0 Y0 st o K
def vj (P:Program) (ops:List Oper):Nat->List Oper->St->(St->Prop)->Prop
 | 0,_,_,_=>False
 | _+1,[],st,K=>K st
 | f+1,o::rest,st,K=>match o.guard with
  | none=>Ck P st o fun st=>vj P ops f rest st K
  | some (j,want)=>(match TL st ops j with
   | some (_,.un)=>vj P ops f rest (st.put o.dst .un) K
   | some (_,.bl b)=>bif b==want then Ck P st o fun st=>vj P ops f rest st K else vj P ops f rest (st.put o.dst .un) K
   | some (d,.bt t)=>bif Au P ((o::rest).take (vh ops j (o::rest)+1))
    then Ru (EO ((o::rest).take (vh ops j (o::rest)+1))) st fun st=>tY P ops f [] ((o::rest).take (vh ops j (o::rest)+1)) st fun st=>vj P ops f ((o::rest).drop (vh ops j (o::rest)+1)) st K
    else((t=true->vj P ops f (o::rest) (st.put (some d) (.bl true)) K)/\(t=false->vj P ops f (o::rest) (st.put (some d) (.bl false)) K))
   | _=>False)
section
variable {P:Program} {ops:List Oper} {Q:Exit->Act->World->Prop}
theorem KQ {st:St} {o:Oper} {rest:List Oper} {K:St->Prop} {β:Nat->Nat} {a:Act} {w:World} (h:Ck P st o K) (hR:Rep β st a w) (hw:Region.wanted o (yielded ops.toArray a.tmps)=true)
  (hK:∀β' bH a' w',K bH->Ext st bH->Rep β' bH a' w'->wpList P ops.toArray Q rest a' w'):wpList P ops.toArray Q (o::rest) a w:=by
 unfold Ck at h;rcases kB h with⟨_,h⟩ | ⟨_,h⟩
 ·obtain⟨s,h1,h2,h3,h4,h5⟩:=ub h hR;obtain⟨v,hv,hy⟩:=EJ h1;exact zO _ hw (hy trivial β a w h3 _ _ _ _ _ w fun _=>rfl) rfl (hK β _ _ w hv (h2.trans (Ext.put _ _ _)) (h3.put o.dst v))
 ·refine Tu hw (Oper.wp_mono ?_ (Ar (E:=fun _ _=>True) (fun _ _ _ h=>⟨h,trivial⟩) (fun _ _ _=>trivial) (fun _ _ _ _ _ _ h _ _=>⟨h,trivial⟩) h hR));rintro a' w' ⟨β',bH,k1,k2,_,k4⟩;exact hK β' bH a' w' k1 k2 k4
theorem qt:∀{f:Nat} {l:List Oper} {st:St} {K:St->Prop},vj P ops f l st K->∀{β:Nat->Nat} {a:Act} {w:World},Rep β st a w->
  (∀β' bH a' w',K bH->Ext st bH->Rep β' bH a' w'->Q .normal a' w')->wpList P ops.toArray Q l a w
 | 0,_,_,_,h,_,_,_,_,_=>h.elim
 | _+1,[],st,K,h,β,a,w,hR,hK=>hK β st a w h (Ext.refl _) hR
 | f+1,o::rest,st,K,h,β,a,w,hR,hK=>by
  have no:vj P ops f rest (st.put o.dst .un) K->Region.wanted o (yielded ops.toArray a.tmps)=false->wpList P ops.toArray Q (o::rest) a w:=fun h hw=>
   Rh hw rfl (qt h (hR.put o.dst .un) fun β' bH a' w' k1 k2 k3=>hK β' bH a' w' k1 ((Ext.put _ _ _).trans k2) k3)
  have OE:(Ck P st o fun st=>vj P ops f rest st K)->Region.wanted o (yielded ops.toArray a.tmps)=true->wpList P ops.toArray Q (o::rest) a w:=fun h hw=>
   KQ h hR hw fun β' bH a' w' k1 k2 k3=>qt k1 k3 fun β2 u9 a2 w2 m1 m2 m3=>hK β2 u9 a2 w2 m1 (k2.trans m2) m3
  unfold vj at h;split at h
  ·rename_i hg;exact OE h (wn hg)
  ·rename_i j want hg;split at h
   ·rename_i d ht;exact no h (tX hR hg ht)
   ·rename_i d b ht;have hw:=nu hR hg ht (b:=b) rfl;rcases kB h with⟨e,h⟩ | ⟨e,h⟩
    ·exact OE h (hw.trans e)
    ·exact no h (hw.trans e)
   ·rename_i d t ht;obtain⟨oj,FL,OC,OD⟩:=wI ht;rcases kB h with⟨_,h⟩ | ⟨_,h⟩
    ·generalize vh ops j (o::rest)+1=m at h;obtain⟨s,h1,h2,h3,h4,h5⟩:=ub h hR;obtain⟨s2,k1,k2,k3,k4⟩:=od h1;obtain⟨a',g1,g2⟩:=k4 trivial β a w h3;have:=Ag (Q:=Q) (rest:=(o::rest).drop m) g1 (qt k1 g2 fun β2 u9 a2 w2 m1 m2 m3=>hK β2 u9 a2 w2 m1 ((h2.trans k2).trans m2) m3);rwa[dC]at this
    ·cases t with
     | true=>exact qt (h.1 rfl) (hR.set OD rfl) fun β' bH a' w' k1 k2 k3=>hK β' bH a' w' k1 ((Ext.put _ _ _).trans k2) k3
     | false=>exact qt (h.2 rfl) (hR.set OD rfl) fun β' bH a' w' k1 k2 k3=>hK β' bH a' w' k1 ((Ext.put _ _ _).trans k2) k3
   ·exact h.elim
end
def JT:List Lf->Type
 | []=>World->Prop
 | l::r=>l.T->JT r
def Cm:(ls:List Lf)->JT ls->(List SV->World->Prop)->Prop
 | [],J,K=>∀w:World,J w->K [] w
 | l::r,J,K=>∀x:l.T,Cm r (J x) fun vs w=>K (l.sv x::vs) w
def unI (k:IntKind) (s:SV):Option Int:=match nr s with
 | some (k',n)=>bif decide (k'=k)then some n else none
 | none=>none
def unP (bl:Nat->Nat) (s:SV):Option (Option Addr):=match s with
 | .box i o=>some (some ⟨bl i,o,none⟩)
 | s=>nt s
def unM (s:SV):Option (Option Nat):=match s with
 | .map m=>some m
 | _=>none
def unR (bl:Nat->Nat) (s:SV):Option OV:=match s with
 | .raw v=>some v
 | .fn f fs cs=>some ⟨.func (.func f) (mV bl fs).toArray (mV bl cs).toArray,rfl⟩
 | _=>none
def un (bl:Nat->Nat):(l:Lf)->SV->Option l.T
 | .int k=>unI k
 | .bool=>wE
 | .str=>rA
 | .ptr=>unP bl
 | .sl=>Gk
 | .map=>unM
 | .raw=>unR bl
theorem X1 {bl:Nat->Nat} {l:Lf} {s:SV} {x:l.T} (h:un bl l s=some x) (β:Nat->Nat):val β (l.sv x)=val bl s:=by
 cases l with
 | int k=>
  have h:unI k s=some x:=h;unfold unI at h;split at h
  ·rename_i k' n ho;obtain⟨e,rfl⟩:=Ae h;have e:=aj e;subst e;rw[cj ho];rfl
  ·cases h
 | bool=>rw[jY h];rfl
 | str=>rw[fA h];rfl
 | ptr=>
  have h:unP bl s=some x:=h;unfold unP at h;split at h
  ·injection h with h;subst h;rfl
  ·rw[Pe h];rfl
 | sl=>rw[iq h];rfl
 | map=>
  have h:unM s=some x:=h;unfold unM at h;split at h
  ·injection h with h;subst h;rfl
  ·cases h
 | raw=>
  have h:unR bl s=some x:=h;unfold unR at h;split at h
  ·injection h with h;subst h;rfl
  ·injection h with h;subst h;rfl
  ·cases h
def apJ:(ls:List Lf)->(Nat->Nat)->JT ls->List SV->World->Prop
 | [],_,J,[],w=>J w
 | l::r,bl,J,s::ss,w=>(match un bl l s with
  | some x=>apJ r bl (J x) ss w
  | none=>False)
 | _,_,_,_,_=>False
theorem KR {bl:Nat->Nat} {w:World}:∀{ls:List Lf} {J:JT ls} {ss:List SV} {K:List SV->World->Prop},apJ ls bl J ss w->Cm ls J K->∃vs,K vs w/\vs.length=ls.length/\(∀β,bq β vs=bq bl ss)/\∀g,fz g vs=true
 | [],J,[],K,h,k=>⟨[],k w h,rfl,fun _=>rfl,fun _=>rfl⟩
 | l::r,J,s::ss,K,h,k=>by
  unfold apJ at h;split at h
  ·rename_i x hx;obtain⟨vs,h1,h2,h3,h4⟩:=KR h (k x);refine⟨_,h1,by simp[h2],fun β=>?_,fun g=>by simp only[fz,Lf.cln,h4 g,dk]⟩;have:=h3 β;simp only[bq,aI]at this⊢;rw[this,X1 hx]
  ·exact h.elim
 | [],_,_::_,_,h,_=>h.elim
 | _::_,_,[],_,h,_=>h.elim
inductive MI where
 | s (slot:Nat) (l:Lf)
 | a (slot:Nat) (ls:List Lf)
 | b (slot:Nat) (ls:List Lf)
def Ef:List MI->List Lf
 | []=>[]
 | .s _ l::r=>l::Ef r
 | .a _ ls::r=>ls++Ef r
 | .b _ ls::r=>ls++Ef r
def X2 (st:St) (i:Nat):Option Nat:=match st.get i with
 | some (.box j _)=>some j
 | _=>none
def nA (st s:St):List MI->Option (List SV)
 | []=>some []
 | .s i _::r=>(match s.get i,nA st s r with
  | some v,some l=>some (v::l)
  | _,_=>none)
 | .a i ls::r=>(match s.get i,nA st s r with
  | some (.agg l),some m=>bif yz l&&Nat.beq (jg l).length ls.length then some (jg l++m)else none
  | _,_=>none)
 | .b i ls::r=>(match X2 st i with
  | some j=>(match bL s.bx j,nA st s r with
   | some b,some m=>bif Nat.beq b.cells.length ls.length then some (b.cells++m)else none
   | _,_=>none)
  | none=>none)
def Eg (ct:Nat):List MI->List SV->List (Nat×Nat×SV)
 | .s i _::r,v::vs=>(i,ct,v)::Eg ct r vs
 | .a i ls::r,vs=>(i,ct,.agg (ld (vs.take ls.length)))::Eg ct r (vs.drop ls.length)
 | .b _ ls::r,vs=>Eg ct r (vs.drop ls.length)
 | _,_=>[]
def EP (st:St):List MI->List SV->List fH->List fH
 | .s _ _::r,_::vs,bx=>EP st r vs bx
 | .a _ ls::r,vs,bx=>EP st r (vs.drop ls.length) bx
 | .b i ls::r,vs,bx=>(match X2 st i with
  | some j=>(match bL bx j with
   | some b=>EP st r (vs.drop ls.length) (yB bx j {b with cells:=vs.take ls.length,stp:=st.ct})
   | none=>EP st r (vs.drop ls.length) bx)
  | none=>EP st r (vs.drop ls.length) bx)
 | _,_,bx=>bx
def Rv:List MI->List Nat
 | []=>[]
 | .s i _::r=>i::Rv r
 | .a i _::r=>i::Rv r
 | .b _ _::r=>Rv r
def KS (st:St):List MI->List Nat
 | []=>[]
 | .b i _::r=>(match X2 st i with
  | some j=>j::KS st r
  | none=>KS st r)
 | _::r=>KS st r
def TQ (fr:List (Nat×Nat×SV)):List Nat->List (Nat×Nat×SV)
 | []=>[]
 | i::r=>match cM fr i with
  | some p=>(i,p)::TQ fr r
  | none=>TQ fr r
def j5 (st:St) (kp:List Nat) (ms:List MI) (vs:List SV) (w:World):St:=
 {n:=st.n,fr:=Eg st.ct ms vs++TQ st.fr kp,bx:=EP st ms vs st.bx,w0:=w,mv:=false,dt:=[],ct:=st.ct+1,df:=st.df}
def PB (st s:St) (sl:List Nat):List Nat->Bool
 | []=>true
 | i::r=>(match cM st.fr i with
  | some (k,v)=>(match cM s.fr i with
   | some (k',_)=>Nat.beq k k'&&Nat.blt k st.ct&&!sl.elem i&&cln (Ce st.bx) v
   | none=>false)
  | none=>true)&&PB st s sl r
def IM (st:St) (OG:List Nat):Nat->List fH->List fH->Bool
 | _,[],_=>true
 | i,b::r,c::q=>(!b.ok||(b.blk.isSome&&(OG.elem i||(Nat.blt c.stp st.ct&&fz (Ce st.bx) b.cells))))&&IM st OG (i+1) r q
 | _,_::_,[]=>false
def ER (st:St) (kp:List Nat) (ms:List MI) (J:JT (Ef ms)) (s:St):Prop:=
 bif PB st s (Rv ms) kp&&IM st (KS st ms) 0 st.bx s.bx&&Nat.beq s.df.length st.df.length then
  ba (nA st s ms) fun vs=>bif fz (Ce s.bx) vs then apJ (Ef ms) (Cb s.bx) J vs s.w0 else False
 else False
theorem qu:∀(l m:List (Nat×Nat×SV)) (i:Nat),cM (l++m) i=match cM l i with
  | some p=>some p
  | none=>cM m i
 | [],_,_=>rfl
 | (k,p)::r,m,i=>by
  simp only[bc,cM];cases Nat.beq k i with
  | true=>rfl
  | false=>exact qu r m i
theorem vS {fr:List (Nat×Nat×SV)}:∀{kp:List Nat} {i:Nat} {p:Nat×SV},cM (TQ fr kp) i=some p->i∈kp/\cM fr i=some p
 | j::r,i,p,h=>by
  unfold TQ at h;split at h
  ·rename_i q hq;simp only[cM]at h;cases hb:Nat.beq j i with
   | true=>
    rw[hb]at h;simp only[dY,ai]at h;subst h;have:=aX hb;subst this;exact⟨by simp,hq⟩
   | false=>
    rw[hb]at h;obtain⟨h1,h2⟩:=vS (by simpa using h);exact⟨by simp[h1],h2⟩
  ·obtain⟨h1,h2⟩:=vS h;exact⟨by simp[h1],h2⟩
theorem Cn {fr:List (Nat×Nat×SV)} {p:Nat×SV}:∀{kp:List Nat} {i:Nat},i∈kp->cM fr i=some p->cM (TQ fr kp) i=some p
 | j::r,i,hi,h=>by
  unfold TQ;cases hb:Nat.beq j i with
  | true=>
   have:=aX hb;subst this;rw[h];simp only[cM,Nat.beq_refl,dY]
  | false=>
   have u7:i∈r:=by
    rcases ak.1 hi with e | e
    ·subst e;simp at hb
    ·exact e
   have ih:=Cn (p:=p) u7 h;split
   ·simp only[cM,hb,lq];exact ih
   ·exact ih
theorem qv {ct:Nat}:∀{ms:List MI} {vs:List SV} {i:Nat},(Rv ms).elem i=false->cM (Eg ct ms vs) i=none
 | [],vs,i,_=>by cases vs<;>rfl
 | .s j l::r,[],i,_=>rfl
 | .s j l::r,v::vs,i,h=>by
  simp only[Rv,jM]at h;split at h
  ·cases h
  ·rename_i eI;simp only[Eg,cM];have:Nat.beq j i=false:=by
    cases hb:Nat.beq j i with
    | false=>rfl
    | true=>have:=aX hb;subst this;simp at eI
   rw[this,lq];exact qv h
 | .a j ls::r,vs,i,h=>by
  simp only[Rv,jM]at h;split at h
  ·cases h
  ·rename_i eI;simp only[Eg,cM];have:Nat.beq j i=false:=by
    cases hb:Nat.beq j i with
    | false=>rfl
    | true=>have:=aX hb;subst this;simp at eI
   rw[this,lq];exact qv h
 | .b j ls::r,vs,i,h=>by
  simp only[Eg];exact qv h
theorem qw {ct:Nat}:∀{ms:List MI} {vs:List SV} {i:Nat} {p:Nat×SV},cM (Eg ct ms vs) i=some p->p.1=ct
 | [],vs,i,p,h=>by cases vs<;>cases h
 | .s j l::r,[],i,p,h=>by cases h
 | .s j l::r,v::vs,i,p,h=>by
  simp only[Eg,cM]at h;cases hb:Nat.beq j i with
  | true=>rw[hb]at h;simp only[dY,ai]at h;subst h;rfl
  | false=>rw[hb]at h;exact qw (by simpa using h)
 | .a j ls::r,vs,i,p,h=>by
  simp only[Eg,cM]at h;cases hb:Nat.beq j i with
  | true=>rw[hb]at h;simp only[dY,ai]at h;subst h;rfl
  | false=>rw[hb]at h;exact qw (by simpa using h)
 | .b j ls::r,vs,i,p,h=>by
  simp only[Eg]at h;exact qw h
theorem fT {st:St}:∀(ms:List MI) (vs:List SV) (bx:List fH) (i:Nat) (b:fH),bL bx i=some b->∃b',bL (EP st ms vs bx) i=some b'/\b'.ty=b.ty/\b'.ok=b.ok/\b'.blk=b.blk/\((KS st ms).elem i=false->b'=b)/\(b'=b∨b'.stp=st.ct)
 | [],vs,bx,i,b,h=>⟨b,by cases vs<;>exact h,rfl,rfl,rfl,fun _=>rfl,.inl rfl⟩
 | .s j l::r,[],bx,i,b,h=>⟨b,h,rfl,rfl,rfl,fun _=>rfl,.inl rfl⟩
 | .s j l::r,v::vs,bx,i,b,h=>fT r vs bx i b h
 | .a j ls::r,vs,bx,i,b,h=>fT r _ bx i b h
 | .b s ls::r,vs,bx,i,b,h=>by
  simp only[EP,KS];cases hj:X2 st s with
  | none=>exact fT r _ bx i b h
  | some j=>
   dsimp only;cases hc:bL bx j with
   | none=>
    obtain⟨b',h1,h2,h3,h4,h5,h6⟩:=fT (st:=st) r (vs.drop ls.length) bx i b h;refine⟨b',h1,h2,h3,h4,fun he=>h5 ?_,h6⟩;simp only[jM]at he;split at he
    ·cases he
    ·exact he
   | some c=>
    dsimp only;by_cases qd:i=j
    ·subst qd;rw[hc]at h;injection h with h;subst h;obtain⟨b',h1,h2,h3,h4,h5,h6⟩:=fT (st:=st) r (vs.drop ls.length) (yB bx i {c with cells:=vs.take ls.length,stp:=st.ct}) i _ (by rw[gq hc,if_pos rfl]);refine⟨b',h1,h2,h3,h4,fun he=>?_,?_⟩
     ·simp at he
     ·rcases h6 with rfl | h6
      ·exact .inr rfl
      ·exact .inr h6
    ·obtain⟨b',h1,h2,h3,h4,h5,h6⟩:=fT (st:=st) r (vs.drop ls.length) (yB bx j {c with cells:=vs.take ls.length,stp:=st.ct}) i b (by rw[gq hc,if_neg qd];exact h);refine⟨b',h1,h2,h3,h4,fun he=>h5 ?_,h6⟩;simp only[jM]at he;split at he
     ·cases he
     ·exact he
theorem lD {st:St}:∀(ms:List MI) (vs:List SV) (bx:List fH) (i:Nat),bL bx i=none->bL (EP st ms vs bx) i=none
 | [],vs,bx,i,h=>by cases vs<;>exact h
 | .s j l::r,[],bx,i,h=>h
 | .s j l::r,v::vs,bx,i,h=>lD r vs bx i h
 | .a j ls::r,vs,bx,i,h=>lD r _ bx i h
 | .b s ls::r,vs,bx,i,h=>by
  simp only[EP];cases hj:X2 st s with
  | none=>exact lD r _ bx i h
  | some j=>
   dsimp only;cases hc:bL bx j with
   | none=>exact lD r _ bx i h
   | some c=>
    dsimp only;refine lD r _ _ i ?_;rw[gq hc,if_neg]
    ·exact h
    ·rintro rfl;rw[h]at hc;cases hc
theorem Ext.Nu {st:St} {kp:List Nat} {ms:List MI} {vs:List SV} {w:World}:Ext st (j5 st kp ms vs w):=by
 refine⟨rfl,fS _,fun i k v hl bp=>?_,fun i b' hb ho hs=>?_,fun i b hb=>?_,BE⟩
 ·simp only[j5]at hl;rw[qu]at hl;split at hl
  ·rename_i p hp;have:=qw hp;simp only[ai]at hl;subst hl;dsimp only at this;omega
  ·exact(vS hl).2
 ·simp only[j5]at hb;cases hn:bL st.bx i with
  | none=>rw[lD _ _ _ _ hn]at hb;cases hb
  | some b=>
   obtain⟨b2,h1,h2,h3,h4,h5,h6⟩:=fT (st:=st) ms vs st.bx i b hn;rw[h1]at hb;injection hb with hb;subst hb;rcases h6 with rfl | h6
   ·exact⟨b2,rfl,ho,rfl,rfl,rfl,fun _ h=>h⟩
   ·omega
 ·obtain⟨b2,h1,h2,h3,h4,_⟩:=fT (st:=st) ms vs st.bx i b hb;exact⟨b2,h1,h2,h3,fun k hk=>by rw[h4];exact hk⟩
def j6 (st:St) (kp:List Nat) (ms:List MI) (s:St):Prop:=Ext st s∨∃vs w,Ext (j5 st kp ms vs w) s
section
variable {st s:St} {kp:List Nat} {ms:List MI} {β:Nat->Nat} {a:Act} {w:World}
theorem j6.n (h:j6 st kp ms s):s.n=st.n:=by
 rcases h with h | ⟨vs,w,h⟩
 ·exact h.n
 ·exact h.n
theorem j6.df (h:j6 st kp ms s):∃l,s.df=l++st.df:=by
 rcases h with h | ⟨vs,w,h⟩
 ·exact h.df
 ·exact h.df
theorem j6.slot (h:j6 st kp ms s) {i k:Nat} {v v':SV} (hi:i∈kp) (h1:cM st.fr i=some (k,v)) (h2:cM s.fr i=some (k,v')) (hk:k<st.ct) (hs:(Rv ms).elem i=false):v'=v:=by
 rcases h with h | ⟨vs,w,h⟩
 ·have:=h.fr i k v' h2 hk;rw[h1]at this;simpa using this.symm
 ·have:=h.fr i k v' h2 (Nat.lt_succ_of_lt hk);simp only[j5]at this;rw[qu,qv hs]at this;dsimp only at this;rw[Cn hi h1]at this;simpa using this.symm
theorem j6.ps (h:j6 st kp ms s) {i:Nat} {b:fH} (hb:bL st.bx i=some b):∃c,bL s.bx i=some c/\c.ty=b.ty/\c.ok=b.ok/\∀k,b.blk=some k->c.blk=some k:=by
 rcases h with h | ⟨vs,w,h⟩
 ·exact h.ps i b hb
 ·obtain⟨b2,h1,h2,h3,h4,_⟩:=fT (st:=st) ms vs st.bx i b hb;obtain⟨c,k1,k2,k3,k4⟩:=h.ps i b2 h1;exact⟨c,k1,k2.trans h2,k3.trans h3,fun k hk=>k4 k (by rw[h4];exact hk)⟩
theorem j6.cells (h:j6 st kp ms s) {i:Nat} {b c:fH} (hb:bL st.bx i=some b) (hc:bL s.bx i=some c) (ho:b.ok=true) (hl:(KS st ms).elem i=false) (hs:c.stp<st.ct):c.cells=b.cells:=by
 rcases h with h | ⟨vs,w,h⟩
 ·obtain⟨c',k1,k2,k3,k4⟩:=h.ps i b hb;rw[hc]at k1;injection k1 with k1;subst k1;obtain⟨b3,m1,m2,m3,_⟩:=h.bx i c hc (k3.trans ho) hs;rw[hb]at m1;injection m1 with m1;rw[m1,m3]
 ·obtain⟨b2,h1,h2,h3,h4,h5,_⟩:=fT (st:=st) ms vs st.bx i b hb;obtain⟨c',k1,k2,k3,k4⟩:=h.ps i b2 h1;rw[hc]at k1;injection k1 with k1;subst k1;obtain⟨b3,m1,m2,m3,m4,m5,m6⟩:=h.bx i c hc (k3.trans (h3.trans ho)) (Nat.lt_succ_of_lt hs);rw[show bL (j5 st kp ms vs w).bx i=bL (EP st ms vs st.bx) i from rfl,h1]at m1;injection m1 with m1;subst m1;rw[<-m3,h5 hl]
theorem Gx {sl:List Nat}:∀{kp:List Nat},PB st s sl kp=true->∀i∈kp,∀k v,cM st.fr i=some (k,v)->∃v',cM s.fr i=some (k,v')/\k<st.ct/\sl.elem i=false/\cln (Ce st.bx) v=true
 | j::r,h,i,hi,k,v,hl=>by
  simp only[PB,ab]at h;rcases ak.1 hi with rfl | hi
  ·have h1:=h.1;rw[hl]at h1;dsimp only at h1;split at h1
   ·rename_i k' v' hs;simp only[ab,ch]at h1;have e:=aX h1.1.1.1;subst e;exact⟨v',hs,ca h1.1.1.2,h1.1.2,h1.2⟩
   ·cases h1
  ·exact Gx h.2 i hi k v hl
theorem Av {OG:List Nat}:∀{l m:List fH} {n:Nat},IM st OG n l m=true->∀i b,bL l i=some b->b.ok=true->b.blk.isSome=true/\(OG.elem (n+i)=true∨∃c,bL m i=some c/\c.stp<st.ct/\fz (Ce st.bx) b.cells=true)
 | b::r,[],n,h,_,_,_,_=>by simp[IM]at h
 | b::r,c::q,n,h,0,b',hb,ho=>by
  simp only[IM,ab,cp,ch]at h;simp only[bL,ai]at hb;subst hb;rcases h.1 with h1 | ⟨h1,h2⟩
  ·rw[ho]at h1;cases h1
  ·refine⟨h1,?_⟩;rcases h2 with h2 | h2
   ·exact .inl h2
   ·exact .inr ⟨c,rfl,ca h2.1,h2.2⟩
 | b::r,c::q,n,h,i+1,b',hb,ho=>by
  simp only[IM,ab]at h;have:=Av h.2 i b' hb ho;rwa[show n+1+i=n+(i+1) by omega]at this
theorem Rep.at (hR:Rep β s a w) {i:Nat} {v:SV} (h:s.get i=some v):i<s.n/\a.tmps[i]? =some (V.val β v):=by
 unfold St.get at h;cases hb:Nat.blt i s.n with
 | false=>rw[hb]at h;cases h
 | true=>
  rw[hb,dY]at h;cases hl:cM s.fr i with
  | none=>rw[hl]at h;cases h
  | some p=>
   rw[hl]at h;simp only[bP,ai]at h;subst h;exact⟨ca hb,hR.ok.at_ i p hl (ca hb)⟩
theorem pq {g:Nat->Bool}:∀{l m:List SV},fz g (l++m)=true->fz g l=true/\fz g m=true
 | [],m,h=>⟨rfl,h⟩
 | s::r,m,h=>by
  simp only[bc,fz,ab]at h⊢;obtain⟨h1,h2⟩:=pq h.2;exact⟨⟨h.1,h1⟩,h2⟩
theorem ol {γ b:Nat->Nat} {vs l m:List SV} {n:Nat} (hv:V.bq γ vs=V.bq b l++V.bq b m) (hl:l.length=n):V.bq γ (vs.take n)=V.bq b l/\V.bq γ (vs.drop n)=V.bq b m:=by
 have h1:(V.bq γ vs).take n=V.bq γ (vs.take n):=by simp[V.bq,kQ]
 have h2:(V.bq γ vs).drop n=V.bq γ (vs.drop n):=by simp[V.bq,nZ]
 have hn:(V.bq b l).length=n:=by rw[dA,hl]
 rw[<-h1,<-h2,hv,<-hn];exact⟨List.take_left,List.drop_left⟩
theorem Aw (hR:Rep β s a w) {ct:Nat} {γ:Nat->Nat}:∀{ms:List MI} {ss vs:List SV},nA st s ms=some ss->fz (Ce s.bx) ss=true->V.bq γ vs=V.bq (Cb s.bx) ss->∀i p,cM (Eg ct ms vs) i=some p->a.tmps[i]? =some (V.val γ p.2)
 | [],ss,vs,_,_,_,i,p,h=>by cases vs<;>cases h
 | .s j l::r,ss,[],_,_,_,i,p,h=>by cases h
 | .s j l::r,ss,v::vs,ha,hc,hv,i,p,h=>by
  simp only[nA]at ha;split at ha
  ·rename_i v0 l0 h1 h2;simp only[ai]at ha;subst ha;simp only[fz,ab]at hc;simp only[V.bq,aI,wo]at hv;simp only[Eg,cM]at h;cases hb:Nat.beq j i with
   | true=>
    rw[hb]at h;simp only[dY,ai]at h;subst h;have:=aX hb;subst this;rw[(hR.at h1).2,hv.1,hR.aaS hc.1]
   | false=>
    rw[hb]at h;exact Aw hR h2 hc.2 hv.2 i p (by simpa using h)
  ·cases ha
 | .a j ls::r,ss,vs,ha,hc,hv,i,p,h=>by
  simp only[nA]at ha;split at ha
  ·rename_i l0 m0 h1 h2;obtain⟨h3,rfl⟩:=Ae ha;simp only[ab]at h3;have dN:=aX h3.2;obtain⟨c1,c2⟩:=pq hc;rw[jw]at hv;obtain⟨e1,e2⟩:=ol hv dN;simp only[Eg,cM]at h;cases hb:Nat.beq j i with
   | true=>
    rw[hb]at h;simp only[dY,ai]at h;subst h;have:=aX hb;subst this;rw[(hR.at h1).2];show some (Value.agg (mV β l0).toArray)=some (Value.agg (mV γ (ld _)).toArray);rw[ob,e1,kn β h3.1,hR.pZ c1]
   | false=>
    rw[hb]at h;exact Aw hR h2 c2 e2 i p (by simpa using h)
  ·cases ha
 | .b j ls::r,ss,vs,ha,hc,hv,i,p,h=>by
  simp only[nA]at ha;split at ha
  ·split at ha
   ·rename_i b m0 h1 h2;obtain⟨h3,rfl⟩:=Ae ha;have dN:=aX h3;obtain⟨c1,c2⟩:=pq hc;rw[jw]at hv;obtain⟨e1,e2⟩:=ol hv dN;simp only[Eg]at h;exact Aw hR h2 c2 e2 i p h
   ·cases ha
  ·cases ha
theorem wU (hR:Rep β s a w) {γ:Nat->Nat} (El:∀i b,bL st.bx i=some b->∃c,bL s.bx i=some c/\c.ty=b.ty/\c.ok=b.ok) (hγ:∀i b,bL st.bx i=some b->b.ok=true->γ i=β i):∀{ms:List MI} {ss vs:List SV} {bx:List fH},nA st s ms=some ss->fz (Ce s.bx) ss=true->V.bq γ vs=V.bq (Cb s.bx) ss->
  (∀j b',bL bx j=some b'->∃b,bL st.bx j=some b/\b'.ty=b.ty/\b'.ok=b.ok)->(∀j b',bL bx j=some b'->b'.ok=true->Blk w (γ j) b'.ty (V.bq γ b'.cells)∨(KS st ms).elem j=true)->
  ∀j b',bL (EP st ms vs bx) j=some b'->b'.ok=true->Blk w (γ j) b'.ty (V.bq γ b'.cells)
 | [],ss,vs,bx,_,_,_,_,hi,j,b',hb,ho=>by
  have:EP st [] vs bx=bx:=by cases vs<;>rfl
  rw[this]at hb;rcases hi j b' hb ho with h | h
  ·exact h
  ·cases h
 | .s k l::r,ss,[],bx,ha,hc,hv,h0,hi,j,b',hb,ho=>by
  simp only[nA]at ha;split at ha
  ·simp only[ai]at ha;subst ha;simp[V.bq]at hv
  ·cases ha
 | .s k l::r,ss,v::vs,bx,ha,hc,hv,h0,hi,j,b',hb,ho=>by
  simp only[nA]at ha;split at ha
  ·rename_i v0 l0 h1 h2;simp only[ai]at ha;subst ha;simp only[fz,ab]at hc;simp only[V.bq,aI,wo]at hv;exact wU hR El hγ h2 hc.2 hv.2 h0 hi j b' hb ho
  ·cases ha
 | .a k ls::r,ss,vs,bx,ha,hc,hv,h0,hi,j,b',hb,ho=>by
  simp only[nA]at ha;split at ha
  ·rename_i l0 m0 h1 h2;obtain⟨h3,rfl⟩:=Ae ha;simp only[ab]at h3;have dN:=aX h3.2;obtain⟨c1,c2⟩:=pq hc;rw[jw]at hv;obtain⟨e1,e2⟩:=ol hv dN;exact wU hR El hγ h2 c2 e2 h0 hi j b' hb ho
  ·cases ha
 | .b k ls::r,ss,vs,bx,ha,hc,hv,h0,hi,j,b',hb,ho=>by
  simp only[nA]at ha;split at ha
  ·rename_i q hq;split at ha
   ·rename_i c m0 h1 h2;obtain⟨h3,rfl⟩:=Ae ha;have dN:=aX h3;obtain⟨c1,c2⟩:=pq hc;rw[jw]at hv;obtain⟨e1,e2⟩:=ol hv dN;simp only[EP,hq]at hb;cases hn:bL bx q with
    | none=>
     rw[hn]at hb;refine wU hR El hγ h2 c2 e2 h0 (fun i b Ij ho5=>?_) j b' hb ho;rcases hi i b Ij ho5 with h | h
     ·exact .inl h
     ·simp only[KS,hq,jM]at h;split at h
      ·rename_i e;have e:i=q:=by simpa using e
       rw[e,hn]at Ij;cases Ij
      ·exact .inr h
    | some b=>
     rw[hn]at hb;obtain⟨bs,g1,g2,g3⟩:=h0 q b hn;refine wU hR El hγ h2 c2 e2 (fun i b2 x7=>?_) (fun i b2 x7 Jy=>?_) j b' hb ho
     ·rw[gq hn]at x7;split at x7
      ·rename_i e;subst e;injection x7 with x7;subst x7;exact⟨bs,g1,g2,g3⟩
      ·exact h0 i b2 x7
     ·rw[gq hn]at x7;split at x7
      ·rename_i e;subst e;injection x7 with x7;subst x7;left;dsimp only at Jy⊢;have BK:bs.ok=true:=by rw[<-g3];exact Jy
       obtain⟨c',k1,k2,k3⟩:=El i bs g1;rw[h1]at k1;injection k1 with k1;subst k1;have hB:=(hR.bx i c h1 (k3.trans BK)).blk;rw[hγ i bs g1 BK,g2,<-k2,e1,hR.pZ c1];exact hB
      ·rename_i eI;rcases hi i b2 x7 Jy with h | h
       ·exact .inl h
       ·simp only[KS,hq,jM]at h;split at h
        ·rename_i e;exact absurd (by simpa using e) eI
        ·exact .inr h
   ·cases ha
  ·cases ha
theorem pr {J:JT (Ef ms)} (h:ER st kp ms J s) (hR:Rep β s a w) (hm:s.mv=false) (FM:j6 st kp ms s) {K:List SV->World->Prop} (hK:Cm (Ef ms) J K):
  ∃vs,K vs w/\Rep (Cb st.bx) (j5 st kp ms vs w) a w:=by
 unfold ER at h;obtain⟨h0,h⟩:=cw h;obtain⟨ss,hss,h⟩:=aA h;obtain⟨hc,h⟩:=cw h;simp only[ab]at h0;obtain⟨h0,Ek⟩:=h0;have NH:s.df=st.df:=by
  obtain⟨l,hl⟩:=FM.df;have:=aX Ek;rw[hl,ah]at this;have:l=[]:=List.length_eq_zero_iff.1 (by omega);rw[hl,this,aV]
 have hw:=hR.still hm;rw[<-hw]at h;obtain⟨vs,k1,k2,k3,k4⟩:=KR h hK;have El:∀i b,bL st.bx i=some b->∃c,bL s.bx i=some c/\c.ty=b.ty/\c.ok=b.ok:=fun i b hb=>by
  obtain⟨c,h1,h2,h3,_⟩:=FM.ps hb;exact⟨c,h1,h2,h3⟩
 have D0:∀i b,bL st.bx i=some b->b.ok=true->b.blk=some (β i):=fun i b hb ho=>by
  obtain⟨hs,_⟩:=Av h0.2 i b hb ho;obtain⟨c,h1,h2,h3,h4⟩:=FM.ps hb;cases hk:b.blk with
  | none=>rw[hk]at hs;cases hs
  | some k=>rw[(hR.bx i c h1 (h3.trans ho)).at_ k (h4 k hk)]
 have hγ:∀i b,bL st.bx i=some b->b.ok=true->Cb st.bx i=β i:=fun i b hb ho=>by
  unfold Cb;rw[hb];dsimp only;rw[D0 i b hb ho];rfl
 have nY:∀i,Ce st.bx i=true->Cb st.bx i=β i:=fun i hi=>by
  unfold Ce at hi;cases hb:bL st.bx i with
  | none=>rw[hb]at hi;cases hi
  | some b=>
   rw[hb]at hi;simp only[ab]at hi;exact hγ i b hb hi.1
 have FN:∀i b',bL (EP st ms vs st.bx) i=some b'->b'.ok=true->∃b,bL st.bx i=some b/\b.ok=true/\b'.blk=b.blk:=fun i b' hb ho=>by
  cases hn:bL st.bx i with
  | none=>rw[lD _ _ _ _ hn]at hb;cases hb
  | some b=>
   obtain⟨b2,h1,h2,h3,h4,_⟩:=fT (st:=st) ms vs st.bx i b hn;rw[h1]at hb;injection hb with hb;subst hb;exact⟨b,rfl,by rw[<-h3];exact ho,h4⟩
 refine⟨vs,k1,oc ⟨hR.ok.sz.trans FM.n,hR.ok.df.trans (aU Oj NH),fun i p hl hi=>?_⟩,fun i b' hb ho=>?_,fun i j bi bj g1 g2 g3 g4 qd=>?_,Only.refl _ _,fun _=>rfl⟩
 ·simp only[j5]at hl;rw[qu]at hl;split at hl
  ·rename_i q hq;simp only[ai]at hl;subst hl;exact Aw hR hss hc (k3 _) i q hq
  ·obtain⟨m1,m2⟩:=vS hl;obtain⟨k,v⟩:=p;obtain⟨v',n1,n2,n3,n4⟩:=Gx h0.1 i m1 k v m2;have:=FM.slot m1 m2 n1 n2 n3;subst this;rw[hR.ok.at_ i _ n1 (by rw[FM.n];exact hi)];congr 1;exact(gy (g:=Ce st.bx) nY _ n4).symm
 ·have hB:=wU hR El hγ hss hc (k3 _) (bx:=st.bx) (fun j b hb=>⟨b,hb,rfl,rfl⟩) (fun j b hb ho=>by
   obtain⟨_,h1⟩:=Av h0.2 j b hb ho;rw[aJ]at h1;rcases h1 with h1 | ⟨c,h1,h2,h3⟩
   ·exact .inr h1
   ·cases hl:(KS st ms).elem j with
    | true=>exact .inr rfl
    | false=>
     left;have e:=FM.cells hb h1 ho hl h2;obtain⟨c',e1,e2,e3⟩:=El j b hb;rw[h1]at e1;injection e1 with e1;subst e1;have:=(hR.bx j c h1 (e3.trans ho)).blk;rw[hγ j b hb ho,<-e2,fh (g:=Ce st.bx) nY _ h3,<-e];exact this) i b' hb ho
  obtain⟨b,g1,g2,g3⟩:=FN i b' hb ho;refine⟨hB,fun k hk=>?_,fun hk=>?_⟩
  ·rw[hγ i b g1 g2];rw[g3,D0 i b g1 g2]at hk;simpa using hk
  ·rw[g3,D0 i b g1 g2]at hk;cases hk
 ·obtain⟨b,e1,e2,_⟩:=FN i bi g1 g3;obtain⟨c,f1,f2,_⟩:=FN j bj g2 g4;obtain⟨b',p1,_,p3⟩:=El i b e1;obtain⟨c',q1,_,q3⟩:=El j c f1;rw[hγ i b e1 e2,hγ j c f1 f2];exact hR.ne i j b' c' p1 q1 (p3.trans e2) (q3.trans f2) qd
end
def be (S:Nat->Prop) (w w':World):Prop:=∀k,S k->k<w.heap.size->w'.heap[k]? =w.heap[k]?
theorem be.refl (S:Nat->Prop) (w:World):be S w w:=fun _ _ _=>rfl
theorem be.only {S:Nat->Prop} {w w':World} (h:Only [] w w'):be S w w':=fun k _ hk=>h.block k hk (by simp)
def vm (S:Nat->Prop) (k:Nat):Prop:=¬S k
def EE (P:Program) (ops:List Oper) (mb ms:Bool) (S:Nat->Prop) (j:Nat) (w w':World):Prop:=match fm ops j with
 | some o=>bif gC P o.op then w'.heap=w.heap else bif mb&&(ms||!qQ o.op)then be S w w' else True
 | none=>False
def XB (mb ms:Bool) (S:Nat->Prop) (o:Op):XT:=fun w0 w1 p=>bif mb&&(ms||!qQ o)then be S w0 w1/\p else p
def YB (mb ms:Bool) (S:Nat->Prop):YT:=fun bk p=>bif mb&&ms then(match bk with
 | some k=>vm S k/\p
 | none=>False)else p
def oo (P:Program):Nat->List Oper->List Nat
 | _,[]=>[]
 | i,o::r=>bif gC P o.op then oo P (i+1) r else i::oo P (i+1) r
def Rw (q:Nat) (seen:List Nat):List Edge->Bool
 | []=>false
 | e::r=>(Region.binds .any e&&(Nat.beq e.on q||seen.elem e.on))||Rw q seen r
def KT (q:Nat):Nat->List Nat->List Oper->List Nat
 | _,seen,[]=>seen
 | i,seen,o::r=>bif Rw q seen o.after.toList then KT q (i+1) (i::seen) r else KT q (i+1) seen r
def JQ (aH:Array Bool):Nat->List Oper->List Nat
 | _,[]=>[]
 | i,_::r=>bif aH.getD i true then i::JQ aH (i+1) r else JQ aH (i+1) r
def IP (D N:List Nat):List Nat->List Nat
 | []=>[]
 | j::r=>bif D.elem j||N.elem j then IP D N r else j::IP D N r
def Gy (ops:List Oper):List Nat->Bool
 | []=>true
 | j::r=>(match fm ops j with
  | some o=>!qQ o.op
  | none=>false)&&Gy ops r
def Dq (ops:List Oper) (q:Nat):List Nat:=(KT q 0 [] ops).reverse
def PC (P:Program) (ops:List Oper) (aH:Array Bool) (q:Nat):List Nat:=IP (Dq ops q) (JQ aH 0 ops) (oo P 0 ops)
def PD {α:Type}:List α->Bool
 | []=>true
 | _=>false
def okT (ops:List Oper) (aH:Array Bool) (q:Nat):Bool:=
 Region.noSelect ops.toArray&&Region.free .any ops.toArray aH q&&Aa .any ops.toArray aH&&tV .any ops.toArray q [] (Dq ops q)&&(JQ aH 0 ops).all (fun k=>aH.getD k true)
def PE (st:St) (ops:List Oper) (o:Oper) (OE no:St->Prop):Prop:=match o.guard with
 | none=>OE st
 | some (j,want)=>(match TL st ops j with
  | some (_,.un)=>no st
  | some (_,.bl b)=>bif b==want then OE st else no st
  | some (d,.bt t)=>((t=true->bif true==want then OE (st.put (some d) (.bl true))else no (st.put (some d) (.bl true)))/\
   (t=false->bif false==want then OE (st.put (some d) (.bl false))else no (st.put (some d) (.bl false))))
  | _=>False)
def ldB (P:Program) (S:Nat->Prop) (st:St) (t:TypeId) (a:SV) (K:SV->Prop):Prop:=match P.underlying t with
 | none=>False
 | some d=>(match a with
  | .box i o=>ba (bL st.bx i) fun b=>bif b.ok&&b.blk.isSome&&sz P t ((b.cells.drop o).take (qO P t)).length&&(kA d||Nat.beq ((b.cells.drop o).take (qO P t)).length 1)then S (b.blk.getD 0)/\K (Ky (kA d) ((b.cells.drop o).take (qO P t)))else False
  | .ad p=>bif !st.mv&&sz P t (Ol P 12 t).length&&(kA d||Nat.beq (Ol P 12 t).length 1)then S p.block/\WE (Ol P 12 t) fun vs=>aB st.w0 p (bq β0 vs)/\K (Ky (kA d) vs)else False
  | _=>False)
def cvB (P:Program) (S:Nat->Prop) (st:St) (s d:TypeId) (a:SV) (K:SV->Prop):Prop:=match P.underlying s,P.underlying d with
 | some (.slice e),some .string=>(match P.underlying e with
  | some (.int .u8)=>ba (Gk a) fun u=>bif st.mv then False else ∃l:List UInt8,(∀ad,u.a=some ad->S ad.block)/\se st.w0 u l/\K (.str ⟨l.toArray⟩)
  | _=>False)
 | _,_=>False
def X3 (P:Program):Op->Bool
 | .load _ _=>true
 | .convert s d _=>(match P.underlying s,P.underlying d with
  | some (.slice _),some .string=>true
  | _,_=>false)
 | _=>false
def cvI (P:Program):Op->Bool
 | .convert s d _=>(match P.underlying s,P.underlying d with
  | some (.int _),some (.int _)=>true
  | some .string,some .string=>true
  | _,_=>false)
 | _=>false
def cvZ (P:Program) (s d:TypeId) (a:SV) (K:SV->Prop):Prop:=match P.underlying s,P.underlying d with
 | some (.int _),some (.int kd)=>ba (nr a) fun p=>K (.int kd (kd.wrap p.2))
 | some .string,some .string=>ba (rA a) fun u=>K (.str u)
 | _,_=>False
def qP (P:Program) (ops:List Oper) (mb ms:Bool) (S:Nat->Prop) (aH:Array Bool) (q:Nat) (o:Oper) (st:St) (K:St->Prop):Prop:=
 bif gC P o.op then
  bif cvI P o.op then(match o.op with
   | .convert s d x=>ba (st.ev x) fun a=>cvZ P s d a fun v=>K (st.put o.dst v)
   | _=>False)
  else bif !mem o.op||PD (PC P ops aH q)then Ru (nd P st o.op) st fun st=>TF P [] st o.op fun v=>K (st.put o.dst v)
  else bif mb&&(ms||Gy ops (PC P ops aH q))then(match o.op with
   | .load t x=>Ru (nd P st o.op) st fun st=>ba (st.ev x) fun a=>ldB P S st t a fun v=>K (st.put o.dst v)
   | .convert s d x=>Ru (nd P st o.op) st fun st=>ba (st.ev x) fun a=>cvB P S st s d a fun v=>K (st.put o.dst v)
   | _=>False)else False
 else False
def fq (P:Program) (ops:List Oper):List Nat->Option Nat
 | []=>none
 | i::r=>match fm ops i with
  | some o=>bif gC P o.op then some i else fq P ops r
  | none=>none
def Co (P:Program) (ops:List Oper) (mb ms:Bool) (S:Nat->Prop):Nat->Array Bool->St->(St->Prop)->Prop
 | 0,aH,st,K=>(match Region.ready .any ops.toArray aH with
  | []=>K st
  | _=>False)
 | g+1,aH,st,K=>(match Region.ready .any ops.toArray aH with
  | []=>K st
  | i::r=>(match fq P ops (i::r)with
   | some q=>ba (fm ops q) fun o=>bif okT ops aH q&&(i::r).contains q then
    PE st ops o (fun st=>qP P ops mb ms S aH q o st fun st=>Co P ops mb ms S g (aH.setIfInBounds q true) st K) (fun st=>Co P ops mb ms S g (aH.setIfInBounds q true) (st.put o.dst .un) K)else False
   | none=>(match r with
    | []=>ba (fm ops i) fun o=>bif gC P o.op then False else
     PE st ops o (fun st=>loud P (XB mb ms S o.op) (YB mb ms S) st o fun st=>Co P ops mb ms S g (aH.setIfInBounds i true) st K) (fun st=>Co P ops mb ms S g (aH.setIfInBounds i true) (st.put o.dst .un) K)
    | [j]=>ba (fm ops i) fun o=>ba (fm ops j) fun o'=>bif gC P o.op||gC P o'.op then False else
     PE st ops o (fun st=>loud P (XB mb ms S o.op) (YB mb ms S) st o fun st=>Co P ops mb ms S g (aH.setIfInBounds i true) st K) (fun st=>Co P ops mb ms S g (aH.setIfInBounds i true) (st.put o.dst .un) K)/\
     PE st ops o' (fun st=>loud P (XB mb ms S o'.op) (YB mb ms S) st o' fun st=>Co P ops mb ms S g (aH.setIfInBounds j true) st K) (fun st=>Co P ops mb ms S g (aH.setIfInBounds j true) (st.put o'.dst .un) K)
    | _=>False)))
def mbN (P:Program) (ops:List Oper):Nat->List Oper->Bool
 | _,[]=>false
 | i,o::r=>(bif X3 P o.op then(oo P 0 ops).any fun j=>!(Dq ops i).elem j&&!(Dq ops j).elem i
  else false)||mbN P ops (i+1) r
def TR (P:Program) (ops:List Oper):Nat->List Oper->Bool
 | _,[]=>false
 | i,o::r=>(bif X3 P o.op then(oo P 0 ops).any fun j=>!(Dq ops i).elem j&&!(Dq ops j).elem i&&(match fm ops j with
   | some o'=>qQ o'.op
   | none=>false)
  else false)||TR P ops (i+1) r
section
variable {P:Program} {ops:List Oper} {mb ms:Bool} {S:Nat->Prop} {β:Nat->Nat} {a:Act} {w:World}
theorem wV {st:St} {o:Oper} {OE no:St->Prop} (h:PE st ops o OE no) (hR:Rep β st a w):
  ∃s,Ext st s/\Rep β s a w/\((Region.wanted o (yielded ops.toArray a.tmps)=true/\OE s)∨(Region.wanted o (yielded ops.toArray a.tmps)=false/\no s)):=by
 unfold PE at h;split at h
 ·rename_i hg;exact⟨st,Ext.refl _,hR,.inl ⟨wn hg,h⟩⟩
 ·rename_i j want hg;split at h
  ·rename_i d ht;exact⟨st,Ext.refl _,hR,.inr ⟨tX hR hg ht,h⟩⟩
  ·rename_i d b ht;have hw:=nu hR hg ht (b:=b) rfl;rcases kB h with⟨e,h⟩ | ⟨e,h⟩
   ·exact⟨st,Ext.refl _,hR,.inl ⟨hw.trans e,h⟩⟩
   ·exact⟨st,Ext.refl _,hR,.inr ⟨hw.trans e,h⟩⟩
  ·rename_i d t ht;obtain⟨oj,FL,OC,OD⟩:=wI ht;have hw:=nu hR hg ht (b:=t) rfl;cases t with
   | true=>
    refine⟨_,Ext.put _ (some d) (.bl true),hR.set OD rfl,?_⟩;rcases kB (h.1 rfl)with⟨e,h⟩ | ⟨e,h⟩
    ·exact .inl ⟨hw.trans e,h⟩
    ·exact .inr ⟨hw.trans e,h⟩
   | false=>
    refine⟨_,Ext.put _ (some d) (.bl false),hR.set OD rfl,?_⟩;rcases kB (h.2 rfl)with⟨e,h⟩ | ⟨e,h⟩
    ·exact .inl ⟨hw.trans e,h⟩
    ·exact .inr ⟨hw.trans e,h⟩
  ·exact h.elim
theorem ES {st:St} {d:TypeDesc} {t:TypeId} {x:Operand} {l:List SV} {ad:Addr} {w':World} (hu:P.underlying t=some d) (hsz:sz P t l.length=true) (jO:kA d=true∨Nat.beq l.length 1=true)
  (Ii:a.eval x=.pointer (some ad)) (hC:aB w' ad (bq β l)) (dst:Option Tmp) (t':TypeId) (p:String) (af:Array Edge) (g:Option (Nat×Bool)):
  (execOp a.eval ⟨dst,.load t x,t',p,af,g⟩).run P w'=.ok (.value (val β (Ky (kA d) l))) w':=by
 rcases jO with oK | jO
 ·rw[ml oK];have:=iW (P:=P) hu w';rw[oK]at this;exact qo this (mH hsz w') (dA β l) Ii hC
 ·cases oK:kA d with
  | true=>
   have e:=ml oK β l;rw[oK]at e;rw[e];have:=iW (P:=P) hu w';rw[oK]at this;exact qo this (mH hsz w') (dA β l) Ii hC
  | false=>
   obtain⟨s,rfl⟩:=wH jO;have:=iW (P:=P) hu w';rw[oK]at this;exact zP this Ii (aB.one hC)
theorem rB:∀{l:List Oper} {i j:Nat} {o:Oper},fm l j=some o->gC P o.op=false->i+j∈oo P i l
 | [],_,_,_,h,_=>by cases h
 | c::r,i,0,o,h,hp=>by
  simp only[fm,ai]at h;subst h;simp[oo,hp]
 | c::r,i,j+1,o,h,hp=>by
  have:=rB (l:=r) (i:=i+1) (j:=j) h hp;rw[show i+1+j=i+(j+1) by omega]at this;simp only[oo];cases gC P c.op with
  | true=>exact this
  | false=>exact bS _ this
theorem sH {D N:List Nat}:∀{l:List Nat} {j:Nat},j∈l->j∉D->j∉N->j∈IP D N l
 | c::r,j,h,h1,h2=>by
  simp only[IP];rcases ak.1 h with rfl | h
  ·have e1:D.elem j=false:=by simpa using h1
   have e2:N.elem j=false:=by simpa using h2
   rw[e1,e2];simp
  ·cases(D.elem c||N.elem c)with
   | true=>exact sH h h1 h2
   | false=>exact bS _ (sH h h1 h2)
theorem Cp:∀{l:List Nat} {j:Nat} {o:Oper},Gy ops l=true->j∈l->fm ops j=some o->qQ o.op=false
 | [],j,o,_,hj,_=>by cases hj
 | c::r,j,o,h,hj,ho=>by
  simp only[Gy,ab]at h;rcases ak.1 hj with hc | hj
  ·have h1:=h.1;rw[<-hc,ho]at h1;cases he:qQ o.op with
   | false=>rfl
   | true=>dsimp only at h1;rw[he]at h1;cases h1
  ·exact Cp h.2 hj ho
def Sta (P:Program) (ops:List Oper) (mb ms:Bool) (S:Nat->Prop) (D N:List Nat) (F:World->Prop):Prop:=∀j w w',j∉D->j∉N->F w->EE P ops mb ms S j w w'->F w'
theorem Rx {aH:Array Bool} {q:Nat} {o:Oper} {st:St} {K:St->Prop} (h:qP P ops mb ms S aH q o st K) (hR:Rep β st a w):
  ∃(v:Value) (s':St) (F:World->Prop),K s'/\Ext st s'/\Rep β s' (a.put o.dst v) w/\F w/\Sta P ops mb ms S (Dq ops q) (JQ aH 0 ops) F/\gC P o.op=true/\∀w',F w'->(execOp a.eval o).run P w'=.ok (.value v) w':=by
 unfold qP at h;rcases kB h with⟨hp,h⟩ | ⟨_,h⟩
 case inr=>exact h.elim
 rcases kB h with⟨_,h⟩ | ⟨_,h⟩
 ·obtain⟨dst,op,t',p,af,g⟩:=o;cases op with
  | convert s d x=>
   dsimp only at h;obtain⟨ax,hx,h1⟩:=aA h;unfold cvZ at h1;split at h1
   ·rename_i ks kd h2 h3;obtain⟨⟨k,n⟩,Vg,h1⟩:=aA h1;exact⟨_,_,fun _=>True,h1,Ext.put _ _ _,hR.put _ _,trivial,fun _ _ _ _ _ _ _=>trivial,hp,fun w' _=>yS (run_underlying h2 w') (run_underlying h3 w') ((hR.ev hx).trans (cj Vg β))⟩
   ·rename_i h2 h3;obtain⟨u,Vg,h1⟩:=aA h1;exact⟨_,_,fun _=>True,h1,Ext.put _ _ _,hR.put _ _,trivial,fun _ _ _ _ _ _ _=>trivial,hp,fun w' _=>yT (run_underlying h2 w') (run_underlying h3 w') ((hR.ev hx).trans (fA Vg β))⟩
   ·exact h1.elim
  | _=>exact h.elim
 rcases kB h with⟨hb,h⟩ | ⟨hb,h⟩
 ·obtain⟨s1,h1,e1,fx,_⟩:=ub h hR;obtain⟨v,hv,hy⟩:=EJ h1;have hy:=hy trivial β a w fx;obtain⟨dst,op,t',p,af,g⟩:=o;cases hm:mem op with
  | false=>
   exact⟨val β v,_,fun _=>True,hv,e1.trans (Ext.put _ _ _),fx.put _ v,trivial,fun _ _ _ _ _ _ _=>trivial,hp,fun w' _=>hy _ _ _ _ _ w' fun e=>by rw[hm]at e;cases e⟩
  | true=>
   have hn:PD (PC P ops aH q)=true:=by simpa[hm]using hb
   refine⟨val β v,_,fun w'=>w'.heap=w.heap,hv,e1.trans (Ext.put _ _ _),fx.put _ v,rfl,fun j w1 w2 hD hN hF hE=>?_,hp,fun w' hF=>hy _ _ _ _ _ w' fun _=>hF⟩;unfold EE at hE;split at hE
   ·rename_i oj hj;rcases kB hE with⟨_,e⟩ | ⟨e,_⟩
    ·exact e.trans hF
    ·have:=sH (by have:=rB (i:=0) hj e;rwa[aJ]at this) hD hN;unfold PC at hn;revert hn this;generalize IP (Dq ops q) (JQ aH 0 ops) (oo P 0 ops)=m;intro hn this;cases m with
     | nil=>cases this
     | cons=>cases hn
   ·exact hE.elim
 ·obtain⟨h0,h⟩:=cw h;simp only[ab]at h0;obtain⟨dst,op,t',p,af,g⟩:=o;have oJ:∀F:World->Prop,∀k:Nat,S k->(∀w1 w2:World,F w1->w2.heap[k]? =w1.heap[k]? ->F w2)->(∀w1,F w1->k<w1.heap.size)->Sta P ops mb ms S (Dq ops q) (JQ aH 0 ops) F:=by
   intro F k hk JY hF2 j w1 w2 hD hN hF hE;unfold EE at hE;split at hE
   ·rename_i oj hj;rcases kB hE with⟨_,e⟩ | ⟨e,hE⟩
    ·exact JY w1 w2 hF (by rw[e])
    ·have:=sH (by have:=rB (i:=0) hj e;rwa[aJ]at this) hD hN;have hs:(ms||!qQ oj.op)=true:=by
      rcases cp _ _▸h0.2 with h2 | h2
      ·rw[h2];rfl
      ·rw[Cp h2 this hj,Bool.not_false,mh]
     rw[h0.1,hs]at hE;exact JY w1 w2 hF (hE k hk (hF2 _ hF))
   ·exact hE.elim
  cases op with
  | load t x=>
   dsimp only at h;obtain⟨s1,h1,e1,fx,_⟩:=ub h hR;obtain⟨ax,hx,h1⟩:=aA h1;unfold ldB at h1;split at h1
   ·exact h1.elim
   ·rename_i d hu;split at h1
    ·rename_i i off;obtain⟨b,yL,h1⟩:=aA h1;obtain⟨hc,hS,hK⟩:=cw h1;simp only[ab,cp]at hc;obtain⟨⟨⟨oB,JX⟩,hsz⟩,jO⟩:=hc;have hBO:=fx.bx i b yL oB;have hB:=hBO.blk;have hbe:b.blk.getD 0=β i:=by
      cases hk:b.blk with
      | none=>rw[hk]at JX;cases JX
      | some k=>rw[hBO.at_ k hk];rfl
     rw[hbe]at hS;have Ii:=fx.ev hx;refine⟨_,_,fun w'=>Blk w' (β i) b.ty (bq β b.cells),hK,e1.trans (Ext.put _ _ _),fx.put _ _,hB,oJ _ (β i) hS (fun w1 w2 hF e=>by unfold Blk at hF⊢;rw[e];exact hF) (fun w1 hF=>hF.lt),hp,fun w' hF=>?_⟩;generalize hl:(b.cells.drop off).take (qO P t)=l at*
     have hC:aB w' ⟨β i,off,none⟩ (bq β l):=hF.Bh off _ (by
      rw[dA,<-hl];simp only[bq,kQ,nZ];rw[ck,nf];simp only[bK,aQ];omega)
     exact ES (st:=st) hu hsz jO Ii hC _ _ _ _ _
    ·rename_i ad;obtain⟨hc,hS,h2⟩:=cw h1;simp only[ab,cp,ch]at hc;obtain⟨⟨lA,hsz⟩,jO⟩:=hc;obtain⟨vs,⟨hF,hK⟩,dN,nY⟩:=wD h2;have hw:=fx.still lA;rw[<-hw]at hF;have hv:∀w',aB w' ad (bq β0 vs)->aB w' ad (bq β vs):=fun w' h=>by
      rw[fh (β:=β) (β':=β0) (g:=fun _=>false) (fun i h=>(by cases h)) vs (nY _)];exact h
     rw[<-dN]at hsz jO;by_cases aba:bq β0 vs=[]
     ·refine⟨_,_,fun _=>True,hK,e1.trans (Ext.put _ _ _),fx.put _ _,trivial,fun _ _ _ _ _ _ _=>trivial,hp,fun w' _=>?_⟩;exact ES (st:=st) hu hsz jO (fx.ev hx) (hv w' (by rw[aba];intro j v hj;simp at hj)) _ _ _ _ _
     ·refine⟨_,_,fun w'=>aB w' ad (bq β0 vs),hK,e1.trans (Ext.put _ _ _),fx.put _ _,hF,oJ _ ad.block hS (fun w1 w2 hF e=>hF.keep e) (fun w1 hF=>hF.lt' aba),hp,fun w' hF=>?_⟩;exact ES (st:=st) hu hsz jO (fx.ev hx) (hv w' hF) _ _ _ _ _
    ·exact h1.elim
  | convert s d x=>
   dsimp only at h;obtain⟨s1,h1,e1,fx,_⟩:=ub h hR;obtain⟨ax,hx,h1⟩:=aA h1;unfold cvB at h1;split at h1
   ·rename_i e hu1 Vh;split at h1
    ·rename_i hu3;obtain⟨u,Vg,h1⟩:=aA h1;cases hm:s1.mv with
     | true=>rw[hm]at h1;exact h1.elim
     | false=>
      rw[hm]at h1;obtain⟨l,hS,hF,hK⟩:=h1;have hw:=fx.still hm;rw[<-hw]at hF;refine⟨_,_,fun w'=>se w' u l,hK,e1.trans (Ext.put _ _ _),fx.put _ _,hF,?_,hp,fun w' hF'=>wx hu1 hu3 Vh ((fx.ev hx).trans (iq Vg β)) hF'⟩;by_cases hl:l=[]
      ·subst hl;exact fun j w1 w2 _ _ JY _=>⟨JY.1,fun hh=>absurd rfl hh⟩
      ·obtain⟨ad,ha,_⟩:=hF.2 hl;refine oJ _ ad.block (hS ad ha) (fun w1 w2 JY e=>⟨JY.1,fun hh=>?_⟩) (fun w1 JY=>?_)
       ·obtain⟨Ox,D1,hC⟩:=JY.2 hh;rw[ha]at D1;injection D1 with D1;subst D1;exact⟨ad,ha,hC.keep e⟩
       ·obtain⟨Ox,D1,hC⟩:=JY.2 hl;rw[ha]at D1;injection D1 with D1;subst D1;exact hC.lt' (by cases l with
         | nil=>exact absurd rfl hl
         | cons c l=>simp)
    ·exact h1.elim
   ·exact h1.elim
  | _=>exact h.elim
theorem oq {j:Nat} {o:Oper} (hj:fm ops j=some o) (w:World):EE P ops mb ms S j w w:=by
 unfold EE;rw[hj];dsimp only;cases gC P o.op with
 | true=>rfl
 | false=>
  cases(mb&&(ms||!qQ o.op))with
  | true=>exact be.refl _ _
  | false=>exact trivial
theorem Cq {Q:Exit->Act->World->Prop} {j:Nat} {o:Oper} {st:St} {K:St->Prop} (hj:fm ops j=some o) (hp:gC P o.op=false) (h:loud P (XB mb ms S o.op) (YB mb ms S) st o K) (hR:Rep β st a w):o.wp P a w (Rt (EE P ops mb ms S j) st K w) Q:=by
 have WT:EE P ops mb ms S j=fun w w'=>bif mb&&(ms||!qQ o.op)then be S w w' else True:=by
  funext w w';unfold EE;rw[hj];dsimp only;rw[hp];rfl
 refine Ar (fun w0 w1 p hx=>?_) (fun w w1 hO=>?_) (fun hs bk k w w1 p hy hk hO=>?_) h hR
 ·rw[WT];unfold XB at hx;dsimp only;cases hb:(mb&&(ms||!qQ o.op))with
  | true=>rw[hb]at hx;exact⟨hx.2,hx.1⟩
  | false=>rw[hb]at hx;exact⟨hx,trivial⟩
 ·rw[WT];dsimp only;cases(mb&&(ms||!qQ o.op))with
  | true=>exact be.only hO
  | false=>exact trivial
 ·rw[WT];dsimp only;rw[hs,Bool.not_true,Bool.or_false];unfold YB at hy;cases hb:(mb&&ms)with
  | true=>
   rw[hb]at hy;cases bk with
   | none=>exact hy.elim
   | some j=>
    refine⟨hy.2,fun q hq bp=>hO.block q bp ?_⟩;have:=hk j rfl;subst this;simp only[ae];rintro rfl;exact hy.1 hq
  | false=>rw[hb]at hy;exact⟨hy,trivial⟩
theorem pu {Q:Exit->Act->World->Prop} (hQ:∀c a w,¬Q (.panic c) a w):∀{g:Nat} {aH:Array Bool} {st:St} {K:St->Prop} {β:Nat->Nat} {a:Act} {w:World},Co P ops mb ms S g aH st K->Rep β st a w->
  (∀β' bH a' w',K bH->Ext st bH->Rep β' bH a' w'->Q .normal a' w')->eH P .any ops.toArray Q (EE P ops mb ms S) g aH a w
 | 0,aH,st,K,β,a,w,h,hR,hK=>by
  unfold Co at h;split at h
  ·rename_i hr;exact⟨hr,hK β st a w h (Ext.refl _) hR⟩
  ·exact h.elim
 | g+1,aH,st,K,β,a,w,h,hR,hK=>by
  have L:∀{j:Nat} {o:Oper},fm ops j=some o->gC P o.op=false->
    PE st ops o (fun st=>loud P (XB mb ms S o.op) (YB mb ms S) st o fun st=>Co P ops mb ms S g (aH.setIfInBounds j true) st K) (fun st=>Co P ops mb ms S g (aH.setIfInBounds j true) (st.put o.dst .un) K)->
    if Region.wanted o (yielded ops.toArray a.tmps)then o.wp P a w (fun a' w'=>EE P ops mb ms S j w w'/\eH P .any ops.toArray Q (EE P ops mb ms S) g (aH.setIfInBounds j true) a' w') Q∨(o.asks P a w/\LetsOut Q)
    else(fun a' w'=>EE P ops mb ms S j w w'/\eH P .any ops.toArray Q (EE P ops mb ms S) g (aH.setIfInBounds j true) a' w') (a.put o.dst undef) w:=by
   intro j o ho hp h;obtain⟨s,e1,fx,h1⟩:=wV h hR;rcases h1 with⟨hw,h1⟩ | ⟨hw,h1⟩
   ·rw[if_pos hw];refine .inl (Oper.wp_mono ?_ (Cq ho hp h1 fx));rintro a' w' ⟨β',bH,k1,k2,k3,k4⟩;exact⟨k3,pu hQ k1 k4 fun β2 u9 a2 w2 m1 m2 m3=>hK β2 u9 a2 w2 m1 ((e1.trans k2).trans m2) m3⟩
   ·rw[if_neg (by simp[hw])];exact⟨oq ho w,pu hQ h1 (fx.put o.dst .un) fun β2 u9 a2 w2 m1 m2 m3=>hK β2 u9 a2 w2 m1 ((e1.trans (Ext.put _ _ _)).trans m2) m3⟩
  unfold Co at h;split at h
  ·rename_i hr;exact Tx hr (hK β st a w h (Ext.refl _) hR)
  ·rename_i i r hr;split at h
   ·rename_i q hq;obtain⟨o,ho,h⟩:=aA h;obtain⟨hc,h⟩:=cw h;simp only[ab,okT]at hc;obtain⟨⟨⟨⟨⟨c1,c2⟩,c3⟩,c4⟩,c5⟩,c6⟩:=hc;obtain⟨s,e1,fx,h1⟩:=wV h hR;rcases h1 with⟨hw,h1⟩ | ⟨hw,h1⟩
    ·obtain⟨v,s2,F,k1,k2,k3,k4,k5,k6,k7⟩:=Rx h1 fx;have hE:∀w1,F w1->EE P ops mb ms S q w1 w1:=fun w1 _=>oq ho w1;exact Kp q (Dq ops q) (JQ aH 0 ops) v F ho c1 c2 (by rw[hr];exact c6) c3 c4 c5 (fun c a w hp=>(hQ _ _ _ hp).elim) k5 hE k4 (Ri hw k7) rfl
      (pu hQ k1 k3 fun β2 u9 a2 w2 m1 m2 m3=>hK β2 u9 a2 w2 m1 ((e1.trans k2).trans m2) m3)
    ·exact Kp q (Dq ops q) (JQ aH 0 ops) undef (fun _=>True) ho c1 c2 (by rw[hr];exact c6) c3 c4 c5 (fun c a w hp=>(hQ _ _ _ hp).elim) (fun _ _ _ _ _ _ _=>trivial) (fun w1 _=>oq ho w1) trivial (XF hw) rfl
      (pu hQ h1 (fx.put o.dst .un) fun β2 u9 a2 w2 m1 m2 m3=>hK β2 u9 a2 w2 m1 ((e1.trans (Ext.put _ _ _)).trans m2) m3)
   ·split at h
    ·obtain⟨o,ho,h⟩:=aA h;rcases kB h with⟨_,h⟩ | ⟨hp,h⟩
     ·exact h.elim
     obtain⟨s,e1,fx,h1⟩:=wV h hR;rcases h1 with⟨hw,h1⟩ | ⟨hw,h1⟩
     ·refine XD i ho hr hw (Oper.wp_mono ?_ (Cq ho hp h1 fx));rintro a' w' ⟨β',bH,k1,k2,k3,k4⟩;exact⟨k3,pu hQ k1 k4 fun β2 u9 a2 w2 m1 m2 m3=>hK β2 u9 a2 w2 m1 ((e1.trans k2).trans m2) m3⟩
     ·exact Pb i ho hr hw (oq ho w) rfl (pu hQ h1 (fx.put o.dst .un) fun β2 u9 a2 w2 m1 m2 m3=>hK β2 u9 a2 w2 m1 ((e1.trans (Ext.put _ _ _)).trans m2) m3)
    ·rename_i j _;obtain⟨o,ho,h⟩:=aA h;obtain⟨o',JZ,h⟩:=aA h;rcases kB h with⟨_,h⟩ | ⟨hp,h⟩
     ·exact h.elim
     simp only[gK]at hp;exact XE i j ho JZ hr (L ho hp.1 h.1) (L JZ hp.2 h.2)
    ·exact h.elim
end
def iz (ws w w':World):Prop:=w.heap.size<=w'.heap.size/\∀k,ws.heap.size<=k->k<w.heap.size->w'.heap[k]? =w.heap[k]?
def pv (mk:List (Nat×Nat)) (b:Nat):Prop:=∀p∈mk,b<p.1∨p.2<=b
theorem iz.only {bs:List Nat} {ws w w':World} (h:Only bs w w') (hb:∀b∈bs,b<ws.heap.size∨w.heap.size<=b):iz ws w w':=
 ⟨h.size,fun k h1 h2=>h.block k h2 fun hk=>by rcases hb k hk with h | h<;>omega⟩
theorem iz.zJ {ws w w':World} (h:Only [] w w'):iz ws w w':=iz.only h (by simp)
theorem iz.le {ws w w':World} (h:iz ws w w'):w.heap.size<=w'.heap.size:=h.1
theorem pv.one {m n b:Nat} {r:List (Nat×Nat)} (h:pv ((m,n)::r) b):b<m∨n<=b:=h _ cR
theorem pv.rest {p:Nat×Nat} {r:List (Nat×Nat)} {b:Nat} (h:pv (p::r) b):pv r b:=fun q hq=>h q (bS _ hq)
structure LZ where
 z:Nat
 d:Nat
 t:TypeId
 zs:List SV
def rC (P:Program) (z:Nat) (o:Oper):Option LZ:=match o.op,o.dst,o.guard with
 | .alloc t,some d,none=>(match zc P t with
  | some zs=>bif PD o.after.toList&&fz (fun _=>false) zs then some ⟨z,d,t,zs⟩else none
  | none=>none)
 | _,_,_=>none
def iK (P:Program):Nat->List Oper->List LZ
 | _,[]=>[]
 | i,o::r=>match rC P i o with
  | some p=>p::iK P (i+1) r
  | none=>iK P (i+1) r
def lf:List LZ->List Nat
 | []=>[]
 | p::r=>p.z::lf r
def TS:List LZ->List Nat
 | []=>[]
 | p::r=>p.d::TS r
def Cs (z d:Nat):Nat->List Oper->Bool
 | _,[]=>true
 | i,o::r=>(Nat.beq i z||(match o.dst with
  | some e=>!Nat.beq e d
  | none=>true))&&Cs z d (i+1) r
def WI (ops:List Oper):List LZ->Bool
 | []=>true
 | p::r=>Cs p.z p.d 0 ops&&WI ops r
theorem KU {α:Type}:∀{l:List α},PD l=true->l=[]
 | [],_=>rfl
theorem j7 {P:Program} {z:Nat} {o:Oper} {p:LZ} (h:rC P z o=some p):p.z=z/\o.op=.alloc p.t/\o.dst=some p.d/\o.guard=none/\o.after.toList=[]/\zc P p.t=some p.zs/\fz (fun _=>false) p.zs=true:=by
 unfold rC at h;split at h
 ·rename_i t d h1 h2 h3;split at h
  ·rename_i zs hz;obtain⟨h4,rfl⟩:=Ae h;simp only[ab]at h4;exact⟨rfl,h1,h2,h3,KU h4.1,hz,h4.2⟩
  ·cases h
 ·cases h
theorem lg {Z:List LZ} {z:Nat}:z∈lf Z↔∃p∈Z,p.z=z:=by
 induction Z with
 | nil=>simp[lf]
 | cons p r ih=>simp only[lf,ak,ih,exists_eq_or_imp,eq_comm (a:=z)]
theorem wW {P:Program}:∀{l:List Oper} {i:Nat} {p:LZ},p∈iK P i l->∃j o,p.z=i+j/\fm l j=some o/\rC P p.z o=some p
 | [],i,p,h=>by cases h
 | o::r,i,p,h=>by
  have tl:p∈iK P (i+1) r->∃j o',p.z=i+j/\fm (o::r) j=some o'/\rC P p.z o'=some p:=fun h=>by
   obtain⟨j,o',h1,h2,h3⟩:=wW h;exact⟨j+1,o',by omega,h2,h3⟩
  unfold iK at h;split at h
  ·rename_i q hq;rcases ak.1 h with rfl | h
   ·have:=(j7 hq).1;exact⟨0,o,this,rfl,by rw[this];exact hq⟩
   ·exact tl h
  ·exact tl h
theorem wX {P:Program}:∀{l:List Oper} {i:Nat},(lf (iK P i l)).Nodup
 | [],i=>by simp[iK,lf]
 | o::r,i=>by
  unfold iK;split
  ·rename_i q hq;have e:=(j7 hq).1;simp only[lf,wq];refine⟨fun hm=>?_,wX⟩;obtain⟨p,h1,h2⟩:=lg.1 hm;obtain⟨j,_,h3,_⟩:=wW h1;omega
  ·exact wX
theorem KV {z d:Nat}:∀{l:List Oper} {i j:Nat} {o:Oper},Cs z d i l=true->fm l j=some o->i+j≠z->o.dst≠some d:=by
 intro l
 induction l with
 | nil=>intro i j o _ h;cases h
 | cons c r ih=>
  intro i j o h hj hz;simp only[Cs,ab,cp]at h;cases j with
  | zero=>
   simp only[fm,ai]at hj;subst hj;intro e;rcases h.1 with h1 | h1
   ·exact hz (aX h1)
   ·rw[e]at h1;simp at h1
  | succ j=>exact ih (i:=i+1) (j:=j) h.2 hj (by omega)
theorem KW {ops:List Oper}:∀{Z:List LZ},WI ops Z=true->∀p∈Z,Cs p.z p.d 0 ops=true
 | q::r,h,p,hp=>by
  simp only[WI,ab]at h;rcases ak.1 hp with rfl | hp
  ·exact h.1
  ·exact KW h.2 p hp
def dq (l:Array Bool):List Nat->Array Bool
 | []=>l
 | z::r=>dq (l.setIfInBounds z true) r
theorem Ct (l:Array Bool) (i j:Nat):(l.setIfInBounds i true).setIfInBounds j true=(l.setIfInBounds j true).setIfInBounds i true:=by
 by_cases h:i=j
 ·subst h;rfl
 ·exact Array.setIfInBounds_comm _ _ h
theorem lG:∀{D:List Nat} {l:Array Bool} {z:Nat},dq (l.setIfInBounds z true) D=(dq l D).setIfInBounds z true
 | [],_,_=>rfl
 | d::r,l,z=>by
  simp only[dq];rw[Ct,lG]
theorem Cu {D E:List Nat} (h:D.Perm E):∀l,dq l D=dq l E:=by
 induction h with
 | nil=>intro l;rfl
 | cons x _ ih=>intro l;exact ih _
 | swap x y r=>intro l;simp only[dq];rw[Ct]
 | trans _ _ h1 h2=>intro l;exact(h1 l).trans (h2 l)
theorem nB:∀{D:List Nat} {l:Array Bool} {k:Nat},(dq l D).getD k false=true↔l.getD k false=true∨(k∈D/\k<l.size)
 | [],l,k=>by simp[dq]
 | d::r,l,k=>by
  simp only[dq];rw[nB];by_cases h:d=k
  ·subst h;by_cases hs:d<l.size
   ·simp[hs]
   ·simp[hs]
  ·simp[mU h,Ne.symm h]
theorem lH:∀{D:List Nat} {l:Array Bool} {k:Nat},(dq l D).getD k true=true↔l.getD k true=true∨k∈D
 | [],l,k=>by simp[dq]
 | d::r,l,k=>by
  simp only[dq];rw[lH];by_cases h:d=k
  ·subst h;by_cases hs:d<l.size
   ·simp[hs]
   ·simp[hs]
  ·simp[mU h,Ne.symm h]
def yD (Zi:List Nat):List Nat->List Nat
 | []=>[]
 | j::r=>bif Zi.elem j then yD Zi r else j::yD Zi r
theorem nC {Zi:List Nat}:∀{l:List Nat} {j:Nat},j∈yD Zi l↔j∈l/\j∉Zi
 | [],j=>by simp[yD]
 | c::r,j=>by
  simp only[yD];cases h:Zi.elem c with
  | true=>
   simp only[dY,nC,ak];have h:c∈Zi:=by simpa using h
   exact⟨fun k=>⟨.inr k.1,k.2⟩,fun k=>⟨k.1.resolve_left (fun e=>k.2 (e▸h)),k.2⟩⟩
  | false=>
   have h:c∉Zi:=by simpa using h
   simp only[lq,ak,nC];exact⟨fun k=>k.elim (fun e=>⟨.inl e,e▸h⟩) fun k=>⟨.inr k.1,k.2⟩,fun k=>k.1.imp id fun k'=>⟨k',k.2⟩⟩
def Gz (Zi R:List Nat):List Nat->Bool
 | []=>true
 | j::r=>(R.elem j&&!Zi.elem j)&&Gz Zi R r
theorem Cv {Zi R:List Nat}:∀{l:List Nat},Gz Zi R l=true->∀j∈l,j∈R/\j∉Zi
 | c::r,h,j,hj=>by
  simp only[Gz,ab,ch]at h;rcases ak.1 hj with rfl | hj
  ·exact⟨by simpa using h.1.1,by simpa using h.1.2⟩
  ·exact Cv h.2 j hj
def sI (l:Array Bool):List Nat->Bool
 | []=>true
 | z::r=>!l.getD z true&&sI l r
theorem uS {l:Array Bool}:∀{Zi:List Nat},sI l Zi=true->∀z∈Zi,l.getD z true=false
 | c::r,h,z,hz=>by
  simp only[sI,ab,ch]at h;rcases ak.1 hz with rfl | hz
  ·exact h.1
  ·exact uS h.2 z hz
def TT (ops:List Oper) (Zi:List Nat) (l:Array Bool):Bool:=Gz Zi (Region.ready .any ops.toArray l) (Region.ready .any ops.toArray (dq l Zi))
def GA (z:Nat):List Nat->Bool
 | []=>true
 | j::r=>Nat.beq j z&&GA z r
theorem Cw {z:Nat}:∀{l:List Nat},GA z l=true->∀j∈l,j=z
 | c::r,h,j,hj=>by
  simp only[GA,ab]at h;rcases ak.1 hj with rfl | hj
  ·exact aX h.1
  ·exact Cw h.2 j hj
def PF (ops:List Oper) (l:Array Bool) (Zi:List Nat):List Nat->Bool
 | []=>true
 | z::r=>GA z (Region.ready .any ops.toArray (dq l (Zi.erase z)))&&PF ops l Zi r
theorem GB {ops:List Oper} {l:Array Bool} {Zi:List Nat}:∀{r:List Nat},PF ops l Zi r=true->∀z∈r,∀j∈Region.ready .any ops.toArray (dq l (Zi.erase z)),j=z
 | c::r,h,z,hz=>by
  simp only[PF,ab]at h;rcases ak.1 hz with rfl | hz
  ·exact Cw h.1
  ·exact GB h.2 z hz
section
variable {md:Region.Mode} {ops:Array Oper}
theorem uc {l:Array Bool} {D E:List Nat} (hs:∀x∈D,x∈E) {j:Nat} (h:j∈Region.ready md ops (dq l D)) (hj:j∉E):j∈Region.ready md ops (dq l E):=by
 rw[mem_ready]at h⊢;obtain⟨h0,o,ho,ij⟩:=h;refine⟨?_,o,ho,fun e he hb=>?_⟩
 ·rw[gL]at h0⊢;intro h1;rcases lH.1 h1 with h1 | h1
  ·exact h0 (lH.2 (.inl h1))
  ·exact hj h1
 ·rcases nB.1 (ij e he hb)with h1 | h1
  ·exact nB.2 (.inl h1)
  ·exact nB.2 (.inr ⟨hs _ h1.1,h1.2⟩)
theorem yE {l:Array Bool} (h:n8 md ops l) {D:List Nat} (hD:∀z∈D,∀o,ops[z]? =some o->o.after.toList=[]):n8 md ops (dq l D):=by
 intro k o hk hl e he hb;rcases nB.1 hl with h1 | h1
 ·exact nB.2 (.inl (h k o hk h1 e he hb))
 ·have:=hD k h1.1 o hk;rw[Array.mem_def,this]at he;cases he
end
theorem TU {P:Program} {o:Oper} {a:Act} {w:World} {K:Act->World->Prop} {Q:Exit->Act->World->Prop} (hh:o.wp P a w K Q):
  o.wp P a w (fun a' w'=>K a' w'/\∀i,o.dst≠some i->a'.tmps[i]? =a.tmps[i]?) Q:=by
 unfold Oper.wp at*
 generalize (execOp a.eval o).run P w=r at*
 cases r with
 | ok n w'=>
  cases n<;>simp only[Oper.upon]at hh⊢
  case value v=>exact⟨hh,(iI _ _ _).2.2⟩
  case skip=>exact⟨hh,(iI _ _ _).2.2⟩
  case defer d=>exact⟨hh,(iI _ _ _).2.2⟩
  case enter f args=>
   refine Calls.mono hh (fun e rQ he=>?_);cases e with
   | returned v=>exact⟨he,(iI _ _ _).2.2⟩
   | _=>exact he
  case row n args=>exact Rows.mono hh (fun v rQ he=>⟨he,(iI _ _ _).2.2⟩)
  all_goals exact hh
 | halt x w'=>cases x<;>simp only[Oper.upon]at hh⊢ <;>exact hh
structure Late (Z:List LZ) (ws:World) (bz:Nat->Nat) (D:List Nat) (mk:List (Nat×Nat)) (a:Act) (w:World):Prop where
 at_:∀p∈Z,p.z∈D->a.tmps[p.d]? =some (.pointer (some ⟨bz p.z,0,none⟩))/\Blk w (bz p.z) p.t (bq β0 p.zs)/\ws.heap.size<=bz p.z/\pv mk (bz p.z)
 sub:∀z∈D,z∈lf Z
 ne:∀z∈D,∀z'∈D,z≠z'->bz z≠bz z'
 top:∀p∈mk,p.2<=w.heap.size
 le:ws.heap.size<=w.heap.size
section
variable {Z:List LZ} {ws:World} {bz:Nat->Nat} {D:List Nat} {mk:List (Nat×Nat)} {a a':Act} {w w1:World}
theorem Late.act (h:Late Z ws bz D mk a w) (ha:∀p∈Z,a'.tmps[p.d]? =a.tmps[p.d]?):Late Z ws bz D mk a' w:=
 ⟨fun p hp hd=>by rw[ha p hp];exact h.at_ p hp hd,h.sub,h.ne,h.top,h.le⟩
theorem Late.loud (h:Late Z ws bz D mk a w) (hN:iz ws w w1) (ha:∀p∈Z,a'.tmps[p.d]? =a.tmps[p.d]?):Late Z ws bz D ((w.heap.size,w1.heap.size)::mk) a' w1:=by
 refine⟨fun p hp hd=>?_,h.sub,h.ne,fun p hp=>?_,ay h.le hN.1⟩
 ·obtain⟨h1,h2,h3,h4⟩:=h.at_ p hp hd;have h5:=h2.lt;refine⟨by rw[ha p hp];exact h1,?_,h3,fun q hq=>?_⟩
  ·unfold Blk at h2⊢;rw[hN.2 _ h3 h5];exact h2
  ·rcases ak.1 hq with rfl | hq
   ·exact .inl h5
   ·exact h4 q hq
 ·rcases ak.1 hp with rfl | hp
  ·exact aq _
  ·exact ay (h.top p hp) hN.1
theorem Late.alloc (h:Late Z ws bz D mk a w) (hu:∀p∈Z,∀q∈Z,p.z=q.z->p=q) (hd:∀p∈Z,∀q∈Z,p.z≠q.z->p.d≠q.d) {p:LZ} (hp:p∈Z) (hn:p.z∉D) {b:Nat} (hb:w.heap.size<=b) (hO:Only [] w w1) (hB:Blk w1 b p.t (bq β0 p.zs)) (hs:p.d<a.tmps.size):
  Late Z ws (fun z=>if z=p.z then b else bz z) (p.z::D) mk (a.put (some p.d) (.pointer (some ⟨b,0,none⟩))) w1:=by
 refine⟨fun q hq hqd=>?_,fun z hz=>?_,fun z hz z' hz' eI=>?_,fun q hq=>ay (h.top q hq) hO.size,ay h.le hO.size⟩
 ·by_cases e:q.z=p.z
  ·have:=hu q hq p hp e;subst this;rw[if_pos rfl];refine⟨by simp[Act.put,hs],hB,ay h.le hb,fun x hx=>.inr (ay (h.top x hx) hb)⟩
  ·rw[if_neg e];obtain⟨h1,h2,h3,h4⟩:=h.at_ q hq (by
    rcases ak.1 hqd with k | k
    ·exact absurd k e
    ·exact k)
   refine⟨?_,hO.blk h2 (by simp),h3,h4⟩;rw[(iI a (some p.d) _).2.2 q.d (by
    intro k;injection k with k;exact hd p hp q hq (Ne.symm e) k)]
   exact h1
 ·rcases ak.1 hz with rfl | hz
  ·exact lg.2 ⟨p,hp,rfl⟩
  ·exact h.sub z hz
 ·have old:∀z∈D,bz z<w.heap.size:=fun z hz=>by
   obtain⟨q,hq,rfl⟩:=lg.1 (h.sub z hz);exact(h.at_ q hq hz).2.1.lt
  show(if z=p.z then b else bz z)≠(if z'=p.z then b else bz z');rcases ak.1 hz with rfl | hz<;>rcases ak.1 hz' with rfl | hz'
  ·exact absurd rfl eI
  ·rw[if_pos rfl,if_neg (Ne.symm eI)];have:=old _ hz';omega
  ·rw[if_neg eI,if_pos rfl];have:=old _ hz;omega
  ·rw[if_neg (fun e=>hn (by rw[<-e];exact hz)),if_neg (fun e=>hn (by rw[<-e];exact hz'))];exact h.ne _ hz _ hz' eI
end
def YF:YT:=fun _ _=>False
def XL (mb ms:Bool) (S:Nat->Prop) (ws:World) (o:Op):XT:=fun w0 w1 p=>iz ws w0 w1/\XB mb ms S o w0 w1 p
def GC (st:St):List LZ->Bool
 | []=>true
 | p::r=>(cM st.fr p.d).isNone&&Nat.blt p.d st.n&&GC st r
theorem Cx {st:St}:∀{Z:List LZ},GC st Z=true->∀p∈Z,cM st.fr p.d=none/\p.d<st.n
 | q::r,h,p,hp=>by
  simp only[GC,ab,Option.isNone_iff_eq_none]at h;rcases ak.1 hp with rfl | hp
  ·exact⟨h.1.1,ca h.1.2⟩
  ·exact Cx h.2 p hp
def St.tF (st:St):St:={st with mv:=true}
def eqA:List Bool->List Bool->Bool
 | [],[]=>true
 | a::r,b::s=>(a==b)&&eqA r s
 | _,_=>false
theorem KX:∀{l m:List Bool},eqA l m=true->l=m
 | [],[],_=>rfl
 | a::r,b::s,h=>by
  simp only[eqA,ab,iR]at h;rw[h.1,KX h.2]
def lL (P:Program) (ops:List Oper) (mb ms:Bool) (S:Nat->Prop) (ws:World) (mk:List (Nat×Nat)) (st:St) (o:Oper) (D:List (Nat×Nat)->St->Prop):Prop:=
 bif gC P o.op then False else PE st ops o (fun st=>dh st fun st=>loud P (XL mb ms S ws o.op) YF st o fun s=>bif s.mv then False else D ((st.w0.heap.size,s.w0.heap.size)::mk) s.tF) (fun st=>D mk (St.tF (st.put o.dst .un)))
def fqG (P:Program) (ops:List Oper) (Zi:List Nat) (aH:Array Bool):List Nat->Option Nat
 | []=>none
 | i::r=>(match fm ops i with
  | some o=>bif gC P o.op&&TT ops Zi (aH.setIfInBounds i true)then some i else fqG P ops Zi aH r
  | none=>fqG P ops Zi aH r)
def fqZ (P:Program) (ops:List Oper) (Zi:List Nat) (aH:Array Bool) (l:List Nat):Option Nat:=
 match fqG P ops Zi aH l with
 | some q=>some q
 | none=>fq P ops l
def IQ (P:Program) (ops:List Oper) (mb ms:Bool) (S:Nat->Prop) (ws:World) (Z:List LZ) (uD:Array Bool) (gm:Nat) (K:List (Nat×Nat)->St->Prop):Nat->Array Bool->List (Nat×Nat)->St->Prop
 | 0,_,_,_=>False
 | g+1,aH,mk,st=>bif sI aH (lf Z)&&GC st Z then(match yD (lf Z) (Region.ready .any ops.toArray aH)with
  | []=>bif PF ops aH (lf Z) (lf Z)&&eqA aH.toList uD.toList&&Nat.beq (g+1) gm&&Nat.ble (lf Z).length (g+1)then K mk st else False
  | i::r=>bif TT ops (lf Z) aH&&Nat.ble (lf Z).length g then(match fqZ P ops (lf Z) aH (i::r)with
   | some q=>ba (fm ops q) fun o=>bif okT ops aH q&&(i::r).contains q then
    PE st ops o (fun st=>qP P ops mb ms S aH q o st.tF fun st=>IQ P ops mb ms S ws Z uD gm K g (aH.setIfInBounds q true) mk st.tF) (fun st=>IQ P ops mb ms S ws Z uD gm K g (aH.setIfInBounds q true) mk (St.tF (st.put o.dst .un)))else False
   | none=>(match r with
    | []=>ba (fm ops i) fun o=>lL P ops mb ms S ws mk st o fun mk st=>IQ P ops mb ms S ws Z uD gm K g (aH.setIfInBounds i true) mk st
    | [j]=>ba (fm ops i) fun o=>ba (fm ops j) fun o'=>
     lL P ops mb ms S ws mk st o (fun mk st=>IQ P ops mb ms S ws Z uD gm K g (aH.setIfInBounds i true) mk st)/\
     lL P ops mb ms S ws mk st o' (fun mk st=>IQ P ops mb ms S ws Z uD gm K g (aH.setIfInBounds j true) mk st)
    | [j,k]=>ba (fm ops i) fun o=>ba (fm ops j) fun o'=>ba (fm ops k) fun o''=>
     lL P ops mb ms S ws mk st o (fun mk st=>IQ P ops mb ms S ws Z uD gm K g (aH.setIfInBounds i true) mk st)/\
     lL P ops mb ms S ws mk st o' (fun mk st=>IQ P ops mb ms S ws Z uD gm K g (aH.setIfInBounds j true) mk st)/\
     lL P ops mb ms S ws mk st o'' (fun mk st=>IQ P ops mb ms S ws Z uD gm K g (aH.setIfInBounds k true) mk st)
    | _=>False))else False)else False
section
variable {P:Program} {ops:List Oper} {mb ms:Bool} {S:Nat->Prop} {β:Nat->Nat} {a:Act} {w:World} {ws:World} {Z:List LZ} {uD:Array Bool} {gm:Nat}
theorem Rep.late {st:St} (hR:Rep β st a w) (hm:st.mv=true) {d:Nat} {v:Value} (hd:cM st.fr d=none) {w1:World} (hO:Only [] w w1):Rep β st (a.put (some d) v) w1:=by
 obtain⟨p1,p2,p3⟩:=iI a (some d) v;refine⟨oc ⟨p1.trans hR.ok.sz,p2.trans hR.ok.df,fun i p hl hi=>?_⟩,fun i b hb ho=>?_,hR.ne,hR.only.cf hO,fun h=>by rw[hm]at h;cases h⟩
 ·rw[p3 i (by rintro e;injection e with e;subst e;rw[hd]at hl;cases hl)];exact hR.ok.at_ i p hl hi
 ·obtain⟨k1,k2,k3⟩:=hR.bx i b hb ho;exact⟨hO.blk k1 (by simp),k2,k3⟩
theorem Rep.tF {st:St} (hR:Rep β st a w):Rep β st.tF a w:=⟨hR.fr,hR.bx,hR.ne,hR.only,fun h=>by cases h⟩
theorem Ext.tF (st:St):Ext st st.tF:=⟨rfl,aq _,fun _ _ _ h _=>h,fun i b h ho _=>⟨b,h,ho,rfl,rfl,rfl,fun _ h=>h⟩,Kx,BE⟩
theorem X4 {Q:Exit->Act->World->Prop} {j:Nat} {o:Oper} {st:St} {mk:List (Nat×Nat)} {D:List (Nat×Nat)->St->Prop} (hj:fm ops j=some o) (h:lL P ops mb ms S ws mk st o D) (hR:Rep β st a w):
  wpOp P ops.toArray Q j (fun a' w'=>EE P ops mb ms S j w w'/\(∀i,o.dst≠some i->a'.tmps[i]? =a.tmps[i]?)/\∃β' bH mk',D mk' bH/\Ext st bH/\bH.mv=true/\Rep β' bH a' w'/\((mk'=mk/\w'=w)∨(mk'=(w.heap.size,w'.heap.size)::mk/\iz ws w w'))) a w:=by
 unfold lL at h;rcases kB h with⟨_,h⟩ | ⟨hp,h⟩
 ·exact h.elim
 have Oz:ops.toArray[j]? =some o:=by rw[io]at hj;simpa using hj
 unfold wpOp;simp only[Oz];obtain⟨s,e1,fx,h1⟩:=wV h hR;rcases h1 with⟨hw,h1⟩ | ⟨hw,h1⟩
 ·rw[if_pos hw];left;obtain⟨s1,h2,e2,SS,vH,_⟩:=cP h1 fx;have WT:EE P ops mb ms S j=fun w w'=>bif mb&&(ms||!qQ o.op)then be S w w' else True:=by
   funext w w';unfold EE;rw[hj];dsimp only;rw[hp];rfl
  have:=TU (Ar (E:=fun w w'=>EE P ops mb ms S j w w'/\iz ws w w') (Q:=Q) (fun w0 w1 p hx=>?_) (fun w w1 hO=>?_) (fun hs bk k w w1 p hy hk hO=>hy.elim) h2 SS)
  ·refine Oper.wp_mono ?_ this;rintro a' w' ⟨⟨β',bH,k1,k2,k3,k4⟩,k5⟩;rcases kB k1 with⟨_,k1⟩ | ⟨km,k1⟩
   ·exact k1.elim
   refine⟨k3.1,k5,β',bH.tF,_,k1,((e1.trans e2).trans k2).trans (Ext.tF _),rfl,k4.tF,.inr ⟨?_,k3.2⟩⟩;rw[<-k4.still km,<-SS.still vH]
  ·rw[WT];obtain⟨hN,hx⟩:=hx;unfold XB at hx;dsimp only;cases hb:(mb&&(ms||!qQ o.op))with
   | true=>rw[hb]at hx;exact⟨hx.2,hx.1,hN⟩
   | false=>rw[hb]at hx;exact⟨hx,trivial,hN⟩
  ·rw[WT];dsimp only;refine⟨?_,iz.zJ hO⟩;cases(mb&&(ms||!qQ o.op))with
   | true=>exact be.only hO
   | false=>exact trivial
 ·rw[if_neg (by rw[hw];exact Bool.false_ne_true)];exact⟨oq hj w,(iI _ _ _).2.2,β,_,mk,h1,(e1.trans (Ext.put _ _ _)).trans (Ext.tF _),rfl,(fx.put o.dst .un).tF,.inl ⟨rfl,trivial⟩⟩
theorem KY {Q:Exit->Act->World->Prop} (hQ:∀c a w,¬Q (.panic c) a w) (hZ:∀p∈Z,∃o,fm ops p.z=some o/\rC P p.z o=some p) (hzo:WI ops Z=true) (hnd:(lf Z).Nodup) {s0:St} {K:List (Nat×Nat)->St->Prop}
  (hK:∀mk st β a w bz D m,K mk st->Ext s0 st->Rep β st a w->Late Z ws bz D mk a w->D.Perm (lf Z)->m+D.length=gm->eH P .any ops.toArray Q (EE P ops mb ms S) m (dq uD D) a w):
  ∀(m g:Nat) {aH:Array Bool} {mk:List (Nat×Nat)} {st:St} {β:Nat->Nat} {a:Act} {w:World} {bz:Nat->Nat} {D Pd:List Nat},IQ P ops mb ms S ws Z uD gm K g aH mk st->Ext s0 st->st.mv=true->Rep β st a w->Late Z ws bz D mk a w->(D++Pd).Perm (lf Z)->m+D.length=g->
   eH P .any ops.toArray Q (EE P ops mb ms S) m (dq aH D) a w:=by
 intro m;have hu:∀p∈Z,∀q∈Z,p.z=q.z->p=q:=fun p hp q hq e=>by
  obtain⟨o,h1,h2⟩:=hZ p hp;obtain⟨o',h3,h4⟩:=hZ q hq;rw[e,h3]at h1;injection h1 with h1;subst h1;rw[e,h4]at h2;injection h2 with h2;exact h2.symm
 have hdo:∀p∈Z,∀j o,fm ops j=some o->j≠p.z->o.dst≠some p.d:=fun p hp j o hj eI=>KV (KW hzo p hp) hj (by rw[aJ];exact eI);have NI:∀p∈Z,∀q∈Z,p.z≠q.z->p.d≠q.d:=fun p hp q hq eI e=>by
  obtain⟨o',h3,h4⟩:=hZ q hq;exact hdo p hp q.z o' h3 (Ne.symm eI) (by rw[(j7 h4).2.2.1,e])
 induction m using Nat.strongRecOn with
 | ind m ih=>
 intro g aH mk st β a w bz D Pd h he hm hR hL hp hg;cases g with
 | zero=>exact h.elim
 | succ g=>
 have h0:=h;unfold IQ at h;obtain⟨hc,h⟩:=cw h;simp only[ab]at hc;obtain⟨WQ,hfz⟩:=hc;have WQ:=uS WQ;have hDZ:∀x∈D,x∈lf Z:=hL.sub;have hPZ:∀x∈Pd,x∈lf Z:=fun x hx=>hp.subset (List.mem_append_right _ hx);have dN:D.length+Pd.length=(lf Z).length:=by have:=hp.length_eq;rwa[ah]at this
 have agL:(D++Pd).Nodup:=hp.nodup_iff.2 hnd;have hPD:∀x∈Pd,x∉D:=fun x hx hd=>(List.nodup_append.1 agL).2.2 x hd x hx rfl;have hrz:∀j∈Region.ready .any ops.toArray (dq aH D),j∈lf Z->j∈Pd:=fun j hj rR=>by
  have h1:j∉D:=fun hd=>by
   have:=(mem_ready.1 hj).1;rw[lH.2 (.inr hd)]at this;cases this
  rcases bJ.1 (hp.mem_iff.2 rR)with h2 | h2
  ·exact absurd h2 h1
  ·exact h2
 have abd:∀j∈Region.ready .any ops.toArray aH,j∉lf Z->j∈Region.ready .any ops.toArray (dq aH D):=fun j hj rR=>uc (l:=aH) (D:=[]) (E:=D) (by simp) hj fun k=>rR (hDZ j k);have hpr:∀z∈Pd,z∈Region.ready .any ops.toArray (dq aH D):=fun z hz=>by
  obtain⟨p,FO,rfl⟩:=lg.1 (hPZ z hz);obtain⟨o,ho,bp⟩:=hZ p FO;refine mem_ready.2 ⟨?_,o,by rw[io]at ho;simpa using ho,fun e he=>?_⟩
  ·rw[gL];intro k;rcases lH.1 k with k | k
   ·rw[WQ _ (hPZ _ hz)]at k;cases k
   ·exact hPD _ hz k
  ·rw[Array.mem_def,(j7 bp).2.2.2.2.1]at he;cases he
 have AL:∀{m'},m=m'+1->∀j∈Pd,wpOp P ops.toArray Q j (fun a' w'=>EE P ops mb ms S j w w'/\eH P .any ops.toArray Q (EE P ops mb ms S) m' ((dq aH D).setIfInBounds j true) a' w') a w:=by
  intro m' em j hj;obtain⟨p,FO,rfl⟩:=lg.1 (hPZ j hj);obtain⟨o,ho,bp⟩:=hZ p FO;obtain⟨_,l2,l3,l4,l5,l6,l7⟩:=j7 bp;obtain⟨fz1,fz2⟩:=Cx hfz p FO;have JZ:ops.toArray[p.z]? =some o:=by rw[io]at ho;simpa using ho
  unfold wpOp;simp only[JZ];rw[if_pos (wn l4)];left;obtain⟨dst,op,t',pp,af,g0⟩:=o;dsimp only at l2 l3 l4 l5;subst l2 l3 l4;obtain⟨z,z1,z2⟩:=Rr l6 w;refine BX z1 (z2 β0) (fun _=>rfl) fun b w1 hb hO hB=>⟨?_,?_⟩
  ·unfold EE;rw[ho];dsimp only;rw[show gC P (.alloc p.t)=false from rfl,lq];cases(mb&&(ms||!qQ (.alloc p.t)))with
   | true=>exact be.only hO
   | false=>exact trivial
  ·rw[<-lG];exact ih m' (by omega) (g+1) (D:=p.z::D) (Pd:=Pd.erase p.z) h0 he hm (hR.late hm fz1 hO) (hL.alloc hu NI FO (hPD _ hj) hb hO hB (by rw[hR.ok.sz];exact fz2))
    ((List.perm_middle.symm.trans ((List.perm_cons_erase hj).symm.append_left D)).trans hp) (by rw[ao];omega)
 split at h
 ·rename_i NJ;obtain⟨hc,h⟩:=cw h;simp only[ab]at hc;obtain⟨⟨⟨c1,c2⟩,c3⟩,c4⟩:=hc;have agN:aH=uD:=JL.1 (KX c2);have egm:=aX c3;have c4:=ca c4;cases hPd:Pd with
  | nil=>
   rw[hPd,aN]at hp;rw[agN];exact hK mk st β a w bz D m h he hR hL hp (by omega)
  | cons z Pd'=>
   have hzm:z∈Pd:=by rw[hPd];exact cR
   have BL:Pd.length=Pd'.length+1:=by rw[hPd];rfl
   obtain⟨m',rfl⟩:∃m',m=m'+1:=⟨m-1,by omega⟩
   refine⟨fun h0=>?_,fun j hj=>AL rfl j ?_⟩
   ·have:=hpr z hzm;rw[h0]at this;cases this
   ·by_cases rR:j∈lf Z
    ·exact hrz j hj rR
    ·exfalso;have h1:j∈Region.ready .any ops.toArray (dq aH ((lf Z).erase z)):=uc (fun x hx=>(List.mem_erase_of_ne (fun e=>hPD z hzm (by rw[<-e];exact hx))).2 (hDZ x hx)) hj (fun k=>rR (List.mem_of_mem_erase k));have:=GB c1 z (hPZ z hzm) j h1;exact rR (this▸hPZ z hzm)
 ·rename_i i r NJ;obtain⟨c0,h⟩:=cw h;simp only[ab,TT]at c0;have hrd:=Cv c0.1;have c0:=ca c0.2;have hrm:∀j∈Region.ready .any ops.toArray (dq aH D),j∉lf Z->j∈Region.ready .any ops.toArray aH:=fun j hj rR=>(hrd j (uc hDZ hj rR)).1;obtain⟨m',rfl⟩:∃m',m=m'+1:=⟨m-1,by omega⟩
  have hio:∀j∈i::r,j∈Region.ready .any ops.toArray aH/\j∉lf Z:=fun j hj=>nC.1 (by rw[NJ];exact hj);have eI:Region.ready .any ops.toArray (dq aH D)=[]->False:=fun h0=>by
   have:=abd i (hio i cR).1 (hio i cR).2;rw[h0]at this;cases this
  have hdz:∀j o,fm ops j=some o->j∉lf Z->∀p∈Z,o.dst≠some p.d:=fun j o hj rR p hp=>hdo p hp j o hj fun e=>rR (lg.2 ⟨p,hp,e.symm⟩);have LL:∀{j:Nat} {o:Oper},fm ops j=some o->j∉lf Z->lL P ops mb ms S ws mk st o (fun mk st=>IQ P ops mb ms S ws Z uD gm K g (aH.setIfInBounds j true) mk st)->
    wpOp P ops.toArray Q j (fun a' w'=>EE P ops mb ms S j w w'/\eH P .any ops.toArray Q (EE P ops mb ms S) m' ((dq aH D).setIfInBounds j true) a' w') a w:=by
   intro j o ho rR h;refine wpOp_mono (fun a' w' hh=>⟨hh.1,?_⟩) (X4 ho h hR);obtain⟨k0,k1,β',bH,mk',k2,k3,k4,k5,k6⟩:=hh;rw[<-lG];have qL:∀p∈Z,a'.tmps[p.d]? =a.tmps[p.d]? :=fun p hp=>k1 _ (hdz j o ho rR p hp);have hL':Late Z ws bz D mk' a' w':=by
    rcases k6 with⟨rfl,rfl⟩ | ⟨rfl,k6⟩
    ·exact hL.act qL
    ·exact hL.loud k6 qL
   exact ih m' (by omega) g k2 (he.trans k3) k4 k5 hL' hp (by omega)
  split at h
  ·rename_i q hq;obtain⟨o,ho,h⟩:=aA h;obtain⟨hc,h⟩:=cw h;simp only[ab,okT]at hc;obtain⟨⟨⟨⟨⟨c1,c2⟩,c3⟩,c4⟩,c5⟩,c6⟩:=hc;obtain⟨hq1,hq2⟩:=hio q (by simpa using c6);have JZ:ops.toArray[q]? =some o:=by rw[io]at ho;simpa using ho
   have nY:n8 .any ops.toArray (dq aH D):=yE (yV c3) fun z hz o hoz=>by
    obtain⟨p,FO,rfl⟩:=lg.1 (hDZ z hz);obtain⟨o2,Jy,bp⟩:=hZ p FO;rw[io]at Jy;have:o2=o:=by
     have e:ops.toArray[p.z]? =some o2:=by simpa using Jy
     rw[hoz]at e;injection e with e;exact e.symm
    rw[<-this];exact(j7 bp).2.2.2.2.1
   have hN:∀k∈JQ aH 0 ops,(dq aH D).getD k true=true:=fun k hk=>lH.2 (.inl (by simpa using(cJ.1 c5) k hk));have Ig:=Region.free_spec JZ c2;have Bo:∀j oj,ops.toArray[j]? =some oj->j≠q->(dq aH D).getD j true=false->(∀e∈oj.after,Region.binds .any e=true->e.on≠q)->o.apart ops.toArray oj=true:=fun j oj h1 h2 h3 h4=>Ig j oj h1 h2 (by
    rw[gL]at h3⊢;exact fun k=>h3 (lH.2 (.inl k))) h4
   have hqr:=abd q hq1 hq2;obtain⟨s,e1,fx,h1⟩:=wV h hR;have qL:∀v,∀p∈Z,(a.put o.dst v).tmps[p.d]? =a.tmps[p.d]? :=fun v p hp=>(iI _ _ _).2.2 _ (hdz q o ho hq2 p hp);rcases h1 with⟨hw,h1⟩ | ⟨hw,h1⟩
   ·obtain⟨v,s2,F,k1,k2,k3,k4,k5,k6,k7⟩:=Rx h1 fx.tF;refine n9 JZ (Region.noSelect_spec c1) (fun c a w hp=>(hQ _ _ _ hp).elim) c4 (JQ aH 0 ops) k5 (fun w1 _=>oq ho w1) m' (dq aH D) a w nY hN Bo hqr (Ri hw k7) k4 ?_;rw[<-lG];exact ih m' (by omega) g k1 (((he.trans e1).trans (Ext.tF _)).trans (k2.trans (Ext.tF _))) rfl k3.tF (hL.act (qL v)) hp (by omega)
   ·refine n9 (v:=undef) (F:=fun _=>True) JZ (Region.noSelect_spec c1) (fun c a w hp=>(hQ _ _ _ hp).elim) c4 (JQ aH 0 ops) (fun _ _ _ _ _ _ _=>trivial) (fun w1 _=>oq ho w1) m' (dq aH D) a w nY hN Bo hqr (XF hw) trivial ?_;rw[<-lG];exact ih m' (by omega) g h1 ((he.trans e1).trans ((Ext.put _ _ _).trans (Ext.tF _))) rfl (fx.put o.dst .un).tF (hL.act (qL undef)) hp (by omega)
  ·split at h
   ·obtain⟨o,ho,h⟩:=aA h;refine⟨fun h0=>(eI h0).elim,fun j hj=>?_⟩;by_cases rR:j∈lf Z
    ·exact AL rfl j (hrz j hj rR)
    ·have:j∈yD (lf Z) (Region.ready .any ops.toArray aH):=nC.2 ⟨hrm j hj rR,rR⟩;rw[NJ]at this;obtain rfl:j=i:=by simpa using this
     exact LL ho rR h
   ·rename_i i' _;obtain⟨o,ho,h⟩:=aA h;obtain⟨o',JZ,h⟩:=aA h;refine⟨fun h0=>(eI h0).elim,fun j hj=>?_⟩;by_cases rR:j∈lf Z
    ·exact AL rfl j (hrz j hj rR)
    ·have:j∈yD (lf Z) (Region.ready .any ops.toArray aH):=nC.2 ⟨hrm j hj rR,rR⟩;rw[NJ]at this;rcases ak.1 this with rfl | this
     ·exact LL ho rR h.1
     ·have:=ae.1 this;subst this;exact LL JZ rR h.2
   ·rename_i i' i'' _;obtain⟨o,ho,h⟩:=aA h;obtain⟨o',JZ,h⟩:=aA h;obtain⟨o'',agS,h⟩:=aA h;refine⟨fun h0=>(eI h0).elim,fun j hj=>?_⟩;by_cases rR:j∈lf Z
    ·exact AL rfl j (hrz j hj rR)
    ·have:j∈yD (lf Z) (Region.ready .any ops.toArray aH):=nC.2 ⟨hrm j hj rR,rR⟩;rw[NJ]at this;rcases ak.1 this with rfl | this
     ·exact LL ho rR h.1
     ·rcases ak.1 this with rfl | this
      ·exact LL JZ rR h.2.1
      ·have:=ae.1 this;subst this;exact LL agS rR h.2.2
   ·exact h.elim
end
def St.Bj (st:St) (d:Nat) (t:TypeId) (zs:List SV) (b:Nat):St:=
 St.put {st with bx:=st.bx++[⟨some b,t,zs,st.ct,true,false,false⟩],ct:=st.ct+1} (some d) (.box st.bx.length 0)
theorem Ext.Bj (st:St) (d:Nat) (t:TypeId) (zs:List SV) (b:Nat):Ext st (st.Bj d t zs b):=by
 refine Ext.trans (t:={st with bx:=st.bx++[⟨some b,t,zs,st.ct,true,false,false⟩],ct:=st.ct+1}) ⟨rfl,fS _,fun _ _ _ h _=>h,fun i b' hb ho hs=>?_,fun i b hb=>?_,BE⟩ (Ext.put _ _ _)
 ·dsimp only at hb;rw[iJ]at hb;split at hb
  ·simp only[ai]at hb;subst hb;dsimp only at hs;omega
  ·exact⟨b',hb,ho,rfl,rfl,rfl,fun _ h=>h⟩
 ·exact⟨b,by dsimp only;rw[iJ,if_neg (by have:=oe hb;omega)];exact hb,rfl,rfl,fun _ h=>h⟩
section
variable {β:Nat->Nat} {st:St} {a:Act} {w:World}
theorem Rep.Bj (hR:Rep β st a w) {d:Nat} {t:TypeId} {zs:List SV} {b:Nat} (h1:IG st.bx.length st.fr=true) (h2:EM st.bx.length st.bx=true) (hdt:wP st.bx st.dt=true) (nY:fz (fun _=>false) zs=true)
  (hs:a.tmps[d]? =some (.pointer (some ⟨b,0,none⟩))) (hB:Blk w b t (bq β0 zs)) (eI:∀i c,bL st.bx i=some c->c.ok=true->β i≠b):
  Rep (tP β st.bx.length b) (st.Bj d t zs b) a w:=by
 have nS:tP β st.bx.length b st.bx.length=b:=by unfold tP;rw[if_pos rfl]
 have bp:∀{i c},bL st.bx i=some c->tP β st.bx.length b i=β i:=fun{i c} h=>by
  unfold tP;rw[if_neg];have:=oe h;omega
 have base:Rep (tP β st.bx.length b) {st with bx:=st.bx++[⟨some b,t,zs,st.ct,true,false,false⟩],ct:=st.ct+1} a w:=by
  refine⟨oc ⟨hR.ok.sz,hR.ok.df,fun i p hl hi=>?_⟩,fun i c hc ho=>?_,fun i j bi bj g1 g2 g3 g4 qd=>?_,?_,hR.still⟩
  ·rw[hR.ok.at_ i p hl hi];congr 1;exact gy (g:=fun j=>!Nat.beq j st.bx.length) wS _ (Am h1 i p hl)
  ·dsimp only at hc;rw[iJ]at hc;split at hc
   ·rename_i he;simp only[ai]at hc;subst hc;subst he;refine⟨?_,fun k hk=>?_,fun hk=>(by cases hk)⟩
    ·rw[nS];dsimp only;rw[fh (g:=fun _=>false) (β:=tP β st.bx.length b) (β':=β0) (fun i h=>(by cases h)) _ nY];exact hB
    ·rw[nS];simpa using hk
   ·have e:=bp hc;obtain⟨k1,k2,k3⟩:=hR.bx i c hc ho;refine⟨?_,fun k hk=>by rw[e];exact k2 k hk,fun hk=>by rw[e];exact k3 hk⟩;rw[e,<-fh (g:=fun j=>!Nat.beq j st.bx.length) (β:=β) (β':=tP β st.bx.length b) wS _ (An h2 i c hc ho)];exact k1
  ·dsimp only at g1 g2;rw[iJ]at g1 g2;split at g1
   ·rename_i e1;split at g2
    ·omega
    ·subst e1;rw[nS,bp g2];exact Ne.symm (eI j bj g2 g4)
   ·split at g2
    ·rename_i e2;subst e2;rw[nS,bp g1];exact eI i bi g1 g3
    ·rw[bp g1,bp g2];exact hR.ne i j bi bj g1 g2 g3 g4 qd
  ·have e:st.dt.map (tP β st.bx.length b)=st.dt.map β:=oZ fun i hi=>by
    obtain⟨c,hc,_⟩:=qs hdt i hi;exact bp hc
   show Only (st.dt.map (tP β st.bx.length b)) st.w0 w;rw[e];exact hR.only
 refine⟨oc ⟨base.ok.sz,base.ok.df,fun i p hl hi=>?_⟩,base.bx,base.ne,base.only,base.still⟩;simp only[St.Bj,St.put,cM]at hl;cases hb:Nat.beq d i with
 | true=>
  rw[hb]at hl;simp only[dY,ai]at hl;subst hl;have:=aX hb;subst this;rw[hs];show _=some (Value.pointer (some ⟨tP β st.bx.length b st.bx.length,0,none⟩));rw[nS]
 | false=>rw[hb]at hl;exact base.ok.at_ i p (by simpa using hl) hi
end
def neN (b:Nat):List Nat->Prop->Prop
 | [],p=>p
 | x::r,p=>x≠b->neN b r p
theorem KZ {b:Nat}:∀{l:List Nat} {p:Prop},neN b l p->(∀x∈l,x≠b)->p
 | [],_,h,_=>h
 | x::r,p,h,hb=>KZ (h (hb x cR)) fun y hy=>hb y (bS _ hy)
def PG (ws:World) (mk:List (Nat×Nat)):List LZ->List Nat->St->(St->Prop)->Prop
 | [],_,st,K=>K st
 | p::r,seen,st,K=>bif WH st p.zs then ∀b:Nat,ws.heap.size<=b->b<st.w0.heap.size->pv mk b->neN b seen (PG ws mk r (b::seen) (st.Bj p.d p.t p.zs b) K)else False
theorem GD {ws:World} {mk:List (Nat×Nat)} {bz:Nat->Nat} {a:Act} {w:World}:∀{r:List LZ} {seen:List Nat} {st:St} {K:St->Prop} {β:Nat->Nat},PG ws mk r seen st K->Rep β st a w->st.mv=false->
  (∀p∈r,a.tmps[p.d]? =some (.pointer (some ⟨bz p.z,0,none⟩))/\Blk w (bz p.z) p.t (bq β0 p.zs)/\ws.heap.size<=bz p.z/\pv mk (bz p.z)/\fz (fun _=>false) p.zs=true/\(∀x∈seen,x≠bz p.z)/\∀i c,bL st.bx i=some c->c.ok=true->β i≠bz p.z)->
  (lf r).Nodup->(∀p∈r,∀q∈r,p.z≠q.z->bz p.z≠bz q.z)->∃bH β',K bH/\Ext st bH/\Rep β' bH a w
 | [],_,st,K,β,h,hR,_,_,_,_=>⟨st,β,h,Ext.refl _,hR⟩
 | p::r,seen,st,K,β,h,hR,hm,hp,hn,hd=>by
  unfold PG at h;obtain⟨hc,h⟩:=cw h;simp only[WH,ab]at hc;obtain⟨h1,h2,h3,h4,h5,h6,h7⟩:=hp p cR;have h:=KZ (h (bz p.z) h3 (by rw[<-hR.still hm];exact h2.lt) h4) h6;simp only[lf,wq]at hn;have hpq:∀q∈r,p.z≠q.z:=fun q hq e=>hn.1 (lg.2 ⟨q,hq,e.symm⟩);have bp:∀{i c},bL st.bx i=some c->tP β st.bx.length (bz p.z) i=β i:=fun{i c} h=>by
   unfold tP;rw[if_neg];have:=oe h;omega
  obtain⟨bH,β',k1,k2,k3⟩:=GD h (hR.Bj hc.1.1.1 hc.1.1.2 hc.2 h5 h1 h2 h7) hm (fun q hq=>by
   obtain⟨g1,g2,g3,g4,g5,g6,g7⟩:=hp q (bS _ hq);have eI:=hd p cR q (bS _ hq) (hpq q hq);refine⟨g1,g2,g3,g4,g5,fun x hx=>?_,fun i c hc ho=>?_⟩
   ·rcases ak.1 hx with rfl | hx
    ·exact eI
    ·exact g6 x hx
   ·simp only[St.Bj,St.put]at hc;rw[iJ]at hc;split at hc
    ·rename_i e;subst e;unfold tP;rw[if_pos rfl];exact eI
    ·rw[bp hc];exact g7 i c hc ho) hn.2 fun x hx y hy=>hd x (bS _ hx) y (bS _ hy)
  exact⟨bH,β',k1,(Ext.Bj _ _ _ _ _).trans k2,k3⟩
def ph2 (P:Program) (ops:List Oper) (mb ms:Bool) (S:Nat->Prop) (ws:World) (Z:List LZ) (uD:Array Bool) (gm nb:Nat) (mk:List (Nat×Nat)) (st:St) (K:St->Prop):Prop:=
 bif Nat.beq st.bx.length nb then dh st fun st=>PG ws mk Z [] st fun st=>Co P ops mb ms S (gm-(lf Z).length) (dq uD (lf Z)) st K else False
def Cy (P:Program) (ops:List Oper) (jn:Bool) (kp:List Nat) (mi:List MI) (mb ms:Bool) (S:Nat->Prop) (Z:List LZ) (uD:Array Bool) (gm:Nat) (st:St) (K:St->Prop):Prop:=
 bif ny st.bx then
  (bif jn then ∃J:List (Nat×Nat)->JT (Ef mi),(∀mk:List (Nat×Nat),Cm (Ef mi) (J mk) fun vs w=>ph2 P ops mb ms S st.w0 Z uD gm st.bx.length mk (j5 st kp mi vs w) K)/\
   IQ P ops mb ms S st.w0 Z uD gm (fun mk s=>dh s fun s=>ER st kp mi (J mk) s) ops.length (Array.replicate ops.length false) [] (St.tF (st.kT (TS Z)))
  else IQ P ops mb ms S st.w0 Z uD gm (fun mk s=>ph2 P ops mb ms S st.w0 Z uD gm st.bx.length mk s K) ops.length (Array.replicate ops.length false) [] (St.tF (st.kT (TS Z))))else False
def K0 (ops:List Oper) (Zi:List Nat):Nat->Array Bool->Array Bool
 | 0,l=>l
 | f+1,l=>match yD Zi (Region.ready .any ops.toArray l)with
  | []=>l
  | i::_=>K0 ops Zi f (l.setIfInBounds i true)
def PH:List Bool->Nat
 | []=>0
 | b::r=>bif b then PH r else PH r+1
theorem GF:∀{l:List fH} {i:Nat},i<l.length->∃b,bL l i=some b
 | b::r,0,_=>⟨b,rfl⟩
 | b::r,i+1,h=>GF (l:=r) (by simpa using h)
section
variable {P:Program} {ops:List Oper} {mb ms:Bool} {S:Nat->Prop} {β:Nat->Nat} {a:Act} {w:World} {uD:Array Bool} {gm:Nat} {jn:Bool} {kp:List Nat} {mi:List MI} {st:St} {K:St->Prop}
theorem K4 {Q:Exit->Act->World->Prop} (hQ:∀c a w,¬Q (.panic c) a w) (hzo:WI ops (iK P 0 ops)=true) (h:Cy P ops jn kp mi mb ms S (iK P 0 ops) uD gm st K) (hR:Rep β st a w) (lA:st.mv=false)
  (hK:∀β' bH a' w',K bH->Ext st bH->Rep β' bH a' w'->Q .normal a' w'):eH P .any ops.toArray Q (EE P ops mb ms S) ops.length (Array.replicate ops.length false) a w:=by
 have hnd:(lf (iK P 0 ops)).Nodup:=wX;have hZ:∀p∈iK P 0 ops,∃o,fm ops p.z=some o/\rC P p.z o=some p:=fun p hp=>by
  obtain⟨j,o,h1,h2,h3⟩:=wW hp;rw[aJ]at h1;exact⟨o,by rw[h1];exact h2,h3⟩
 generalize iK P 0 ops=Z at*
 unfold Cy at h;obtain⟨hbd,h⟩:=cw h;rw[<-hR.still lA]at h;have two:∀mk bH β' a' w' bz D m,ph2 P ops mb ms S w Z uD gm st.bx.length mk bH K->Ext st bH->Rep β' bH a' w'->Late Z w bz D mk a' w'->D.Perm (lf Z)->m+D.length=gm->eH P .any ops.toArray Q (EE P ops mb ms S) m (dq uD D) a' w':=by
  intro mk bH β' a' w' bz D m h he Ik hL hp hg;unfold ph2 at h;obtain⟨dN,h⟩:=cw h;have dN:=aX dN;obtain⟨s1,h1,e1,fx,x9,_,_,_,hl1⟩:=cP h Ik;have hx:Ext st s1:=he.trans e1;have hold:∀i c,bL s1.bx i=some c->c.ok=true->β' i<w.heap.size:=fun i c hc ho=>by
   obtain⟨b,hb⟩:=GF (l:=st.bx) (i:=i) (by have:=oe hc;omega);obtain⟨c',k1,k2,k3,k4⟩:=hx.ps i b hb;rw[hc]at k1;injection k1 with k1;subst k1;have BK:b.ok=true:=by rw[<-k3];exact ho
   have hs:=sD hbd i b hb BK;obtain⟨k,hk⟩:=eb.1 hs;rw[(fx.bx i c hc ho).at_ k (k4 k hk),<-(hR.bx i b hb BK).at_ k hk];exact(hR.bx i b hb BK).blk.lt
  have hD:∀p∈Z,p.z∈D:=fun p FO=>hp.mem_iff.2 (lg.2 ⟨p,FO,rfl⟩);obtain⟨s2,β2,k1,k2,k3⟩:=GD (bz:=bz) h1 fx x9 (fun p FO=>by
   obtain⟨g1,g2,g3,g4⟩:=hL.at_ p FO (hD p FO);obtain⟨o,_,ho⟩:=hZ p FO;exact⟨g1,g2,g3,g4,(j7 ho).2.2.2.2.2.2,by simp,fun i c hc ho=>by have:=hold i c hc ho;omega⟩) hnd fun p FO q hqZ=>hL.ne _ (hD p FO) _ (hD q hqZ)
  have:=hp.length_eq;rw[Cu hp,show m=gm-(lf Z).length by omega];exact pu hQ k1 k3 fun β3 s3 a3 w3 m1 m2 m3=>hK β3 s3 a3 w3 m1 ((hx.trans k2).trans m2) m3
 have WU:Late Z w (fun _=>0) [] [] a w:=⟨fun p _ h=>(by cases h),fun _ h=>(by cases h),fun _ h=>(by cases h),fun _ h=>(by cases h),aq _⟩
 have hR0:Rep β (St.tF (st.kT (TS Z))) a w:=Rep.tF (hR.frame (fr':=wL (TS Z) st.fr) fun i p hl=>by
  cases he:(TS Z).elem i with
  | true=>rw[(iY (l:=st.fr)).1 he]at hl;cases hl
  | false=>rw[(iY (l:=st.fr)).2 he]at hl;exact⟨p,hl,rfl⟩)
 have he0:Ext st (St.tF (st.kT (TS Z))):=(Ext.kT _ _).trans (Ext.tF _);rcases kB h with⟨_,h⟩ | ⟨_,h⟩
 ·obtain⟨J,hJ,h⟩:=h;refine KY hQ hZ hzo hnd (s0:=st) (fun mk s β' a' w' bz D m hk he Ik hL hp hg=>?_) ops.length ops.length (D:=[]) (Pd:=lf Z) h he0 rfl hR0 WU (List.Perm.refl _) rfl;obtain⟨s3,h3,e3,Vi,QY,_⟩:=cP hk Ik;obtain⟨vs,k1,k2⟩:=pr h3 Vi QY (.inl (he.trans e3)) (hJ mk);exact two mk _ _ a' w' bz D m k1 Ext.Nu k2 hL hp hg
 ·exact KY hQ hZ hzo hnd (s0:=st) (fun mk s β' a' w' bz D m hk he Ik hL hp hg=>two mk s β' a' w' bz D m hk he Ik hL hp hg) ops.length ops.length (D:=[]) (Pd:=lf Z) h he0 rfl hR0 WU (List.Perm.refl _) rfl
end
inductive NK where
 | o
 | s (x y:NK)
 | j (kp:List Nat) (ms:List MI) (x y:NK)
 | l (jn:Bool) (kp:List Nat) (ms:List MI)
def dJ:Nat:=4000
def X5 (k:Nat):List fH->Prop->Prop
 | [],p=>p
 | b::r,p=>bif b.ok&&b.blk.isSome then(k≠b.blk.getD 0->X5 k r p)else X5 k r p
def ET:List fH->Prop->Prop
 | [],p=>p
 | b::r,p=>bif b.ok&&b.blk.isSome then X5 (b.blk.getD 0) r (ET r p)else ET r p
theorem EU {k:Nat}:∀{l:List fH} {p:Prop},X5 k l p->(∀i b,bL l i=some b->b.ok=true->b.blk.isSome=true->k≠b.blk.getD 0)->p
 | [],_,h,_=>h
 | b::r,p,h,hb=>by
  unfold X5 at h;cases hc:(b.ok&&b.blk.isSome)with
  | true=>
   rw[hc]at h;simp only[ab]at hc;exact EU (h (hb 0 b rfl hc.1 hc.2)) fun i c hi=>hb (i+1) c hi
  | false=>
   rw[hc]at h;exact EU h fun i c hi=>hb (i+1) c hi
theorem Ax:∀{l:List fH} {p:Prop},ET l p->(∀i j bi bj,bL l i=some bi->bL l j=some bj->bi.ok=true->bj.ok=true->bi.blk.isSome=true->bj.blk.isSome=true->i≠j->bi.blk.getD 0≠bj.blk.getD 0)->p
 | [],_,h,_=>h
 | b::r,p,h,hb=>by
  unfold ET at h;have tl:∀{p:Prop},ET r p->p:=fun h=>Ax h fun i j bi bj h1 h2 h3 h4 h5 h6 h7=>hb (i+1) (j+1) bi bj h1 h2 h3 h4 h5 h6 (by omega);cases hc:(b.ok&&b.blk.isSome)with
  | true=>
   rw[hc]at h;simp only[ab]at hc;exact tl (EU h fun i c hi h1 h2=>hb 0 (i+1) b c rfl hi hc.1 h1 hc.2 h2 (by omega))
  | false=>
   rw[hc]at h;exact tl h
def PI (P:Program) (ops:List Oper) (draw:Bool) (st:St) (K:St->Prop):Prop:=
 bif draw then
  bif Au P ops&&Region.lexB .any ops.toArray then Ru (EO ops) st fun st=>tY P ops dJ [] ops st fun st=>K {st with mv:=true}
  else bif mbN P ops 0 ops then dh {st with mv:=true} fun st=>ET (bif TR P ops 0 ops then st.bx else[]) (∃S:Nat->Prop,Co P ops true (TR P ops 0 ops) S ops.length (Array.replicate ops.length false) st K)
  else Co P ops false false (fun _=>False) ops.length (Array.replicate ops.length false) {st with mv:=true} K
 else vj P ops dJ ops st K
def QR (st:St) (K:St->Prop):Exit->Act->World->Prop:=fun e a w=>match e with
 | .normal=>∃β bH,K bH/\Ext st bH/\Rep β bH a w
 | _=>False
theorem Ext.mv (s:St):Ext s {s with mv:=true}:=⟨rfl,aq _,fun _ _ _ h _=>h,fun i b h ho _=>⟨b,h,ho,rfl,rfl,rfl,fun _ h=>h⟩,Kx,BE⟩
theorem Rep.drew {β:Nat->Nat} {s:St} {a:Act} {w w':World} (h:Rep β s a w) (hO:Only [] w w') (hh:w'.heap=w.heap):Rep β {s with mv:=true} a w':=
 ⟨h.fr,fun i b hb ho=>by
  obtain⟨k1,k2,k3⟩:=h.bx i b hb ho;exact⟨by unfold Blk at k1⊢;rw[hh];exact k1,k2,k3⟩,h.ne,h.only.cf hO,fun h=>by cases h⟩
section
variable {P:Program}
theorem GH (hm:P.follows .mixedOrders=true) {id:Nat} {ops:Array Oper} {draw:Bool} {st:St} {K:St->Prop} {β:Nat->Nat} {a:Act} {w:World} (h:PI P ops.toList draw st K) (hR:Rep β st a w):
  (Code.region id ops draw).wp P (QR st K) a w:=by
 obtain⟨l⟩:=ops;unfold PI at h;rcases kB h with⟨hd,hx⟩ | ⟨hd,hx⟩<;>clear h<;>have h:=hx<;>clear hx
 ·subst hd;have Ik:Rep β {st with mv:=true} a w.drew:=hR.drew (Only.drewN w 1) rfl;have fin:∀{mb ms:Bool} {S:Nat->Prop} {s1:St},Ext st s1->Rep β s1 a w.drew->Co P l mb ms S l.length (Array.replicate l.length false) s1 K->(Code.region id l.toArray true).wp P (QR st K) a w:=fun e1 fx h=>
   BZ _ hm (pu (fun c a w hp=>hp) h fx fun β' bH a' w' k1 k2 k3=>⟨β',bH,k1,e1.trans k2,k3⟩)
  rcases kB h with⟨h0,h⟩ | ⟨_,h⟩
  ·simp only[ab]at h0;obtain⟨s,h1,h2,h3,_⟩:=ub h hR;obtain⟨s2,k1,k2,k3,k4⟩:=od h1;obtain⟨a',g1,g2⟩:=k4 trivial β a w h3;refine wp_region_quiet_lit hm h0.2 ?_;have:=EK (Q:=fun a'=>∀w',(∃n,w'=w.drewN n)->QR st K .normal a' w') (rest:=[]) g1 (wpQuiet_nil (by
    rintro w' ⟨n,rfl⟩;exact⟨β,_,k1,(h2.trans k2).trans (Ext.mv _),g2.drew (Only.drewN w n) rfl⟩))
   rwa[aN]at this
  ·rcases kB h with⟨_,h⟩ | ⟨_,h⟩
   ·obtain⟨s1,h0,e1,fx,_⟩:=cP h Ik;have Vj:∀i j bi bj,bL s1.bx i=some bi->bL s1.bx j=some bj->bi.ok=true->bj.ok=true->bi.blk.isSome=true->bj.blk.isSome=true->i≠j->bi.blk.getD 0≠bj.blk.getD 0:=fun i j bi bj h1 h2 h3 h4 h5 h6 h7=>by
     obtain⟨k,hk⟩:=eb.1 h5;obtain⟨m,hm⟩:=eb.1 h6;have e1:=(fx.bx i bi h1 h3).at_ k hk;have e2:=(fx.bx j bj h2 h4).at_ m hm;rw[hk,hm,iy,iy];have:=fx.ne i j bi bj h1 h2 h3 h4 h7;omega
    obtain⟨S,h1⟩:=Ax h0 (by
     cases TR P l 0 l with
     | true=>exact Vj
     | false=>exact fun i j bi bj h1=>by cases i<;>cases h1)
    exact fin ((Ext.mv st).trans e1) fx h1
   ·exact fin (Ext.mv st) Ik h
 ·subst hd;refine wp_region_lit (qt h hR fun β' bH a' w' k1 k2 k3=>⟨β',bH,k1,k2,k3⟩)
def K5 (P:Program) (ops:List Oper) (jn:Bool) (kp:List Nat) (mi:List MI) (st:St) (K:St->Prop):Prop:=
 bif WI ops (iK P 0 ops)then dh st.tF fun st=>
  (bif mbN P ops 0 ops then ET (bif TR P ops 0 ops then st.bx else[]) (∃S:Nat->Prop,Cy P ops jn kp mi true (TR P ops 0 ops) S (iK P 0 ops) (K0 ops (lf (iK P 0 ops)) ops.length (Array.replicate ops.length false)) (PH (K0 ops (lf (iK P 0 ops)) ops.length (Array.replicate ops.length false)).toList) st K)
  else Cy P ops jn kp mi false false (fun _=>False) (iK P 0 ops) (K0 ops (lf (iK P 0 ops)) ops.length (Array.replicate ops.length false)) (PH (K0 ops (lf (iK P 0 ops)) ops.length (Array.replicate ops.length false)).toList) st K)
 else False
theorem K6 (hm:P.follows .mixedOrders=true) {id:Nat} {ops:Array Oper} {jn:Bool} {kp:List Nat} {mi:List MI} {st:St} {K:St->Prop} {β:Nat->Nat} {a:Act} {w:World} (h:K5 P ops.toList jn kp mi st K) (hR:Rep β st a w):
  (Code.region id ops true).wp P (QR st K) a w:=by
 obtain⟨l⟩:=ops;unfold K5 at h;obtain⟨hz,h⟩:=cw h;have Ik:Rep β st.tF a w.drew:=hR.drew (Only.drewN w 1) rfl;obtain⟨s1,h0,e1,fx,x9,_⟩:=cP h Ik;have fin:∀{mb ms:Bool} {S:Nat->Prop} {uD:Array Bool} {gm:Nat},Cy P l jn kp mi mb ms S (iK P 0 l) uD gm s1 K->(Code.region id l.toArray true).wp P (QR st K) a w:=fun h=>
  BZ _ hm (K4 (fun c a w hp=>hp) hz h fx x9 fun β' bH a' w' k1 k2 k3=>⟨β',bH,k1,((Ext.tF st).trans e1).trans k2,k3⟩)
 rcases kB h0 with⟨_,h⟩ | ⟨_,h⟩
 ·have Vj:∀i j bi bj,bL s1.bx i=some bi->bL s1.bx j=some bj->bi.ok=true->bj.ok=true->bi.blk.isSome=true->bj.blk.isSome=true->i≠j->bi.blk.getD 0≠bj.blk.getD 0:=fun i j bi bj h1 h2 h3 h4 h5 h6 h7=>by
   obtain⟨k,hk⟩:=eb.1 h5;obtain⟨m,hm⟩:=eb.1 h6;have e1:=(fx.bx i bi h1 h3).at_ k hk;have e2:=(fx.bx j bj h2 h4).at_ m hm;rw[hk,hm,iy,iy];have:=fx.ne i j bi bj h1 h2 h3 h4 h7;omega
  obtain⟨S,h1⟩:=Ax h (by
   cases TR P l 0 l with
   | true=>exact Vj
   | false=>exact fun i j bi bj h1=>by cases i<;>cases h1)
  exact fin h1
 ·exact fin h
def V (P:Program):Code->NK->St->(Exit->St->Prop)->Prop
 | .skip,_,st,K=>K .normal st
 | .label _,_,st,K=>K .normal st
 | .exit id,_,st,K=>K (.exit id) st
 | .ret,_,st,K=>K .ret st
 | .region _ ops draw,an,st,K=>(match an with
  | .l jn kp ms=>bif draw then K5 P ops.toList jn kp ms st (K .normal)else False
  | .j kp ms _ _=>dh st fun st=>∃J:JT (Ef ms),Cm (Ef ms) J (fun vs w=>K .normal (j5 st kp ms vs w))/\PI P ops.toList draw st fun s=>dh s fun s=>ER st kp ms J s
  | _=>PI P ops.toList draw st (K .normal))
 | .seq a b,an,st,K=>(match an with
  | .s x y=>V P a x st fun e s=>(match e with
   | .normal=>V P b y s K
   | e=>K e s)
  | .j kp ms x y=>dh st fun st=>∃J:JT (Ef ms),Cm (Ef ms) J (fun vs w=>V P b y (j5 st kp ms vs w) K)/\V P a x st fun e s=>(match e with
   | .normal=>dh s fun s=>ER st kp ms J s
   | e=>K e s)
  | _=>False)
 | .cond c a b,an,st,K=>(match an with
  | .s x y=>ba (st.ev c) fun t=>(match t with
   | .bl true=>V P a x st K
   | .bl false=>V P b y st K
   | .bt t=>((t=true->V P a x st K)/\(t=false->V P b y st K))
   | _=>False)
  | _=>False)
 | .block id c,an,st,K=>V P c an st fun e s=>(match e with
  | .exit Oy=>bif Nat.beq Oy id then K .normal s else K (.exit Oy) s
  | e=>K e s)
 | .loop c,an,st,K=>(match an with
  | .j kp ms x _=>dh st fun st=>∃(I:Nat->JT (Ef ms)) (n0:Nat),ER st kp ms (I n0) st/\∀n:Nat,Cm (Ef ms) (I n) fun vs w=>V P c x (j5 st kp ms vs w) fun e s=>(match e with
   | .normal=>dh s fun s=>∃n',n'<n/\ER st kp ms (I n') s
   | e=>K e s)
  | _=>False)
 | _,_,_,_=>False
def QK (st:St) (K:Exit->St->Prop):Exit->Act->World->Prop:=fun e a w=>match e with
 | .normal=>∃β bH,K .normal bH/\Ext st bH/\Rep β bH a w
 | .exit id=>∃β bH,K (.exit id) bH/\Ext st bH/\Rep β bH a w
 | .ret=>∃β bH,K .ret bH/\Ext st bH/\Rep β bH a w
 | _=>False
theorem qx {st Il:St} {K:Exit->St->Prop} (hx:Ext st Il):∀e a w,QK Il K e a w->QK st K e a w:=fun e a w h=>by
 cases e<;>first | exact h | (obtain⟨β,bH,h1,h2,h3⟩:=h;exact⟨β,bH,h1,hx.trans h2,h3⟩)
theorem vp (hm:P.follows .mixedOrders=true):∀(c:Code) {an:NK} {st:St} {K:Exit->St->Prop} {β:Nat->Nat} {a:Act} {w:World},V P c an st K->Rep β st a w->c.wp P (QK st K) a w
 | .skip,_,st,K,β,a,w,h,hR=>wp_skip ⟨β,st,h,Ext.refl _,hR⟩
 | .label _,_,st,K,β,a,w,h,hR=>wp_label ⟨β,st,h,Ext.refl _,hR⟩
 | .exit _,_,st,K,β,a,w,h,hR=>wp_exit ⟨β,st,h,Ext.refl _,hR⟩
 | .ret,_,st,K,β,a,w,h,hR=>wp_ret ⟨β,st,h,Ext.refl _,hR⟩
 | .region id ops draw,an,st,K,β,a,w,h,hR=>by
  unfold V at h;split at h
  ·cases draw with
   | false=>exact h.elim
   | true=>
    refine wp_mono (K6 hm h hR) fun e a' w' hq=>?_;cases e<;>first | exact hq.elim | exact hq
  ·rename_i kp ms _ _;obtain⟨s1,⟨J,hJ,h⟩,e1,fx,_⟩:=cP h hR;refine wp_mono (GH hm h fx) fun e a' w' hq=>?_;cases e<;>try exact hq.elim
   obtain⟨β',s2,h2,e2,SS⟩:=hq;obtain⟨s3,h3,e3,Vi,QY,_⟩:=cP h2 SS;obtain⟨vs,k1,k2⟩:=pr h3 Vi QY (.inl (e2.trans e3)) hJ;exact⟨_,_,k1,e1.trans Ext.Nu,k2⟩
  ·refine wp_mono (GH hm h hR) fun e a' w' hq=>?_;cases e<;>first | exact hq.elim | exact hq
 | .seq x y,an,st,K,β,a,w,h,hR=>by
  unfold V at h;split at h
  ·refine wp_seq (wp_mono (vp hm x h hR) fun e a' w' hq=>?_);cases e with
   | normal=>
    obtain⟨β',s,h1,h2,h3⟩:=hq;exact wp_mono (vp hm y h1 h3) (qx h2)
   | _=>exact hq
  ·rename_i kp ms _ _;obtain⟨s1,⟨J,hJ,h⟩,e1,fx,_⟩:=cP h hR;refine wp_seq (wp_mono (vp hm x h fx) fun e a' w' hq=>?_);cases e with
   | normal=>
    obtain⟨β',s2,h2,e2,SS⟩:=hq;obtain⟨s3,h3,e3,Vi,QY,_⟩:=cP h2 SS;obtain⟨vs,k1,k2⟩:=pr h3 Vi QY (.inl (e2.trans e3)) hJ;exact wp_mono (vp hm y k1 k2) (qx (e1.trans Ext.Nu))
   | exit _=>exact qx e1 _ _ _ hq
   | ret=>exact qx e1 _ _ _ hq
   | _=>exact hq.elim
  ·exact h.elim
 | .cond c x y,an,st,K,β,a,w,h,hR=>by
  unfold V at h;split at h
  ·obtain⟨t,ht,h⟩:=aA h;have ev:=hR.ev ht;split at h
   ·exact wp_cond_true ev (vp hm x h hR)
   ·exact wp_cond_false ev (vp hm y h hR)
   ·exact wp_cond_split ev (fun e=>vp hm x (h.1 e) hR) (fun e=>vp hm y (h.2 e) hR)
   ·exact h.elim
  ·exact h.elim
 | .block id c,an,st,K,β,a,w,h,hR=>by
  unfold V at h;refine wp_block (wp_mono (vp hm c h hR) fun e a' w' hq=>?_);cases e with
  | exit Oy=>
   obtain⟨β',s,h1,h2,h3⟩:=hq;have h1:bif Nat.beq Oy id then K .normal s else K (.exit Oy) s:=h1;rcases kB h1 with⟨e,h5⟩ | ⟨e,h5⟩
   ·have:=aX e;subst this;exact IA ⟨β',s,h5,h2,h3⟩
   ·have eI:¬Oy=id:=fun h=>by rw[h]at e;simp at e
    exact EB (by simpa using eI) ⟨β',s,h5,h2,h3⟩
  | normal=>exact hq
  | ret=>exact hq
  | _=>exact hq.elim
 | .loop c,an,st,K,β,a,w,h,hR=>by
  unfold V at h;split at h
  ·rename_i kp ms x _;obtain⟨s1,⟨I,n0,h0,h⟩,e1,fx,x9,_⟩:=cP h hR;refine wp_loop_ghost (fun n a' w'=>∀K:List SV->World->Prop,Cm (Ef ms) (I n) K->∃vs,K vs w'/\Rep (Cb s1.bx) (j5 s1 kp ms vs w') a' w') n0 (fun K hK=>pr h0 fx x9 (.inl (Ext.refl _)) hK) fun n a' w' hI=>?_;obtain⟨vs,k1,k2⟩:=hI _ (h n);refine wp_mono (vp hm c k1 k2) fun e a2 w2 hq=>?_;cases e with
   | normal=>
    obtain⟨β2,s2,h2,e2,SS⟩:=hq;obtain⟨s3,⟨n',hn,h3⟩,e3,Vi,QY,_⟩:=cP h2 SS;exact⟨n',hn,fun K hK=>pr h3 Vi QY (.inr ⟨vs,w',e2.trans e3⟩) hK⟩
   | exit _=>exact qx (e1.trans Ext.Nu) _ _ _ hq
   | ret=>exact qx (e1.trans Ext.Nu) _ _ _ hq
   | _=>exact hq.elim
  ·exact h.elim
 | .rangeFunc _ _ _ _,_,_,_,_,_,_,h,_=>by unfold V at h;exact h.elim
 | .scope _,_,_,_,_,_,_,h,_=>by unfold V at h;exact h.elim
 | .goto _,_,_,_,_,_,_,h,_=>by unfold V at h;exact h.elim
 | .refuse _,_,_,_,_,_,_,h,_=>by unfold V at h;exact h.elim
def EV (P:Program) (st:St):List ResultVar->Option (List SV)
 | []=>some []
 | .tmp t::r=>(match st.get t,EV P st r with
  | some v,some l=>some (v::l)
  | _,_=>none)
 | .cell p t::r=>(match st.get p,P.underlying t,EV P st r with
  | some (.box i o),some d,some l=>(match bL st.bx i with
   | some b=>bif b.ok&&sz P t ((b.cells.drop o).take (qO P t)).length&&(kA d||Nat.beq ((b.cells.drop o).take (qO P t)).length 1)then some (Ky (kA d) ((b.cells.drop o).take (qO P t))::l)else none
   | none=>none)
  | _,_,_=>none)
def PJ (P:Program) (rs:List ResultVar) (R:Value->World->Prop) (st:St):Prop:=ba (EV P st rs) fun vs=>dh (st.esc vs) fun st=>bif fz (Ce st.bx) vs then R (val (Cb st.bx) (po vs)) st.w0 else False
theorem Ay {β:Nat->Nat} {st:St} {a:Act} {w:World} (hR:Rep β st a w):∀{rs:List ResultVar} {vs:List SV},EV P st rs=some vs->yU P a w rs (bq β vs)
 | [],vs,h=>by simp only[EV,ai]at h;subst h;trivial
 | .tmp t::r,vs,h=>by
  simp only[EV]at h;split at h
  ·rename_i v l h1 h2;simp only[ai]at h;subst h;exact⟨hR.get h1,Ay hR h2⟩
  ·cases h
 | .cell p t::r,vs,h=>by
  simp only[EV]at h;split at h
  ·rename_i i o d l h1 h2 h3;split at h
   ·rename_i b hb;obtain⟨h4,rfl⟩:=Ae h;simp only[ab,cp]at h4;obtain⟨⟨oB,hsz⟩,jO⟩:=h4;refine⟨⟨⟨β i,o,none⟩,hR.get h1,?_⟩,Ay hR h3⟩;have hB:=(hR.bx i b hb oB).blk;generalize hl:(b.cells.drop o).take (qO P t)=q at*
    have hC:aB w ⟨β i,o,none⟩ (bq β q):=hB.Bh o _ (by
     rw[dA,<-hl];simp only[bq,kQ,nZ];rw[ck,nf];simp only[bK,aQ];omega)
    have oK:=iW (P:=P) h2 w;cases hd:kA d with
    | true=>
     rw[hd]at oK;have e:=ml hd β q;rw[hd]at e;rw[e];exact zZ oK (mH hsz w) (dA β q) hC
    | false=>
     rw[hd]at oK jO;obtain⟨s,rfl⟩:=wH (jO.resolve_left (by simp));exact yw oK (aB.one hC)
   ·cases h
  ·cases h
def PK:Nat->List SV->List (Nat×Nat×SV)
 | _,[]=>[]
 | i,s::r=>(i,0,s)::PK (i+1) r
theorem Az (β:Nat->Nat):∀(i:Nat) (l:List SV),cv β (PK i l)=Ab i (bq β l)
 | _,[]=>rfl
 | i,s::r=>by
  have:=Az β (i+1) r;simp only[cv]at this;simp only[PK,cv,aI,bq,Ab,this]
def st0 (fn:Func) (args:List SV) (w:World):St:={n:=fn.ntmps,fr:=PK 0 args,bx:=[],w0:=w,mv:=false,dt:=[],ct:=1,df:=[]}
def iZ (P:Program) (f:FuncId) (args:Array Value) (w:World) (Q:Value->World->Prop):Prop:=CallsD P f args .returning w fun e u w'=>u=.returning/\∃v,e=.returned v/\Q v w'
def AA (P:Program) (R:Value->World->Prop):List (Nat×List Value×List Value)->World->Prop
 | [],w=>R (.tuple #[]) w
 | d::ds,w=>bif KG P d.1 then iZ P d.1 (d.2.1++d.2.2).toArray w fun _ w'=>AA P R ds w' else False
def aeM:List ResultVar->Bool
 | []=>true
 | _=>false
def PL (P:Program) (rs:List ResultVar) (R:Value->World->Prop) (st:St):Prop:=match st.df with
 | []=>PJ P rs R st
 | _::_=>bif aeM rs then dh st fun st=>AA P R st.df st.w0 else False
def PM (P:Program) (rs:List ResultVar) (R:Value->World->Prop) (st:St):Prop:=match st.df with
 | []=>PJ P rs R st
 | _::_=>False
def Vfn (P:Program) (f:FuncId) (an:NK) (args:List SV) (R:Value->World->Prop) (w:World):Prop:=ba (P.funcs[f]?) fun fn=>ba fn.body fun c=>
 bif Nat.ble args.length fn.ntmps then V P c an (st0 fn args w) fun e st=>(match e with
  | .normal=>PL P fn.results.toList R st
  | .ret=>PL P fn.results.toList R st
  | _=>False)else False
def Vfd (P:Program) (f:FuncId) (an:NK) (args:List SV) (R:Value->World->Prop) (w:World):Prop:=ba (P.funcs[f]?) fun fn=>ba fn.body fun c=>
 bif Nat.ble args.length fn.ntmps then V P c an (st0 fn args w) fun e st=>(match e with
  | .normal=>PM P fn.results.toList R st
  | .ret=>PM P fn.results.toList R st
  | _=>False)else False
theorem GI {β:Nat->Nat} {st:St} {a:Act} {w:World} {fn:Func} {R:Value->World->Prop} (h:PJ P fn.results.toList R st) (hR:Rep β st a w):∃v,(results fn a.tmps).run P w=.ok v w/\R v w:=by
 unfold PJ at h;obtain⟨vs,hv,h⟩:=aA h;obtain⟨s1,h1,e1,fx,hm,_⟩:=cP h (hR.esc vs);obtain⟨hc,h1⟩:=cw h1;have ho:=Ay hR hv;have hw:=fx.still hm;rw[fx.aaS (sE hc),<-hw]at h1;refine⟨_,?_,h1⟩;have hrs:fn.results=fn.results.toList.toArray:=by simp
 match vs,ho,hc with
 | [s],ho,hc=>exact Tw hrs ho
 | [],ho,hc=>
  have e:val β (po [])=.tuple (bq β []).toArray:=rfl;rw[e];exact EC hrs rfl ho
 | s::t::r,ho,hc=>
  have e:val β (po (s::t::r))=.tuple (bq β (s::t::r)).toArray:=by
   show Value.tuple (mV β (ld _)).toArray=_;rw[ob]
  rw[e];exact EC hrs (by simp[bq]) ho
theorem K7 (args:List Value) {n:Nat} (hk:args.length<=n):(⟨args.toArray++Array.replicate (n-args.toArray.size) undef,[]⟩:Act)=fr n (fun _=>undef) (Ab 0 args):=by
 unfold fr;congr 1;apply JL.1;rw[Array.toList_append,Array.toList_replicate,jr];apply gJ;intro i;by_cases hi:i<n
 ·rw[dS,kl _ _ _ _ _ hi,aJ,yX,if_pos (aF _),qm];by_cases hia:i<args.length
  ·rw[aR hia,bn hia];rfl
  ·rw[bh (by omega),List.getElem?_replicate,if_pos (by omega),bZ (by omega)];rfl
 ·rw[dS,bZ (by simp;omega),bZ (by rw[lc];omega)]
theorem y0 {fn:Func} {tmps:Array Value} {R:Value->World->Prop} (hr:fn.results.toList=[]):∀{l:List (Nat×List Value×List Value)} {w:World},AA P R l w->Leaves P fn tmps (fun e w'=>∃v,e=.returned v/\R v w') (Oj l) .returning w
 | [],w,h=>by
  have hrs:fn.results=([]:List ResultVar).toArray:=by rw[<-hr]
  exact⟨_,EC (a:=⟨tmps,[]⟩) (rs:=[]) (vs:=[]) hrs rfl trivial,_,rfl,h⟩
 | d::ds,w,h=>by
  unfold AA at h;obtain⟨h0,h⟩:=cw h;refine leaves_cons (fun h=>by cases h) (f:=d.1) (args:=(d.2.1++d.2.2).toArray) ?_ (h.mono ?_)
  ·have:=gr h0 (d.2.1++d.2.2).toArray w;rw[<-List.append_toArray]at this⊢;exact this
  ·rintro e u w' ⟨rfl,v,rfl,h⟩;exact y0 hr h
theorem Cz {β:Nat->Nat} {st:St} {a:Act} {w:World} {fn:Func} {R:Value->World->Prop} (h:PL P fn.results.toList R st) (hR:Rep β st a w):Leaves P fn a.tmps (fun e w'=>∃v,e=.returned v/\R v w') a.defers .returning w:=by
 rw[hR.ok.df];unfold PL at h;split at h
 ·rename_i hd;rw[hd];obtain⟨v,k1,k2⟩:=GI h hR;exact⟨v,k1,v,rfl,k2⟩
 ·rename_i d ds hd;obtain⟨h0,h⟩:=cw h;obtain⟨s1,h1,e1,fx,hm,_⟩:=cP h hR;have hr:fn.results.toList=[]:=by
   cases hc:fn.results.toList with
   | nil=>rfl
   | cons _ _=>rw[hc]at h0;cases h0
  have NH:s1.df=st.df:=by
   obtain⟨l,hl⟩:=e1.df;have h5:(Oj s1.df).length=(Oj st.df).length:=aU List.length (fx.ok.df.symm.trans hR.ok.df);rw[Oj,Oj,aQ,aQ,hl,ah]at h5;have:l=[]:=List.length_eq_zero_iff.1 (by omega);rw[hl,this,aV]
  rw[<-fx.still hm]at h1;rw[<-NH];exact y0 hr h1
theorem X6 (hm:P.follows .mixedOrders=true) {f:FuncId} {an:NK} {args:List SV} {R:Value->World->Prop} {w:World} (h:Vfn P f an args R w):Calls P f (bq β0 args).toArray w fun e w'=>∃v,e=.returned v/\R v w':=by
 unfold Vfn at h;obtain⟨fn,hf,h⟩:=aA h;obtain⟨c,hb,h⟩:=aA h;obtain⟨hn,h⟩:=cw h;have hR:Rep β0 (st0 fn args w) (fr fn.ntmps (fun _=>undef) (Ab 0 (bq β0 args))) w:=
  ⟨⟨fun _=>undef,by rw[<-Az];rfl⟩,fun i b hb=>(by cases hb),fun i j bi bj hb=>(by cases hb),Only.refl _ _,fun _=>rfl⟩
 refine calls_of_wp_defers hf hb ?_;rw[K7 _ (by rw[dA];exact ca hn)];refine wp_mono (vp hm c h hR) fun e a' w' hq=>?_;cases e with
 | normal=>
  obtain⟨β',s,h1,h2,h3⟩:=hq;exact Cz h1 h3
 | ret=>
  obtain⟨β',s,h1,h2,h3⟩:=hq;exact Cz h1 h3
 | exit _=>
  obtain⟨β',s,h1,_⟩:=hq;exact h1.elim
 | _=>exact hq.elim
theorem X7 (hm:P.follows .mixedOrders=true) {f:FuncId} {an:NK} {args:List SV} {R:Value->World->Prop} {w:World} (h:Vfd P f an args R w):iZ P f (bq β0 args).toArray w R:=by
 unfold Vfd at h;obtain⟨fn,hf,h⟩:=aA h;obtain⟨c,hb,h⟩:=aA h;obtain⟨hn,h⟩:=cw h;have hR:Rep β0 (st0 fn args w) (fr fn.ntmps (fun _=>undef) (Ab 0 (bq β0 args))) w:=
  ⟨⟨fun _=>undef,by rw[<-Az];rfl⟩,fun i b hb=>(by cases hb),fun i j bi bj hb=>(by cases hb),Only.refl _ _,fun _=>rfl⟩
 refine(callsD_of_wp (R:=fun e w'=>∃v,e=.returned v/\R v w') hf hb ?_).mono (fun e u w' h=>h);rw[K7 _ (by rw[dA];exact ca hn)];refine wp_mono (vp hm c h hR) fun e a' w' hq=>?_;have fin:∀{β':Nat->Nat} {s:St},PM P fn.results.toList R s->Rep β' s a' w'->(∃v,(results fn a'.tmps).run P w'=.ok v w'/\R v w')/\a'.defers=[]:=fun{β' s} h hR=>by
  unfold PM at h;split at h
  ·rename_i hd;exact⟨GI h hR,by rw[hR.ok.df,hd];rfl⟩
  ·exact h.elim
 cases e with
 | normal=>
  obtain⟨β',s,h1,h2,h3⟩:=hq;obtain⟨⟨v,k1,k2⟩,k3⟩:=fin h1 h3;exact ED k1 k3 k2
 | ret=>
  obtain⟨β',s,h1,h2,h3⟩:=hq;obtain⟨⟨v,k1,k2⟩,k3⟩:=fin h1 h3;exact Pa k1 k3 k2
 | exit _=>
  obtain⟨β',s,h1,_⟩:=hq;exact h1.elim
 | _=>exact hq.elim
theorem X8 {f:FuncId} {an:NK} {args:List SV} {R:Value->World->Prop} {w:World} {vs:Array Value} {vc:Prop} (hm:P.follows .mixedOrders=true) (hv:vs=(bq β0 args).toArray) (he:vc=Vfn P f an args R w) (h:vc):Calls P f vs w fun e w'=>∃v,e=.returned v/\R v w':=by
 subst he hv;exact X6 hm h
theorem X9 {f:FuncId} {an:NK} {args:List SV} {R:Value->World->Prop} {w:World} {vs:Array Value} {vc:Prop} (hm:P.follows .mixedOrders=true) (hv:vs=(bq β0 args).toArray) (he:vc=Vfd P f an args R w) (h:vc):iZ P f vs w R:=by
 subst he hv;exact X7 hm h
end
end Go.Kt.V
