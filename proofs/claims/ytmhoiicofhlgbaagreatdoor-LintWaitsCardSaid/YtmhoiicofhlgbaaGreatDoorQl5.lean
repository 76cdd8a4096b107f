import Derived.Test.YtmhoiicofhlgbaaGreatDoorQl4
set_option linter.unusedSectionVars false
namespace Go.Proofs.YtmhoiicofhlgbaaGreatDoor.Con
open Go Go.RowKit Go.Kt Go.Kt.V
set_option linter.unusedSimpArgs false
set_option linter.unusedVariables false
set_option maxHeartbeats 4000000
structure Ac where
 k:Int
 n:List UInt8
 x:Ex
 a:Int
structure Mv where
 k:Int
 ev:List UInt8
 wt:Int
 gd:Bool
 g:Ex
 acts:List Ac
 tg:List (List UInt8)
 a:Int
structure Nb where
 k:Int
 nm:List UInt8
 ini:List UInt8
 dft:List UInt8
 en:List Ac
 lv:List Ac
 mv:List Mv
 a:Int
inductive Nd where
 | mk (b:Nb) (kids:List Nd)
def Nd.b:Nd->Nb | .mk b _=>b
def Nd.kids:Nd->List Nd | .mk _ l=>l
structure Vr where
 n:List UInt8
 v:Int
 a:Int
structure Ch where
 vars:List Vr
 root:Nd
def Sd:Nb:=⟨0,[],[],[],[],[],[],0⟩
def I1:Nd:=.mk Sd []
def ch0:Ch:=⟨[],I1⟩
def ac0:Ac:=⟨0,[],rG,0⟩
def tkZ:Tk:=⟨0,[],0,0⟩
structure Sx where
 i:Nat
 fc:Int
 fa:Int
 v:Int
 n:Int
 d:Int
 m:Int
 a:Int
section
variable (ts:List Tk)
def fp (s:Sx) (c:Int):Sx:=if s.fc=0 then{s with fc:=c,fa:=(tk ts s.i).a}else s
def gF (s:Sx):Sx:=if(tk ts s.i).k=5 then fp ts (fp ts s 3) 4 else fp ts s 4
def oP (c:List UInt8):List (List UInt8)->Nat
 | []=>0
 | x::l=>if c=x then 0 else oP c l+1
def bA (s:Sx) (l:List (List UInt8)):Nat:=
 if s.fc≠0∨((tk ts s.i).k≠2/\(tk ts s.i).k≠4)then 0 else if oP (tk ts s.i).t l<l.length then oP (tk ts s.i).t l+1 else 0
def ci (s:Sx):Sx:={s with i:=s.i+1}
def cV (s:Sx) (x:List UInt8):Sx:=if bA ts s [x]=0 then gF ts s else ci s
def dR (s:Sx) (k:Int):Tk×Sx:=if s.fc≠0∨(tk ts s.i).k≠k then(tkZ,gF ts s)else(tk ts s.i,ci s)
def ft (s:Sx):List UInt8×Sx:=((dR ts s 1).1.t,(dR ts s 1).2)
def kF (s:Sx):Ex×Sx:=
 if s.fc≠0 then(rG,s)
 else if(bM ts s.i).2.2.1≠0 then((bM ts s.i).1,{s with fc:=(bM ts s.i).2.2.1,fa:=(bM ts s.i).2.2.2})
 else((bM ts s.i).1,{s with i:=(bM ts s.i).2.1.toNat})
def tQ (x:Int):Int:=IntKind.wrap .i64 (x-1)
def T9 (x:Int):Int:=IntKind.wrap .i64 (x+1)
def pE (s:Sx):Sx:=if s.a=0 then{fp ts s 2 with a:=tQ s.a}else{s with a:=tQ s.a}
def ow (s:Sx):Sx:=if s.m=0 then{fp ts s 2 with m:=tQ s.m}else{s with m:=tQ s.m}
def yG (s:Sx):Sx:=if s.n=0 then{fp ts s 2 with n:=tQ s.n}else{s with n:=tQ s.n}
def yH (s:Sx):Sx:=if s.v=0 then{fp ts s 2 with v:=tQ s.v}else{s with v:=tQ s.v}
def mN:List UInt8:=[115,101,116]
def ga:List UInt8:=[114,97,105,115,101]
def iO:List UInt8:=[101,109,105,116]
def xq:List UInt8:=[111,110]
def eO:List UInt8:=[97,108,119,97,121,115]
def eY:List UInt8:=[97,102,116,101,114]
def dw:List UInt8:=[105,110,105,116,105,97,108]
def eS:List UInt8:=[101,110,116,101,114]
def eT:List UInt8:=[108,101,97,118,101]
def AH:List UInt8:=[115,116,97,116,101]
def qC:List UInt8:=[112,97,114,97,108,108,101,108]
def sQ:List UInt8:=[104,105,115,116,111,114,121]
def G0:List UInt8:=[100,101,101,112]
def eh:List UInt8:=[99,104,97,114,116]
def rI:List UInt8:=[118,97,114]
def E1 (s:Sx) (k:Nat) (n:List UInt8) (a:Int):Ac×Sx:=
 if k=2 then(⟨k,n,rG,a⟩,cV ts s [59])
 else(⟨k,n,(kF ts (cV ts s [61])).1,a⟩,cV ts (kF ts (cV ts s [61])).2 [59])
def lN (s:Sx):Ac×Sx:=
 if bA ts s [mN,ga,iO]=0 then(⟨0,[],rG,(tk ts s.i).a⟩,gF ts s)
 else if(pE ts s).fc≠0 then(⟨(bA ts s [mN,ga,iO]:Nat),[],rG,(tk ts s.i).a⟩,pE ts s)
 else E1 ts (ft ts (ci (pE ts s))).2 (bA ts s [mN,ga,iO]) (ft ts (ci (pE ts s))).1 (tk ts s.i).a
def mq:Nat->List Ac->Sx->List Ac×Sx
 | 0,acc,s=>(acc,s)
 | f+1,acc,s=>if s.fc≠0 then(acc,s)else if bA ts s [[125]]≠0 then(acc,ci s)else mq f (acc++[(lN ts s).1]) (lN ts s).2
def eZ (s:Sx):List Ac×Sx:=mq ts (ts.length+1) [] (cV ts s [123])
def nH:Nat->List UInt8->List (List UInt8)->Sx->List (List UInt8)×Sx
 | 0,_,acc,s=>(acc,s)
 | f+1,x,acc,s=>if bA ts s [x]=0 then(acc,s)else nH f [44] (acc++[(ft ts (ci s)).1]) (ft ts (ci s)).2
def xr (m:Mv) (s:Sx):Mv×Sx:=
 ({m with tg:=(nH ts (ts.length+1) [45,62] [] s).1},cV ts (nH ts (ts.length+1) [45,62] [] s).2 [59])
def uT (m:Mv) (s:Sx):Mv×Sx:=
 if bA ts s [[123]]=0 then xr ts m s else xr ts {m with acts:=(eZ ts s).1} (eZ ts s).2
def lO (m:Mv) (s:Sx):Mv×Sx:=
 if bA ts s [[91]]=0 then uT ts m s else uT ts {m with gd:=true,g:=(kF ts (ci s)).1} (cV ts (kF ts (ci s)).2 [93])
def LG (k a:Int):Mv:=⟨k,[],0,false,rG,[],[],a⟩
def jT (k:Int) (s:Sx):Mv×Sx:=
 if(ow ts s).fc≠0 then(LG k (tk ts s.i).a,ow ts s)
 else if k=1 then lO ts {LG k (tk ts s.i).a with ev:=(ft ts (ci (ow ts s))).1} (ft ts (ci (ow ts s))).2
 else if k=3 then lO ts {LG k (tk ts s.i).a with wt:=(dR ts (ci (ow ts s)) 3).1.n} (dR ts (ci (ow ts s)) 3).2
 else lO ts (LG k (tk ts s.i).a) (ci (ow ts s))
structure vN where
 i:Bool
 e:Bool
 l:Bool
def cF (n:Nb) (h:vN) (s:Sx):Bool×Nb×vN×Sx:=
 if bA ts s [xq,eO,eY]≠0 then(true,{n with mv:=n.mv++[(jT ts (bA ts s [xq,eO,eY]:Nat) s).1]},h,(jT ts (bA ts s [xq,eO,eY]:Nat) s).2)
 else match bA ts s [dw,eS,eT]with
  | 0=>(false,n,h,s)
  | 1=>if h.i then(false,n,h,gF ts s)else(true,{n with ini:=(ft ts (ci s)).1},{h with i:=true},cV ts (ft ts (ci s)).2 [59])
  | 2=>if h.e then(false,n,h,gF ts s)else(true,{n with en:=(eZ ts (ci s)).1},{h with e:=true},(eZ ts (ci s)).2)
  | _=>if h.l then(false,n,h,gF ts s)else(true,{n with lv:=(eZ ts (ci s)).1},{h with l:=true},(eZ ts (ci s)).2)
def ez:Nat->Nb->vN->Sx->Nb×Sx
 | 0,n,_,s=>(n,s)
 | f+1,n,h,s=>if s.fc≠0 then(n,s)
  else if(cF ts n h s).1 then ez f (cF ts n h s).2.1 (cF ts n h s).2.2.1 (cF ts n h s).2.2.2 else((cF ts n h s).2.1,(cF ts n h s).2.2.2)
def lP:List (List UInt8):=[AH,qC,sQ,G0]
def oG (N:Int->Sx->Nd×Sx):Nat->List Nd->Sx->List Nd×Sx
 | 0,acc,s=>(acc,s)
 | f+1,acc,s=>if bA ts s lP=0 then(acc,s)else oG N f (acc++[(N (bA ts s lP:Nat) (ci s)).1]) (N (bA ts s lP:Nat) (ci s)).2
def mr (N:Int->Sx->Nd×Sx) (n:Nb) (s:Sx):Nd×Sx:=
 let c:=ez ts (ts.length+1) n ⟨false,false,false⟩ {s with d:=tQ s.d}
 let k:=oG ts N (ts.length+1) [] c.2
 (.mk c.1 k.1,cV ts {k.2 with d:=T9 k.2.d} [125])
def mw (s:Sx):Sx:=if(tk ts s.i).k=1 then(if(yG ts s).d=0 then fp ts (yG ts s) 21 else yG ts s)else s
def di (k:Int) (s:Sx):Nb×Sx:=({Sd with k:=k,nm:=(dR ts (mw ts s) 1).1.t,a:=(dR ts (mw ts s) 1).1.a},(dR ts (mw ts s) 1).2)
def gP:Nat->Int->Sx->Nd×Sx
 | 0,_,s=>(I1,s)
 | f+1,k,s=>
  if 3<=k then(.mk {(di ts k s).1 with dft:=(ft ts (cV ts (di ts k s).2 [45,62])).1} [],cV ts (ft ts (cV ts (di ts k s).2 [45,62])).2 [59])
  else mr ts (gP f) (di ts k s).1 (cV ts (di ts k s).2 [123])
def pF (s:Sx):Vr×Sx:=
 let s1:=if(tk ts s.i).k=1 then yH ts s else s
 let t:=dR ts s1 1
 let s2:=cV ts t.2 [61]
 let g:=bA ts s2 [[45]]
 let q:=dR ts (if g=0 then s2 else ci s2) 3
 (⟨t.1.t,if g=0 then q.1.n else IntKind.wrap .i64 (-q.1.n),t.1.a⟩,cV ts q.2 [59])
def pG:Nat->List Vr->Sx->List Vr×Sx
 | 0,acc,s=>(acc,s)
 | f+1,acc,s=>if bA ts s [rI]=0 then(acc,s)else pG f (acc++[(pF ts (ci s)).1]) (pF ts (ci s)).2
def rj:Sx:=⟨0,0,0,16,64,12,200,400⟩
def E2 (s:Sx):Sx:=if s.fc=0/\(tk ts s.i).k≠5 then gF ts s else s
def pH:Ch×Sx:=
 let n:=di ts 1 (cV ts rj eh)
 let v:=pG ts (ts.length+1) [] (cV ts n.2 [123])
 let b:=mr ts (gP ts 14) n.1 v.2
 (⟨v.1,b.1⟩,E2 ts b.2)
end
def dr (l:List UInt8):Ch×Int×Int:=
 if(bU l).2.1≠0 then(ch0,(bU l).2.1,(bU l).2.2)
 else if(pH (bU l).1).2.fc≠0 then(ch0,(pH (bU l).1).2.fc,(pH (bU l).1).2.fa)
 else((pH (bU l).1).1,0,0)
def mu (ts:List Tk) (s:Sx):Nat:=if s.fc=0 then ts.length-s.i else 0
structure On0 (ts:List Tk) (s s':Sx):Prop where
 lt:s.i<ts.length->s'.i<ts.length
 le:s'.fc=0->s.fc=0/\s.i<=s'.i
structure On (ts:List Tk) (s s':Sx):Prop extends On0 ts s s' where
 d:s'.d=s.d
section
variable {ts:List Tk} {s s' s'':Sx}
theorem On.mk' (h:On0 ts s s') (k:s'.d=s.d):On ts s s':=⟨h,k⟩
theorem On0.refl (ts:List Tk) (s:Sx):On0 ts s s:=⟨id,fun h=>⟨h,aq _⟩⟩
theorem On.refl (ts:List Tk) (s:Sx):On ts s s:=⟨On0.refl ts s,rfl⟩
theorem On0.trans (h:On0 ts s s') (k:On0 ts s' s''):On0 ts s s'':=⟨fun x=>k.lt (h.lt x),fun e=>by
 obtain⟨a,b⟩:=k.le e;obtain⟨c,d⟩:=h.le a;exact⟨c,ay d b⟩⟩
theorem On.trans (h:On ts s s') (k:On ts s' s''):On ts s s'':=⟨h.toOn0.trans k.toOn0,k.d.trans h.d⟩
theorem On0.mu (h:On0 ts s s'):mu ts s'<=mu ts s:=by
 unfold Con.mu;by_cases e:s'.fc=0
 ·obtain⟨a,b⟩:=h.le e;rw[if_pos e,if_pos a];omega
 ·rw[if_neg e];exact aF _
theorem my (c:Int):On ts s (fp ts s c):=by
 unfold fp;by_cases e:s.fc=0
 ·rw[if_pos e];exact⟨⟨id,fun _=>⟨e,aq _⟩⟩,rfl⟩
 ·rw[if_neg e];exact On.refl _ _
theorem G1 {c:Int} (hc:c≠0):(fp ts s c).fc≠0:=by
 unfold fp;by_cases e:s.fc=0
 ·rw[if_pos e];exact hc
 ·rw[if_neg e];exact e
theorem AI (c:Int):(fp ts s c).i=s.i:=by
 unfold fp;split<;>rfl
theorem nI:(gF ts s).fc≠0:=by
 unfold gF;split<;>exact G1 (by decide)
theorem nJ:On ts s (gF ts s):=by
 unfold gF;split
 ·exact(my 3).trans (my 4)
 ·exact my 4
theorem CR (l:List (List UInt8)):bA ts s l<=l.length:=by
 unfold bA;split
 ·exact aF _
 ·split<;>omega
theorem cu {l:List (List UInt8)} (h:bA ts s l≠0):s.fc=0/\(tk ts s.i).k≠5:=by
 unfold bA at h;split at h
 ·exact absurd rfl h
 ·rename_i hc;by_cases e:s.fc=0
  ·refine⟨e,fun e5=>hc (.inr ?_)⟩;rw[e5];exact⟨by decide,by decide⟩
  ·exact absurd (.inl e) hc
theorem jB (hE:oM ts) (h0:s.fc=0) (hk:(tk ts s.i).k≠5):On ts s (ci s):=⟨⟨fun h=>hE.next h hk,fun _=>⟨h0,fS _⟩⟩,rfl⟩
theorem fD (hE:oM ts) (x:List UInt8):On ts s (cV ts s x):=by
 unfold cV;by_cases h:bA ts s [x]=0
 ·rw[if_pos h];exact nJ
 ·rw[if_neg h];exact jB hE (cu h).1 (cu h).2
theorem sR (hE:oM ts) {k:Int} (hk:k≠5):On ts s (dR ts s k).2:=by
 unfold dR;by_cases h:s.fc≠0∨(tk ts s.i).k≠k
 ·rw[if_pos h];exact nJ
 ·rw[if_neg h];simp only[not_or,gM]at h;exact jB hE h.1 (by rw[h.2];exact hk)
theorem mz (hE:oM ts):On ts s (ft ts s).2:=sR hE (by decide)
end
section
variable {ts:List Tk} (hE:oM ts)
include hE
theorem Ua {i:Nat} {x:Ex} {j:Nat} (hi:i<ts.length) (hk:(tk ts i).k≠5) (h:BF ts i=.ok (x,j)):j<ts.length:=by
 unfold BF at h;split at h
 ·rename_i h1;have l1:=hE.next hi hk;have l2:=hE.next l1 (ug h1);split at h
  ·rename_i h2;have l3:=hE.next l2 (by rw[h2];decide);split at h
   ·rename_i h3;have l4:=hE.next l3 (ug h3);simp only[cB,cr]at h;omega
   ·cases h
  ·cases h
 ·cases h
theorem PX {E0 One:Nat->Pr} {d i:Nat} {x:Ex} {j:Nat} (hE0:∀i x j,i<ts.length->E0 i=.ok (x,j)->j<ts.length) (hO:∀i x j,i<ts.length->One i=.ok (x,j)->j<ts.length) (hi:i<ts.length) (h:lh ts E0 One d i=.ok (x,j)):j<ts.length:=by
 unfold lh at h;split at h
 ·rename_i hs;obtain⟨y,h1,_⟩:=vT h;refine hO _ _ _ (hE.next hi ?_) (nE h1).1;rcases cp _ _▸hs with hs | hs<;>exact ug hs
 ·split at h
  ·rename_i hs;obtain⟨j',h1,h2,rfl⟩:=vU (nE h).1;exact hE.next (hE0 _ _ _ (hE.next hi (ug hs)) h1) (ug h2)
  ·split at h
   ·rename_i hk;simp only[cB,cr]at h;have:=hE.next hi (by rw[hk];decide);omega
   ·split at h
    ·rename_i hk;simp only[cB,cr]at h;have:=hE.next hi (by rw[hk];decide);omega
    ·split at h
     ·rename_i hk;exact Ua hE hi (by rw[hk.1];decide) h
     ·cases h
theorem CS {E:Nat->Pr} {k:Int} (hE':∀i x j,i<ts.length->E i=.ok (x,j)->j<ts.length):∀(g:Nat) (x:Ex) (j:Nat) {x':Ex} {j':Nat},j<ts.length->fC ts E k g x j=.ok (x',j')->j'<ts.length
 | 0,x,j,x',j',hj,h=>by
  simp only[fC,cB,cr]at h;omega
 | g+1,x,j,x',j',hj,h=>by
  rw[fC]at h;split at h
  ·simp only[cB,cr]at h;omega
  ·rename_i ho;obtain⟨y,m,h1,h2⟩:=qA h;exact CS hE' g _ _ (hE' _ _ _ (hE.next hj (lu _ _ ho)) h1) h2
theorem pI:∀(f k d i:Nat) {x:Ex} {j:Nat},i<ts.length->bX ts f k d i=.ok (x,j)->j<ts.length
 | 0,_,_,_,_,_,_,h=>by cases h
 | f+1,k,d,i,x,j,hi,h=>by
  rw[bX]at h;split at h
  ·exact PX hE (fun i x j hi h=>pI f _ _ i hi h) (fun i x j hi h=>pI f _ _ i hi h) hi h
  ·obtain⟨y,m,h1,h2⟩:=qA h;exact CS hE (fun i x j hi h=>pI f _ _ i hi h) _ _ _ (pI f _ _ _ hi h1) h2
theorem I2 {i:Nat} (h0:(bM ts i).2.2.1=0):∃j:Nat,(bM ts i).2.1=(j:Int)/\i<j/\j<ts.length:=by
 unfold bM at h0⊢;split at h0
 ·rename_i hc;rw[if_pos hc];have hi:i<ts.length:=by have:=hc.2.1;omega
  rw[az]at h0⊢;unfold pC at h0⊢;cases he:bX ts (dL 0 0) 0 0 i with
  | error e=>
   rw[he]at h0;obtain⟨c,p⟩:=e;exact absurd h0 (lw _ _ _ _ he)
  | ok q=>
   obtain⟨x,j⟩:=q;exact⟨j,rfl,ia _ _ _ _ he,pI hE _ _ _ _ hi he⟩
 ·cases h0
theorem mA {s s':Sx} (h0:s.fc=0) (hi:s.i<ts.length) (hk:(tk ts s.i).k≠5) (h:On0 ts (ci s) s'):mu ts s'<mu ts s:=by
 have h1:=h.mu;have h2:=hE.next hi hk;have e1:mu ts s=ts.length-s.i:=by unfold mu;rw[if_pos h0]
 have e2:mu ts (ci s)=ts.length-(s.i+1):=by unfold mu ci;rw[if_pos h0]
 omega
set_option linter.unusedSectionVars false in
theorem uh {s s':Sx} (h0:s.fc=0) (hi:s.i<ts.length) (h:s'.fc≠0):mu ts s'<mu ts s:=by
 unfold mu;rw[if_neg h,if_pos h0];omega
theorem G2 (s:Sx):On ts s (kF ts s).2:=by
 unfold kF;by_cases h0:s.fc≠0
 ·rw[if_pos h0];exact On.refl _ _
 ·rw[if_neg h0];by_cases h1:(bM ts s.i).2.2.1≠0
  ·rw[if_pos h1];exact⟨⟨id,fun h=>absurd h h1⟩,rfl⟩
  ·rw[if_neg h1];obtain⟨j,e,l1,l2⟩:=I2 hE (i:=s.i) (by simpa using h1);dsimp only;rw[e,az];exact⟨⟨fun _=>l2,fun h=>⟨h,Nat.le_of_lt l1⟩⟩,rfl⟩
omit hE in
theorem AJ (s:Sx):On ts s (pE ts s):=by
 unfold pE;split
 ·have h:=my (ts:=ts) (s:=s) 2;exact⟨⟨h.lt,h.le⟩,h.d⟩
 ·exact⟨⟨id,fun h=>⟨h,aq _⟩⟩,rfl⟩
omit hE in
theorem AK (s:Sx):On ts s (ow ts s):=by
 unfold ow;split
 ·have h:=my (ts:=ts) (s:=s) 2;exact⟨⟨h.lt,h.le⟩,h.d⟩
 ·exact⟨⟨id,fun h=>⟨h,aq _⟩⟩,rfl⟩
omit hE in
theorem AM (s:Sx):On ts s (yG ts s):=by
 unfold yG;split
 ·have h:=my (ts:=ts) (s:=s) 2;exact⟨⟨h.lt,h.le⟩,h.d⟩
 ·exact⟨⟨id,fun h=>⟨h,aq _⟩⟩,rfl⟩
omit hE in
theorem PY (s:Sx):On ts s (yH ts s):=by
 unfold yH;split
 ·have h:=my (ts:=ts) (s:=s) 2;exact⟨⟨h.lt,h.le⟩,h.d⟩
 ·exact⟨⟨id,fun h=>⟨h,aq _⟩⟩,rfl⟩
omit hE in
theorem AN (s:Sx):(pE ts s).i=s.i:=by
 unfold pE;split
 ·exact AI 2
 ·rfl
omit hE in
theorem AO (s:Sx):(ow ts s).i=s.i:=by
 unfold ow;split
 ·exact AI 2
 ·rfl
theorem G3 (s:Sx) (k:Nat) (n:List UInt8) (a:Int):On ts s (E1 ts s k n a).2:=by
 unfold E1;split
 ·exact fD hE _
 ·exact((fD hE _).trans (G2 hE _)).trans (fD hE _)
theorem LH (s u:Sx) (hu:On ts s u) (hi:u.i=s.i) (h0:u.fc=0) (hk:(tk ts s.i).k≠5):On ts s (ci u):=hu.trans (jB hE h0 (by rw[hi];exact hk))
theorem Ub (s:Sx):On ts s (lN ts s).2:=by
 unfold lN;split
 ·exact nJ
 ·rename_i h;split
  ·exact AJ s
  ·rename_i h0;exact(LH hE s _ (AJ s) (AN s) (by simpa using h0) (cu h).2).trans ((mz hE).trans (G3 hE _ _ _ _))
theorem Uc {s:Sx} (h0:s.fc=0) (hi:s.i<ts.length):mu ts (lN ts s).2<mu ts s:=by
 unfold lN;split
 ·exact uh hE h0 hi nI
 ·rename_i h;split
  ·rename_i h1;exact uh hE h0 hi h1
  ·rename_i h1;have e:=AN (ts:=ts) s;have hm:=(AJ (ts:=ts) s).mu;exact bC (mA hE (by simpa using h1) (by rw[e];exact hi) (by rw[e];exact(cu h).2) ((mz hE).trans (G3 hE _ _ _ _)).toOn0) hm
theorem G4:∀(f:Nat) (acc:List Ac) (s:Sx),On ts s (mq ts f acc s).2
 | 0,_,s=>On.refl _ _
 | f+1,acc,s=>by
  rw[mq];split
  ·exact On.refl _ _
  ·split
   ·rename_i h;exact jB hE (cu h).1 (cu h).2
   ·exact(Ub hE s).trans (G4 f _ _)
theorem pJ (s:Sx):On ts s (eZ ts s).2:=(fD hE _).trans (G4 hE _ _ _)
theorem G5:∀(f:Nat) (x:List UInt8) (acc:List (List UInt8)) (s:Sx),On ts s (nH ts f x acc s).2
 | 0,_,_,s=>On.refl _ _
 | f+1,x,acc,s=>by
  rw[nH];split
  ·exact On.refl _ _
  ·rename_i h;exact((jB hE (cu h).1 (cu h).2).trans (mz hE)).trans (G5 f _ _ _)
theorem CT (m:Mv) (s:Sx):On ts s (xr ts m s).2:=(G5 hE _ _ _ _).trans (fD hE _)
theorem CU (m:Mv) (s:Sx):On ts s (uT ts m s).2:=by
 unfold uT;split
 ·exact CT hE _ _
 ·exact(pJ hE _).trans (CT hE _ _)
theorem xt (m:Mv) (s:Sx):On ts s (lO ts m s).2:=by
 unfold lO;split
 ·exact CU hE _ _
 ·rename_i h;exact(((jB hE (cu h).1 (cu h).2).trans (G2 hE _)).trans (fD hE _)).trans (CU hE _ _)
theorem CV (k:Int) (s u:Sx) (m:Mv):On ts u (if k=1 then lO ts {m with ev:=(ft ts u).1} (ft ts u).2 else if k=3 then lO ts {m with wt:=(dR ts u 3).1.n} (dR ts u 3).2 else lO ts m u).2:=by
 split
 ·exact(mz hE).trans (xt hE _ _)
 ·split
  ·exact(sR hE (by decide)).trans (xt hE _ _)
  ·exact xt hE _ _
theorem PZ (k:Int) (s:Sx) (hk:(tk ts s.i).k≠5):On ts s (jT ts k s).2:=by
 unfold jT;split
 ·exact AK s
 ·rename_i h1;exact(LH hE s _ (AK s) (AO s) (by simpa using h1) hk).trans (CV hE k s _ _)
theorem P0 (k:Int) {s:Sx} (h0:s.fc=0) (hi:s.i<ts.length) (hk:(tk ts s.i).k≠5):mu ts (jT ts k s).2<mu ts s:=by
 unfold jT;split
 ·rename_i h1;exact uh hE h0 hi h1
 ·rename_i h1;have e:=AO (ts:=ts) s;have hm:=(AK (ts:=ts) s).mu;exact bC (mA hE (by simpa using h1) (by rw[e];exact hi) (by rw[e];exact hk) (CV hE k s _ _).toOn0) hm
theorem zj (n:Nb) (h:vN) (s:Sx):On ts s (cF ts n h s).2.2.2:=by
 unfold cF;split
 ·rename_i hw;exact PZ hE _ s (cu hw).2
 ·split
  ·exact On.refl _ _
  ·rename_i hw;have hw:bA ts s [dw,eS,eT]≠0:=by rw[hw];decide
   split
   ·exact nJ
   ·exact((jB hE (cu hw).1 (cu hw).2).trans (mz hE)).trans (fD hE _)
  ·rename_i hw;have hw:bA ts s [dw,eS,eT]≠0:=by rw[hw];decide
   split
   ·exact nJ
   ·exact(jB hE (cu hw).1 (cu hw).2).trans (pJ hE _)
  ·rename_i h0 h1 h2;have hw:bA ts s [dw,eS,eT]≠0:=h0;split
   ·exact nJ
   ·exact(jB hE (cu hw).1 (cu hw).2).trans (pJ hE _)
theorem I3 (n:Nb) (h:vN) {s:Sx} (h0:s.fc=0) (hi:s.i<ts.length) (ht:(cF ts n h s).1=true):mu ts (cF ts n h s).2.2.2<mu ts s:=by
 unfold cF at ht⊢;split
 ·rename_i hw;exact P0 hE _ h0 hi (cu hw).2
 ·rename_i hw0;rw[if_neg hw0]at ht;split
  ·rename_i hw;rw[hw]at ht;cases ht
  ·rename_i hw;rw[hw]at ht;have hw:bA ts s [dw,eS,eT]≠0:=by rw[hw];decide
   split
   ·exact uh hE h0 hi nI
   ·exact mA hE h0 hi (cu hw).2 ((mz hE).trans (fD hE _)).toOn0
  ·rename_i hw;have hw:bA ts s [dw,eS,eT]≠0:=by rw[hw];decide
   split
   ·exact uh hE h0 hi nI
   ·exact mA hE h0 hi (cu hw).2 (pJ hE _).toOn0
  ·rename_i h1 _ _;have hw:bA ts s [dw,eS,eT]≠0:=h1;split
   ·exact uh hE h0 hi nI
   ·exact mA hE h0 hi (cu hw).2 (pJ hE _).toOn0
theorem rJ:∀(f:Nat) (n:Nb) (h:vN) (s:Sx),On ts s (ez ts f n h s).2
 | 0,_,_,s=>On.refl _ _
 | f+1,n,h,s=>by
  rw[ez];split
  ·exact On.refl _ _
  ·split
   ·exact(zj hE n h s).trans (rJ f _ _ _)
   ·exact zj hE n h s
theorem G6 {N:Int->Sx->Nd×Sx} (d:Int) (hN:∀k s,s.d=d->s.fc=0->On ts s (N k s).2):∀(f:Nat) (acc:List Nd) (s:Sx),s.d=d->On ts s (oG ts N f acc s).2
 | 0,_,s,_=>On.refl _ _
 | f+1,acc,s,hd=>by
  rw[oG];split
  ·exact On.refl _ _
  ·rename_i h;have h1:=(jB hE (cu h).1 (cu h).2).trans (hN (bA ts s lP:Nat) (ci s) hd (cu h).1);exact h1.trans (G6 d hN f _ _ (h1.d.trans hd))
theorem P1 {N:Int->Sx->Nd×Sx} {n:Nb} {s:Sx} (hd:InI s.d) (hN:∀k u,u.d=tQ s.d->u.fc=0->On ts u (N k u).2):On ts s (mr ts N n s).2:=by
 unfold mr;dsimp only;have h1:=rJ hE (ts.length+1) n ⟨false,false,false⟩ {s with d:=tQ s.d};have h2:=G6 hE (tQ s.d) hN (ts.length+1) [] _ h1.d;have h3:=h1.trans h2;have h4:=fD hE [125] (s:={(oG ts N (ts.length+1) [] (ez ts (ts.length+1) n ⟨false,false,false⟩ {s with d:=tQ s.d}).2).2 with d:=T9 (oG ts N (ts.length+1) [] (ez ts (ts.length+1) n ⟨false,false,false⟩ {s with d:=tQ s.d}).2).2.d});refine⟨⟨fun h=>h4.lt (h3.lt h),fun e=>?_⟩,h4.d.trans ?_⟩
 ·obtain⟨a,b⟩:=h4.le e;obtain⟨c,d⟩:=h3.le a;exact⟨c,ay d b⟩
 ·dsimp only;rw[h3.d];dsimp only;unfold T9 tQ;have:=hd.1;have:=hd.2;simp only[IntKind.wrap_i64];omega
omit hE in
theorem P2 (s:Sx):On ts s (mw ts s):=by
 unfold mw;split
 ·split
  ·exact(AM s).trans (my _)
  ·exact AM s
 ·exact On.refl _ _
theorem xu (k:Int) (s:Sx):On ts s (di ts k s).2:=(P2 s).trans (sR hE (by decide))
omit hE in
theorem P3 {k:Int} {s:Sx} (h:(di ts k s).2.fc=0):s.d≠0:=fun e=>by
 revert h;unfold di dR;dsimp only;by_cases h1:(tk ts s.i).k=1
 ·have hf:(mw ts s).fc≠0:=by
   unfold mw;rw[if_pos h1,if_pos ((AM s).d.trans e)];exact G1 (by decide)
  rw[if_pos (.inl hf)];exact nI
 ·have e2:mw ts s=s:=by unfold mw;rw[if_neg h1]
  rw[e2,if_pos (.inr h1)];exact nI
theorem G7:∀(f:Nat) (k:Int) (s:Sx),InI s.d->On ts s (gP ts f k s).2
 | 0,_,s,_=>On.refl _ _
 | f+1,k,s,hd=>by
  rw[gP];have h1:=xu hE k s;split
  ·exact((h1.trans (fD hE _)).trans (mz hE)).trans (fD hE _)
  ·have h2:=h1.trans (fD hE [123]);refine h2.trans (P1 hE (by rw[h2.d];exact hd) fun k u hu _=>G7 f k u ?_);rw[hu];exact Kr _
theorem LI (s:Sx):On ts s (pF ts s).2:=by
 unfold pF;dsimp only;have h1:On ts s (if(tk ts s.i).k=1 then yH ts s else s):=by
  split
  ·exact PY s
  ·exact On.refl _ _
 have h2:∀u:Sx,On ts u (if bA ts u [[45]]=0 then u else ci u):=fun u=>by
  split
  ·exact On.refl _ _
  ·rename_i h;exact jB hE (cu h).1 (cu h).2
 exact((((h1.trans (sR hE (by decide))).trans (fD hE _)).trans (h2 _)).trans (sR hE (by decide))).trans (fD hE _)
end
def Mk (w:World) (F:Nat->Prop) (e:TypeId) (size:Nat) (s:Sl):Prop:=s.n=0∨∃g cs,s.a=some ⟨g,0,none⟩/\F g/\Blk w g e cs/\s.n*size<=cs.length
def gH {α:Type} (t:Bool) (r:Rp α) (size:Nat) (e:TypeId) (w:World) (F:Nat->Prop) (s:Sl) (xs:List α):Prop:=SliceF r size w F s xs/\(t=true->Mk w F e size s)
section
variable {α:Type} {t:Bool} {r q:Rp α} {size:Nat} {e:TypeId} {w w':World} {F G:Nat->Prop} {s:Sl} {xs:List α} {B:Nat}
theorem Mk.keep (h:Mk w F e size s) (hk:∀k,F k->k<w.heap.size->w'.heap[k]? =w.heap[k]?):Mk w' F e size s:=by
 rcases h with h | ⟨g,cs,h1,h2,h3,h4⟩
 ·exact .inl h
 ·exact .inr ⟨g,cs,h1,h2,(hk g h2 h3.lt).trans h3,h4⟩
theorem Mk.mono (h:Mk w F e size s) (hk:∀k,F k->k<w.heap.size->G k):Mk w G e size s:=by
 rcases h with h | ⟨g,cs,h1,h2,h3,h4⟩
 ·exact .inl h
 ·exact .inr ⟨g,cs,h1,hk g h2 h3.lt,h3,h4⟩
theorem gH.keep (hr:r.Ok) (h:gH t r size e w F s xs) (hs:0<size) (hk:∀k,F k->k<w.heap.size->w'.heap[k]? =w.heap[k]?):gH t r size e w' F s xs:=⟨h.1.keep hr hs hk,fun x=>(h.2 x).keep hk⟩
theorem gH.inHeap (hr:r.Ok) (h:gH t r size e w F s xs) (hs:0<size):gH t r size e w (fun k=>F k/\k<w.heap.size) s xs:=⟨h.1.inHeap hr hs,fun x=>(h.2 x).mono fun k a b=>⟨a,b⟩⟩
theorem gH.mono (hr:r.Ok) (h:gH t r size e w F s xs) (hk:∀k,F k->G k):gH t r size e w G s xs:=⟨h.1.mono hr hk,fun x=>(h.2 x).mono fun k a _=>hk k a⟩
theorem gH.nil (t:Bool) (r:Rp α) (size:Nat) (e:TypeId) (w:World) (F:Nat->Prop):gH t r size e w F Sl.nil []:=⟨SliceF.nil _ _ _ _,fun _=>.inl rfl⟩
theorem gH.imp (h:gH t r size e w F s xs) (hi:∀x cs,x∈xs->r w F x cs->q w F x cs):gH t q size e w F s xs:=⟨CL h.1 hi,h.2⟩
theorem gH.off (h:gH t r size e w F s xs) (hi:∀x cs,x∈xs->r w F x cs->q w F x cs):gH false q size e w F s xs:=⟨CL h.1 hi,fun h=>(by cases h)⟩
theorem _root_.Go.Kt.Own.sl (hr:r.Ok) (h:Own r size e B w F s xs) (hF:∀k,B<=k->F k):gH true r size e w F s xs:=by
 refine⟨(h.slice hr).mono hr fun k hk=>hk.elim id fun x=>hF k x.1,fun _=>?_⟩;rcases h with⟨rfl,rfl⟩ | ⟨g,css,tail,h1,h2,h4,h5,h6,h7,h9,h8⟩
 ·exact .inl rfl
 ·exact .inr ⟨g,_,h1,hF g h2,h4,by rw[ah,kY.FG h8,<-h6];omega⟩
end
def G8 (t:Bool):Nat->Rp Ex
 | 0=>fun _ _ _ _=>False
 | d+1=>fun w F x cs=>∃sl:Sl,cs=ou x.k x.n x.s x.op sl x.a/\gH t (G8 t d) 6 51 w F sl x.cX
theorem jb (t:Bool):∀d,(G8 t d).Ok
 | 0=>⟨fun h _=>h.elim,fun h=>h.elim,fun h _=>h.elim,fun h=>h.elim⟩
 | d+1=>⟨fun⟨sl,h1,h2⟩ hk=>⟨sl,h1,gH.keep (jb t d) h2 (by decide) hk⟩,fun⟨sl,h1,h2⟩=>⟨sl,h1,gH.inHeap (jb t d) h2 (by decide)⟩,fun⟨sl,h1,h2⟩ hk=>⟨sl,h1,gH.mono (jb t d) h2 hk⟩,fun⟨sl,h1,h2⟩=>by
  subst h1;intro v hv;simp only[ak,aw,bf]at hv;rcases hv with rfl | rfl | rfl | rfl | rfl | rfl<;>rfl⟩
theorem LJ {t:Bool} {w:World} {F:Nat->Prop}:∀{d:Nat} {x:Ex} {cs:List Value},G8 t d w F x cs->G8 t (d+1) w F x cs
 | 0,_,_,h=>h.elim
 | d+1,x,cs,⟨sl,h1,h2⟩=>⟨sl,h1,h2.imp fun x cs _ h=>LJ h⟩
theorem E3 {t:Bool} {w:World} {F:Nat->Prop} {d e:Nat} {x:Ex} {cs:List Value} (h:d<=e) (hx:G8 t d w F x cs):G8 t e w F x cs:=by
 induction e with
 | zero=>have:d=0:=(by omega);subst this;exact hx
 | succ e ih=>
  by_cases he:d=e+1
  ·subst he;exact hx
  ·exact LJ (ih (by omega))
theorem E4 {t:Bool} {w:World} {F:Nat->Prop}:∀{d:Nat} {x:Ex} {cs:List Value},G8 t d w F x cs->vt d w F x cs
 | 0,_,_,h=>h.elim
 | d+1,x,cs,⟨sl,h1,h2⟩=>⟨sl,h1,CL h2.1 fun x cs _ h=>E4 h⟩
theorem LK {w:World} {F:Nat->Prop}:∀{d:Nat} {x:Ex} {cs:List Value},vt d w F x cs->G8 false d w F x cs
 | 0,_,_,h=>h.elim
 | d+1,x,cs,⟨sl,h1,h2⟩=>⟨sl,h1,CL h2 fun x cs _ h=>LK h,fun h=>(by cases h)⟩
theorem RXN.xg {w:World} {x:Ex} {cs:List Value} {N:Nat->Prop} {lo hi:Nat} (h:RXN w N lo hi x cs):∃d,G8 true d w (fun k=>lo<=k/\k<hi) x cs:=by
 induction h with
 | leaf lo hi k n s op a=>exact⟨1,Sl.nil,rfl,gH.nil _ _ _ _ _ _⟩
 | one lo m g hi k n s op a x cs h1 h2 h3 h4 hn h5 ih=>
  obtain⟨d,ih⟩:=ih;obtain⟨sl,kK,_⟩:=h1.cells;refine⟨d+1,_,rfl,⟨rfl,aq _,fun h=>(by cases h),(by decide:(1:Nat)<=9223372036854775807),fun j y hj=>?_⟩,fun _=>.inr ⟨g,cs,rfl,⟨h2,h4⟩,h5,by rw[kK];exact aq _⟩⟩;have VF:j=0:=by
   have:=(au.1 hj).1;simp only[Ex.cX,aL]at this;omega
  subst VF;simp only[Ex.cX,bm,ai]at hj;subst hj;exact⟨⟨g,0,none⟩,cs,rfl,⟨h2,h4⟩,by rw[kK];rfl,by rw[ki];exact h5.cells 0 cs fun j v hv=>by rw[aJ];exact hv,(jb true d).mono ih fun k hk=>⟨hk.1,by omega⟩⟩
 | two lo m m' m2 g hi k n s op a x y cs ds h1 h2 h3 h4 h5 h6 h7 h8 hn h9 BM En=>
  obtain⟨d1,BM⟩:=BM;obtain⟨d2,En⟩:=En;obtain⟨sl,kK,_⟩:=h1.cells;obtain⟨sl2,Xa,_⟩:=h3.cells;have e1:cs.length=6:=by rw[kK];rfl
  have e2:ds.length=6:=by rw[Xa];rfl
  refine⟨max d1 d2+1,_,rfl,⟨rfl,aq _,fun h=>(by cases h),(by decide:(2:Nat)<=9223372036854775807),fun j y hj=>?_⟩,fun _=>.inr ⟨g,cs++ds,rfl,⟨by omega,h8⟩,h9,by rw[ah,e1,e2];exact aq _⟩⟩;rcases j with _ | _ | j
  ·simp only[Ex.cX,bm,ai]at hj;subst hj;exact⟨⟨g,0,none⟩,cs,rfl,⟨by dsimp only;omega,h8⟩,e1,by rw[ki];exact h9.cells 0 cs fun j v hv=>by rw[aJ,aR (au.1 hv).1];exact hv,(jb true _).mono (E3 (wu _ _) BM) fun k hk=>⟨hk.1,by omega⟩⟩
  ·simp only[Ex.cX,bQ,bm,ai]at hj;subst hj;exact⟨⟨g,0,none⟩,ds,rfl,⟨by dsimp only;omega,h8⟩,e2,by
    rw[eV];exact h9.cells 6 ds fun j v hv=>by rw[bh (by omega),e1,cT];exact hv,(jb true _).mono (E3 (uJ _ _) En) fun k hk=>⟨by omega,by omega⟩⟩
  ·simp[Ex.cX]at hj
def rE (t:Bool):Rp Ex:=fun w F x cs=>∃d,G8 t d w F x cs
theorem gv (t:Bool):(rE t).Ok:=⟨fun⟨d,h⟩ hk=>⟨d,(jb t d).keep h hk⟩,fun⟨d,h⟩=>⟨d,(jb t d).inHeap h⟩,fun⟨d,h⟩ hk=>⟨d,(jb t d).mono h hk⟩,fun⟨d,h⟩=>(jb t d).one h⟩
theorem fV {t:Bool} {w:World} {F:Nat->Prop} {x:Ex} {cs:List Value} (h:rE t w F x cs):∃sl,cs=ou x.k x.n x.s x.op sl x.a:=by
 obtain⟨d,h⟩:=h;cases d with
 | zero=>exact h.elim
 | succ d=>obtain⟨sl,h,_⟩:=h;exact⟨sl,h⟩
theorem LM {t:Bool} {w:World} {F:Nat->Prop} {x:Ex} {cs:List Value} (h:rE t w F x cs):rE false w F x cs:=by
 obtain⟨d,h⟩:=h;exact⟨d,LK (E4 h)⟩
theorem Ud (t:Bool) (w:World) (F:Nat->Prop):rE t w F rG (ou 0 0 [] 0 Sl.nil 0):=⟨1,Sl.nil,rfl,gH.nil _ _ _ _ _ _⟩
def acv (k:Int) (n:List UInt8) (xc:List Value) (a:Int):List Value:=.int .i64 k::.string (T n)::(xc++[.int .i64 a])
def rl (t:Bool):Rp Ac:=fun w F x cs=>∃xc,cs=acv x.k x.n xc x.a/\rE t w F x.x xc
theorem cA (t:Bool):(rl t).Ok:=⟨fun⟨c,h1,h2⟩ hk=>⟨c,h1,(gv t).keep h2 hk⟩,fun⟨c,h1,h2⟩=>⟨c,h1,(gv t).inHeap h2⟩,fun⟨c,h1,h2⟩ hk=>⟨c,h1,(gv t).mono h2 hk⟩,fun⟨c,h1,h2⟩=>by
 subst h1;intro v hv;simp only[acv,ak,bJ,aw,bf]at hv;rcases hv with rfl | rfl | h | rfl
 ·rfl
 ·rfl
 ·exact(gv t).one h2 v h
 ·rfl⟩
def mvv (k:Int) (ev:List UInt8) (wt:Int) (gd:Bool) (gc:List Value) (ql tg:Sl) (a:Int):List Value:=.int .i64 k::.string (T ev)::.int .i64 wt::.bool gd::(gc++[ql.v,tg.v,.int .i64 a])
def BG (t:Bool):Rp Mv:=fun w F x cs=>∃gc ql tg,cs=mvv x.k x.ev x.wt x.gd gc ql tg x.a/\rE t w F x.g gc/\gH t (rl t) 9 116 w F ql x.acts/\gH t jJ 1 9 w F tg x.tg
theorem eU (t:Bool):(BG t).Ok:=⟨fun⟨c,ql,tg,h1,h2,h3,h4⟩ hk=>⟨c,ql,tg,h1,(gv t).keep h2 hk,h3.keep (cA t) (by decide) hk,h4.keep cL (by decide) hk⟩,
 fun⟨c,ql,tg,h1,h2,h3,h4⟩=>⟨c,ql,tg,h1,(gv t).inHeap h2,h3.inHeap (cA t) (by decide),h4.inHeap cL (by decide)⟩,
 fun⟨c,ql,tg,h1,h2,h3,h4⟩ hk=>⟨c,ql,tg,h1,(gv t).mono h2 hk,h3.mono (cA t) hk,h4.mono cL hk⟩,
 fun⟨c,ql,tg,h1,h2,h3,h4⟩=>by
  subst h1;intro v hv;simp only[mvv,ak,bJ,aw,bf]at hv;rcases hv with rfl | rfl | rfl | rfl | h | rfl | rfl | rfl
  ·rfl
  ·rfl
  ·rfl
  ·rfl
  ·exact(gv t).one h2 v h
  ·rfl
  ·rfl
  ·rfl⟩
def Om:Rp Vr:=fun _ _ x cs=>cs=[.string (T x.n),.int .i64 x.v,.int .i64 x.a]
theorem fb:Om.Ok:=⟨fun h _=>h,fun h=>h,fun h _=>h,fun h=>by
 unfold Om at h;subst h;intro v hv;simp only[ak,aw,bf]at hv;rcases hv with rfl | rfl | rfl<;>rfl⟩
abbrev ly (k:Int) (nm ini dft:List UInt8) (en lv mv kids:Sl) (a:Int):List Value:=[.int .i64 k,.string (T nm),.string (T ini),.string (T dft),en.v,lv.v,mv.v,kids.v,.int .i64 a]
def AP (t:Bool) (w:World) (F:Nat->Prop) (x:Nb) (en lv mv:Sl):Prop:=gH t (rl t) 9 116 w F en x.en/\gH t (rl t) 9 116 w F lv x.lv/\gH t (BG t) 13 54 w F mv x.mv
def lQ (t:Bool):Nat->Rp Nd
 | 0=>fun _ _ _ _=>False
 | d+1=>fun w F x cs=>∃en lv mv kids:Sl,cs=ly x.b.k x.b.nm x.b.ini x.b.dft en lv mv kids x.b.a/\AP t w F x.b en lv mv/\gH t (lQ t d) 9 27 w F kids x.kids
section
variable {t:Bool} {w w':World} {F G:Nat->Prop} {x:Nb} {en lv mv:Sl}
theorem AP.keep (h:AP t w F x en lv mv) (hk:∀k,F k->k<w.heap.size->w'.heap[k]? =w.heap[k]?):AP t w' F x en lv mv:=⟨h.1.keep (cA t) (by decide) hk,h.2.1.keep (cA t) (by decide) hk,h.2.2.keep (eU t) (by decide) hk⟩
theorem AP.inHeap (h:AP t w F x en lv mv):AP t w (fun k=>F k/\k<w.heap.size) x en lv mv:=⟨h.1.inHeap (cA t) (by decide),h.2.1.inHeap (cA t) (by decide),h.2.2.inHeap (eU t) (by decide)⟩
theorem AP.mono (h:AP t w F x en lv mv) (hk:∀k,F k->G k):AP t w G x en lv mv:=⟨h.1.mono (cA t) hk,h.2.1.mono (cA t) hk,h.2.2.mono (eU t) hk⟩
end
theorem bI (t:Bool):∀d,(lQ t d).Ok
 | 0=>⟨fun h _=>h.elim,fun h=>h.elim,fun h _=>h.elim,fun h=>h.elim⟩
 | d+1=>⟨fun⟨en,lv,mv,kids,h1,h2,h3⟩ hk=>⟨en,lv,mv,kids,h1,h2.keep hk,gH.keep (bI t d) h3 (by decide) hk⟩,
  fun⟨en,lv,mv,kids,h1,h2,h3⟩=>⟨en,lv,mv,kids,h1,h2.inHeap,gH.inHeap (bI t d) h3 (by decide)⟩,
  fun⟨en,lv,mv,kids,h1,h2,h3⟩ hk=>⟨en,lv,mv,kids,h1,h2.mono hk,gH.mono (bI t d) h3 hk⟩,fun⟨en,lv,mv,kids,h1,h2,h3⟩=>by
  subst h1;intro v hv;simp only[ak,aw,bf]at hv;rcases hv with rfl | rfl | rfl | rfl | rfl | rfl | rfl | rfl | rfl<;>rfl⟩
theorem LN {t:Bool} {w:World} {F:Nat->Prop}:∀{d:Nat} {x:Nd} {cs:List Value},lQ t d w F x cs->lQ t (d+1) w F x cs
 | 0,_,_,h=>h.elim
 | d+1,x,cs,⟨en,lv,mv,kids,h1,h2,h3⟩=>⟨en,lv,mv,kids,h1,h2,h3.imp fun x cs _ h=>LN h⟩
theorem Ue {t:Bool} {w:World} {F:Nat->Prop} {d e:Nat} {x:Nd} {cs:List Value} (h:d<=e) (hx:lQ t d w F x cs):lQ t e w F x cs:=by
 induction e with
 | zero=>have:d=0:=(by omega);subst this;exact hx
 | succ e ih=>
  by_cases he:d=e+1
  ·subst he;exact hx
  ·exact LN (ih (by omega))
theorem AQ {t:Bool} {w:World} {F:Nat->Prop} {x:Ac} {cs:List Value} (h:rl t w F x cs):rl false w F x cs:=by
 obtain⟨c,h1,h2⟩:=h;exact⟨c,h1,LM h2⟩
theorem P4 {t:Bool} {w:World} {F:Nat->Prop} {x:Mv} {cs:List Value} (h:BG t w F x cs):BG false w F x cs:=by
 obtain⟨c,ql,tg,h1,h2,h3,h4⟩:=h;exact⟨c,ql,tg,h1,LM h2,h3.off fun _ _ _ h=>AQ h,h4.off fun _ _ _ h=>h⟩
theorem AP.off {t:Bool} {w:World} {F:Nat->Prop} {x:Nb} {en lv mv:Sl} (h:AP t w F x en lv mv):AP false w F x en lv mv:=⟨h.1.off fun _ _ _ h=>AQ h,h.2.1.off fun _ _ _ h=>AQ h,h.2.2.off fun _ _ _ h=>P4 h⟩
theorem G9 {t:Bool} {w:World} {F:Nat->Prop}:∀{d:Nat} {x:Nd} {cs:List Value},lQ t d w F x cs->lQ false d w F x cs
 | 0,_,_,h=>h.elim
 | d+1,x,cs,⟨en,lv,mv,kids,h1,h2,h3⟩=>⟨en,lv,mv,kids,h1,h2.off,h3.off fun x cs _ h=>G9 h⟩
structure ChR (t:Bool) (d:Nat) (w:World) (F:Nat->Prop) (c:Ch) (vs:Sl) (cs:List Value):Prop where
 vars:gH t Om 3 79 w F vs c.vars
 root:lQ t d w F c.root cs
abbrev Fr (B:Nat):Nat->Prop:=fun k=>B<=k
section
variable {α:Type} {r:Rp α} {size:Nat} {e:TypeId} {w w':World} {s:Sl} {xs:List α} {B:Nat}
theorem _root_.Go.Kt.Own.stay (hr:r.Ok) (h:Own r size e B w (Fr B) s xs) {bs:List Nat} (hO:Only bs w w') (hb:∀x,x∈bs->x<B∨w.heap.size<=x):Own r size e B w' (Fr B) s xs:=by
 refine((h.inHeap hr).keep hr fun k hk bp=>hO.block k bp fun hm=>?_).mono hr fun k hk=>hk.1;have wj:B<=k/\k<w.heap.size:=by
  rcases hk with hk | hk
  ·exact hk
  ·exact⟨hk.1,bp⟩
 rcases hb k hm with h | h<;>omega
theorem _root_.Go.Kt.Own.new (h:Own r size e B w (Fr B) s xs) {k:Nat} (hk:w.heap.size<=k):s.a≠some ⟨k,0,none⟩:=fun e=>by
 have:=(h.blk e).2;dsimp only at this;omega
end
end Go.Proofs.YtmhoiicofhlgbaaGreatDoor.Con
namespace Go.Proofs.YtmhoiicofhlgbaaGreatDoor.Con
open Go Go.RowKit Go.Kt Go.Kt.V Go.Proofs.YtmhoiicofhlgbaaGreatDoor.Vc
set_option linter.unusedSimpArgs false
set_option linter.unusedVariables false
set_option maxHeartbeats 4000000
mutual
def xv:Ex->Nat
 | .mk _ _ _ _ l _=>Se l+1
def Se:List Ex->Nat
 | []=>0
 | x::l=>max (xv x) (Se l)
end
mutual
def AR:Ex->Nat
 | .mk _ _ s _ l _=>Oo l+(s.length+1)
def Oo:List Ex->Nat
 | []=>0
 | x::l=>AR x+Oo l
end
theorem AU (x:Ex):xv x=Se x.cX+1:=by cases x;rw[xv];rfl
theorem E5 (x:Ex):AR x=Oo x.cX+(x.s.length+1):=by cases x;rw[AR];rfl
theorem vY {y:Ex}:∀{l:List Ex},y∈l->xv y<=Se l
 | [],h=>by simp at h
 | x::l,h=>by
  rw[Se];rcases ak.1 h with rfl | h
  ·exact wu _ _
  ·exact ay (vY h) (uJ _ _)
theorem Ha {y:Ex}:∀{l:List Ex},y∈l->AR y<=Oo l
 | [],h=>by simp at h
 | x::l,h=>by
  rw[Oo];rcases ak.1 h with rfl | h
  ·omega
  ·have:=Ha h;omega
theorem LO {d:Nat}:∀{l:List Ex},(∀y,y∈l->xv y<=d)->Se l<=d
 | [],_=>by rw[Se];omega
 | x::l,h=>by
  rw[Se];exact Nat.max_le.2 ⟨h x (by simp),LO fun y hy=>h y (by simp[hy])⟩
theorem AV (x:Ex):1<=xv x:=by rw[AU];omega
theorem LP {w:World} {F:Nat->Prop}:∀{d:Nat} {x:Ex} {cs:List Value},vt d w F x cs->xv x<=d
 | 0,_,_,h=>h.elim
 | d+1,x,cs,⟨sl,h1,h2⟩=>by
  rw[AU];refine JM (LO fun y hy=>?_);obtain⟨j,hj⟩:=eF hy;obtain⟨_,cs,_,_,_,_,h⟩:=h2.at_ j y hj;exact LP h
theorem xw {f g:Ex->Bool}:∀{l:List Ex},(∀y,y∈l->f y=g y)->jA f l=jA g l
 | [],_=>rfl
 | x::l,h=>by rw[jA,jA,h x (by simp),xw fun y hy=>h y (by simp[hy])]
theorem CW:∀(d e:Nat) (x:Ex),xv x<=d->xv x<=e->cE d x=cE e x
 | 0,_,x,h,_=>by have:=AV x;omega
 | _,0,x,_,h=>by have:=AV x;omega
 | d+1,e+1,x,h,k=>by
  rw[AU]at h k;rw[cE,cE,xw fun y hy=>CW d e y (by have:=vY hy;omega) (by have:=vY hy;omega)]
theorem Hb:∀(d e:Nat) (x:Ex) (wr:Bool) (l:List UInt8),xv x<=d->xv x<=e->mX d x wr l=mX e x wr l
 | 0,_,x,_,_,h,_=>by have:=AV x;omega
 | _,0,x,_,_,_,h=>by have:=AV x;omega
 | d+1,e+1,x,wr,l,h,k=>by
  rw[AU]at h k;have hm:∀y,y∈x.cX->xv y<=d/\xv y<=e:=fun y hy=>by have:=vY hy;omega
  rw[mX,mX];cases hx:x.cX with
  | nil=>rfl
  | cons y m=>
   cases m with
   | nil=>
    have hy:=hm y (by rw[hx];simp);dsimp only;rw[Hb d e y _ _ hy.1 hy.2]
   | cons z m=>
    cases m with
    | nil=>
     have hy:=hm y (by rw[hx];simp);have hz:=hm z (by rw[hx];simp);dsimp only;rw[Hb d e y _ _ hy.1 hy.2,Hb d e z _ _ hz.1 hz.2]
    | cons _ _=>rfl
theorem LQ:∀(d:Nat) (x:Ex),mL d x<=AR x
 | 0,x=>aF _
 | d+1,x=>by
  rw[mL,E5];have:∀l:List Ex,qR (mL d) l<=Oo l:=fun l=>by
   induction l with
   | nil=>exact aF _
   | cons y l ih=>rw[qR,Oo];exact ec (LQ d y) ih
  have:=this x.cX;omega
theorem LR:∀(d:Nat) (x:Ex),AR x<4611686018427387903->xn d x
 | 0,x,_=>trivial
 | d+1,x,h=>by
  rw[E5]at h;exact⟨by omega,fun y hy=>LR d y (by have:=Ha hy;omega)⟩
def Hc (x:Ex):Prop:=∀d,lM d x
theorem Hc.sub {x y:Ex} (h:Hc x) (hy:y∈x.cX):Hc y:=fun d=>(h (d+1)).2 y hy
def ui (x:Ex):List UInt8:=ri (xv x) x
theorem P5 {d:Nat} {x:Ex} (h:xv x<=d):ri d x=ui x:=by
 unfold ui ri;rw[CW d (xv x) x h (aq _),Hb d (xv x) x false [] h (aq _)]
theorem CX {d:Nat} {x:Ex} (h:ri d x≠[]):cE d x=true/\ri d x=mX d x false []/\(iA (mX d x false [])).2.1=0:=by
 unfold ri at h⊢;by_cases hs:cE d x=true
 ·rw[if_pos hs]at h⊢;by_cases hr:(iA (mX d x false [])).2.1≠0
  ·rw[if_pos hr]at h;exact absurd rfl h
  ·rw[if_neg hr];exact⟨hs,rfl,by simpa using hr⟩
 ·rw[if_neg hs]at h;exact absurd rfl h
theorem P6 {w:World} {F:Nat->Prop} {x:Ex} {cs:List Value} (hx:rE false w F x cs) (hn:Hc x) (hs:AR x<=1759218604441) (hE:Er w) (hT:Tb w):
  Calls Tryz.prog 218 #[.agg cs.toArray] w fun e w'=>e=.returned (.string (T (ui x)))/\Only [] w w':=by
 obtain⟨d,h⟩:=hx;have h:=E4 h;rw[<-P5 (LP h)];exact T8 h (LR d x (by omega)) (hn d) hE hT (by have:=LQ d x;omega)
end Go.Proofs.YtmhoiicofhlgbaaGreatDoor.Con
namespace Go.Proofs.YtmhoiicofhlgbaaGreatDoor.Con
open Go Go.RowKit Go.Kt Go.Kt.V
set_option linter.unusedSimpArgs false
set_option linter.unusedVariables false
set_option maxHeartbeats 4000000
def oH (x:Ex):Bool:=(((x.k==0&&x.n==0)&&decide (x.s=[]))&&x.op==0)&&((x.cX.length:Int)==0)
def sS (x:Ex):Bool:=decide (ui x≠[])
def gw (a:Ac):Bool:=decide (1<=a.k/\a.k<=3)&&cN a.n&&(if a.k=2 then oH a.x else sS a.x)
def mO (m:Mv):Bool:=
 decide (1<=m.k/\m.k<=3)&&(if m.k=1 then cN m.ev else decide (m.ev=[]))&&(if m.gd then sS m.g else oH m.g)&&m.acts.all gw&&m.tg.all cN&&decide (m.wt=0∨m.k=3/\0<m.wt)
def gW (k:Int):Bool:=decide (k=3∨k=4)
def rK (b:Nb) (kids:Nat):Bool:=
 cN b.nm&&(if gW b.k then cN b.dft&&decide (b.ini=[]/\b.en=[]/\b.lv=[]/\b.mv.length=0/\kids=0)
  else decide ((b.k=1∨b.k=2)/\b.dft=[])&&(decide (b.ini=[])||cN b.ini)&&b.en.all gw&&b.lv.all gw&&b.mv.all mO)
mutual
def jk:Nat->Nd->Bool
 | d,.mk b l=>decide (d<12)&&rK b l.length&&fW (d+1) l
def fW:Nat->List Nd->Bool
 | _,[]=>true
 | d,x::l=>jk d x&&fW d l
end
def xx (b:Nb):Nat:=b.en.length+b.lv.length+(b.mv.map fun m=>m.acts.length).sum
mutual
def iB:Nd->Nat
 | .mk _ l=>dj l+1
def dj:List Nd->Nat
 | []=>0
 | x::l=>iB x+dj l
end
mutual
def qS:Nd->Nat
 | .mk b l=>b.mv.length+jC l
def jC:List Nd->Nat
 | []=>0
 | x::l=>qS x+jC l
end
mutual
def rL:Nd->Nat
 | .mk b l=>xx b+jc l
def jc:List Nd->Nat
 | []=>0
 | x::l=>rL x+jc l
end
def lR (c:Ch):Bool:=
 (c.vars.all fun v=>cN v.n&&decide (v.v≠ -9223372036854775808))&&jk 0 c.root&&decide (c.root.b.k=1/\c.vars.length<=16/\iB c.root<=64/\qS c.root<=200/\rL c.root<=400)
def Hd (a:Ac):List UInt8:=
 if a.k=2 then ga++32::(a.n++[59])else(if a.k=1 then mN else iO)++32::(a.n++32::61::32::(ui a.x++[59]))
def LS:List Ac->List UInt8
 | []=>[]
 | a::l=>32::(Hd a++LS l)
def yC (l:List Ac):List UInt8:=123::(LS l++[32,125])
def I4:List (List UInt8)->List UInt8
 | []=>[]
 | s::l=>44::32::(s++I4 l)
def hdT (m:Mv):List UInt8:=if m.k=1 then xq++32::m.ev else if m.k=3 then eY++32::Lib.itoa m.wt else eO
def P7 (m:Mv):List UInt8:=if m.gd then 32::91::(ui m.g++[93])else[]
def E6 (m:Mv):List UInt8:=
 hdT m++(P7 m++((if m.acts=[]then[]else 32::yC m.acts)++((match m.tg with
  | []=>[]
  | s::l=>32::45::62::32::(s++I4 l))++[59])))
def kW (k:Int):List UInt8:=if k=1 then AH else if k=2 then qC else if k=3 then sQ else G0
abbrev Ln:=Nat×List UInt8
def LU (d:Nat) (b:Nb):List Ln:=if b.ini=[]then[]else[(d,dw++32::(b.ini++[59]))]
def enL (d:Nat) (b:Nb):List Ln:=if b.en=[]then[]else[(d,eS++32::yC b.en)]
def lvL (d:Nat) (b:Nb):List Ln:=if b.lv=[]then[]else[(d,eT++32::yC b.lv)]
def mvL (d:Nat) (b:Nb):List Ln:=b.mv.map fun m=>(d,E6 m)
def LV (d:Nat) (b:Nb):List Ln:=LU d b++(enL d b++(lvL d b++mvL d b))
mutual
def I5:Nat->Nd->List Ln
 | d,.mk b l=>
  if gW b.k then[(d,kW b.k++32::(b.nm++32::45::62::32::(b.dft++[59])))]
  else(d,kW b.k++32::(b.nm++[32,123]))::(LV (d+1) b++(oy (d+1) l++[(d,[125])]))
def oy:Nat->List Nd->List Ln
 | _,[]=>[]
 | d,x::l=>I5 d x++oy d l
end
def vrT (v:Vr):List UInt8:=rI++32::(v.n++32::61::32::(Lib.itoa v.v++[59]))
def rM (c:Ch):List Ln:=
 (0,eh++32::(c.root.b.nm++[32,123]))::((c.vars.map fun v=>(1,vrT v))++(LV 1 c.root.b++(oy 1 c.root.kids++[(0,[125])])))
def CY:Nat->List UInt8
 | 0=>[]
 | d+1=>32::32::CY d
def JS (p:Ln):List UInt8:=CY p.1++(p.2++[10])
def jN (b:List UInt8) (p:Ln):List UInt8:=if 16384<b.length then b else b++JS p
def eA (b:List UInt8) (L:List Ln):List UInt8:=L.foldl jN b
def fX (L:List Ln):List UInt8:=L.flatMap JS
theorem He (b:List UInt8) (p:Ln):b.length<=(jN b p).length:=by
 unfold jN;split
 ·exact aq _
 ·rw[ah];omega
theorem CZ:∀(L:List Ln) (b:List UInt8),b.length<=(eA b L).length
 | [],_=>aq _
 | p::L,b=>ay (He b p) (CZ L _)
theorem iu (b:List UInt8) (L M:List Ln):eA b (L++M)=eA (eA b L) M:=Gb
theorem xy (b:List UInt8) (p:Ln) (L:List Ln):eA b (p::L)=eA (jN b p) L:=rfl
theorem E7:∀(L:List Ln) (b:List UInt8),(eA b L).length<=16384->eA b L=b++fX L
 | [],b,_=>(aN b).symm
 | p::L,b,h=>by
  rw[xy]at h⊢;have h1:=CZ L (jN b p);have h2:=He b p;rw[E7 L _ h];have:jN b p=b++JS p:=by unfold jN;rw[if_neg (by omega)]
  rw[this,av];rfl
def E8 (c:Ch):List UInt8×Int:=
 if lR c=true then(if 16384<(eA [] (rM c)).length then([],2)else(eA [] (rM c),0))else([],22)
def C0 (a:Ac):Prop:=Hc a.x
structure OU (m:Mv):Prop where
 g:Hc m.g
 a:∀x,x∈m.acts->C0 x
 w:InI m.wt
structure OW (b:Nb):Prop where
 en:∀a,a∈b.en->C0 a
 lv:∀a,a∈b.lv->C0 a
 mv:∀m,m∈b.mv->OU m
mutual
def vu:Nd->Prop
 | .mk b l=>OW b/\ma l
def ma:List Nd->Prop
 | []=>True
 | x::l=>vu x/\ma l
end
structure Ea (c:Ch):Prop where
 v:∀v,v∈c.vars->InI v.v
 r:vu c.root
end Go.Proofs.YtmhoiicofhlgbaaGreatDoor.Con
namespace Go.Proofs.YtmhoiicofhlgbaaGreatDoor.Con
set_option linter.unusedSimpArgs false
set_option linter.unusedVariables false
structure eG where
 k:Int
 nm:List UInt8
 pa:Int
 dp:Int
 en:Int
mutual
def zl (a:Nat) (pa dp:Int):Nd->List eG
 | .mk b l=>⟨b.k,b.nm,pa,dp,((a+1+dj l:Nat):Int)⟩::pb (a+1) a (dp+1) l
def pb (a:Nat) (pa dp:Int):List Nd->List eG
 | []=>[]
 | x::l=>zl a pa dp x++pb (a+iB x) pa dp l
end
mutual
theorem mB (a:Nat) (pa dp:Int):∀x,(zl a pa dp x).length=iB x
 | .mk b l=>by rw[zl,iB,ao,sU]
theorem sU (a:Nat) (pa dp:Int):∀l,(pb a pa dp l).length=dj l
 | []=>by rw[pb,dj];rfl
 | x::l=>by rw[pb,dj,ah,mB,sU]
end
theorem xz:∀l m:List Nd,dj (l++m)=dj l+dj m
 | [],m=>by rw[dj,aV,aJ]
 | x::l,m=>by rw[bc,dj,dj,xz l m,cb]
theorem Hf (pa dp:Int):∀(l m:List Nd) (a:Nat),pb a pa dp (l++m)=pb a pa dp l++pb (a+dj l) pa dp m
 | [],m,a=>by rw[aV,pb,aV,dj,db]
 | x::l,m,a=>by rw[bc,pb,pb,Hf pa dp l m,dj,av,cb]
theorem AW:∀x,1<=iB x
 | .mk b l=>by rw[iB];omega
theorem qD {y:Nd}:∀{l:List Nd} {j:Nat},l[j]? =some y->dj (l.take j)+iB y<=dj l
 | [],_,h=>by simp at h
 | x::l,0,h=>by
  rw[bm,ai]at h;subst h;rw[cQ,dj,dj];omega
 | x::l,j+1,h=>by
  have:=qD (l:=l) (j:=j) (by rwa[bQ]at h);rw[fJ,dj,dj];omega
theorem sV:∀l:List Nd,l.length<=dj l
 | []=>aF _
 | a::l=>by
  have:=sV l;have:=AW a;rw[dj,ao];omega
def xA (L:List eG) (a i:Nat) (s:eG):Prop:=∃p t,p<i/\L[p]? =some t/\s.pa=((a+p:Nat):Int)/\s.dp=t.dp+1/\((a+i:Nat):Int)<t.en/\s.en<=t.en/\∀j u,p<j->j<i->L[j]? =some u->u.en<=((a+i:Nat):Int)
theorem xA.oT {L M:List eG} {a i:Nat} {s:eG} (h:xA L a i s) (hi:i<L.length):xA (L++M) a i s:=by
 obtain⟨p,t,h1,h2,h3,h4,h5,h6,h7⟩:=h;refine⟨p,t,h1,?_,h3,h4,h5,h6,fun j u g1 g2 g3=>h7 j u g1 g2 ?_⟩
 ·rw[aR (by omega)];exact h2
 ·rwa[aR (by omega)]at g3
theorem xA.shift {L M:List eG} {a i:Nat} {s:eG} (h:xA M (a+L.length) i s):xA (L++M) a (L.length+i) s:=by
 obtain⟨p,t,h1,h2,h3,h4,h5,h6,h7⟩:=h;refine⟨L.length+p,t,by omega,?_,by rw[h3];omega,h4,by omega,h6,fun j u g1 g2 g3=>?_⟩
 ·rw[bh (by omega),cT];exact h2
 ·rw[bh (by omega)]at g3;have:=h7 (j-L.length) u (by omega) (by omega) g3;omega
mutual
theorem E9 (a:Nat) (pa dp:Int):∀(x:Nd) (i:Nat) (s:eG),(zl a pa dp x)[i]? =some s->((a+i:Nat):Int)<s.en/\s.en<=((a+iB x:Nat):Int)/\(i=0->s.pa=pa/\s.dp=dp/\s.en=((a+iB x:Nat):Int))/\(0<i->xA (zl a pa dp x) a i s)
 | .mk b l,i,s,h=>by
  rw[zl]at h⊢;rw[iB];cases i with
  | zero=>
   rw[bm,ai]at h;subst h;dsimp only;exact⟨by omega,by omega,fun _=>⟨rfl,rfl,by omega⟩,fun h=>by omega⟩
  | succ i=>
   rw[bQ]at h;obtain⟨h1,h2,h3⟩:=LW (a+1) a (dp+1) l i s h;refine⟨by omega,by omega,fun h=>by omega,fun _=>?_⟩;rcases h3 with⟨g1,g2,g3⟩ | g
   ·refine⟨0,_,by omega,bm,by rw[g1,db],g2,by dsimp only;omega,by dsimp only;omega,fun j u k1 k2 k3=>?_⟩;cases j with
    | zero=>omega
    | succ j=>
     rw[bQ]at k3;have:=g3 j u (by omega) k3;omega
   ·have:=xA.shift (L:=[⟨b.k,b.nm,pa,dp,((a+1+dj l:Nat):Int)⟩]) (M:=pb (a+1) a (dp+1) l) (a:=a) (i:=i) (s:=s) g;rw[aL,iU 1 i]at this;exact this
theorem LW (a:Nat) (pa dp:Int):∀(l:List Nd) (i:Nat) (s:eG),(pb a pa dp l)[i]? =some s->((a+i:Nat):Int)<s.en/\s.en<=((a+dj l:Nat):Int)/\
  ((s.pa=pa/\s.dp=dp/\∀j u,j<i->(pb a pa dp l)[j]? =some u->u.en<=((a+i:Nat):Int))∨xA (pb a pa dp l) a i s)
 | [],i,s,h=>by rw[pb]at h;simp at h
 | x::l,i,s,h=>by
  rw[pb]at h⊢;rw[dj];have hl:=mB a pa dp x;by_cases hi:i<iB x
  ·rw[aR (by omega)]at h;obtain⟨h1,h2,h3,h4⟩:=E9 a pa dp x i s h;refine⟨h1,by omega,?_⟩;by_cases h0:i=0
   ·obtain⟨g1,g2,g3⟩:=h3 h0;exact .inl ⟨g1,g2,fun j u hj=>by omega⟩
   ·exact .inr ((h4 (by omega)).oT (by omega))
  ·rw[bh (by omega),hl]at h;obtain⟨h1,h2,h3⟩:=LW (a+iB x) pa dp l (i-iB x) s h;refine⟨by omega,by omega,?_⟩;rcases h3 with⟨g1,g2,g3⟩ | g
   ·refine .inl ⟨g1,g2,fun j u hj hu=>?_⟩;by_cases Oz:j<iB x
    ·rw[aR (by omega)]at hu;have:=(E9 a pa dp x j u hu).2.1;omega
    ·rw[bh (by omega),hl]at hu;have:=g3 (j-iB x) u (by omega) hu;omega
   ·refine .inr ?_;rw[<-hl]at g;have:=xA.shift (L:=zl a pa dp x) g;rw[hl]at this;rwa[show iB x+(i-iB x)=i by omega]at this
end
structure Fo (xs:List eG):Prop where
 ne:0<xs.length
 rt:∀s:eG,xs[0]? =some s->s.pa= -1/\s.dp=0/\s.en=(xs.length:Int)
 up:∀(i:Nat) (s:eG),xs[i]? =some s->(i:Int)<s.en/\s.en<=(xs.length:Int)
 pa:∀(i:Nat) (s:eG),0<i->xs[i]? =some s->xA xs 0 i s
def ji (c:Ch):List eG:=zl 0 (-1) 0 c.root
theorem P8 (c:Ch):Fo (ji c):=by
 unfold ji;have hl:=mB 0 (-1) 0 c.root;have h:=E9 0 (-1) 0 c.root;refine⟨by have:=AW c.root;omega,fun s hs=>?_,fun i s hs=>?_,fun i s hi hs=>(h i s hs).2.2.2 hi⟩
 ·obtain⟨h1,h2,h3⟩:=(h 0 s hs).2.2.1 rfl;exact⟨h1,h2,by rw[h3,hl];omega⟩
 ·obtain⟨h1,h2,_⟩:=h i s hs;exact⟨by omega,by omega⟩
section
variable {xs:List eG} (F:Fo xs) {i j k p:Nat} {s t u:eG}
include F
theorem Fo.lam:∀(k:Nat) {i:Nat} {s t:eG},xs[i]? =some s->xs[k]? =some t->i<k->(k:Int)<s.en->t.en<=s.en
 | k,i,s,t,hi,hk,bp,hs=>by
  obtain⟨p,v,h1,h2,h3,h4,h5,h6,h7⟩:=F.pa k t (by omega) hk;by_cases hp:p<i
  ·have:=h7 i s hp bp hi;omega
  ·by_cases he:p=i
   ·subst he;rw[hi,ai]at h2;subst h2;exact h6
   ·have:=Fo.lam p hi h2 (by omega) (by omega);omega
theorem Fo.QP (hk:xs[k]? =some t) (h0:0<k):∃(p:Nat) (s:eG),p<k/\t.pa=(p:Int)/\xs[p]? =some s/\t.dp=s.dp+1/\(k:Int)<s.en/\∀(i:Nat) (u:eG),xs[i]? =some u->i<k->(k:Int)<u.en->i<=p:=by
 obtain⟨p,v,h1,h2,h3,h4,h5,h6,h7⟩:=F.pa k t h0 hk;refine⟨p,v,h1,by rw[h3];omega,h2,h4,by omega,fun i u hu hi wj=>?_⟩;by_cases hp:p<i
 ·have:=h7 i u hp hi hu;omega
 ·omega
omit F in
theorem pK {xs:List eG} {i:Nat} {s:eG} (h:xs[i]? =some s):i<xs.length:=(au.1 h).1
omit F in
theorem pL {xs:List eG} {i:Nat} (h:i<xs.length):∃s,xs[i]? =some s:=⟨_,bn h⟩
end
def vZ (xs:List eG) (b a:Nat):Prop:=∃s,xs[b]? =some s/\b<=a/\(a:Int)<s.en
section
variable {xs:List eG} (F:Fo xs) {i j k p:Nat}
include F
theorem Fo.U0 (h:vZ xs i j):j<xs.length:=by
 obtain⟨s,h1,h2,h3⟩:=h;have:=(F.up i s h1).2;omega
theorem Fo.Nz (h:i<xs.length):vZ xs i i:=by
 obtain⟨s,hs⟩:=pL h;exact⟨s,hs,aq _,(F.up i s hs).1⟩
theorem Fo.NA (h:i<xs.length):vZ xs 0 i:=by
 obtain⟨s,hs⟩:=pL F.ne;exact⟨s,hs,aF _,by rw[(F.rt s hs).2.2];omega⟩
theorem Fo.U1 (h:vZ xs i j) (g:vZ xs j k):vZ xs i k:=by
 obtain⟨s,h1,h2,h3⟩:=h;obtain⟨t,g1,g2,g3⟩:=g;refine⟨s,h1,by omega,?_⟩;by_cases he:i=j
 ·subst he;rw[h1,ai]at g1;subst g1;exact g3
 ·have:=F.lam j h1 g1 (by omega) h3;omega
theorem Fo.U2 (h:vZ xs i k) (g:vZ xs j k) (qd:i<=j):vZ xs i j:=by
 obtain⟨s,h1,h2,h3⟩:=h;obtain⟨t,g1,g2,g3⟩:=g;exact⟨s,h1,qd,by omega⟩
end
def WJ (xs:List eG) (l:List Int) (r:Int):Prop:=∃m:Nat,r=m/\(∀n:Int,n∈l->∃k:Nat,n=k/\vZ xs m k)/\∀j:Nat,(∀n:Int,n∈l->∃k:Nat,n=k/\vZ xs j k)->j<=m
def vv (xs:List eG) (n:Int):Prop:=0<=n/\n<xs.length
def Mt (xs:List eG) (l:List Int) (r:Int):Prop:=((l=[]∨∃n,n∈l/\¬vv xs n)/\r= -1)∨((l≠[]/\∀n,n∈l->vv xs n)/\WJ xs l r)
theorem Mt.bad {xs:List eG} {l:List Int} {r:Int} (h:Mt xs l r) (hb:l=[]∨∃n,n∈l/\¬vv xs n):r= -1:=by
 rcases h with⟨_,h⟩ | ⟨⟨h1,h2⟩,_⟩
 ·exact h
 ·rcases hb with hb | ⟨n,hn,hh⟩
  ·exact absurd hb h1
  ·exact absurd (h2 n hn) hh
theorem Mt.U3 {xs:List eG} {l:List Int} {r:Int} (h:Mt xs l r) (h1:l≠[]) (h2:∀n,n∈l->vv xs n):WJ xs l r:=by
 rcases h with⟨hb | ⟨n,hn,hh⟩,_⟩ | ⟨_,h⟩
 ·exact absurd hb h1
 ·exact absurd (h2 n hn) hh
 ·exact h
theorem WJ.QL {xs:List eG} {l m:List Int} {r q:Int} (h:WJ xs l r) (g:WJ xs m q) (he:∀n,n∈l↔n∈m):r=q:=by
 obtain⟨a,rfl,h1,h2⟩:=h;obtain⟨b,rfl,g1,g2⟩:=g;have e1:=g2 a fun n hn=>h1 n ((he n).2 hn);have e2:=h2 b fun n hn=>g1 n ((he n).1 hn);omega
theorem Mt.QL {xs:List eG} {l m:List Int} {r q:Int} (h:Mt xs l r) (g:Mt xs m q) (he:∀n,n∈l↔n∈m):r=q:=by
 rcases h with⟨hb,rfl⟩ | ⟨⟨h1,h2⟩,h3⟩
 ·refine(g.bad ?_).symm;rcases hb with rfl | ⟨n,hn,hh⟩
  ·exact .inl (JN.2 fun n hn=>by simpa using(he n).2 hn)
  ·exact .inr ⟨n,(he n).1 hn,hh⟩
 ·refine h3.QL (g.U3 (fun e=>?_) fun n hn=>h2 n ((he n).2 hn)) he;subst e;exact h1 (JN.2 fun n hn=>by simpa using(he n).1 hn)
theorem Mt.neg {xs:List eG} {l:List Int} {r:Int} (h:Mt xs l r):r<0↔(l=[]∨∃n,n∈l/\¬vv xs n):=by
 refine⟨fun hr=>?_,fun hb=>by rw[h.bad hb];omega⟩;rcases h with⟨hb,_⟩ | ⟨_,m,rfl,_⟩
 ·exact hb
 ·omega
abbrev Ft:=Int×Int
def mP (f:Ft) (L:List Ft):Ft:=L.foldl (fun f p=>if f.1=0 then p else f) f
def bad (ok:Bool) (e a:Int):List Ft:=if ok then[]else[(e,a)]
theorem gQ (f:Ft) (L M:List Ft):mP f (L++M)=mP (mP f L) M:=Gb
theorem LX {f:Ft} (h:f.1≠0):∀L,mP f L=f
 | []=>rfl
 | p::L=>by
  show mP (if f.1=0 then p else f) L=f;rw[if_neg h];exact LX h L
def Cd (L:List Ft):Prop:=∀p,p∈L->p.1≠0
theorem Cd.nil:Cd []:=fun p h=>by simp at h
theorem Cd.oT {L M:List Ft} (h:Cd L) (g:Cd M):Cd (L++M):=fun p hp=>(bJ.1 hp).elim (h p) (g p)
theorem Cd.bad {ok:Bool} {e a:Int} (h:e≠0):Cd (bad ok e a):=fun p hp=>by
 unfold Con.bad at hp;split at hp
 ·simp at hp
 ·simp only[ae]at hp;subst hp;exact h
theorem Cd.flat {α:Type} {f:α->List Ft} (h:∀x,Cd (f x)) (l:List α):Cd (l.flatMap f):=fun p hp=>by
 obtain⟨x,_,hx⟩:=List.mem_flatMap.1 hp;exact h x p hx
theorem C1 {L:List Ft} (hL:Cd L) (h:(mP (0,0) L).1=0):L=[]:=by
 cases L with
 | nil=>rfl
 | cons p L=>
  have hp:=hL p (by simp);have e:mP (0,0) (p::L)=mP p L:=rfl;rw[e,LX hp]at h;exact absurd h hp
theorem qE {ok:Bool} {e a:Int}:bad ok e a=[]↔ok=true:=by
 unfold bad;cases ok<;>simp
theorem Hg (f:Ft) (ok:Bool) (e a:Int):mP f (bad ok e a)=if(!ok&&f.1==0)=true then(e,a)else f:=by
 unfold bad;cases ok
 ·by_cases h:f.1=0
  ·simp[mP,h]
  ·simp[mP,h]
 ·simp[mP]
def dM (xs:List eG) (s:List UInt8):Int:=if oP s (xs.map fun x:eG=>x.nm)<xs.length then(oP s (xs.map fun x:eG=>x.nm):Nat)else -1
def pM (xs:List eG) (n:Int):Int:=match xs[n.toNat]? with
 | some x=>x.k
 | none=>0
def I6 (xs:List eG) (n:Int):Int:=match xs[n.toNat]? with
 | some x=>x.pa
 | none=>0
def WK (xs:List eG) (s:List UInt8):Bool:=decide (0<=dM xs s)&&!gW (pM xs (dM xs s))
def Uf (xs:List eG) (b a:Nat):Bool:=match xs[b]? with
 | some s=>decide (b<=a)&&decide ((a:Int)<s.en)
 | none=>false
def uj (xs:List eG) (b a:Int):Bool:=decide (0<=b/\0<=a)&&Uf xs b.toNat a.toNat
def LY (xs:List eG) (a b:Int):Bool:=decide (a≠b)&&uj xs b a
def C2 (xs:List eG) (a b:Int):Nat->Int
 | 0=> -1
 | m+1=>if(uj xs m a&&uj xs m b)=true then m else C2 xs a b m
def C3 (xs:List eG) (a b:Int):Int:=C2 xs a b xs.length
def L0 (xs:List eG) (a b:Int):Bool:=decide (C3 xs a b≠a/\C3 xs a b≠b)&&decide (pM xs (C3 xs a b)=2)
def L1 (xs:List eG) (s:List UInt8):Int:=if gW (pM xs (dM xs s))then I6 xs (dM xs s)else dM xs s
def P9 (xs:List eG):List Int->List (List UInt8)->Bool
 | _,[]=>true
 | l,s::r=>if dM xs s<1 then false else if(l.any fun o=>!L0 xs (L1 xs s) o)then false else P9 xs (l++[L1 xs s]) r
mutual
def AX:Nd->List (List UInt8×Int)
 | .mk b l=>(b.nm,b.a)::sW l
def sW:List Nd->List (List UInt8×Int)
 | []=>[]
 | x::l=>AX x++sW l
end
def uU:List (List UInt8)->List (List UInt8×Int)->List Ft
 | _,[]=>[]
 | l,p::r=>bad (!decide (p.1∈l)) 24 p.2++uU (l++[p.1]) r
theorem AY:∀(p q:List (List UInt8×Int)) (l:List (List UInt8)),uU l (p++q)=uU l p++uU (l++p.map fun x=>x.1) q
 | [],q,l=>by rw[aV,uU,aV,ep,aN]
 | x::p,q,l=>by rw[bc,uU,uU,AY p q,av,aI,av];rfl
theorem Hh:∀l m:List Nd,sW (l++m)=sW l++sW m
 | [],m=>by rw[aV,sW,aV]
 | x::l,m=>by rw[bc,sW,sW,Hh l m,av]
mutual
theorem L2 (a:Nat) (pa dp:Int):∀x,(zl a pa dp x).map (fun s:eG=>s.nm)=(AX x).map fun p=>p.1
 | .mk b l=>by rw[zl,AX,aI,aI,Fa]
theorem Fa (a:Nat) (pa dp:Int):∀l,(pb a pa dp l).map (fun s:eG=>s.nm)=(sW l).map fun p=>p.1
 | []=>by rw[pb,sW];rfl
 | x::l=>by rw[pb,sW,cq,cq,L2,Fa]
end
theorem Qa (x:List Nd):(sW x).length=dj x:=by
 have:=aU List.length (Fa 0 0 0 x);rw[aQ,aQ,sU]at this;exact this.symm
theorem Fb:∀(p:List (List UInt8×Int)) (l:List (List UInt8)),Cd (uU l p)
 | [],l=>Cd.nil
 | x::p,l=>Cd.oT (Cd.bad (by decide)) (Fb p _)
section
variable (xs:List eG) (vs:List (List UInt8))
def Oq (k:Int) (s:List UInt8):Bool:=(decide (k≠2)||decide (s∈vs))&&(decide (k≠3)||WK xs s)
mutual
def Ot:Ex->List Ft
 | .mk k n s op l a=>bad (Oq xs vs k s) 23 a++qT l
def qT:List Ex->List Ft
 | []=>[]
 | x::l=>Ot x++qT l
end
theorem Ug (x:Ex):Ot xs vs x=bad (Oq xs vs x.k x.s) 23 x.a++qT xs vs x.cX:=by cases x;rw[Ot];rfl
theorem C4:∀l m:List Ex,qT xs vs (l++m)=qT xs vs l++qT xs vs m
 | [],m=>by rw[aV,qT,aV]
 | x::l,m=>by rw[bc,qT,qT,C4 l m,av]
def acF (a:Ac):List Ft:=bad (decide (a.k≠1)||decide (a.n∈vs)) 23 a.a++Ot xs vs a.x
def qU (l:List Ac):List Ft:=l.flatMap (acF xs vs)
def L3 (m:Mv):Bool:=(m.k !=3)||(decide (m.wt>0)&&decide (m.wt<=1099511627776))
def Fc (m:Mv):List Ft:=bad (L3 m) 28 m.a++(Ot xs vs m.g++(qU xs vs m.acts++bad (P9 xs [] m.tg) 27 m.a))
def Fe (l:List Nd):Nat:=(l.filter fun x=>!gW x.b.k).length
def xB (s:List UInt8) (l:List Nd):Bool:=l.any fun x=>decide (x.b.nm=s)
def vw (b:Nb) (l:List Nd) (at_:Nat):List Ft:=
 if gW b.k then bad (WK xs b.dft&&LY xs (dM xs b.dft) (I6 xs at_)) 26 b.a
 else if b.k=2 then bad (decide (b.ini=[])&&decide (1<Fe l)) 25 b.a
 else if 0<Fe l then bad (xB b.ini l) 25 b.a
 else bad (decide (b.ini=[])) 25 b.a++bad (decide (l.length=0)) 26 b.a
mutual
def Eh:Nat->Nd->List Ft
 | n,.mk b l=>vw xs b l n++(qU xs vs (b.en++b.lv)++(b.mv.flatMap (Fc xs vs)++li (n+1) l))
def li:Nat->List Nd->List Ft
 | _,[]=>[]
 | n,x::l=>Eh n x++li (n+iB x) l
end
theorem C5:∀(l m:List Nd) (n:Nat),li xs vs n (l++m)=li xs vs n l++li xs vs (n+dj l) m
 | [],m,n=>by rw[aV,li,aV,dj,db]
 | x::l,m,n=>by rw[bc,li,li,C5 l m,av,dj,cb]
mutual
theorem Ff:∀x,Cd (Ot xs vs x)
 | .mk k n s op l a=>by rw[Ot];exact Cd.oT (Cd.bad (by decide)) (Hi l)
theorem Hi:∀l,Cd (qT xs vs l)
 | []=>by rw[qT];exact Cd.nil
 | x::l=>by rw[qT];exact Cd.oT (Ff x) (Hi l)
end
theorem Uh (a:Ac):Cd (acF xs vs a):=Cd.oT (Cd.bad (by decide)) (Ff xs vs a.x)
theorem Hj (l:List Ac):Cd (qU xs vs l):=Cd.flat (Uh xs vs) l
theorem Ui (m:Mv):Cd (Fc xs vs m):=Cd.oT (Cd.bad (by decide)) (Cd.oT (Ff xs vs _) (Cd.oT (Hj xs vs _) (Cd.bad (by decide))))
theorem Uj (b:Nb) (l:List Nd) (n:Nat):Cd (vw xs b l n):=by
 unfold vw;split
 ·exact Cd.bad (by decide)
 ·split
  ·exact Cd.bad (by decide)
  ·split
   ·exact Cd.bad (by decide)
   ·exact Cd.oT (Cd.bad (by decide)) (Cd.bad (by decide))
mutual
theorem L4:∀(n:Nat) (x:Nd),Cd (Eh xs vs n x)
 | n,.mk b l=>by rw[Eh];exact Cd.oT (Uj xs b l n) (Cd.oT (Hj xs vs _) (Cd.oT (Cd.flat (Ui xs vs) _) (Hk (n+1) l)))
theorem Hk:∀(n:Nat) (l:List Nd),Cd (li xs vs n l)
 | n,[]=>by rw[li];exact Cd.nil
 | n,x::l=>by rw[li];exact Cd.oT (L4 n x) (Hk _ l)
end
end
def C6 (c:Ch):List (List UInt8):=c.vars.map fun v=>v.n
def rm (c:Ch):List Ft:=uU [] (AX c.root)++(uU [] (c.vars.map fun v=>(v.n,v.a))++Eh (ji c) (C6 c) 0 c.root)
theorem C7 (c:Ch):Cd (rm c):=Cd.oT (Fb _ _) (Cd.oT (Fb _ _) (L4 _ _ _ _))
theorem Hl {s:List UInt8}:∀{l:List (List UInt8)},oP s l<l.length->l[oP s l]? =some s
 | [],h=>by simp at h
 | x::l,h=>by
  rw[oP]at h⊢;split
  ·rename_i e;rw[e];rfl
  ·rename_i e;rw[if_neg e,ao]at h;rw[bQ];exact Hl (by omega)
theorem lj {s:List UInt8}:∀{l:List (List UInt8)},oP s l<l.length↔s∈l
 | []=>by simp
 | x::l=>by
  rw[oP,ak,ao];split
  ·rename_i e;exact⟨fun _=>.inl e,fun _=>by omega⟩
  ·rename_i e;have:=lj (s:=s) (l:=l);exact⟨fun h=>.inr (this.1 (by omega)),fun h=>by have:=this.2 (h.resolve_left e);omega⟩
theorem Hm {s:List UInt8} (m:List (List UInt8)):∀{l:List (List UInt8)},s∈l->oP s (l++m)=oP s l
 | [],h=>by simp at h
 | x::l,h=>by
  rw[bc,oP,oP];split
  ·rfl
  ·rename_i e;rw[Hm m ((ak.1 h).resolve_left e)]
theorem AZ {s:List UInt8} (m:List (List UInt8)):∀{l:List (List UInt8)},s∉l->oP s (l++s::m)=l.length
 | [],_=>by rw[aV,oP,if_pos rfl];rfl
 | x::l,h=>by
  rw[bc,oP,if_neg (fun e=>h (by rw[e];simp)),AZ m (fun hm=>h (bS _ hm))];rfl
section
variable {xs:List eG} {s:List UInt8}
theorem mC (xs:List eG) (s:List UInt8):(dM xs s= -1/\∀x∈xs,x.nm≠s)∨∃(n:Nat) (x:eG),dM xs s=n/\xs[n]? =some x/\x.nm=s:=by
 unfold dM;split
 ·rename_i h;right;have:=Hl (l:=xs.map fun x:eG=>x.nm) (s:=s) (by rw[aQ];exact h);rw[bD,cY]at this;obtain⟨x,hx,e⟩:=this;exact⟨_,x,rfl,hx,e⟩
 ·rename_i h;refine .inl ⟨rfl,fun x hx e=>h ?_⟩;have:=(lj (s:=s) (l:=xs.map fun x:eG=>x.nm)).2 (fM.2 ⟨x,hx,e⟩);rwa[aQ]at this
theorem lS {n:Nat} {x:eG} (h:xs[n]? =some x):pM xs n=x.k:=by unfold pM;rw[az,h]
theorem pN {n:Nat} {x:eG} (h:xs[n]? =some x):I6 xs n=x.pa:=by unfold I6;rw[az,h]
theorem L5 {b a:Nat}:Uf xs b a=true↔vZ xs b a:=by
 unfold Uf vZ;cases h:xs[b]? with
 | none=>simp
 | some s=>simp
theorem xC {b a:Int}:uj xs b a=true↔∃i j:Nat,b=i/\a=j/\vZ xs i j:=by
 unfold uj;rw[ab,dv,L5];constructor
 ·rintro⟨⟨h1,h2⟩,h⟩;exact⟨_,_,(dT h1).symm,(dT h2).symm,h⟩
 ·rintro⟨i,j,rfl,rfl,h⟩;rw[az,az];exact⟨⟨by omega,by omega⟩,h⟩
theorem C8 {a b:Int}:LY xs a b=true↔∃i j:Nat,b=i/\a=j/\i<j/\vZ xs i j:=by
 unfold LY;rw[ab,dv,xC];constructor
 ·rintro⟨hn,i,j,rfl,rfl,h⟩;have:=h;obtain⟨_,_,tH,_⟩:=this;exact⟨i,j,rfl,rfl,by omega,h⟩
 ·rintro⟨i,j,rfl,rfl,h,hc⟩;exact⟨by omega,i,j,rfl,rfl,hc⟩
theorem zm (a b:Int):∀n:Nat,(C2 xs a b n= -1/\∀m,m<n->(uj xs m a&&uj xs m b)=false)∨∃m:Nat,C2 xs a b n=m/\m<n/\(uj xs m a&&uj xs m b)=true/\∀j,m<j->j<n->(uj xs j a&&uj xs j b)=false
 | 0=>.inl ⟨rfl,fun m h=>by omega⟩
 | n+1=>by
  rw[C2];split
  ·rename_i h;exact .inr ⟨n,rfl,by omega,h,fun j h1 h2=>by omega⟩
  ·rename_i h;rw[nW]at h;rcases zm a b n with⟨h1,h2⟩ | ⟨m,h1,h2,h3,h4⟩
   ·exact .inl ⟨h1,fun m hm=>if e:m=n then by rw[e];exact h else h2 m (by omega)⟩
   ·exact .inr ⟨m,h1,by omega,h3,fun j g1 g2=>if e:j=n then by rw[e];exact h else h4 j g1 (by omega)⟩
theorem Fo.QS (F:Fo xs) {a b r:Int} (h:Mt xs [a,b] r) (ha:vv xs a) (hb:vv xs b):r=C3 xs a b:=by
 have hg:∀n,n∈[a,b]->vv xs n:=fun n hn=>by
  simp only[ak,aw,bf]at hn;rcases hn with rfl | rfl
  ·exact ha
  ·exact hb
 obtain⟨m,rfl,t1,t2⟩:=h.U3 (by simp) hg;have both:∀j:Nat,(uj xs j a&&uj xs j b)=true↔∀n:Int,n∈[a,b]->∃k:Nat,n=k/\vZ xs j k:=fun j=>by
  rw[ab,xC,xC];constructor
  ·rintro⟨⟨i,k,e,rfl,h1⟩,⟨i',k',e',rfl,h2⟩⟩ n hn;simp only[ak,aw,bf]at hn;have ei:j=i:=by omega
   have ei':j=i':=by omega
   subst ei ei';rcases hn with rfl | rfl
   ·exact⟨k,rfl,h1⟩
   ·exact⟨k',rfl,h2⟩
  ·intro h;obtain⟨k,e,h1⟩:=h a (by simp);obtain⟨k',e',h2⟩:=h b (by simp);exact⟨⟨j,k,rfl,e,h1⟩,⟨j,k',rfl,e',h2⟩⟩
 have hm:=(both m).2 t1;have Ka:m<xs.length:=by
  obtain⟨k,_,s,hs,_⟩:=t1 a (by simp);exact pK hs
 unfold C3;rcases zm (xs:=xs) a b xs.length with⟨_,h2⟩ | ⟨q,h1,h2,h3,h4⟩
 ·rw[h2 m Ka]at hm;cases hm
 ·have:=t2 q ((both q).1 h3);by_cases e:q=m
  ·rw[h1,e]
  ·rw[h4 m (by omega) Ka]at hm;cases hm
end
end Go.Proofs.YtmhoiicofhlgbaaGreatDoor.Con
namespace Go.Proofs.YtmhoiicofhlgbaaGreatDoor.Con
open Go Go.RowKit Go.Kt Go.Kt.V Go.Proofs.YtmhoiicofhlgbaaGreatDoor.Vc
set_option linter.unusedSimpArgs false
set_option linter.unusedVariables false
set_option maxHeartbeats 4000000
def ne (l:List UInt8):Bool:=!decide (l=[])
def eB (ws:List (List UInt8)):List UInt8:=Lib.join (ws.filter ne) [32]
theorem Only.below {w w':World} (h:Below w.heap.size w w'):Only [] w w':=⟨h.os,h.tape,h.output,h.size,fun k hk _=>h.block k hk⟩
theorem Fg {w:World} {F:Nat->Prop}:∀{l:List (List UInt8)} {css:List (List Value)},kY jJ 1 w F l css->css.flatten=l.map fun x=>.string (T x)
 | [],[],_=>rfl
 | c::l,d::css,h=>by
  obtain⟨⟨_,h1⟩,h2⟩:=h;unfold jJ at h1;subst h1;rw[bT,Fg h2];rfl
theorem zn (l:List UInt8) (w:World):Calls Tryz.prog 151 #[.string (T l)] w fun e w'=>e=.returned (.bool (decide (l=[])))/\w'=w:=by
 refine ret (afq (T l) (fun v w'=>v=.bool (decide (l=[]))/\w'=w) w ?_);unfold Zg;exact⟨by rw[show ByteArray.mk #[]=T []from rfl,jW],rfl⟩
section
variable {w:World} {B:Nat} {F:Nat->Prop} {s:Sl} {ws:List (List UInt8)}
theorem L6 (h:Own jJ 1 9 B w F s ws):Calls Tryz.prog 216 #[s.v,.func (.func 151) #[] #[]] w fun e w'=>
  ∃i:Int,e=.returned (.int .i64 i)/\w'=w/\((i= -1/\ws.filter ne=ws)∨∃n:Nat,i=n/\n<ws.length/\(ws.take (n+1)).filter ne=ws.take n):=by
 refine(Zf s ⟨.func (.func 151) #[] #[],rfl⟩ (fun v w'=>∃i:Int,v=.int .i64 i/\w'=w/\((i= -1/\ws.filter ne=ws)∨∃n:Nat,i=n/\n<ws.length/\(ws.take (n+1)).filter ne=ws.take n)) w ?_).mono (by
  rintro e w' ⟨v,rfl,i,rfl,h⟩;exact⟨i,rfl,h⟩)
 unfold R4;have hs:=h.slice cL;have dN:=hs.len;have rU:=hs.big;have nT:=hs.cap;refine⟨fun nv i w'=>∃n:Nat,n<=ws.length/\i=(n:Int)/\nv=ws.length-n/\(ws.take n).filter ne=ws.take n/\w'=w,ws.length,⟨0,aF _,rfl,rfl,rfl,rfl⟩,?_⟩;rintro nv _ w0 ⟨n,hn,rfl,rfl,ij,rfl⟩;refine⟨fun hc=>?_,fun hc=>?_⟩
 ·have bp:(n:Int)<s.n:=aj hc;obtain⟨ad,x,cs,g1,g2,g3,g4,g5,g6⟩:=hs.get (aG n) bp;rw[az]at g2;unfold jJ at g6;subst g6;have ht:ws.take (n+1)=ws.take n++[x]:=by
   rw[aY,g2];rfl
  refine⟨ad,g1,_,g5,151,[],[],rfl,gr (by kernel_rfl),?_⟩;refine(zn x w0).mono ?_;rintro _ w1 ⟨rfl,rfl⟩;refine⟨_,rfl,fun hb=>⟨_,rfl,rfl,.inr ⟨n,rfl,by omega,?_⟩⟩,fun hb=>⟨ws.length-(n+1),by omega,n+1,by omega,by rw[gV (by omega) (by omega)];rfl,rfl,?_,rfl⟩⟩
  ·have hb:x=[]:=aj hb;rw[ht,iV,ij,hb];simp[ne]
  ·have hb:x≠[]:=ar hb;rw[ht,iV,ij];simp[ne,hb]
 ·have yg:¬(n:Int)<s.n:=ar hc;rw[aO (by omega)]at ij;exact⟨_,rfl,rfl,.inl ⟨rfl,ij⟩⟩
theorem I7 (h:Own jJ 1 9 B w F s ws):Calls Tryz.prog 150 #[s.v,.func (.func 151) #[] #[]] w fun e w'=>
  ∃s':Sl,e=.returned s'.v/\Own jJ 1 9 B w' F s' (ws.filter ne)/\OnlyP (fun k=>B<=k) w w':=by
 refine(afp s ⟨.func (.func 151) #[] #[],rfl⟩ (fun v w'=>∃s':Sl,v=s'.v/\Own jJ 1 9 B w' F s' (ws.filter ne)/\OnlyP (fun k=>B<=k) w w') w ?_).mono (by
  rintro e w' ⟨v,rfl,s',rfl,h⟩;exact⟨s',rfl,h⟩)
 unfold Ze;have dN:=h.len;have nT:=h.cap;have rU:=(h.slice cL).big;refine(L6 h).mono ?_;rintro _ w0 ⟨i,rfl,rfl,hi⟩;refine⟨i,rfl,fun hc=>?_,fun hc=>?_⟩
 ·rcases hi with⟨_,hf⟩ | ⟨n,rfl,hn,hf⟩
  ·rw[hf];exact⟨s,rfl,h,OnlyP.refl _ _⟩
  ·have:(n:Int)= -1:=eq_of_beq hc;omega
 rcases hi with⟨rfl,_⟩ | ⟨n,rfl,hn,hf⟩
 ·exact absurd hc (by decide)
 refine⟨fun nv a b w'=>∃(L:List (List UInt8)) (p q:Nat),a=p/\b=q/\p<q/\q<=ws.length/\nv=ws.length-q/\L.length=ws.length/\L.take p=(ws.take q).filter ne/\L.drop q=ws.drop q/\Own jJ 1 9 B w' F s L/\OnlyP (fun k=>B<=k) w0 w',
  ws.length-(n+1),⟨ws,n,n+1,rfl,by rw[gV (by omega) (by omega)];rfl,by omega,by omega,rfl,rfl,hf.symm,rfl,h,OnlyP.refl _ _⟩,?_⟩
 rintro nv _ _ w1 ⟨L,p,q,rfl,rfl,hpq,hq,rfl,hL,ht,hd,hO,hP⟩;refine⟨fun hc=>?_,fun hc=>?_⟩
 ·have bp:(q:Int)<s.n:=aj hc;have hq':q<ws.length:=by omega
  obtain⟨ad,x,cs,g1,g2,g3,g4,g5,g6⟩:=(hO.slice cL).get (aG q) bp;rw[az]at g2;unfold jJ at g6;subst g6;have hx:ws[q]? =some x:=by
   rw[<-g2];have e1:=aU (fun l=>l[0]?) hd;simpa using e1.symm
  have hw:ws.take (q+1)=ws.take q++[x]:=by
   rw[aY,hx];rfl
  have hdn:∀M:List (List UInt8),(∀j,q+1<=j->M[j]? =L[j]?)->M.drop (q+1)=ws.drop (q+1):=fun M hM=>by
   apply gJ;intro j;rw[iT,iT,hM _ (by omega)];have e1:=aU (fun l=>l[1+j]?) hd;simp only[iT]at e1;rw[show q+1+j=q+(1+j) by omega];exact e1
  refine⟨fun j w2=>∃(M:List (List UInt8)) (p':Nat),j=p'/\p'<q+1/\M.length=ws.length/\M.take p'=(ws.take (q+1)).filter ne/\M.drop (q+1)=ws.drop (q+1)/\Own jJ 1 9 B w2 F s M/\OnlyP (fun k=>B<=k) w0 w2,?_,ad,g1,_,g5,151,[],[],rfl,gr (by kernel_rfl),?_⟩
  ·rintro _ w2 ⟨M,p',rfl,m1,m2,m3,m4,m5,m6⟩;exact⟨ws.length-(q+1),by omega,M,p',q+1,rfl,by rw[gV (by omega) (by omega)];rfl,m1,hq',rfl,m2,m3,m4,m5,m6⟩
  refine(zn x w1).mono ?_;rintro _ w2 ⟨rfl,rfl⟩;refine⟨_,rfl,fun hb=>?_,fun hb=>?_⟩
  ·have hb:x≠[]:=by simpa using hb
   obtain⟨g,cells,b1,b2,b3,b4,b5⟩:=hO.store cL (n:=p) (by omega) (x:=x) (vs:=[.string (T x)]) (G:=fun _=>False) rfl rfl (fun k hk=>hk.elim) (by decide);refine⟨⟨g,p*1,none⟩,b2,g,p*1,cells,_,rfl,b3,b4,fun w3 cU wk=>⟨L.set p x,p+1,by rw[gV (by omega) (by omega)];rfl,by omega,by rw[oX];exact hL,?_,hdn _ fun j hj=>by rw[yP (by omega)],b5 w3 cU wk,hP.trans (cU.p (F:=fun k=>B<=k) fun k hk=>.inl ?_) fun k hk=>.inl hk⟩⟩
   ·rw[hw,iV,<-ht,aY,List.getElem?_set_self (by omega),List.take_set_of_le (by omega)];simp[ne,hb]
   ·simp only[ae]at hk;subst hk;rcases hO with⟨rfl,_⟩ | ⟨g',_,_,a1,a2,_⟩
    ·cases b1
    ·rw[a1]at b1;injection b1 with b1;injection b1 with b1;omega
  ·have hb:x=[]:=by simpa using hb
   refine⟨L,p,rfl,by omega,hL,?_,hdn _ fun j _=>rfl,hO,hP⟩;rw[hw,iV,<-ht,hb];simp[ne]
 ·have yg:¬(q:Int)<s.n:=ar hc;have hqe:q=ws.length:=by omega
  subst hqe;rw[aO (aq _)]at ht;obtain⟨w2,g,c1,c2,c3,c4⟩:=Own.clear (P:=Tryz.prog) (t:=52) (ty:=0) (i:=p) cL (by decide) (by kernel_rfl) (fun w=>Tryz.zeroValue9 w) (by intro v hv;simp[Value.cells]at hv;subst hv;rfl) rfl hO (by omega);refine⟨p,⟨rfl,by omega,nT⟩,w2,c1,p,⟨rfl,by omega⟩,_,rfl,?_,hP.trans (c3.p (F:=fun k=>B<=k) fun k hk=>.inl ?_) fun k hk=>.inl hk⟩
  ·rw[<-ht];exact c4
  ·simp only[ae]at hk;subst hk;rcases hO with⟨rfl,_⟩ | ⟨g',_,_,a1,a2,_⟩
   ·cases c2
   ·rw[a1]at c2;injection c2 with c2;injection c2 with c2;omega
theorem xD (h:Own jJ 1 9 B w F s ws) (hl:(eB ws).length<=140737488355328) (hn:ws.length<=140737488355328):Calls Tryz.prog 84 #[s.v] w fun e w'=>e=.returned (.string (T (eB ws)))/\OnlyP (fun k=>B<=k) w w':=by
 refine ret (afo s (fun v w'=>v=.string (T (eB ws))/\OnlyP (fun k=>B<=k) w w') w ?_);unfold Zd;refine(I7 h).mono ?_;rintro _ w1 ⟨s',rfl,hO,hP⟩;refine⟨s',rfl,?_⟩;have dN:=hO.len;have tH:=List.length_filter_le ne ws;have Q8:∀{w2:World},Only [] w1 w2->OnlyP (fun k=>B<=k) w w2:=fun h=>hP.trans h.p0 fun k hk=>.inl hk;rcases hO with⟨rfl,he⟩ | ⟨g,css,tail,a1,a2,a4,a5,a6,a7,a9,a8⟩
 ·refine(Tryz.strings_Join_none none 0 (T [32]) w1).mono ?_;rintro _ w2 ⟨rfl,rfl⟩;refine⟨_,rfl,?_,hP⟩;unfold eB;rw[he];rfl
 ·obtain⟨sa,sn,sc⟩:=s';dsimp only at a1 a5 a6 a7 a9 dN;subst a1 dN;have QW:=Fg a8;have:=Tryz.strings_Join g 0 sc ((ws.filter ne).map T) (T [32]) w1 (fun j x hj=>by
   rw[bD,cY]at hj;obtain⟨y,hy,rfl⟩:=hj;have:=a4.cells 0 ((ws.filter ne).map fun x=>Value.string (T x)) (fun j v hj=>by rw[aJ,QW,aR (au.1 hj).1];exact hj) j (.string (T y)) (by rw[bD,hy];rfl);rw[eV]at this;exact this) a4.lt (by rw[aQ];omega) (by rw[aQ];omega) (by
   rw[fN];have:((fun x:ByteArray=>x.data.toList)∘T)=id:=rfl;rw[this,JP];exact hl)
  rw[aQ]at this;refine this.mono ?_;rintro _ w2 ⟨rfl,hB⟩;refine⟨_,rfl,?_,Q8 (Only.below hB)⟩;rw[fN];have:((fun x:ByteArray=>x.data.toList)∘T)=id:=rfl;rw[this,JP];rfl
end
theorem zo (w:World) (ws:List (List UInt8)) {n:Nat} {parts:Array (Nat×Value)} (hp:parts=(((ws.map fun x=>Value.string (T x)).zipIdx 0).map fun x=>(x.2,x.1)).toArray) (hn:ws.length=n) (h0:0<n) (zK:n*1<=16777216) (hl:(eB ws).length<=140737488355328):
  ∃(q:Sl) (w0:World),(Instr.buildSlice 52 n parts).run Tryz.prog w=.ok q.v w0/\Only [] w w0/\Own jJ 1 9 w.heap.size w0 (fun _=>True) q ws/\Calls Tryz.prog 84 #[q.v] w0 fun e w'=>e=.returned (.string (T (eB ws)))/\OnlyP (fun k=>w.heap.size<=k) w0 w':=by
 obtain⟨q,w0,k1,k2,k3⟩:=lI w ws hp hn h0 zK;exact⟨q,w0,k1,k3,k2,xD k2 hl (by omega)⟩
theorem fY:∀(ws:List (List UInt8)),(eB ws).length<=(ws.map fun l=>l.length+1).sum:=by
 have h1:∀(r:List (List UInt8)),(Lib.joinTail [32] r).length=(r.map fun l=>l.length+1).sum:=fun r=>by
  induction r with
  | nil=>rfl
  | cons x r ih=>
   unfold Lib.joinTail at ih⊢;rw[aI,bT,ah,ih,aI,bd];simp
 have h2:∀(r:List (List UInt8)),(Lib.join r [32]).length<=(r.map fun l=>l.length+1).sum:=fun r=>by
  cases r with
  | nil=>exact aF _
  | cons x r=>
   rw[Lib.join_cons,ah,h1,aI,bd];omega
 have h3:∀(r:List (List UInt8)),((r.filter ne).map fun l=>l.length+1).sum<=(r.map fun l=>l.length+1).sum:=fun r=>by
  induction r with
  | nil=>exact aq _
  | cons x r ih=>
   rw[nX,aI,bd];split
   ·rw[aI,bd];omega
   ·omega
 exact fun ws=>ay (h2 _) (h3 ws)
structure Fz (bs:List Nat) (w w':World) (ks:List Nat):Prop where
 o:Only bs w w'
 k:∀x,x∈ks->w.heap.size<=x/\x<w'.heap.size
 lo:∀x,x∈bs->x<w.heap.size
section
variable {bs bs' ks ks':List Nat} {w w1 w2 w':World} {k0 b:Nat}
theorem Fz.start (lo:∀x,x∈bs->x<w.heap.size):Fz bs w w []:=⟨Only.refl _ _,fun _ h=>(by cases h),lo⟩
theorem Fz.go (h:Fz bs w w1 ks) (k:Only bs' w1 w2) (hb:∀x,x∈bs'->x∈bs∨x∈ks):Fz bs w w2 ks:=
 ⟨h.o.trans k fun x hx=>(hb x hx).imp id fun hk=>(h.k x hk).1,fun x hx=>⟨(h.k x hx).1,bC (h.k x hx).2 k.size⟩,h.lo⟩
theorem Fz.new (h:Fz bs w w1 ks) (k:Only bs' w1 w2) (hb:∀x,x∈bs'->x∈bs∨w.heap.size<=x):Fz bs w w2 ks:=
 ⟨h.o.trans k hb,fun x hx=>⟨(h.k x hx).1,bC (h.k x hx).2 k.size⟩,h.lo⟩
theorem Fz.q (h:Fz bs w w1 ks) (k:Only [] w1 w2):Fz bs w w2 ks:=h.go k fun x hx=>(by cases hx)
theorem Fz.c (h:Fz (b::bs) w w1 ks) (k:Only [b] w1 w2):Fz (b::bs) w w2 ks:=h.go k fun x hx=>.inl (by simp only[ae]at hx;simp[hx])
theorem Fz.f (h:Fz bs w w1 ks) (k:Only [k0] w1 w2) (hk:k0∈ks):Fz bs w w2 ks:=h.go k fun x hx=>.inr (by simp only[ae]at hx;rw[hx];exact hk)
theorem Fz.al (h:Fz bs w w1 ks) (k:Only [] w1 w2) (h1:w1.heap.size<=k0) (h2:k0<w2.heap.size):Fz bs w w2 (k0::ks):=
 ⟨(h.q k).o,fun x hx=>by
  rcases ak.1 hx with rfl | hx
  ·exact⟨ay h.o.size h1,h2⟩
  ·exact(h.q k).k x hx,h.lo⟩
theorem Fz.sm (h:Fz bs w w1 ks) (k:Only bs' w1 w2) (hk:∀x,x∈ks'->x∈ks) (hb:∀x,x∈bs'->x∈bs∨∀y,y∈ks'->y≠x):aD ks' w1 w2:=k.same fun x hx=>
 ⟨(h.k x (hk x hx)).2,fun hm=>by
  rcases hb x hm with h1 | h1
  ·have:=(h.k x (hk x hx)).1;have:=h.lo x h1;omega
  ·exact h1 x hx rfl⟩
theorem Fz.sq (h:Fz bs w w1 ks) (k:Only [] w1 w2) (hk:∀x,x∈ks'->x∈ks):aD ks' w1 w2:=h.sm k hk fun x hx=>(by cases hx)
theorem Fz.sc (h:Fz (b::bs) w w1 ks) (k:Only [b] w1 w2) (hk:∀x,x∈ks'->x∈ks):aD ks' w1 w2:=h.sm k hk fun x hx=>.inl (by simp only[ae]at hx;simp[hx])
theorem Fz.ne (h:Fz bs w w1 ks) (hk:k0∈ks) (hb:b∈bs):k0≠b:=fun e=>by
 have:=(h.k k0 hk).1;have:=h.lo b hb;omega
end
section
variable {α:Type} {r:Rp α} {w w1 w':World} {x:α} {cs:List Value} {B:Nat}
structure Stay (B:Nat) (w w':World):Prop where
 sz:w.heap.size<=w'.heap.size
 eq:∀k,B<=k->k<w.heap.size->w'.heap[k]? =w.heap[k]?
theorem Stay.refl (B:Nat) (w:World):Stay B w w:=⟨aq _,fun _ _ _=>rfl⟩
theorem Stay.go {bs:List Nat} (h:Stay B w w1) (k:Only bs w1 w') (hb:∀x,x∈bs->x<B∨w.heap.size<=x):Stay B w w':=
 ⟨ay h.sz k.size,fun i h1 h2=>(k.block i (bC h2 h.sz) fun hm=>by have:=hb i hm;omega).trans (h.eq i h1 h2)⟩
theorem Stay.of {bs:List Nat} (k:Only bs w w') (hb:∀x,x∈bs->x<B∨w.heap.size<=x):Stay B w w':=(Stay.refl B w).go k hb
theorem _root_.Go.Kt.Rp.Ok.stay (hr:r.Ok) (h:r w (Fr B) x cs) (hs:Stay B w w'):r w' (Fr B) x cs:=
 hr.mono (hr.keep (hr.inHeap h) fun k hk bp=>hs.eq k hk.1 bp) fun k hk=>hk.1
theorem _root_.Go.Kt.Rp.Ok.low (hr:r.Ok) (h:r w (Fr B) x cs) {A:Nat} (hA:A<=B):r w (Fr A) x cs:=hr.mono h fun k hk=>ay hA hk
variable {size:Nat} {e:TypeId} {s:Sl} {xs:List α} {t:Bool}
theorem gH.stay (hr:r.Ok) (h:gH t r size e w (Fr B) s xs) (h0:0<size) (hs:Stay B w w'):gH t r size e w' (Fr B) s xs:=
 ((h.inHeap hr h0).keep hr h0 fun k hk bp=>hs.eq k hk.1 bp).mono hr fun k hk=>hk.1
theorem gH.low (hr:r.Ok) (h:gH t r size e w (Fr B) s xs) {A:Nat} (hA:A<=B):gH t r size e w (Fr A) s xs:=h.mono hr fun k hk=>ay hA hk
end
abbrev Sf (l:Sl) (s:Sx):List Value:=[l.v,.int .i64 (s.i:Int),.int .i64 s.fc,.int .i64 s.fa,.int .i64 s.v,.int .i64 s.n,.int .i64 s.d,.int .i64 s.m,.int .i64 s.a]
structure Sr (F:Nat->Prop) (ts:List Tk) (w:World) (b:Nat) (l:Sl) (s:Sx):Prop where
 blk:Blk w b 133 (Sf l s)
 tok:SliceF GM 4 w F l ts
 hF:∀k,F k->k<b
 en:oM ts
 lt:s.i<ts.length
 sm:ts.length<=16777216
abbrev rp (b:Nat):Value:=.pointer (some ⟨b,0,none⟩)
section
variable {F:Nat->Prop} {ts:List Tk} {w w':World} {b:Nat} {l:Sl} {s s':Sx}
theorem Sr.own (h:Sr F ts w b l s) {bs:List Nat} (hO:Only bs w w') (hb:∀x,x∈bs->b<x):Sr F ts w' b l s:=
 ⟨hO.blk h.blk fun hm=>(by have:=hb b hm;omega),SliceF.only hY (by decide) h.tok hO fun k hk _ hm=>(by have:=h.hF k hk;have:=hb k hm;omega),h.hF,h.en,h.lt,h.sm⟩
theorem Sr.far (h:Sr F ts w b l s) {bs:List Nat} (hO:Only bs w w') (hb:∀x,x∈bs->x≠b/\¬F x):Sr F ts w' b l s:=
 ⟨hO.blk h.blk fun hm=>(hb b hm).1 rfl,SliceF.only hY (by decide) h.tok hO fun k hk _ hm=>(hb k hm).2 hk,h.hF,h.en,h.lt,h.sm⟩
theorem Sr.U4 (h:Sr F ts w b l s) {k0:Nat} (hO:Only [k0] w w') (hk:k0≠b/\¬F k0):Sr F ts w' b l s:=h.far hO fun x hx=>(by simp only[ae]at hx;subst hx;exact hk)
theorem Sr.gt (h:Sr F ts w b l s) {x:Nat} (hx:b<x):x≠b/\¬F x:=⟨by omega,fun hF=>by have:=h.hF x hF;omega⟩
theorem Sr.only (h:Sr F ts w b l s) (hO:Only [] w w'):Sr F ts w' b l s:=h.own hO fun x hx=>(by cases hx)
theorem Sr.one (h:Sr F ts w b l s) {k0:Nat} (hO:Only [k0] w w') (hk:b<k0):Sr F ts w' b l s:=h.own hO fun x hx=>(by simp only[ae]at hx;omega)
theorem Sr.lm (h:Sr F ts w b l s) (hO:Only [b] w w') (hB:Blk w' b 133 (Sf l s')) (hi:s'.i<ts.length):Sr F ts w' b l s':=
 ⟨hB,SliceF.only hY (by decide) h.tok hO fun k hk _ hm=>(by have:=h.hF k hk;simp only[ae]at hm;omega),h.hF,h.en,hi,h.sm⟩
theorem Sr.lb (h:Sr F ts w b l s):b<w.heap.size:=h.blk.lt
theorem Sr.z (h:Sr F ts w b l s):Fz [b] w w []:=Fz.start fun x hx=>(by simp only[ae]at hx;rw[hx];exact h.lb)
theorem Sr.big (h:Sr F ts w b l s):ts.length<=9223372036854775807:=by
 have h1:=h.tok.len;have h2:=h.tok.cap;have h3:=h.tok.big;omega
theorem Sr.wr (h:Sr F ts w b l s):IntKind.wrap .i64 ((s.i:Int)+1)=((s.i+1:Nat):Int):=by
 have:=h.big;have:=h.lt;rw[gV (by omega) (by omega)];rfl
theorem Sr.now (h:Sr F ts w b l s):∃ad,cD l (s.i:Int) 4 ad/\aB w ad [.int .i64 (tk ts s.i).k,.string (T (tk ts s.i).t),.int .i64 (tk ts s.i).n,.int .i64 (tk ts s.i).a]:=by
 have hl:=h.tok.len;have bp:=h.lt;obtain⟨ad,x,cs,g1,g2,g3,g4,g5,g6⟩:=h.tok.get (aG s.i) (by omega);rw[az,GR h.lt]at g2;injection g2 with g2;subst g2;unfold GM at g6;subst g6;exact⟨ad,g1,g5⟩
structure Dn (F:Nat->Prop) (ts:List Tk) (w w':World) (b:Nat) (l:Sl) (s:Sx):Prop where
 o:Only [b] w w'
 r:Sr F ts w' b l s
theorem Sr.dn (h:Sr F ts w b l s):Dn F ts w w b l s:=⟨Only.refl _ _,h⟩
theorem Dn.q (h:Dn F ts w w' b l s) {w2:World} (k:Only [] w' w2):Dn F ts w w2 b l s:=⟨h.o.cf k,h.r.only k⟩
theorem Dn.nx (h:Dn F ts w w' b l s) {w2:World} {s':Sx} (k:Dn F ts w' w2 b l s'):Dn F ts w w2 b l s':=⟨h.o.trans k.o fun x hx=>.inl hx,k.r⟩
theorem Dn.f (h:Dn F ts w w' b l s) {w2:World} {k0:Nat} (k:Only [k0] w' w2) (hk:w.heap.size<=k0) (hb:b<w.heap.size):Dn F ts w w2 b l s:=⟨h.o.new k hk,h.r.one k (by omega)⟩
theorem Sr.tk (h:Sr F ts w b l s) {ad:Addr} (g:cD l (s.i:Int) 4 ad):aB w ad [.int .i64 (tk ts s.i).k,.string (T (tk ts s.i).t),.int .i64 (tk ts s.i).n,.int .i64 (tk ts s.i).a]:=by
 obtain⟨Ox,g1,g2⟩:=h.now;rw[g.QL g1];exact g2
structure Zt (F:Nat->Prop) (ts:List Tk) (w w':World) (b:Nat) (l:Sl) (s:Sx) (ks:List Nat):Prop where
 z:Fz [b] w w' ks
 r:Sr F ts w' b l s
section
variable {w2:World} {ks ks':List Nat} {k0:Nat}
theorem Sr.zt (h:Sr F ts w b l s):Zt F ts w w b l s []:=⟨h.z,h⟩
theorem Zt.q (h:Zt F ts w w' b l s ks) (k:Only [] w' w2):Zt F ts w w2 b l s ks:=⟨h.z.q k,h.r.only k⟩
theorem Zt.al (h:Zt F ts w w' b l s ks) (k:Only [] w' w2) (h1:w'.heap.size<=k0) (h2:k0<w2.heap.size):Zt F ts w w2 b l s (k0::ks):=⟨h.z.al k h1 h2,h.r.only k⟩
theorem Zt.ad (h:Zt F ts w w' b l s ks) (h1:w.heap.size<=k0) (h2:k0<w'.heap.size):Zt F ts w w' b l s (k0::ks):=⟨⟨h.z.o,fun x hx=>by
 rcases ak.1 hx with rfl | hx
 ·exact⟨h1,h2⟩
 ·exact h.z.k x hx,h.z.lo⟩,h.r⟩
theorem Zt.lt (h:Zt F ts w w' b l s ks) (hk:k0∈ks):b<k0:=bC (h.z.lo b (by simp)) (h.z.k k0 hk).1
theorem Zt.f (h:Zt F ts w w' b l s ks) (k:Only [k0] w' w2) (hk:k0∈ks):Zt F ts w w2 b l s ks:=⟨h.z.f k hk,h.r.one k (h.lt hk)⟩
theorem Zt.nx (h:Zt F ts w w' b l s ks) (k:Dn F ts w' w2 b l s'):Zt F ts w w2 b l s' ks:=⟨h.z.c k.o,k.r⟩
theorem Zt.dn (h:Zt F ts w w' b l s ks):Dn F ts w w' b l s:=⟨h.z.o,h.r⟩
theorem Zt.up (h:Zt F ts w w' b l s ks) (k:Only [b] w' w2) (hB:Blk w2 b 133 (Sf l s')) (hi:s'.i<ts.length):Zt F ts w w2 b l s' ks:=⟨h.z.c k,h.r.lm k hB hi⟩
theorem Zt.sq (h:Zt F ts w w' b l s ks) (k:Only [] w' w2) (hk:∀x,x∈ks'->x∈ks):aD ks' w' w2:=h.z.sq k hk
theorem Zt.sc (h:Zt F ts w w' b l s ks) (k:Dn F ts w' w2 b l s') (hk:∀x,x∈ks'->x∈ks):aD ks' w' w2:=h.z.sc k.o hk
theorem Zt.row {gs:List Nat} (h:Zt F ts w w' b l s ks) (k:Only gs w' w2) (hg:∀x,x∈gs->w.heap.size<=x):Zt F ts w w2 b l s ks:=⟨h.z.new k fun x hx=>.inr (hg x hx),h.r.own k fun x hx=>bC (h.z.lo b (by simp)) (hg x hx)⟩
theorem Zt.sr {gs:List Nat} (h:Zt F ts w w' b l s ks) (k:Only gs w' w2) (hk:∀x,x∈ks'->x∈ks) (hg:∀x,x∈gs->∀y,y∈ks'->y<x):aD ks' w' w2:=h.z.sm k hk fun x hx=>.inr fun y hy e=>by have:=hg x hx y hy;omega
theorem Zt.ne (h:Zt F ts w w' b l s ks) (hk:k0∈ks):k0≠b:=h.z.ne hk (by simp)
theorem Stay.q {B:Nat} (h:Stay B w w') (k:Only [] w' w2):Stay B w w2:=h.go k fun x hx=>(by cases hx)
theorem Stay.d {B:Nat} (h:Stay B w w') (k:Dn F ts w' w2 b l s') (hb:b<B):Stay B w w2:=h.go k.o fun x hx=>.inl (by simp only[ae]at hx;omega)
theorem Stay.f {B:Nat} (h:Stay B w w') (k:Only [k0] w' w2) (hk:k0<B∨w.heap.size<=k0):Stay B w w2:=h.go k fun x hx=>(by simp only[ae]at hx;subst hx;exact hk)
end
theorem kr (h:Sr F ts w b l s):Calls Tryz.prog 78 #[rp b] w fun e w'=>e=.returned (.bool (s.fc==0))/\Only [] w w':=by
 refine ret (Yz ⟨b,0,none⟩ (fun v w'=>v=(.bool (s.fc==0))/\Only [] w w') w ?_);unfold RH;exact⟨s.fc,Blk.eo h.blk 2 rfl,rfl,Only.refl _ _⟩
theorem wa (h:Sr F ts w b l s) (c:Int):Calls Tryz.prog 139 #[rp b,.int .i64 c] w fun e w'=>e=.returned (.tuple #[])/\Dn F ts w w' b l (fp ts s c):=by
 refine ret (YC ⟨b,0,none⟩ c (fun v w'=>v=(.tuple #[])/\Dn F ts w w' b l (fp ts s c)) w ?_);unfold RJ;refine(kr h).mono ?_;rintro _ w0 ⟨rfl,cd⟩;refine⟨_,rfl,fun hc w1 bR=>?_,fun hc=>?_⟩
 ·have hc:s.fc=0:=by simpa using hc
  have h1:=h.only (cd.cf bR);obtain⟨ad,g1,g2⟩:=h1.now;refine⟨l,Blk.eo h1.blk 0 rfl,_,Blk.eo h1.blk 1 rfl,ad,g1,_,g2.eo 3 _ rfl,b,2,_,_,rfl,h1.blk,by simp,fun w2 cO ru=>⟨rfl,((cd.cf bR).weaken (bs':=[b]) fun _ h=>(by cases h)).trans cO fun x hx=>.inl hx,?_⟩⟩;unfold fp;rw[if_pos hc];exact h1.lm (s':={s with fc:=c,fa:=(tk ts s.i).a}) cO ru h.lt
 ·have hc:s.fc≠0:=by simpa using hc
  unfold fp;rw[if_neg hc];exact⟨rfl,h.dn.q cd⟩
theorem pO (h:Sr F ts w b l s):Calls Tryz.prog 79 #[rp b] w fun e w'=>e=.returned (.tuple #[])/\Dn F ts w w' b l (gF ts s):=by
 refine ret (YA ⟨b,0,none⟩ (fun v w'=>v=(.tuple #[])/\Dn F ts w w' b l (gF ts s)) w ?_);unfold RI;obtain⟨ad,g1,g2⟩:=h.now;refine⟨fun w'=>Dn F ts w w' b l (if(tk ts s.i).k=5 then fp ts s 3 else s),fun w0 h0=>(wa h0.r 4).mono ?_,l,Blk.eo h.blk 0 rfl,_,Blk.eo h.blk 1 rfl,ad,g1,_,g2.eo 0 _ rfl,fun hc w2 cO=>?_,fun hc w2 cO=>?_⟩
 ·rintro _ w1 ⟨rfl,h1⟩;refine⟨rfl,rfl,h0.nx ?_⟩;unfold gF;split at h1
  ·rename_i e;rw[if_pos e];exact h1
  ·rename_i e;rw[if_neg e];exact h1
 ·refine(wa (h.only cO) 3).mono ?_;rintro _ w3 ⟨rfl,h3⟩;have hc:(tk ts s.i).k=5:=by simpa using hc
  refine⟨rfl,?_⟩;rw[if_pos hc];exact(h.dn.q cO).nx h3
 ·have hc:¬(tk ts s.i).k=5:=by simpa using hc
  rw[if_neg hc];exact h.dn.q cO
theorem aaf {s:Sl} {w:World} {G:Nat->Prop} {l:List (List UInt8)} (h:SliceF jJ 1 w G s l) (c:List UInt8):
  Calls Tryz.prog 207 #[Sl.v s,.string (T c)] w fun r w'=>r=.returned (.int .i64 (if oP c l<l.length then(oP c l:Int)else -1))/\w'=w:=by
 refine ret (RC s _ (fun v w'=>v=.int .i64 (if oP c l<l.length then(oP c l:Int)else -1)/\w'=w) w ?_);unfold K8;have dN:=h.len;have rU:=h.big;have nT:=h.cap;refine⟨fun nv i w'=>∃n:Nat,n<=l.length/\i=(n:Int)/\nv=l.length-n/\oP c l=n+oP c (l.drop n)/\w'=w,l.length,⟨0,aF _,rfl,rfl,by rw[eL,aJ],rfl⟩,?_⟩;rintro nv _ _ ⟨n,hn,rfl,rfl,hp,rfl⟩;refine⟨fun hc=>?_,fun hc=>?_⟩
 ·have bp:(n:Int)<s.n:=aj hc;obtain⟨ad,x,cs,g1,g2,g3,g4,g5,g6⟩:=h.get (aG n) bp;rw[az]at g2;unfold jJ at g6;subst g6;have hd:l.drop n=x::l.drop (n+1):=by rw[rX (au.1 g2).1,(au.1 g2).2]
  rw[hd,oP]at hp;refine⟨ad,g1,_,g5,?_⟩;rw[jW];refine⟨fun he=>⟨?_,rfl⟩,fun he=>⟨l.length-(n+1),by omega,n+1,by omega,by rw[gV (by omega) (by omega)];rfl,rfl,?_,rfl⟩⟩
  ·have he:c=x:=aj he;rw[if_pos he]at hp;rw[if_pos (by omega),hp,db]
  ·have he:c≠x:=ar he;rw[if_neg he]at hp;omega
 ·have yg:¬((n:Int)<s.n):=ar hc;rw[du (by omega),oP]at hp;rw[if_neg (by omega)];exact⟨rfl,rfl⟩
theorem xE (h:Sr F ts w b l s) {G:Nat->Prop} {q:Sl} {ss:List (List UInt8)} (hs:SliceF jJ 1 w G q ss):Calls Tryz.prog 141 #[rp b,q.v] w fun e w'=>e=.returned (.int .i64 (bA ts s ss:Nat))/\Only [] w w':=by
 refine ret (Yy ⟨b,0,none⟩ q (fun v w'=>v=(.int .i64 (bA ts s ss:Nat))/\Only [] w w') w ?_);unfold RG;intro w0 cd;have h0:=h.only cd;obtain⟨ad,g1,g2⟩:=h0.now;refine⟨fun _=>True,trivial,l,Blk.eo h0.blk 0 rfl,trivial,_,Blk.eo h0.blk 1 rfl,ad,g1,trivial,_,_,_,_,g2,fun k0 w1 hk wj bR=>?_⟩;have gX:=cd.cf bR;refine(kr (h0.only bR)).mono ?_;rintro _ w2 ⟨rfl,cO⟩;have mS:=gX.cf cO;have Kb:((!(s.fc==0))||(((tk ts s.i).k !=2)&&((tk ts s.i).k !=4)))=decide (s.fc≠0∨((tk ts s.i).k≠2/\(tk ts s.i).k≠4)):=by
  rw[br];simp
 refine⟨_,rfl,cO.same (by simp;omega),?_⟩;rw[Kb];refine⟨fun hc=>?_,fun hc=>?_⟩
 ·unfold bA;rw[if_pos (aj hc)];exact⟨rfl,mS⟩
 ·refine(aaf (SliceF.only cL (by decide) hs mS (by simp)) (tk ts s.i).t).mono ?_;rintro _ w3 ⟨rfl,rfl⟩;refine⟨_,rfl,aD.refl _ _,?_,mS⟩;unfold bA;rw[if_neg (ar hc)];have hl:=hs.len;have hb:=hs.big;have hcp:=hs.cap;split
  ·rw[gV (by omega) (by omega)];rfl
  ·rfl
theorem Hn (h:Sr F ts w b l s) (ss:List (List UInt8)) {n:Nat} {parts:Array (Nat×Value)} (hp:parts=(((ss.map fun x=>Value.string (T x)).zipIdx 0).map fun x=>(x.2,x.1)).toArray) (hn:ss.length=n) (h0:0<n) (zK:n*1<=16777216):
  ∃(q:Sl) (w0:World),(Instr.buildSlice 52 n parts).run Tryz.prog w=.ok q.v w0/\Only [] w w0/\Calls Tryz.prog 141 #[rp b,q.v] w0 fun e w'=>e=.returned (.int .i64 (bA ts s ss:Nat))/\Only [] w0 w':=by
 obtain⟨q,w0,k1,k2,k3⟩:=lI w ss hp hn h0 zK;exact⟨q,w0,k1,k3,xE (h.only k3) (sJ k2)⟩
theorem Qb (h:Sr F ts w b l s) {G:Nat->Prop} {q:Sl} {ss:List (List UInt8)} (hs:SliceF jJ 1 w G q ss):Calls Tryz.prog 75 #[rp b,q.v] w fun e w'=>e=.returned (.int .i64 (bA ts s ss:Nat))/\Dn F ts w w' b l (if bA ts s ss=0 then s else ci s):=by
 refine ret (Yx ⟨b,0,none⟩ q (fun v w'=>v=(.int .i64 (bA ts s ss:Nat))/\Dn F ts w w' b l (if bA ts s ss=0 then s else ci s)) w ?_);unfold RF;refine(xE h hs).mono ?_;rintro _ w0 ⟨rfl,cd⟩;have h0:=h.only cd;refine⟨_,rfl,fun w'=>Dn F ts w w' b l (if bA ts s ss=0 then s else ci s),fun w1 h1=>⟨rfl,h1⟩,fun hc=>?_,fun hc=>?_⟩
 ·have hc:bA ts s ss≠0:=by have:=aj hc;omega
  refine⟨_,Blk.eo h0.blk 1 rfl,b,1,_,_,rfl,h0.blk,by simp,fun w2 cO ru=>?_⟩;rw[if_neg hc];rw[h.wr]at ru;exact⟨(cd.weaken (bs':=[b]) fun _ h=>(by cases h)).trans cO fun x hx=>.inl hx,h0.lm (s':=ci s) cO ru (h.en.next h.lt (cu hc).2)⟩
 ·have hc:bA ts s ss=0:=by have:=ar hc;omega
  rw[if_pos hc];exact h.dn.q cd
theorem zq (h:Sr F ts w b l s) (ss:List (List UInt8)) {n:Nat} {parts:Array (Nat×Value)} (hp:parts=(((ss.map fun x=>Value.string (T x)).zipIdx 0).map fun x=>(x.2,x.1)).toArray) (hn:ss.length=n) (h0:0<n) (zK:n*1<=16777216):
  ∃(q:Sl) (w0:World),(Instr.buildSlice 52 n parts).run Tryz.prog w=.ok q.v w0/\Only [] w w0/\Calls Tryz.prog 75 #[rp b,q.v] w0 fun e w'=>e=.returned (.int .i64 (bA ts s ss:Nat))/\Dn F ts w0 w' b l (if bA ts s ss=0 then s else ci s):=by
 obtain⟨q,w0,k1,k2,k3⟩:=lI w ss hp hn h0 zK;exact⟨q,w0,k1,k3,Qb (h.only k3) (sJ k2)⟩
theorem Ho (h:Sr F ts w b l s) {G:Nat->Prop} {q:Sl} {x:List UInt8} (hs:SliceF jJ 1 w G q [x]) (hG:∀k,G k->k≠b):Calls Tryz.prog 73 #[rp b,q.v] w fun e w'=>e=.returned (.tuple #[])/\Dn F ts w w' b l (cV ts s x):=by
 refine ret (Yw ⟨b,0,none⟩ q (fun v w'=>v=(.tuple #[])/\Dn F ts w w' b l (cV ts s x)) w ?_);unfold RE;have hn:q.n=1:=hs.len;refine⟨fun nv i w'=>(i=0/\nv=1/\w'=w)∨(i=1/\nv=0/\Dn F ts w w' b l (cV ts s x)),1,.inl ⟨rfl,rfl,rfl⟩,?_⟩;rintro nv i w0 (⟨rfl,rfl,rfl⟩ | ⟨rfl,rfl,hD⟩)
 ·refine⟨fun _=>?_,fun hc=>absurd (ar hc) (by omega)⟩;refine⟨fun w'=>Dn F ts w0 w' b l (cV ts s x),fun w1 h1=>⟨0,by decide,.inr ⟨rfl,rfl,h1⟩⟩,?_⟩;obtain⟨ad,y,cs,g1,g2,g3,g4,g5,g6⟩:=hs.get (i:=0) (by decide) (by omega);simp only[Int.toNat_zero,bm,ai]at g2;subst g2;unfold jJ at g6;subst g6;obtain⟨q0,w2,k1,k2,k3⟩:=zq h [x] (n:=1) (parts:=#[(0,.string (T x))]) rfl rfl (by decide) (by decide);refine⟨ad,g1,_,g5,q0,w2,k1,k3.mono ?_⟩;rintro _ w3 ⟨rfl,h3⟩;have h03:=(h.dn.q k2).nx h3;refine⟨_,rfl,fun hc=>?_,fun hc=>?_⟩
  ·have hc:bA ts s [x]=0:=by have:((bA ts s [x]:Nat):Int)=0:=(by simpa using hc);omega
   rw[if_pos hc]at h03;refine(pO h03.r).mono ?_;rintro _ w4 ⟨rfl,h4⟩;refine⟨rfl,?_⟩;unfold cV;rw[if_pos hc];exact h03.nx h4
  ·have hc:bA ts s [x]≠0:=fun e=>by rw[e]at hc;simp at hc
   rw[if_neg hc]at h03;unfold cV;rw[if_neg hc];exact h03
 ·exact⟨fun hc=>absurd (aj hc) (by omega),fun _=>⟨rfl,hD⟩⟩
theorem nK (h:Sr F ts w b l s) (x:List UInt8):∃(q:Sl) (w0:World),(Instr.buildSlice 52 1 #[.mk 0 (.string (T x))]).run Tryz.prog w=.ok q.v w0/\Only [] w w0/\Calls Tryz.prog 73 #[rp b,q.v] w0 fun e w'=>e=.returned (.tuple #[])/\Dn F ts w0 w' b l (cV ts s x):=by
 obtain⟨q,w0,k1,k2,k3⟩:=lI w [x] (n:=1) (parts:=#[(0,.string (T x))]) rfl rfl (by decide) (by decide);exact⟨q,w0,k1,k3,Ho (h.only k3) (sJ k2) fun k hk e=>(by have:=hk.1;have:=h.lb;omega)⟩
theorem sX (h:Sr F ts w b l s) {k:Int} (uG:k≠5):Calls Tryz.prog 140 #[rp b,.int .i64 k] w fun e w'=>e=.returned (dR ts s k).1.v/\Dn F ts w w' b l (dR ts s k).2:=by
 refine ret (YG ⟨b,0,none⟩ k (fun v w'=>v=(dR ts s k).1.v/\Dn F ts w w' b l (dR ts s k).2) w ?_);unfold RN;intro k0 w0 hk wj cd;have z0:=h.z.al cd hk wj;have h0:=h.only cd;obtain⟨ad,g1,g2⟩:=h0.now;refine⟨fun _=>True,trivial,l,Blk.eo h0.blk 0 rfl,trivial,_,Blk.eo h0.blk 1 rfl,ad,g1,trivial,_,_,_,_,g2,fun k1 w1 kJ jp bR=>?_⟩;have z1:=z0.al bR kJ jp;refine(kr (h0.only bR)).mono ?_;rintro _ w2 ⟨rfl,cO⟩;have z2:=z1.q cO;have hl:=h.lb;have d2:Dn F ts w w2 b l s:=h.dn.q ((cd.cf bR).cf cO);have Kb:((!(s.fc==0))||((tk ts s.i).k !=k))=decide (s.fc≠0∨(tk ts s.i).k≠k):=by
  rw[br];simp
 refine⟨_,rfl,z1.sq cO (by simp),?_⟩;rw[Kb];refine⟨fun hc=>(pO d2.r).mono ?_,fun hc=>?_⟩
 ·rintro _ w3 ⟨rfl,h3⟩;refine⟨rfl,z2.sc h3.o (by simp),fun w4 cZ=>?_⟩;unfold dR;rw[if_pos (aj hc)];exact⟨rfl,(d2.nx h3).f cZ hk hl⟩
 ·refine⟨_,Blk.eo d2.r.blk 1 rfl,b,1,_,_,rfl,d2.r.blk,by simp,z2.ne (by simp) (by simp),z2.ne (by simp) (by simp),fun w5 eC yh w6 dD=>?_⟩;have hc:=ar hc;unfold dR;rw[if_neg hc];simp only[not_or,gM]at hc;rw[h.wr]at yh;have d5:Dn F ts w w5 b l (ci s):=⟨d2.o.trans eC fun x hx=>.inl hx,d2.r.lm eC yh (h.en.next h.lt (by rw[hc.2];exact uG))⟩
  exact⟨rfl,d5.f dD hk hl⟩
theorem sY (h:Sr F ts w b l s):Calls Tryz.prog 209 #[rp b] w fun e w'=>e=.returned (.string (T (ft ts s).1))/\Dn F ts w w' b l (ft ts s).2:=by
 refine ret (YL ⟨b,0,none⟩ (fun v w'=>v=(.string (T (ft ts s).1))/\Dn F ts w w' b l (ft ts s).2) w ?_);unfold RS;refine(sX h (k:=1) (by decide)).mono ?_;rintro _ w0 ⟨rfl,h0⟩;exact⟨_,_,_,_,rfl,rfl,h0⟩
theorem _root_.Go.Kt.Blk.SM {w:World} {b:Nat} {t:TypeId} {cs:List Value} {v:Value} (h:Blk w b t cs) (j:Nat) (hx:cs[j]? =some v):aB w ⟨b,j,none⟩ [v]:=by
 have:=Blk.eo h j hx;rwa[eV,aJ]at this
theorem A0 (h:Sr F ts w b l s) (j:Nat) (x:Int) (c:Int) (u:Sx) (hx:(Sf l s)[j]? =some (.int .i64 x)) (Kc:(Sf l (fp ts s c))[j]? =some (.int .i64 x)) (hui:u.i=s.i)
  (hu:Sf l u=bF (Sf l (if x=0 then fp ts s c else s)) j [.int .i64 (tQ x)]):Calls Tryz.prog 138 #[rp b,.pointer (some ⟨b,j,none⟩),.int .i64 c] w fun e w'=>e=.returned (.tuple #[])/\Dn F ts w w' b l u:=by
 refine ret (YE ⟨b,0,none⟩ _ c (fun v w'=>v=(.tuple #[])/\Dn F ts w w' b l u) w ?_);unfold RM;have hj:j+1<=9:=(au.1 hx).1;refine⟨fun w'=>Dn F ts w w' b l (if x=0 then fp ts s c else s),fun w0 h0=>?_,_,rfl,x,Blk.SM h.blk j hx,fun hc=>?_,fun hc=>?_⟩
 ·refine⟨_,rfl,x,Blk.SM h0.r.blk j (by split<;>assumption),_,rfl,b,j,_,_,rfl,h0.r.blk,hj,fun w1 bR vG=>⟨rfl,h0.o.trans bR fun x hx=>.inl hx,h0.r.lm bR (s':=u) ?_ (by rw[hui];exact h.lt)⟩⟩;rw[hu];exact vG
 ·refine(wa h c).mono ?_;rintro _ w2 ⟨rfl,h2⟩;have hc:x=0:=by simpa using hc
  rw[if_pos hc];exact⟨rfl,h2⟩
 ·have hc:¬x=0:=by simpa using hc
  rw[if_neg hc];exact h.dn
theorem Uk (h:Sr F ts w b l s):Calls Tryz.prog 138 #[rp b,.pointer (some ⟨b,8,none⟩),.int .i64 2] w fun e w'=>e=.returned (.tuple #[])/\Dn F ts w w' b l (pE ts s):=
 A0 h 8 s.a 2 _ rfl (by unfold fp;split<;>rfl) (AN s) (by unfold pE fp;split<;>(try split)<;>rfl)
theorem Ul (h:Sr F ts w b l s):Calls Tryz.prog 138 #[rp b,.pointer (some ⟨b,7,none⟩),.int .i64 2] w fun e w'=>e=.returned (.tuple #[])/\Dn F ts w w' b l (ow ts s):=
 A0 h 7 s.m 2 _ rfl (by unfold fp;split<;>rfl) (AO s) (by unfold ow fp;split<;>(try split)<;>rfl)
theorem Um (h:Sr F ts w b l s):Calls Tryz.prog 138 #[rp b,.pointer (some ⟨b,5,none⟩),.int .i64 2] w fun e w'=>e=.returned (.tuple #[])/\Dn F ts w w' b l (yG ts s):=
 A0 h 5 s.n 2 _ rfl (by unfold fp;split<;>rfl) (by unfold yG;split;exact AI 2;rfl) (by unfold yG fp;split<;>(try split)<;>rfl)
theorem Un (h:Sr F ts w b l s):Calls Tryz.prog 138 #[rp b,.pointer (some ⟨b,4,none⟩),.int .i64 2] w fun e w'=>e=.returned (.tuple #[])/\Dn F ts w w' b l (yH ts s):=
 A0 h 4 s.v 2 _ rfl (by unfold fp;split<;>rfl) (by unfold yH;split;exact AI 2;rfl) (by unfold yH fp;split<;>(try split)<;>rfl)
theorem Hp (h:Sr F ts w b l s):Calls Tryz.prog 253 #[rp b] w fun e w'=>∃cs,e=.returned (.agg cs.toArray)/\rE true w' (Fr w.heap.size) (kF ts s).1 cs/\Dn F ts w w' b l (kF ts s).2:=by
 refine(YM ⟨b,0,none⟩ (fun v w'=>∃cs,v=(.agg cs.toArray)/\rE true w' (Fr w.heap.size) (kF ts s).1 cs/\Dn F ts w w' b l (kF ts s).2) w ?_).mono (by
  rintro e w' ⟨v,rfl,cs,rfl,h⟩;exact⟨cs,rfl,h⟩)
 unfold RT;intro k0 w0 hk wj cd;have hl:=h.lb;have z0:=h.z.al cd hk wj;refine(kr (h.only cd)).mono ?_;rintro _ w1 ⟨rfl,bR⟩;have z1:=z0.q bR;have d1:Dn F ts w w1 b l s:=h.dn.q (cd.cf bR);refine⟨_,rfl,z0.sq bR (by simp),fun hc w2 cO=>?_,fun hc w3 cU=>?_⟩
 ·have hc:s.fc≠0:=by simpa using hc
  unfold kF;rw[if_pos hc];exact⟨_,rfl,Ud _ _ _,d1.f cO hk hl⟩
 ·have hc:¬s.fc≠0:=by simpa using hc
  have z3:=z1.q cU;have d3:=d1.q cU;refine⟨fun k=>k=b,fun w4 cZ=>⟨rfl,l,Blk.eo (d3.q cZ).r.blk 0 rfl,fun w5 eC=>⟨rfl,_,Blk.eo ((d3.q cZ).q eC).r.blk 1 rfl,fun w6 dD=>?_⟩⟩⟩;have z6:=((z3.q cZ).q eC).q dD;have d6:=((d3.q cZ).q eC).q dD;have hb6:=d6.r.big;have bp:=h.lt;refine(GU d6.r.tok (s.i:Int) ⟨by omega,by omega⟩).mono ?_;rintro _ w7 ⟨cs,rfl,hX,hj,fg⟩;have z7:=z6.q fg;have d7:=d6.q fg;obtain⟨sl,kK,_⟩:=hX.cells;have hsz:w3.heap.size<=w6.heap.size:=((cZ.cf eC).cf dD).size;refine⟨_,_,_,_,sl,_,_,_,_,by rw[kK],z6.sq fg (by simp),iz.zJ fg,be.only fg,fun w8 fy k1 kJ jp Vj=>?_⟩;obtain⟨d,hX⟩:=hX.xg;have hx7:rE true w7 (fun k=>w6.heap.size<=k/\k<w7.heap.size) (bM ts s.i).1 cs:=⟨d,hX⟩
  have ano:w.heap.size<=k1:=ay z3.o.size kJ;have anp:b<k1:=by omega
  have d8:=d7.q fy;have zz6:=z6.o.size;have zz0:=z0.k k0 (by simp);have zw0:=((bR.cf cU).cf ((cZ.cf eC).cf dD)).size;have hx8:∀{bs:List Nat} {w9:World},Only bs w8 w9->(∀x,x∈bs->x=k1∨x=k0∨x=b)->rE true w9 (Fr w.heap.size) (bM ts s.i).1 cs:=fun fG hb9=>
   (gv true).mono ((gv true).keep hx7 fun k JE bp=>(fG.block k (bC bp fy.size) fun hm=>by
    rcases hb9 k hm with rfl | rfl | rfl
    ·have:=Vj.one;omega
    ·omega
    ·omega).trans (fy.block k bp (by simp))) fun k JE=>by have:=JE.1;show w.heap.size<=k;omega
  unfold kF;rw[if_neg hc];refine⟨fun h1 w9 fG=>?_,fun h1 dK eJ=>?_⟩
  ·have h1:(bM ts s.i).2.2.1≠0:=by simpa using h1
   have d9:Dn F ts w w9 b l s:=⟨d8.o.trans fG fun x hx=>.inr (by simp only[ak,aw,bf]at hx;omega),d8.r.own fG fun x hx=>(by simp only[ak,aw,bf]at hx;omega)⟩
   refine⟨b,2,_,_,rfl,d9.r.blk,by simp,by omega,by omega,fun cI dm vK cS dx=>?_⟩;rw[if_pos h1];have d10:Dn F ts w cI b l {s with fc:=(bM ts s.i).2.2.1,fa:=(bM ts s.i).2.2.2}:=⟨d9.o.trans dm fun x hx=>.inl hx,d9.r.lm dm vK h.lt⟩
   refine⟨cs,by rw[kK],?_,d10.f dx hk hl⟩;exact hx8 (bs:=[k1,k0,b]) (((fG.weaken (bs':=[k1,k0,b]) fun x hx=>.inl (by simp only[ak,aw,bf]at hx⊢;omega)).trans dm fun x hx=>.inl (by simp only[ae]at hx;simp[hx])).trans dx fun x hx=>.inl (by simp only[ae]at hx;simp[hx])) (by simp)
  ·have h1:¬(bM ts s.i).2.2.1≠0:=by simpa using h1
   have d12:Dn F ts w dK b l s:=⟨d8.o.trans eJ fun x hx=>.inr (by simp only[ak,aw,bf]at hx;omega),d8.r.own eJ fun x hx=>(by simp only[ak,aw,bf]at hx;omega)⟩
   obtain⟨VF,FL⟩:=hj (by simpa using h1);have ej:((bM ts s.i).2.1.toNat:Int)=(bM ts s.i).2.1:=dT VF;refine⟨b,1,_,_,rfl,d12.r.blk,by simp,by omega,by omega,fun dX dZ yq eK dz=>?_⟩;rw[if_neg h1];have d13:Dn F ts w dX b l {s with i:=(bM ts s.i).2.1.toNat}:=⟨d12.o.trans dZ fun x hx=>.inl hx,d12.r.lm dZ (by dsimp only[Sf];rw[ej];exact yq) (by dsimp only;omega)⟩
   refine⟨cs,by rw[kK],?_,d13.f dz hk hl⟩;exact hx8 (bs:=[k1,k0,b]) (((eJ.weaken (bs':=[k1,k0,b]) fun x hx=>.inl (by simp only[ak,aw,bf]at hx⊢;omega)).trans dZ fun x hx=>.inl (by simp only[ae]at hx;simp[hx])).trans dz fun x hx=>.inl (by simp only[ae]at hx;simp[hx])) (by simp)
end
theorem aag {n:Nat} (h:((n:Int)==0)=true):n=0:=by simpa using h
theorem aah {n:Nat} (h:((n:Int)==0)=false):n≠0:=fun e=>by rw[e]at h;simp at h
theorem I8 {n:Nat} (h:decide ((n:Int)>0)=false):n=0:=by have:=ar h;omega
theorem I9 {n:Nat} (h:decide ((n:Int)>0)=true):n≠0:=by have:=aj h;omega
section
variable {F:Nat->Prop} {ts:List Tk} {w w':World} {b:Nat} {l:Sl} {s s':Sx}
theorem Uo (h:Sr F ts w b l s):Calls Tryz.prog 256 #[rp b] w fun e w'=>∃cs,e=.returned (.agg cs.toArray)/\rl true w' (Fr w.heap.size) (lN ts s).1 cs/\Dn F ts w w' b l (lN ts s).2:=by
 refine(Y3 ⟨b,0,none⟩ (fun v w'=>∃cs,v=(.agg cs.toArray)/\rl true w' (Fr w.heap.size) (lN ts s).1 cs/\Dn F ts w w' b l (lN ts s).2) w ?_).mono (by
  rintro e w' ⟨v,rfl,cs,rfl,h⟩;exact⟨cs,rfl,h⟩)
 unfold RW;intro k0 w0 hk wj cd;have t0:=h.zt.al cd hk wj;obtain⟨ad,g1,_⟩:=h.now;refine⟨fun _=>True,fun w1 bR=>⟨trivial,l,Blk.eo (t0.q bR).r.blk 0 rfl,fun w2 cO=>⟨trivial,_,Blk.eo ((t0.q bR).q cO).r.blk 1 rfl,ad,g1,fun w3 cU=>?_⟩⟩⟩;have t3:=((t0.q bR).q cO).q cU;refine⟨trivial,_,(t3.r.tk g1).eo 3 _ rfl,fun w4 cZ=>?_⟩;have t4:=t3.q cZ;obtain⟨q,w5,e1,oV,eC⟩:=lI w4 [mN,ga,iO] (n:=3) (parts:=#[(0,.string (T mN)),(1,.string (T ga)),(2,.string (T iO))]) rfl rfl (by decide) (by decide);refine⟨q,w5,e1,t4.sq eC (by simp),iz.zJ eC,be.only eC,fun w6 dD=>?_⟩;have t6:=(t4.q eC).q dD;refine(xE t6.r (SliceF.only cL (by decide) (sJ oV) dD (by simp))).mono ?_;rintro _ w7 ⟨rfl,fg⟩;have t7:=t6.q fg;refine⟨_,rfl,t6.sq fg (by simp),iz.zJ fg,be.only fg,fun w8 fy k1 kJ jp Vj=>?_⟩;have t8:=(t7.q fy).ad (ay t0.z.o.size kJ) jp;refine⟨fun hc w9 fG=>?_,fun hc dK eJ=>?_⟩
 ·have t9:=t8.f fG (by simp);refine(pO t9.r).mono ?_;rintro _ cI ⟨rfl,N2⟩;refine⟨rfl,t9.sc N2 (by simp),fun cS dx=>?_⟩;have hc:=aag hc;unfold lN;rw[if_pos hc,hc];exact⟨_,rfl,⟨ou 0 0 [] 0 Sl.nil 0,rfl,Ud _ _ _⟩,((t9.nx N2).f dx (by simp)).dn⟩
 ·have hc:=aah hc;have t12:=t8.f eJ (by simp);refine(Uk t12.r).mono ?_;rintro _ dX ⟨rfl,tM⟩;have t13:=t12.nx tM;refine⟨rfl,t12.sc tM (by simp),(kr t13.r).mono ?_⟩;rintro _ eK ⟨rfl,dz⟩;have t14:=t13.q dz;unfold lN;rw[if_neg hc];refine⟨_,rfl,t13.sq dz (by simp),fun hf gn jo=>?_,fun hf=>?_⟩
  ·have hf:(pE ts s).fc≠0:=by simpa using hf
   rw[if_pos hf];exact⟨_,rfl,⟨ou 0 0 [] 0 Sl.nil 0,rfl,Ud _ _ _⟩,(t14.f jo (by simp)).dn⟩
  ·have hf:¬(pE ts s).fc≠0:=by simpa using hf
   rw[if_neg hf];refine⟨_,Blk.eo t14.r.blk 1 rfl,b,1,_,_,rfl,t14.r.blk,by simp,t14.ne (by simp),t14.ne (by simp),fun gR ix N3=>?_⟩;rw[t14.r.wr]at N3;have t16:Zt F ts w gR b l (ci (pE ts s)) [k1,k0]:=t14.up ix N3 (h.en.next t14.r.lt (by rw[AN];exact(cu hc).2));refine(sY t16.r).mono ?_;rintro _ fR ⟨rfl,J7⟩;have t17:=t16.nx J7;refine⟨_,rfl,t16.sc J7 (by simp),fun jH oU=>?_⟩;have t18:=t17.f oU (by simp);generalize (ft ts (ci (pE ts s))).2=u at*
   generalize (ft ts (ci (pE ts s))).1=nm at*
   generalize bA ts s [mN,ga,iO]=kk at*
   generalize (tk ts s.i).a=aa at*
   refine⟨fun i4 s1 i5 i6 s2 i7 l2 i8 i9 w'=>∃(x:Ex) (u':Sx),i4=(kk:Int)/\s1=T nm/\i9=aa/\rE true w' (Fr jH.heap.size) x [.int .i64 i5,.int .i64 i6,.string s2,.int .i64 i7,l2.v,.int .i64 i8]/\Zt F ts w w' b l u' [k1,k0]/\E1 ts u kk nm aa=(⟨kk,nm,x,aa⟩,cV ts u' [59])/\jH.heap.size<=w'.heap.size,?_,fun qM=>?_,fun qM=>?_⟩
   ·rintro i4 s1 i5 i6 s2 i7 l2 i8 i9 jK ⟨x,u',rfl,rfl,rfl,hx,t19,hT,hsz⟩;obtain⟨q,jl,e1,qi,hm⟩:=nK t19.r [59];refine⟨q,jl,e1,t19.sq qi (by simp),hm.mono ?_⟩;rintro _ lZ ⟨rfl,h21⟩;have t20:=t19.q qi;refine⟨rfl,t20.sc h21 (by simp),fun rq JC=>?_⟩;rw[hT];have zk:=t18.z.k k0 (by simp);have zs:=t18.z.o.size;have zb:=t18.r.lb;refine⟨_,rfl,⟨[.int .i64 i5,.int .i64 i6,.string s2,.int .i64 i7,l2.v,.int .i64 i8],rfl,?_⟩,((t20.nx h21).f JC (by simp)).dn⟩;exact(gv true).low ((gv true).stay hx ((((Stay.refl _ _).q qi).d h21 zb).f JC (.inl zk.2))) zs
   ·have qM:¬kk=2:=fun e=>by rw[e]at qM;simp at qM
    obtain⟨q,rr,e1,qj,hm⟩:=nK t18.r [61];refine⟨q,rr,e1,t18.sq qj (by simp),hm.mono ?_⟩;rintro _ qe ⟨rfl,h24⟩;have t23:=t18.q qj;have t24:=t23.nx h24;refine⟨rfl,t23.sc h24 (by simp),(Hp t24.r).mono ?_⟩;rintro _ mG ⟨cs,rfl,hx,Q6⟩;obtain⟨sl,rfl⟩:=fV hx;have t25:=t24.nx Q6;refine⟨_,_,_,_,sl,_,rfl,t24.sc Q6 (by simp),fun oC ik=>?_⟩;have z24:jH.heap.size<=qe.heap.size:=ay qj.size h24.o.size;have zk:=t18.z.k k1 (by simp);refine⟨_,_,rfl,rfl,rfl,(gv true).low ((gv true).stay hx ((Stay.refl _ _).f ik (.inl (by omega)))) z24,t25.f ik (by simp),?_,ay z24 (ay Q6.o.size ik.size)⟩;unfold E1;rw[if_neg qM]
   ·have qM:(kk:Int)=2:=by simpa using qM
    have qM:kk=2:=by omega
    refine⟨rG,u,rfl,rfl,rfl,Ud _ _ _,t18,?_,aq _⟩;unfold E1;rw[if_pos qM]
abbrev AcO (B:Nat) (w:World) (la:Sl) (acc:List Ac):Prop:=Own (rl true) 9 116 B w (Fr B) la acc
structure Br (F:Nat->Prop) (ts:List Tk) (w w':World) (b:Nat) (l:Sl) (k0 k1 B:Nat) (s:Sx) (acc:List Ac) (la:Sl):Prop where
 r:Sr F ts w' b l s
 b0:Blk w' k0 127 [rp b]
 b1:Blk w' k1 23 [la.v]
 own:AcO B w' la acc
 o:∃gs,Only (b::k1::gs) w w'/\∀x,x∈gs->B<=x
 n0:b<k0
 n1:b<k1
 n01:k0≠k1
 l0:k0<B
 l1:k1<B
 lB:B<=w'.heap.size
section
variable {k0 k1 B:Nat} {acc:List Ac} {la:Sl} {w2:World}
theorem Br.nx (h:Br F ts w w' b l k0 k1 B s acc la) (k:Dn F ts w' w2 b l s'):Br F ts w w2 b l k0 k1 B s' acc la:=by
 have n0:=h.n0;have n1:=h.n1;have l0:=h.l0;obtain⟨gs,h1,h2⟩:=h.o;exact⟨k.r,k.o.blk h.b0 (by simp only[ae];omega),k.o.blk h.b1 (by simp only[ae];omega),h.own.stay (cA true) k.o fun x hx=>.inl (by simp only[ae]at hx;omega),
  ⟨gs,h1.trans k.o fun x hx=>.inl (by simp only[ae]at hx;simp[hx]),h2⟩,n0,n1,h.n01,l0,h.l1,ay h.lB k.o.size⟩
theorem Br.q (h:Br F ts w w' b l k0 k1 B s acc la) (k:Only [] w' w2):Br F ts w w2 b l k0 k1 B s acc la:=h.nx (h.r.dn.q k)
theorem Uq (h:Br F ts w w' b l k0 k1 B s acc la) (hm:acc.length<ts.length):Calls Tryz.prog 255 #[.pointer (some ⟨k1,0,none⟩),.pointer (some ⟨k0,0,none⟩)] w' fun e w2=>e=.returned (.tuple #[])/\∃zM,Br F ts w w2 b l k0 k1 B (lN ts s).2 (acc++[(lN ts s).1]) zM:=by
 refine ret (Y2 ⟨k1,0,none⟩ ⟨k0,0,none⟩ (fun v w2=>v=(.tuple #[])/\∃zM,Br F ts w w2 b l k0 k1 B (lN ts s).2 (acc++[(lN ts s).1]) zM) w' ?_);unfold RV;intro w0 cd;have h0:=h.q cd;have n1:=h.n1;have l1:=h.l1;refine⟨fun k=>k=k1,rfl,la,h0.b1.SM 0 rfl,_,h0.b0.SM 0 rfl,(Uo h0.r).mono ?_⟩;rintro _ w1 ⟨cs,rfl,hx,h1⟩;have yL:=h0.nx h1;generalize Ke:(lN ts s).1=ac at*
 generalize (lN ts s).2=s1 at*
 have Kc:=hx;obtain⟨xc,rfl,DZ⟩:=Kc;obtain⟨sl,rfl⟩:=fV DZ;have zK:=h.r.sm;have OB:=h0.own.len;obtain⟨y,w2,e2,cO,zM,w3,e3,oV,⟨gs,cU,ry⟩,_⟩:=js (P:=Tryz.prog) (t:=23) (ty:=23) (e:=116) (i:=Tryz.t116) (bytes:=104) (size:=9) (v:=.agg (acv ac.k ac.n (ou ac.x.k ac.x.n ac.x.s ac.x.op sl ac.x.a) ac.a).toArray) (x:=ac) (G:=Fr w0.heap.size) (by kernel_rfl) (by kernel_rfl) rfl rfl rfl rfl (by decide) (by decide) (by decide) (cA true) yL.own yL.lB rfl hx (fun k hk _=>⟨ay h0.lB hk,h0.own.new hk⟩) (by omega);have N4:Only gs w1 w3:=(cO.weaken (bs':=gs) fun _ h=>(by cases h)).trans cU fun x hx=>.inl hx;have nU:∀g,g∈gs->B<=g:=fun g hg=>(ry g hg).2.1;refine⟨_,_,_,_,_,_,sl,_,_,rfl,fun k hk bp=>(by subst hk;exact h1.o.block k bp (by simp only[ae];omega)),y,w2,e2,be.only cO,zM,w3,e3,fun k hk bp=>(by subst hk;exact cU.block k bp fun hm=>(by have:=nU k hm;omega)),k1,0,_,_,rfl,N4.blk yL.b1 (fun hm=>by have:=nU k1 hm;omega),by simp,fun w4 cZ tK=>⟨rfl,zM,?_⟩⟩;have n0:=h.n0;have n01:=h.n01;have l0:=h.l0;have z3:=N4.size;have z4:=cZ.size;have hlB:=yL.lB;have hOb:∀{x:Nat},x<B->x≠k1->w4.heap[x]? =w1.heap[x]? :=fun hx hn=>(cZ.block _ (by omega) (by simpa using hn)).trans (N4.block _ (by omega) fun hm=>(by have:=nU _ hm;omega));obtain⟨gs0,o1,o2⟩:=yL.o;have hr3:Sr F ts w3 b l s1:=yL.r.own N4 fun x hx=>(by have:=nU x hx;omega)
 refine⟨hr3.one cZ n1,(hOb l0 n01).trans yL.b0,tK,?_,⟨gs++gs0,(((o1.weaken (bs':=b::k1::(gs++gs0)) fun x hx=>.inl (by simp only[ak,bJ]at hx⊢;rcases hx with hx | hx | hx<;>simp[hx])).trans N4 fun x hx=>.inl (by simp[hx]))).trans cZ fun x hx=>.inl (by simp only[ae]at hx;simp[hx]),fun x hx=>?_⟩,n0,n1,n01,l0,l1,by omega⟩
 ·refine((oV.mono (cA true) fun k hk=>?_).stay (cA true) cZ fun x hx=>.inl (by simp only[ae]at hx;omega));rcases hk with hk | hk
  ·exact hk
  ·exact ay hlB hk
 ·rcases bJ.1 hx with hx | hx
  ·exact nU x hx
  ·exact o2 x hx
theorem L7 (f:Nat) (h:Br F ts w w' b l k0 k1 B s acc la) (hf:mu ts s<f) (hm:acc.length+mu ts s<=ts.length):
  Calls Tryz.prog 254 #[rp b,.string (ByteArray.mk #[125]),.func (.func 255) #[] #[.pointer (some ⟨k1,0,none⟩),.pointer (some ⟨k0,0,none⟩)]] w' fun e w2=>e=.returned (.tuple #[])/\∃zM,Br F ts w w2 b l k0 k1 B (mq ts f acc s).2 (mq ts f acc s).1 zM:=by
 refine ret (Y4 ⟨b,0,none⟩ _ ⟨.func (.func 255) #[] #[.pointer (some ⟨k1,0,none⟩),.pointer (some ⟨k0,0,none⟩)],rfl⟩ (fun v w2=>v=(.tuple #[])/\∃zM,Br F ts w w2 b l k0 k1 B (mq ts f acc s).2 (mq ts f acc s).1 zM) w' ?_);unfold RY;generalize V5:mq ts f acc s=res;refine⟨fun nv w2=>∃s' N5 zM,Br F ts w w2 b l k0 k1 B s' N5 zM/\mq ts nv N5 s'=res/\mu ts s'<nv/\N5.length+mu ts s'<=ts.length,f,⟨s,acc,la,h,V5,hf,hm⟩,?_⟩;rintro nv w0 ⟨s',N5,zM,h0,hR,hf0,Xg⟩;obtain⟨m,rfl⟩:∃m,nv=m+1:=⟨nv-1,by omega⟩
 rw[mq]at hR;refine⟨fun bo w2=>(bo=true/\s'.fc=0/\bA ts s' [[125]]=0/\Br F ts w w2 b l k0 k1 B s' N5 zM)∨(bo=false/\Br F ts w w2 b l k0 k1 B res.2 res.1 zM),?_,(kr h0.r).mono ?_⟩
 ·rintro bo w1 (⟨rfl,hfc,hw,h1⟩ | ⟨rfl,h1⟩)
  ·refine⟨fun _=>⟨255,[],[_,_],rfl,gr (by kernel_rfl),?_⟩,fun hh=>(by cases hh)⟩;rw[if_neg (by simp[hfc]),if_neg (by simp[hw])]at hR;have hmu:=Uc h0.r.en hfc h0.r.lt;have Ir:mu ts s'<=ts.length:=by unfold mu;split<;>omega
   refine(Uq h1 (by omega)).mono ?_;rintro _ w3 ⟨rfl,la2,h3⟩;exact⟨rfl,m,by omega,_,_,la2,h3,hR,by omega,by rw[ah,aL];omega⟩
  ·exact⟨fun hh=>(by cases hh),fun _=>⟨rfl,zM,h1⟩⟩
 ·rintro _ w4 ⟨rfl,cZ⟩;have h4:=h0.q cZ;refine⟨_,rfl,fun hc=>?_,fun hc=>?_⟩
  ·have hc:s'.fc=0:=by simpa using hc
   rw[if_neg (by simp[hc])]at hR;obtain⟨q,w5,e1,eC,hk⟩:=zq h4.r [[125]] (n:=1) (parts:=#[(0,.string (T [125]))]) rfl rfl (by decide) (by decide);refine⟨q,w5,e1,hk.mono ?_⟩;rintro _ w6 ⟨rfl,h6⟩;have h6:=(h4.q eC).nx h6;refine⟨_,rfl,?_⟩;by_cases hw:bA ts s' [[125]]=0
   ·rw[if_pos hw]at h6;exact .inl ⟨by rw[hw];rfl,hc,hw,h6⟩
   ·rw[if_neg hw]at h6;rw[if_pos hw]at hR;subst hR;exact .inr ⟨by simpa using hw,h6⟩
  ·have hc:s'.fc≠0:=by simpa using hc
   rw[if_pos hc]at hR;subst hR;exact .inr ⟨rfl,h4⟩
end
theorem xF (h:Sr F ts w b l s):Calls Tryz.prog 210 #[rp b] w fun e w'=>∃la:Sl,e=.returned la.v/\gH true (rl true) 9 116 w' (Fr w.heap.size) la (eZ ts s).1/\Dn F ts w w' b l (eZ ts s).2:=by
 refine(Y1 ⟨b,0,none⟩ (fun v w'=>∃la:Sl,v=la.v/\gH true (rl true) 9 116 w' (Fr w.heap.size) la (eZ ts s).1/\Dn F ts w w' b l (eZ ts s).2) w ?_).mono (by
  rintro e w' ⟨v,rfl,cs,rfl,h⟩;exact⟨cs,rfl,h⟩)
 unfold RU;intro k0 k1 w0 fQ eE kJ jp cd;have t0:=((h.zt.q cd).ad fQ eE).ad kJ jp;obtain⟨q,w1,e1,bR,hm⟩:=nK t0.r [123];refine⟨q,w1,e1,t0.sq bR (by simp),hm.mono ?_⟩;rintro _ w2 ⟨rfl,h2⟩;have t1:=t0.q bR;have t2:=t1.nx h2;refine⟨rfl,t1.sc h2 (by simp),fun wm vG=>?_⟩;have hb:=h.lb;have hB:Br F ts w2 w2 b l k0 k1 w2.heap.size (cV ts s [123]) [] Sl.nil:=
  ⟨t2.r,wm,vG,Own.nil _ _ _ _ _ _,⟨[],Only.refl _ _,fun _ h=>(by cases h)⟩,by omega,by omega,fun e=>(by subst e;have:=wm.symm.trans vG;simp at this),wm.lt,vG.lt,aq _⟩
 refine(L7 (ts.length+1) hB (by unfold mu;split<;>omega) (by rw[aM,aJ];unfold mu;split<;>omega)).mono ?_;rintro _ w3 ⟨rfl,la,h3⟩;have z2:=t2.z.o.size;obtain⟨gs,o1,o2⟩:=h3.o;refine⟨rfl,_,h3.b0,_,h3.b1,la,rfl,?_,?_,h3.r⟩
 ·exact(h3.own.sl (cA true) fun k hk=>hk).low (cA true) z2
 ·exact t2.z.o.trans o1 fun x hx=>by
   simp only[ak]at hx;rcases hx with rfl | rfl | hx
   ·exact .inl (by simp)
   ·exact .inr kJ
   ·exact .inr (ay z2 (o2 x hx))
end
section
variable {F:Nat->Prop} {ts:List Tk} {w w':World} {b:Nat} {l:Sl} {s s':Sx}
structure MvX (A:Nat) (w:World) (m:Mv) (k:Int) (ev:ByteArray) (wt:Int) (gd:Bool) (gc:List Value) (ql:Sl) (a:Int):Prop where
 e1:k=m.k
 e2:ev=T m.ev
 e3:wt=m.wt
 e4:gd=m.gd
 e5:a=m.a
 g:rE true w (Fr A) m.g gc
 x:gH true (rl true) 9 116 w (Fr A) ql m.acts
theorem MvX.stay {A:Nat} {m:Mv} {k:Int} {ev:ByteArray} {wt:Int} {gd:Bool} {gc:List Value} {ql:Sl} {a:Int} (h:MvX A w m k ev wt gd gc ql a) (hs:Stay A w w'):MvX A w' m k ev wt gd gc ql a:=
 ⟨h.e1,h.e2,h.e3,h.e4,h.e5,(gv true).stay h.g hs,h.x.stay (cA true) (by decide) hs⟩
theorem oI (ts:List Tk) (s:Sx):mu ts s<=ts.length:=by unfold mu;split<;>omega
theorem xG (h:Sr F ts w b l s) {ss:List (List UInt8)} (hw:bA ts s ss≠0):s.i+1<ts.length:=h.en.next h.lt (cu hw).2
theorem Qc (h:Sr F ts w b l s) (k:Int) (hk:(tk ts s.i).k≠5):Calls Tryz.prog 208 #[rp b,.int .i64 k] w fun e w'=>∃cs,e=.returned (.agg cs.toArray)/\BG true w' (Fr w.heap.size) (jT ts k s).1 cs/\Dn F ts w w' b l (jT ts k s).2:=by
 refine(YK ⟨b,0,none⟩ k (fun v w'=>∃cs,v=(.agg cs.toArray)/\BG true w' (Fr w.heap.size) (jT ts k s).1 cs/\Dn F ts w w' b l (jT ts k s).2) w ?_).mono (by
  rintro e w' ⟨v,rfl,cs,rfl,h⟩;exact⟨cs,rfl,h⟩)
 unfold RR;intro k0 w0 fQ eE cd;have t0:=h.zt.al cd fQ eE;obtain⟨ad,g1,g2⟩:=t0.r.now;refine⟨fun _=>True,trivial,l,Blk.eo t0.r.blk 0 rfl,trivial,_,Blk.eo t0.r.blk 1 rfl,ad,g1,trivial,_,g2.eo 3 _ rfl,fun k1 w1 kJ jp bR=>?_⟩;have t1:=t0.al bR kJ jp;refine(Ul t1.r).mono ?_;rintro _ w2 ⟨rfl,h2⟩;have t2:=t1.nx h2;refine⟨rfl,t1.sc h2 (by simp),(kr t2.r).mono ?_⟩;rintro _ w3 ⟨rfl,cU⟩;have t3:=t2.q cU;unfold jT;refine⟨_,rfl,t2.sq cU (by simp),fun hf w4 cZ=>?_,fun hf=>?_⟩
 ·have hf:(ow ts s).fc≠0:=by simpa using hf
  rw[if_pos hf];exact⟨_,rfl,⟨ou 0 0 [] 0 Sl.nil 0,Sl.nil,Sl.nil,rfl,Ud _ _ _,gH.nil _ _ _ _ _ _,gH.nil _ _ _ _ _ _⟩,(t3.f cZ (by simp)).dn⟩
 have hf:¬(ow ts s).fc≠0:=by simpa using hf
 rw[if_neg hf];refine⟨_,Blk.eo t3.r.blk 1 rfl,b,1,_,_,rfl,t3.r.blk,by simp,t3.ne (by simp),t3.ne (by simp),fun w5 eC yh=>?_⟩;rw[t3.r.wr]at yh;have t5:Zt F ts w w5 b l (ci (ow ts s)) [k1,k0]:=t3.up eC yh (h.en.next t3.r.lt (by rw[AO];exact hk));have hA:=t5.z.o.size;have hA0:=(t5.z.k k0 (by simp)).2;have hA1:=(t5.z.k k1 (by simp)).2;have Xh:=t5.r.lb;generalize hAA:w5.heap.size=A at*
 generalize (tk ts s.i).a=aa at*
 generalize ci (ow ts s)=u0 at*
 generalize hR:(if k=1 then lO ts {LG k aa with ev:=(ft ts u0).1} (ft ts u0).2 else if k=3 then lO ts {LG k aa with wt:=(dR ts u0 3).1.n} (dR ts u0 3).2 else lO ts (LG k aa) u0)=R;have x0:∀{w':World} {ev:List UInt8} {wt:Int},MvX A w' {LG k aa with ev:=ev,wt:=wt} k (T ev) wt false (ou 0 0 [] 0 Sl.nil 0) Sl.nil aa:=⟨rfl,rfl,rfl,rfl,rfl,Ud _ _ _,gH.nil _ _ _ _ _ _⟩
 refine⟨fun i3 s0 i4 b1 i5 i6 s1 i7 l1 i8 l2 l3 i9 w'=>∃(m:Mv) (u:Sx),MvX A w' m i3 s0 i4 b1 [.int .i64 i5,.int .i64 i6,.string s1,.int .i64 i7,l1.v,.int .i64 i8] l2 i9/\m.gd=false/\m.tg=[]/\l3=Sl.nil/\Zt F ts w w' b l u [k1,k0]/\lO ts m u=R/\A<=w'.heap.size,?_,fun hc=>?_,fun hc=>⟨fun Eb=>?_,fun Eb=>?_⟩⟩;rotate_left
 ·have hc:k=1:=by simpa using hc
  refine(sY t5.r).mono ?_;rintro _ Vp ⟨rfl,h32⟩;have t32:=t5.nx h32;refine⟨_,rfl,t5.sc h32 (by simp),fun WY acm=>?_⟩;rw[if_pos hc]at hR;exact⟨_,_,x0,rfl,rfl,rfl,t32.f acm (by simp),hR,by rw[<-hAA];exact ay h32.o.size acm.size⟩
 ·have hc:¬k=1:=by simpa using hc
  have Eb:k=3:=by simpa using Eb
  refine(sX t5.r (k:=3) (by decide)).mono ?_;rintro _ Vq ⟨rfl,h34⟩;have t34:=t5.nx h34;refine⟨_,_,_,_,rfl,t5.sc h34 (by simp),fun WZ acn=>?_⟩;rw[if_neg hc,if_pos Eb]at hR;exact⟨_,_,x0,rfl,rfl,rfl,t34.f acn (by simp),hR,by rw[<-hAA];exact ay h34.o.size acn.size⟩
 ·have hc:¬k=1:=by simpa using hc
  have Eb:¬k=3:=by simpa using Eb
  rw[if_neg hc,if_neg Eb]at hR;exact⟨_,_,x0,rfl,rfl,rfl,t5,hR,Gc hAA.symm⟩
 rintro i3 s0 i4 b1 i5 i6 s1 i7 l1 i8 l2 l3 i9 w6 ⟨m,u,hx,OX,tS,rfl,t6,hR,z6⟩;unfold lO at hR;obtain⟨q,qe,e1,yM,hm⟩:=zq t6.r [[91]] (n:=1) (parts:=#[(0,.string (T [91]))]) rfl rfl (by decide) (by decide);have t24:=t6.q yM;refine⟨fun i3 s0 i4 b1 i5 i6 s1 i7 l1 i8 l2 l3 i9 w'=>∃(m:Mv) (u:Sx),MvX A w' m i3 s0 i4 b1 [.int .i64 i5,.int .i64 i6,.string s1,.int .i64 i7,l1.v,.int .i64 i8] l2 i9/\m.tg=[]/\l3=Sl.nil/\Zt F ts w w' b l u [k1,k0]/\uT ts m u=R/\A<=w'.heap.size,?_,q,qe,e1,t6.sq yM (by simp),hm.mono ?_⟩;rotate_left
 ·rintro _ mG ⟨rfl,Q6⟩;have t25:=t24.nx Q6;have s25:Stay A w6 mG:=((Stay.refl A w6).q yM).d Q6 Xh;refine⟨_,rfl,t24.sc Q6 (by simp),fun hc oC ik=>?_,fun hc OQ NS=>?_⟩
  ·have Bp:=I9 hc;rw[if_neg Bp]at hR t25;have t26:=t25.f ik (by simp);have s26:=s25.f ik (.inl hA1);have z26:=s26.sz;refine(Hp t26.r).mono ?_;rintro _ qf ⟨cs,rfl,hg,h27⟩;obtain⟨sl,rfl⟩:=fV hg;have t27:=t26.nx h27;refine⟨_,_,_,_,sl,_,rfl,t26.sc h27 (by simp),fun vd uF=>?_⟩;have t28:=t27.f uF (by simp);obtain⟨q2,vJ,e2,qh,vH⟩:=nK t28.r [93];have t29:=t28.q qh;refine⟨q2,vJ,e2,t28.sq qh (by simp),vH.mono ?_⟩;rintro _ FU ⟨rfl,h30⟩;have t30:=t29.nx h30;have s30:=(((s26.d h27 Xh).f uF (.inl hA1)).q qh).d h30 Xh;refine⟨rfl,t29.sc h30 (by simp),{m with gd:=true,g:=(kF ts (ci u)).1},_,⟨hx.e1,hx.e2,hx.e3,hc,hx.e5,?_,hx.x.stay (cA true) (by decide) s30⟩,tS,rfl,t30,hR,ay z6 s30.sz⟩;exact(gv true).low ((gv true).stay hg ((((Stay.refl _ _).f uF (.inl (by omega))).q qh).d h30 (by omega))) (by omega)
  ·have Bp:=I8 hc;rw[if_pos Bp]at hR t25;have s31:=s25.f NS (.inl hA1);have JF:=hx.stay s31;exact⟨m,u,⟨JF.e1,JF.e2,JF.e3,by rw[hc,OX],JF.e5,JF.g,JF.x⟩,tS,rfl,t25.f NS (by simp),hR,ay z6 s31.sz⟩
 clear hx OX tS t6 hR z6 hm t24;rintro i3 s0 i4 b1 i5 i6 s1 i7 l1 i8 l2 l3 i9 w7 ⟨m,u,hx,tS,rfl,t7,hR,z7⟩;unfold uT at hR;obtain⟨q,jl,e1,qi,hm⟩:=Hn t7.r [[123]] (n:=1) (parts:=#[(0,.string (T [123]))]) rfl rfl (by decide) (by decide);have t20:=t7.q qi;refine⟨fun i3 s0 i4 b1 i5 i6 s1 i7 l1 i8 l2 l3 i9 w'=>∃(m:Mv) (u:Sx),MvX A w' m i3 s0 i4 b1 [.int .i64 i5,.int .i64 i6,.string s1,.int .i64 i7,l1.v,.int .i64 i8] l2 i9/\l3=Sl.nil/\Zt F ts w w' b l u [k1,k0]/\xr ts m u=R/\A<=w'.heap.size,?_,q,jl,e1,t7.sq qi (by simp),hm.mono ?_⟩;rotate_left
 ·rintro _ lZ ⟨rfl,je⟩;have t21:=t20.q je;have WV:Stay A w7 lZ:=((Stay.refl A w7).q qi).q je;have z21:=WV.sz;refine⟨_,rfl,t20.sq je (by simp),fun hc=>(xF t21.r).mono ?_,fun hc=>?_⟩
  ·rw[if_neg (I9 hc)]at hR;rintro _ rq ⟨la,rfl,hla,h22⟩;have t22:=t21.nx h22;refine⟨la,rfl,t21.sc h22 (by simp),fun rr qj=>?_⟩;have WW:=(WV.d h22 Xh).f qj (.inl hA1);refine⟨{m with acts:=(eZ ts u).1},_,⟨hx.e1,hx.e2,hx.e3,hx.e4,hx.e5,(gv true).stay hx.g WW,?_⟩,rfl,t22.f qj (by simp),hR,ay z7 WW.sz⟩;exact(hla.stay (cA true) (by decide) ((Stay.refl _ _).f qj (.inl (by omega)))).low (cA true) (by omega)
  ·rw[if_pos (I8 hc)]at hR;exact⟨m,u,hx.stay WV,rfl,t21,hR,ay z7 z21⟩
 clear hx tS t7 hR z7 hm t20;rintro i17 s4 i18 b3 i19 i20 s5 i21 l7 i22 l8 l9 i23 w8 ⟨m,u,hx,rfl,t8,hR,z8⟩;unfold xr at hR;have hb8:b<w8.heap.size:=by omega
 refine⟨fun nv sg i24 s7 i25 b4 i26 i27 s8 i28 l10 i29 qW rS i30 w'=>∃(x:List UInt8) (acc:List (List UInt8)) (u':Sx),sg=T x/\MvX A w8 m i24 s7 i25 b4 [.int .i64 i26,.int .i64 i27,.string s8,.int .i64 i28,l10.v,.int .i64 i29] qW i30/\Stay A w8 w'/\Own jJ 1 9 w8.heap.size w' (Fr w8.heap.size) rS acc/\Zt F ts w w' b l u' [k1,k0]/\nH ts nv x acc u'=nH ts (ts.length+1) [45,62] [] u/\mu ts u'<nv/\acc.length+mu ts u'<=ts.length,ts.length+1,⟨[45,62],[],u,rfl,hx,Stay.refl _ _,Own.nil _ _ _ _ _ _,t8,rfl,sd (oI _ _),by rw[aM,aJ];exact oI _ _⟩,?_⟩;clear hx;rintro nv sg i24 s7 i25 b4 i26 i27 s8 i28 l10 i29 qW rS i30 w9 ⟨x,acc,u',rfl,hx,hS,oV,t9,hT,SN,x9⟩;obtain⟨m',rfl⟩:∃m',nv=m'+1:=⟨nv-1,by omega⟩
 rw[nH]at hT;obtain⟨q,cI,e1,dm,vH⟩:=zq t9.r [x] (n:=1) (parts:=#[(0,.string (T x))]) rfl rfl (by decide) (by decide);have t10:=t9.q dm;refine⟨q,cI,e1,t9.sq dm (by simp),vH.mono ?_⟩;rintro _ cS ⟨rfl,JG⟩;have t11:=t10.nx JG;refine⟨_,rfl,t10.sc JG (by simp),fun hc dK eJ=>?_,fun hc=>?_⟩
 ·have hc:=I9 hc;rw[if_neg hc]at hT t11;have t12:=t11.q eJ;refine⟨fun k=>k=k1,rfl,(sY t12.r).mono ?_⟩;rintro _ dX ⟨rfl,tM⟩;have t13:=t12.nx tM;have fG:Only [b] w9 dX:=(((dm.weaken (bs':=[b]) fun _ h=>(by cases h)).trans JG.o fun x hx=>.inl hx).cf eJ).trans tM.o fun x hx=>.inl hx;have zS:=hS.sz;have z9:=fG.size;have zK:=h.sm;have Ka:=oI ts u';have hmu:=mA h.en (cu hc).1 t9.r.lt (cu hc).2 (mz h.en (s:=ci u')).toOn0;obtain⟨y,eK,e2,dz,zM,gn,e3,acp,⟨gs,jo,ry⟩,_⟩:=js (P:=Tryz.prog) (t:=52) (ty:=52) (e:=9) (i:=Tryz.t9) (bytes:=16) (size:=1) (v:=.string (T (ft ts (ci u')).1)) (x:=(ft ts (ci u')).1) (G:=fun _=>False) (by kernel_rfl) (by kernel_rfl) rfl rfl rfl rfl (by decide) (by decide) (by decide) cL (oV.stay cL fG fun x hx=>.inl (by simp only[ae]at hx;omega)) (ay zS z9) rfl rfl (fun k hk _=>hk.elim) (by omega);have nU:∀g,g∈gs->w8.heap.size<=g:=fun g hg=>(ry g hg).2.1;have z8w:=t8.z.o.size;have t14:=t13.q dz;have t15:=t14.row jo fun x hx=>ay z8w (nU x hx);have nk:=t8.ne (k0:=k1) (by simp);refine⟨_,rfl,t12.sc tM (by simp),fun k hk bp=>(by subst hk;exact tM.o.block k bp (by simpa using nk)),y,eK,e2,t13.sq dz (by simp),be.only dz,zM,gn,e3,t14.sr jo (by simp) (fun x hx y hy=>?_),fun k hk bp=>(by subst hk;exact jo.block k bp fun hm=>(by have:=nU k hm;omega)),fun gR ix=>⟨m',by omega,[44],_,_,rfl,hx,?_,?_,t15.f ix (by simp),hT,by omega,?_⟩⟩
  ·have:=nU x hx;simp only[ak,aw,bf]at hy;omega
  ·exact(((hS.go fG fun x hx=>.inl (by simp only[ae]at hx;omega)).q dz).go jo fun x hx=>.inr (nU x hx)).f ix (.inl hA1)
  ·refine((acp.mono cL fun k hk=>?_).stay cL ix fun x hx=>.inl (by simp only[ae]at hx;omega));rcases hk with hk | hk
   ·exact hk
   ·exact ay (ay zS z9) hk
  ·rw[ah,aL];omega
 ·have hc:=I8 hc;rw[if_pos hc]at hT t11;obtain⟨q2,fR,e2,jI,QY⟩:=nK t11.r [59];have t17:=t11.q jI;refine⟨q2,fR,e2,t11.sq jI (by simp),QY.mono ?_⟩;rintro _ jH ⟨rfl,h18⟩;have t18:=t17.nx h18;refine⟨rfl,t17.sc h18 (by simp),fun jK lp=>?_⟩;rw[<-hT]at hR;rw[<-hR];have s9:∀{B:Nat},b<B->k0<B->Stay B w9 jK:=fun hb hk=>((((Stay.refl _ _).q dm).d JG hb).q jI).d h18 hb |>.f lp (.inl hk);have s19:Stay A w8 jK:=(((((hS.q dm).d JG Xh).q jI).d h18 Xh).f lp (.inl hA0))
  refine⟨mvv m.k m.ev m.wt m.gd [.int .i64 i26,.int .i64 i27,.string s8,.int .i64 i28,l10.v,.int .i64 i29] qW rS m.a,by rw[hx.e1,hx.e2,hx.e3,hx.e4,hx.e5];rfl,⟨_,_,_,rfl,(gv true).low ((gv true).stay hx.g s19) hA,(hx.x.stay (cA true) (by decide) s19).low (cA true) hA,?_⟩,(t18.f lp (by simp)).dn⟩;exact((oV.sl cL fun k hk=>hk).stay cL (by decide) (s9 hb8 (by omega))).low cL (by omega)
end
theorem Hq {gp xs:List Value} {j:Nat} {v:Value} (h:xs[j]? =some v):(gp++xs)[gp.length+j]? =some v:=by
 rw[bh (by omega),cT];exact h
theorem kb (gp xs vs:List Value) (j:Nat):bF (gp++xs) (gp.length+j) vs=gp++bF xs j vs:=by
 unfold bF;rw[O2,cb,O3];simp only[av]
structure NbO (B:Nat) (w:World) (n:Nb) (en lv mv:Sl):Prop where
 en:gH true (rl true) 9 116 w (fun k=>B<=k/\mv.a≠some ⟨k,0,none⟩) en n.en
 lv:gH true (rl true) 9 116 w (fun k=>B<=k/\mv.a≠some ⟨k,0,none⟩) lv n.lv
 mv:Own (BG true) 13 54 B w (Fr B) mv n.mv
section
variable {B:Nat} {w w':World} {n:Nb} {en lv mv:Sl}
theorem NbO.go (h:NbO B w n en lv mv) {bs:List Nat} (k:Only bs w w') (hb:∀x,x∈bs->x<B):NbO B w' n en lv mv:=
 ⟨h.en.keep (cA true) (by decide) fun i hi bp=>k.block i bp fun hm=>(by have:=hb i hm;omega),h.lv.keep (cA true) (by decide) fun i hi bp=>k.block i bp fun hm=>(by have:=hb i hm;omega),h.mv.stay (eU true) k fun x hx=>.inl (hb x hx)⟩
theorem NbO.oT (h:NbO B w n en lv mv) {gs:List Nat} {pd:Sl} {m:Mv} (oV:Own (BG true) 13 54 B w' (fun k=>Fr B k∨w.heap.size<=k) pd (n.mv++[m])) (k:Only gs w w') (ry:∀g,g∈gs->mv.a=some ⟨g,0,none⟩) (ha:pd.a=mv.a∨∃g,pd.a=some ⟨g,0,none⟩/\w.heap.size<=g) (hB:B<=w.heap.size):NbO B w' {n with mv:=n.mv++[m]} en lv pd:=by
 have go:∀{la:Sl} {xs:List Ac},gH true (rl true) 9 116 w (fun k=>B<=k/\mv.a≠some ⟨k,0,none⟩) la xs->gH true (rl true) 9 116 w' (fun k=>B<=k/\pd.a≠some ⟨k,0,none⟩) la xs:=fun hx=>
  ((hx.inHeap (cA true) (by decide)).keep (cA true) (by decide) fun i hi bp=>k.block i bp fun hm=>hi.1.2 (ry i hm)).mono (cA true) fun i hi=>⟨hi.1.1,by
   rcases ha with ha | ⟨g,ha,hg⟩
   ·rw[ha];exact hi.1.2
   ·rw[ha];intro e;injection e with e;injection e with e;have:=hi.2;omega⟩
 exact⟨go h.en,go h.lv,oV.mono (eU true) fun i hi=>hi.elim id fun hi=>ay hB hi⟩
theorem NbO.aaT (h:NbO B w n en lv mv) {A:Nat} {la:Sl} {xs:List Ac} (hx:gH true (rl true) 9 116 w (Fr A) la xs) (hA:B<=A) (hm:∀k,A<=k->mv.a≠some ⟨k,0,none⟩):NbO B w {n with en:=xs} la lv mv:=
 ⟨hx.mono (cA true) fun k hk=>⟨ay hA hk,hm k hk⟩,h.lv,h.mv⟩
theorem NbO.aaU (h:NbO B w n en lv mv) {A:Nat} {la:Sl} {xs:List Ac} (hx:gH true (rl true) 9 116 w (Fr A) la xs) (hA:B<=A) (hm:∀k,A<=k->mv.a≠some ⟨k,0,none⟩):NbO B w {n with lv:=xs} en la mv:=
 ⟨h.en,hx.mono (cA true) fun k hk=>⟨ay hA hk,hm k hk⟩,h.mv⟩
end
abbrev Ja (h:vN):List Value:=[.bool false,.bool h.i,.bool h.e,.bool h.l]
structure Cl (F:Nat->Prop) (ts:List Tk) (w w':World) (b:Nat) (l:Sl) (g t:Nat) (gp:List Value) (kh B:Nat) (s:Sx) (n:Nb) (h:vN) (en lv mv:Sl):Prop where
 r:Sr F ts w' b l s
 nb:Blk w' g t (gp++ly n.k n.nm n.ini n.dft en lv mv Sl.nil n.a)
 hb:Blk w' kh 206 (Ja h)
 no:NbO B w' n en lv mv
 o:∃gs,Only (b::g::kh::gs) w w'/\∀x,x∈gs->B<=x
 ng:g≠b/\¬F g
 nh:b<kh
 gh:g≠kh
 gB:g<B
 hB:kh<B
 lB:B<=w'.heap.size
section
variable {F:Nat->Prop} {ts:List Tk} {w w' w2:World} {b:Nat} {l:Sl} {g t:Nat} {gp:List Value} {kh B:Nat} {s s':Sx} {n n':Nb} {h h':vN} {en lv mv uH uI pd:Sl}
theorem Cl.nx (c:Cl F ts w w' b l g t gp kh B s n h en lv mv) (k:Dn F ts w' w2 b l s'):Cl F ts w w2 b l g t gp kh B s' n h en lv mv:=by
 have ng:=c.ng;have nh:=c.nh;have gB:=c.gB;have hBl:=c.hB;obtain⟨gs,h1,h2⟩:=c.o;exact⟨k.r,k.o.blk c.nb (by simp only[ae];omega),k.o.blk c.hb (by simp only[ae];omega),c.no.go k.o fun x hx=>(by simp only[ae]at hx;omega),
  ⟨gs,h1.trans k.o fun x hx=>.inl (by simp only[ae]at hx;simp[hx]),h2⟩,ng,nh,c.gh,gB,c.hB,ay c.lB k.o.size⟩
theorem Cl.q (c:Cl F ts w w' b l g t gp kh B s n h en lv mv) (k:Only [] w' w2):Cl F ts w w2 b l g t gp kh B s n h en lv mv:=c.nx (c.r.dn.q k)
theorem Cl.st (c:Cl F ts w w' b l g t gp kh B s n h en lv mv) (k:Only [g] w' w2) (hB:Blk w2 g t (gp++ly n'.k n'.nm n'.ini n'.dft uH uI pd Sl.nil n'.a)) (no:NbO B w' n' uH uI pd):Cl F ts w w2 b l g t gp kh B s n' h uH uI pd:=by
 obtain⟨gs,h1,h2⟩:=c.o;have gB:=c.gB;exact⟨c.r.U4 k c.ng,hB,k.blk c.hb (by simpa using fun e=>c.gh e.symm),no.go k fun x hx=>(by simp only[ae]at hx;omega),⟨gs,h1.trans k fun x hx=>.inl (by simp only[ae]at hx;simp[hx]),h2⟩,c.ng,c.nh,c.gh,gB,c.hB,ay c.lB k.size⟩
theorem Cl.hd (c:Cl F ts w w' b l g t gp kh B s n h en lv mv) (k:Only [kh] w' w2) (hB:Blk w2 kh 206 (Ja h')):Cl F ts w w2 b l g t gp kh B s n h' en lv mv:=by
 obtain⟨gs,h1,h2⟩:=c.o;have hB':=c.hB;exact⟨c.r.one k c.nh,k.blk c.nb (by simpa using c.gh),hB,c.no.go k fun x hx=>(by simp only[ae]at hx;omega),⟨gs,h1.trans k fun x hx=>.inl (by simp only[ae]at hx;simp[hx]),h2⟩,c.ng,c.nh,c.gh,c.gB,hB',ay c.lB k.size⟩
def aai (h:vN) (j:Nat):Bool:=if j=1 then h.i else if j=2 then h.e else h.l
def L8 (h:vN) (j:Nat):vN:=if j=1 then{h with i:=true}else if j=2 then{h with e:=true}else{h with l:=true}
theorem j3 {j:Nat} (h0:j≠0) (h3:j<=3):j=1∨j=2∨j=3:=by omega
theorem Jb (c:Cl F ts w w' b l g t gp kh B s n h en lv mv) (hm:n.mv.length<ts.length):Calls Tryz.prog 142 #[rp b,.pointer (some ⟨g,gp.length,none⟩),.pointer (some ⟨kh,0,none⟩)] w' fun e w2=>e=.returned (.bool (cF ts n h s).1)/\
  ∃uH uI pd,Cl F ts w w2 b l g t gp kh B (cF ts n h s).2.2.2 (cF ts n h s).2.1 (cF ts n h s).2.2.1 uH uI pd:=by
 refine ret (YJ ⟨b,0,none⟩ _ _ (fun v w2=>v=(.bool (cF ts n h s).1)/\∃uH uI pd,Cl F ts w w2 b l g t gp kh B (cF ts n h s).2.2.2 (cF ts n h s).2.1 (cF ts n h s).2.2.1 uH uI pd) w' ?_);unfold RQ;have zK:=c.r.sm;obtain⟨q,w0,e1,cd,Xg⟩:=Hn c.r [xq,eO,eY] (n:=3) (parts:=#[(0,.string (T xq)),(1,.string (T eO)),(2,.string (T eY))]) rfl rfl (by decide) (by decide);refine⟨q,w0,e1,Xg.mono ?_⟩;rintro _ w1 ⟨rfl,bR⟩;have c1:=(c.q cd).q bR;refine⟨_,rfl,fun hc w2 cO=>?_,fun hc=>?_⟩
 ·have hc:=I9 hc;have c2:=c1.q cO;have nY:cF ts n h s=(true,{n with mv:=n.mv++[(jT ts (bA ts s [xq,eO,eY]:Nat) s).1]},h,(jT ts (bA ts s [xq,eO,eY]:Nat) s).2):=by
   unfold cF;rw[if_pos hc]
  rw[nY];refine⟨fun k=>k=g,_,rfl,rfl,mv,c2.nb.SM (gp.length+6) (Hq rfl),(Qc c2.r _ (cu hc).2).mono ?_⟩;rintro _ w3 ⟨cs,rfl,hx,h3⟩;have c3:=c2.nx h3;generalize (jT ts (bA ts s [xq,eO,eY]:Nat) s).1=m at*
  generalize (jT ts (bA ts s [xq,eO,eY]:Nat) s).2=u at*
  have Kc:=hx;obtain⟨gc,ql,tg,rfl,hg,_,_⟩:=Kc;obtain⟨sl,rfl⟩:=fV hg;have ng:=c.ng;have gB:=c.gB;obtain⟨y,w4,e2,cZ,pd,w5,e3,oV,⟨gs,eC,ry⟩,ha⟩:=js (P:=Tryz.prog) (t:=24) (ty:=24) (e:=54) (i:=Tryz.t54) (bytes:=168) (size:=13) (v:=.agg (mvv m.k m.ev m.wt m.gd (ou m.g.k m.g.n m.g.s m.g.op sl m.g.a) ql tg m.a).toArray) (x:=m) (G:=Fr w2.heap.size) (by kernel_rfl) (by kernel_rfl) rfl rfl rfl rfl (by decide) (by decide) (by decide) (eU true) c3.no.mv c3.lB rfl hx (fun k hk _=>⟨ay c2.lB hk,c2.no.mv.new hk⟩) (by omega);have vM:Only gs w3 w5:=(cZ.weaken (bs':=gs) fun _ h=>(by cases h)).trans eC fun x hx=>.inl hx;have nU:∀x,x∈gs->B<=x:=fun x hx=>(ry x hx).2.1;have hn:g∉gs:=fun hm=>by have:=nU g hm;omega
  have yh:=vM.blk c3.nb hn;refine⟨_,_,_,_,_,_,_,_,sl,_,ql,tg,_,rfl,fun k hk bp=>(by subst hk;exact h3.o.block k bp (by simp only[ae];omega)),y,w4,e2,be.only cZ,pd,w5,e3,fun k hk bp=>(by subst hk;exact eC.block k bp hn),_,rfl,g,_,_,_,rfl,yh,by simp,fun w6 dD S5=>⟨rfl,en,lv,pd,?_⟩⟩;rw[kb]at S5;have no5:=c3.no.oT oV vM (fun x hx=>(ry x hx).1) ha c3.lB;obtain⟨gs0,o1,o2⟩:=c3.o;have nh:=c.nh;have hBB:=c.hB;have lB:=c3.lB;have hgh:=c.gh;have z5:=vM.size;have z6:=dD.size;exact⟨(c3.r.own vM fun x hx=>(by have:=nU x hx;omega)).U4 dD ng,S5,(dD.block kh (by have:=c3.hb.lt;omega) (by simp only[ae];omega)).trans (vM.blk c3.hb fun hm=>(by have:=nU kh hm;omega)),
   no5.go dD fun x hx=>(by simp only[ae]at hx;omega),⟨gs++gs0,((o1.weaken (bs':=b::g::kh::(gs++gs0)) fun x hx=>.inl (by simp only[ak,bJ]at hx⊢;rcases hx with hx | hx | hx | hx<;>simp[hx])).trans vM fun x hx=>.inl (by simp[hx])).trans dD fun x hx=>.inl (by simp only[ae]at hx;simp[hx]),fun x hx=>(bJ.1 hx).elim (nU x) (o2 x)⟩,ng,nh,hgh,gB,hBB,by omega⟩
 ·have hc:=I8 hc;obtain⟨q,w7,e1,fg,Xg⟩:=Hn c1.r [dw,eS,eT] (n:=3) (parts:=#[(0,.string (T dw)),(1,.string (T eS)),(2,.string (T eT))]) rfl rfl (by decide) (by decide);refine⟨q,w7,e1,Xg.mono ?_⟩;rintro _ w8 ⟨rfl,fy⟩;have c8:=(c1.q fg).q fy;have tH:bA ts s [dw,eS,eT]<=3:=CR _;refine⟨_,rfl,fun hj=>?_,fun hj=>?_⟩
  ·have hj:=aag hj;have nY:cF ts n h s=(false,n,h,s):=by unfold cF;rw[if_neg (by simpa using hc),hj];rfl
   rw[nY];exact⟨rfl,_,_,_,c8⟩
  have hj:=aah hj;have hnx:=xG c.r hj;have nY:cF ts n h s=(if aai h (bA ts s [dw,eS,eT])then(false,n,h,gF ts s)else if bA ts s [dw,eS,eT]=1 then(true,{n with ini:=(ft ts (ci s)).1},L8 h 1,cV ts (ft ts (ci s)).2 [59])else if bA ts s [dw,eS,eT]=2 then(true,{n with en:=(eZ ts (ci s)).1},L8 h 2,(eZ ts (ci s)).2)else(true,{n with lv:=(eZ ts (ci s)).1},L8 h 3,(eZ ts (ci s)).2)):=by
   unfold cF;rw[if_neg (by simpa using hc)];rcases j3 hj tH with e | e | e<;>rw[e]<;>rfl
  rw[nY];generalize bA ts s [dw,eS,eT]=j at*
  have NT:(Ja h)[j]? =some (.bool (aai h j)):=by rcases j3 hj tH with e | e | e<;>rw[e]<;>rfl
  have hp:Gn ⟨kh,0,none⟩ (j:Int) 4 1 ⟨kh,j,none⟩:=⟨by omega,by omega,by rw[eV,az];simp⟩
  refine⟨_,rfl,⟨kh,j,none⟩,hp,_,c8.hb.SM j NT,fun hh=>?_,fun hh=>?_⟩
  ·rw[if_pos hh];refine(pO c8.r).mono ?_;rintro _ w9 ⟨rfl,h9⟩;exact⟨rfl,rfl,_,_,_,c8.nx h9⟩
  ·rw[if_neg (by rw[hh];decide)];refine⟨_,rfl,⟨kh,j,none⟩,hp,kh,j,_,_,rfl,c8.hb,by show j+1<=4;omega,fun cI dm vK=>?_⟩;have c10:Cl F ts w cI b l g t gp kh B s n (L8 h j) en lv mv:=c8.hd dm (by
    have e:bF (Ja h) j [.bool true]=Ja (L8 h j):=by rcases j3 hj tH with e | e | e<;>rw[e]<;>rfl
    rwa[e]at vK)
   refine⟨_,Blk.eo c10.r.blk 1 rfl,b,1,_,_,rfl,c10.r.blk,by simp,fun cS dx D7=>?_⟩;rw[c.r.wr]at D7;have OY:=c10.nx (s':=ci s) ⟨dx,c10.r.lm dx D7 hnx⟩;refine⟨fun w'=>∃uH uI pd,Cl F ts w w' b l g t gp kh B _ _ _ uH uI pd,fun dK F6=>⟨by split<;>(try split)<;>rfl,F6⟩,fun FL=>?_,fun FL=>⟨fun OC=>?_,fun OC=>?_⟩⟩
   ·have e1:j=1:=by have:(j:Int)=1:=(by simpa using FL);omega
    subst e1;rw[if_pos rfl];refine(sY OY.r).mono ?_;rintro _ dX ⟨rfl,tM⟩;have c13:=OY.nx tM;refine⟨_,rfl,_,rfl,g,_,_,_,rfl,c13.nb,by simp,fun eK dz D6=>?_⟩;rw[kb]at D6;have c14:=c13.st (n':={n with ini:=(ft ts (ci s)).1}) dz D6 ⟨c13.no.en,c13.no.lv,c13.no.mv⟩;obtain⟨q,gn,e1,jo,Xg⟩:=nK c14.r [59];refine⟨q,gn,e1,Xg.mono ?_⟩;rintro _ gR ⟨rfl,h16⟩;exact⟨rfl,_,_,_,(c14.q jo).nx h16⟩
   ·have e1:j=2:=by have:(j:Int)=2:=(by simpa using OC);omega
    subst e1;rw[if_neg (by decide),if_pos rfl];refine(xF OY.r).mono ?_;rintro _ fR ⟨la,rfl,hla,J7⟩;have c17:=OY.nx J7;refine⟨la,rfl,_,rfl,g,_,_,_,rfl,c17.nb,by simp,fun jH oU N6=>?_⟩;rw[kb]at N6;exact⟨_,_,_,c17.st (n':={n with en:=(eZ ts (ci s)).1}) oU N6 (c17.no.aaT hla OY.lB fun k hk=>OY.no.mv.new hk)⟩
   ·have e0:j≠1:=fun e=>by rw[e]at FL;simp at FL
    have e1:j=3:=by have:¬(j:Int)=2:=(by simpa using OC);omega
    subst e1;rw[if_neg (by decide),if_neg (by decide)];refine(xF OY.r).mono ?_;rintro _ jK ⟨la,rfl,hla,h19⟩;have c19:=OY.nx h19;refine⟨la,rfl,_,rfl,g,_,_,_,rfl,c19.nb,by simp,fun jl qi acs=>?_⟩;rw[kb]at acs;exact⟨_,_,_,c19.st (n':={n with lv:=(eZ ts (ci s)).1}) qi acs (c19.no.aaU hla OY.lB fun k hk=>OY.no.mv.new hk)⟩
end
section
variable {F:Nat->Prop} {ts:List Tk} {w w' w2:World} {b:Nat} {l:Sl} {s s':Sx}
theorem C9 (h:Sr F ts w b l s) (k:Int):Calls Tryz.prog 74 #[rp b,.int .i64 k] w fun e w'=>e=.returned (.agg (ly (di ts k s).1.k (di ts k s).1.nm [] [] Sl.nil Sl.nil Sl.nil Sl.nil (di ts k s).1.a).toArray)/\Dn F ts w w' b l (di ts k s).2:=by
 refine ret (YD ⟨b,0,none⟩ k (fun v w'=>v=(.agg (ly (di ts k s).1.k (di ts k s).1.nm [] [] Sl.nil Sl.nil Sl.nil Sl.nil (di ts k s).1.a).toArray)/\Dn F ts w w' b l (di ts k s).2) w ?_);unfold RL;intro k0 k1 w0 fQ eE kJ jp cd;have t0:=((h.zt.q cd).ad fQ eE).ad kJ jp;obtain⟨ad,g1,g2⟩:=t0.r.now;refine⟨fun w'=>Zt F ts w w' b l (mw ts s) [k1,k0],fun w1 t1=>(sX t1.r (k:=1) (by decide)).mono ?_,l,Blk.eo t0.r.blk 0 rfl,_,Blk.eo t0.r.blk 1 rfl,ad,g1,_,g2.eo 0 _ rfl,fun hc w5 eC=>?_,fun hc w8 fy=>?_⟩
 ·rintro _ w2 ⟨rfl,h2⟩;have t2:=t1.nx h2;refine⟨_,_,_,_,rfl,t1.sc h2 (by simp),fun k2 w3 qM yj cU n1 n2 n3=>⟨fun k=>k=k2,rfl,fun e=>n3 e,fun e=>n3 e,fun w4 cZ=>⟨rfl,?_⟩⟩⟩;have t3:=t2.q cU;have z3:=t3.z.go cZ fun x hx=>.inr (by simp only[ak,aw,bf]at hx⊢;omega);exact⟨z3.o,t3.r.own cZ fun x hx=>t3.lt (by simp only[ak,aw,bf]at hx⊢;omega)⟩
 ·have hc:(tk ts s.i).k=1:=by simpa using hc
  have t5:=t0.q eC;unfold mw;rw[if_pos hc];refine(Um t5.r).mono ?_;rintro _ w6 ⟨rfl,h6⟩;have t6:=t5.nx h6;refine⟨rfl,t5.sc h6 (by simp),_,Blk.eo t6.r.blk 6 rfl,fun hd=>?_,fun hd=>?_⟩
  ·rw[if_pos (by simpa using hd)];refine(wa t6.r 21).mono ?_;rintro _ w7 ⟨rfl,h7⟩;exact⟨rfl,t6.sc h7 (by simp),t6.nx h7⟩
  ·rw[if_neg (by simpa using hd)];exact t6
 ·have hc:¬(tk ts s.i).k=1:=by simpa using hc
  unfold mw;rw[if_neg hc];exact t0.q fy
def Sg (F:Nat->Prop) (ts:List Tk) (b:Nat) (l:Sl) (f:Nat) (d:Int):Prop:=∀(k:Int) (u:Sx) (w:World),Sr F ts w b l u->u.d=d->Calls Tryz.prog 143 #[rp b,.int .i64 k] w fun e w'=>∃cs,e=.returned (.agg cs.toArray)/\lQ true f w' (Fr w.heap.size) (gP ts f k u).1 cs/\Dn F ts w w' b l (gP ts f k u).2
theorem L9 {f:Nat} (hf:0<f) (w:World) (G:Nat->Prop):lQ true f w G I1 (ly 0 [] [] [] Sl.nil Sl.nil Sl.nil Sl.nil 0):=by
 obtain⟨m,rfl⟩:∃m,f=m+1:=⟨f-1,by omega⟩
 exact⟨_,_,_,_,rfl,⟨gH.nil _ _ _ _ _ _,gH.nil _ _ _ _ _ _,gH.nil _ _ _ _ _ _⟩,gH.nil _ _ _ _ _ _⟩
abbrev Sh (f B:Nat) (w:World) (s:Sl) (xs:List Nd):Prop:=Own (lQ true f) 9 27 B w (Fr B) s xs
theorem zr {f B g t:Nat} {gp:List Value} {n1:Nb} {en lv mv l2 l8:Sl} {acc:List Nd} {x:Nd} {k:Int} {nm ini dft:List UInt8} {a b1 b2 b3:Sl} {at_:Int} {k0:Nat} {Q:World->Prop} {H:Nat->Prop}
  (hx:lQ true f w H x (ly k nm ini dft a b1 b2 b3 at_)) (hH:∀i,H i->i<w.heap.size->Fr B i/\l8.a≠some ⟨i,0,none⟩) (hH':∀i,H i->B<=i) (oV:Sh f B w l8 (acc++[I1])) (hn:l2.n=acc.length)
  (vF:Blk w g t (gp++ly n1.k n1.nm n1.ini n1.dft en lv mv l2 n1.a)) (hg:g<B) (fQ:k0<B) (hgk:k0≠g)
  (hQ:∀w',Blk w' g t (gp++ly n1.k n1.nm n1.ini n1.dft en lv mv l8 n1.a)->Sh f B w' l8 (acc++[x])->(∃gk,B<=gk/\Only [g,gk] w w')->Q w'):
  ∃p1:Addr,cD l8 (l2.n:Int) 9 p1/\∃p2:Addr,(some (⟨g,gp.length,none⟩:Addr))=(some p2)/\
   (∃vI OL:Nat,∃z2:List Value,∃OM:Nat,p1=⟨vI,OL,none⟩/\Blk w vI OM z2/\(OL+9)<=z2.length/\k0≠vI/\
    ∀gn:World,Only [vI] w gn->Blk gn vI OM (bF z2 OL [.int .i64 k,.string (T nm),.string (T ini),.string (T dft),a.v,b1.v,b2.v,b3.v,.int .i64 at_])->∃D3 OO:Nat,∃z3:List Value,∃k18:Nat,(p2.add 7)=⟨D3,OO,none⟩/\
    Blk gn D3 k18 z3/\(OO+1)<=z3.length/\k0≠D3/\∀gR:World,Only [D3] gn gR->Blk gR D3 k18 (bF z3 OO [l8.v])->Q gR)/\
   ∃FR FT:Nat,∃z4:List Value,∃k21:Nat,(p2.add 7)=⟨FR,FT,none⟩/\Blk w FR k21 z4/\(FT+1)<=z4.length/\k0≠FR/\
    ∀fR:World,Only [FR] w fR->Blk fR FR k21 (bF z4 FT [l8.v])->∃NM Vo:Nat,∃z5:List Value,∃k24:Nat,p1=⟨NM,Vo,none⟩/\
    Blk fR NM k24 z5/\(Vo+9)<=z5.length/\k0≠NM/\∀jH:World,Only [NM] fR jH->Blk jH NM k24 (bF z5 Vo [.int .i64 k,.string (T nm),.string (T ini),.string (T dft),a.v,b1.v,b2.v,b3.v,.int .i64 at_])->Q jH:=by
 have bp:l2.n<(acc++[I1]).length:=by rw[ah,aL];omega
 have DY:(acc++[I1]).set l2.n x=acc++[x]:=by rw[hn,yr _ _ (aq _),qn];rfl
 obtain⟨gk,cells,a1,a2,a3,a4,a5⟩:=Own.store (bI true f) oV bp (vs:=ly k nm ini dft a b1 b2 b3 at_) rfl hx hH (by decide);have hgB:=(oV.blk a1).1;dsimp only at hgB;refine⟨_,a2,_,rfl,⟨gk,l2.n*9,cells,_,rfl,a3,a4,by omega,fun gn jo V6=>⟨g,gp.length+7,_,t,rfl,jo.blk vF (by simp only[ae];omega),by simp,hgk,fun gR ix N3=>?_⟩⟩,g,gp.length+7,_,t,rfl,vF,by simp,hgk,fun fR jI acw=>?_⟩
 ·rw[kb]at N3;have o15:=a5 gn jo V6;rw[DY]at o15;exact hQ gR N3 (o15.stay (bI true f) ix fun x hx=>.inl (by simp only[ae]at hx;omega)) ⟨gk,hgB,(jo.weaken (bs':=[g,gk]) fun x hx=>.inl (by simp only[ae]at hx;simp[hx])).trans ix fun x hx=>.inl (by simp only[ae]at hx;simp[hx])⟩
 ·rw[kb]at acw;have z17:=jI.size;have acx:Sh f B fR l8 (acc++[I1]):=oV.stay (bI true f) jI fun x hx=>.inl (by simp only[ae]at hx;omega);have ahY:lQ true f fR (fun i=>H i/\i<w.heap.size) x (ly k nm ini dft a b1 b2 b3 at_):=(bI true f).keep ((bI true f).inHeap hx) fun i hi bp=>jI.block i bp (by have:=hH' i hi.1;simp only[ae];omega);obtain⟨gk',V7,c1,c2,c3,c4,c5⟩:=Own.store (bI true f) acx bp (vs:=ly k nm ini dft a b1 b2 b3 at_) rfl ahY (fun i hi _=>hH i hi.1 hi.2) (by decide);have e:gk'=gk:=by
   rw[a1]at c1;injection c1 with c1;injection c1 with c1;exact c1.symm
  subst e;refine⟨gk',l2.n*9,V7,_,rfl,c3,c4,by omega,fun jH oU N6=>?_⟩;have o18:=c5 jH oU N6;rw[DY]at o18;exact hQ jH (oU.blk acw (by simp only[ae];omega)) o18 ⟨gk',hgB,(jI.weaken (bs':=[g,gk']) fun x hx=>.inl (by simp only[ae]at hx;simp[hx])).trans oU fun x hx=>.inl (by simp only[ae]at hx;simp[hx])⟩
structure Kd (F:Nat->Prop) (ts:List Tk) (w w':World) (b:Nat) (l:Sl) (g t:Nat) (gp:List Value) (f B B2:Nat) (n:Nb) (en lv mv:Sl) (s:Sx) (acc:List Nd) (kids:Sl):Prop where
 r:Sr F ts w' b l s
 nb:Blk w' g t (gp++ly n.k n.nm n.ini n.dft en lv mv kids n.a)
 no:AP true w' (fun k=>B<=k/\k<B2) n en lv mv
 kd:Sh f B2 w' kids acc
 o:Only [b,g] w w'
 lB:B2<=w'.heap.size
section
variable {g t:Nat} {gp:List Value} {f B B2:Nat} {n:Nb} {en lv mv kids:Sl} {acc:List Nd}
theorem Kd.nx (h:Kd F ts w w' b l g t gp f B B2 n en lv mv s acc kids) (OS:g≠b) (hb:b<B) (hB:B<=B2) (k:Dn F ts w' w2 b l s'):Kd F ts w w2 b l g t gp f B B2 n en lv mv s' acc kids:=
 ⟨k.r,k.o.blk h.nb (by simp only[ae];omega),h.no.keep fun i hi bp=>k.o.block i bp (by simp only[ae];omega),h.kd.stay (bI true f) k.o fun x hx=>.inl (by simp only[ae]at hx;omega),
  h.o.trans k.o fun x hx=>.inl (by simp only[ae]at hx;simp[hx]),ay h.lB k.o.size⟩
end
end
section
variable {F:Nat->Prop} {ts:List Tk} {w w' w2:World} {b:Nat} {l:Sl} {s s':Sx}
structure Cl0 (F:Nat->Prop) (ts:List Tk) (w w':World) (b:Nat) (l:Sl) (g t:Nat) (gp:List Value) (kh B:Nat) (s:Sx) (n:Nb) (en lv mv:Sl):Prop where
 r:Sr F ts w' b l s
 nb:Blk w' g t (gp++ly n.k n.nm n.ini n.dft en lv mv Sl.nil n.a)
 no:NbO B w' n en lv mv
 o:∃gs,Only (b::g::kh::gs) w w'/\∀x,x∈gs->B<=x
 ng:g≠b/\¬F g
 nh:b<kh
 gh:g≠kh
 gB:g<B
 hB:kh<B
 lB:B<=w'.heap.size
section
variable {g t:Nat} {gp:List Value} {kh B:Nat} {n:Nb} {h:vN} {en lv mv:Sl}
theorem Cl.c0 (c:Cl F ts w w' b l g t gp kh B s n h en lv mv):Cl0 F ts w w' b l g t gp kh B s n en lv mv:=⟨c.r,c.nb,c.no,c.o,c.ng,c.nh,c.gh,c.gB,c.hB,c.lB⟩
theorem Cl0.cl (c:Cl0 F ts w w' b l g t gp kh B s n en lv mv) (hb:Blk w' kh 206 (Ja h)):Cl F ts w w' b l g t gp kh B s n h en lv mv:=⟨c.r,c.nb,hb,c.no,c.o,c.ng,c.nh,c.gh,c.gB,c.hB,c.lB⟩
theorem Cl0.nx (c:Cl0 F ts w w' b l g t gp kh B s n en lv mv) (k:Dn F ts w' w2 b l s'):Cl0 F ts w w2 b l g t gp kh B s' n en lv mv:=by
 have ng:=c.ng;have gB:=c.gB;have nh:=c.nh;have hBl:=c.hB;obtain⟨gs,h1,h2⟩:=c.o;exact⟨k.r,k.o.blk c.nb (by simp only[ae];omega),c.no.go k.o fun x hx=>(by simp only[ae]at hx;omega),
  ⟨gs,h1.trans k.o fun x hx=>.inl (by simp only[ae]at hx;simp[hx]),h2⟩,ng,c.nh,c.gh,gB,c.hB,ay c.lB k.o.size⟩
theorem Cl0.q (c:Cl0 F ts w w' b l g t gp kh B s n en lv mv) (k:Only [] w' w2):Cl0 F ts w w2 b l g t gp kh B s n en lv mv:=c.nx (c.r.dn.q k)
theorem Cl0.sc (c:Cl0 F ts w w' b l g t gp kh B s n en lv mv) (k:Dn F ts w' w2 b l s'):aD [kh] w' w2:=k.o.same fun x hx=>by
 have:=c.nh;have:=c.hB;have:=c.lB;simp only[ae]at hx⊢;omega
theorem Cl0.sq (c:Cl0 F ts w w' b l g t gp kh B s n en lv mv) (k:Only [] w' w2):aD [kh] w' w2:=c.sc (c.r.dn.q k)
end
theorem Fh (n:Nb) (h:vN) (s:Sx):(cF ts n h s).2.1.mv.length<=n.mv.length+1:=by
 unfold cF;split
 ·dsimp only;rw[ah,aL];omega
 ·split
  ·exact fS _
  ·split<;>exact fS _
  ·split<;>exact fS _
  ·split<;>exact fS _
theorem Hr {f:Nat} (h:Sr F ts w b l s) {g t:Nat} {gp:List Value} {n:Nb} (ve:n.en=[]) (tN:n.lv=[]) (lA:n.mv=[]) (hB:Blk w g t (gp++ly n.k n.nm n.ini n.dft Sl.nil Sl.nil Sl.nil Sl.nil n.a)) (hg:g≠b/\¬F g) (hd:InI s.d) (hN:s.fc=0->0<f/\Sg F ts b l f (tQ s.d)):
  Calls Tryz.prog 77 #[rp b,.pointer (some ⟨g,gp.length,none⟩)] w fun e w'=>e=.returned (.tuple #[])/\∃cs,Blk w' g t (gp++cs)/\lQ true (f+1) w' (Fr w.heap.size) (mr ts (gP ts f) n s).1 cs/\Only [b,g] w w'/\Sr F ts w' b l (mr ts (gP ts f) n s).2:=by
 refine ret (YI ⟨b,0,none⟩ _ (fun v w'=>v=(.tuple #[])/\∃cs,Blk w' g t (gp++cs)/\lQ true (f+1) w' (Fr w.heap.size) (mr ts (gP ts f) n s).1 cs/\Only [b,g] w w'/\Sr F ts w' b l (mr ts (gP ts f) n s).2) w ?_);unfold RP;intro k0 w0 fQ eE cd;have t0:=h.zt.al cd fQ eE;have hgw:=hB.lt;have hbw:=h.lb;refine⟨_,Blk.eo t0.r.blk 6 rfl,b,6,_,_,rfl,t0.r.blk,by simp,t0.ne (by simp),fun w1 bR vG=>?_⟩;have t1:Zt F ts w w1 b l {s with d:=tQ s.d} [k0]:=t0.up bR vG h.lt;have nb1:Blk w1 g t (gp++ly n.k n.nm n.ini n.dft Sl.nil Sl.nil Sl.nil Sl.nil n.a):=bR.blk (cd.blk hB (by simp)) (by simp only[ae];omega);have zw1:=t1.z.o.size;have zk:=(t1.z.k k0 (by simp)).2;generalize hBB:w1.heap.size=B at*
 have hgB:g<B:=by omega
 have c1:Cl0 F ts w w1 b l g t gp k0 B {s with d:=tQ s.d} n Sl.nil Sl.nil Sl.nil:=⟨t1.r,nb1,⟨by rw[ve];exact gH.nil _ _ _ _ _ _,by rw[tN];exact gH.nil _ _ _ _ _ _,by rw[lA];exact Own.nil _ _ _ _ _ _⟩,
  ⟨[],t1.z.o.weaken fun x hx=>.inl (by simp only[ae]at hx;simp[hx]),fun x hx=>(by cases hx)⟩,hg,by omega,by omega,hgB,zk,Gc hBB.symm⟩
 have hbB:b<B:=by omega
 unfold mr;dsimp only;generalize hC:ez ts (ts.length+1) n ⟨false,false,false⟩ {s with d:=tQ s.d}=C;have acy:On ts {s with d:=tQ s.d} C.2:=by rw[<-hC];exact rJ h.en _ _ _ _
 refine⟨fun nv b0 b1 b2 b3 w'=>∃(n':Nb) (hd:vN) (s':Sx) (en lv mv:Sl),b0=false/\b1=hd.i/\b2=hd.e/\b3=hd.l/\Cl0 F ts w w' b l g t gp k0 B s' n' en lv mv/\ez ts nv n' hd s'=C/\mu ts s'<nv/\n'.mv.length+mu ts s'<=ts.length,ts.length+1,
  ⟨n,⟨false,false,false⟩,_,_,_,_,rfl,rfl,rfl,rfl,c1,hC,sd (oI _ _),by rw[lA,aM,aJ];exact oI _ _⟩,?_⟩
 rintro nv _ _ _ _ w2 ⟨n',Xi,s',en,lv,mv,rfl,rfl,rfl,rfl,c2,hR,SN,x9⟩;obtain⟨m,rfl⟩:∃m,nv=m+1:=⟨nv-1,by omega⟩
 rw[ez]at hR;refine⟨fun b4 b5 b6 b7 b8 w'=>(b4=true/\∃(n':Nb) (hd:vN) (s':Sx) (en lv mv:Sl),b5=false/\b6=hd.i/\b7=hd.e/\b8=hd.l/\Cl0 F ts w w' b l g t gp k0 B s' n' en lv mv/\ez ts m n' hd s'=C/\mu ts s'<m/\n'.mv.length+mu ts s'<=ts.length)∨
  (b4=false/\∃(en lv mv:Sl),Cl0 F ts w w' b l g t gp k0 B C.2 C.1 en lv mv),?_,(kr c2.r).mono ?_⟩
 rotate_left
 ·rintro _ vJ ⟨rfl,qh⟩;have c29:=c2.q qh;refine⟨_,rfl,c2.sq qh,fun hc hBk=>?_,fun hc=>?_⟩
  ·have hc:s'.fc=0:=by simpa using hc
   rw[if_neg (by simp[hc])]at hR;have Ka:=oI ts s';have bp:=c2.r.lt;have anE:0<mu ts s':=by unfold mu;rw[if_pos hc];omega
   have dN:=Fh (ts:=ts) n' Xi s';refine(Jb (c29.cl (h:=Xi) hBk) (by omega)).mono ?_;rintro _ FU ⟨rfl,uH,uI,pd,c30⟩;refine⟨_,rfl,_,_,_,_,c30.hb,?_⟩;cases nY:(cF ts n' Xi s').1 with
   | true=>
    rw[if_pos nY]at hR;have hmu:=I3 h.en n' Xi hc bp nY;exact .inl ⟨rfl,_,_,_,_,_,_,rfl,rfl,rfl,rfl,c30.c0,hR,by omega,by omega⟩
   | false=>
    rw[if_neg (by rw[nY];decide)]at hR;refine .inr ⟨rfl,uH,uI,pd,?_⟩;rw[<-hR];exact c30.c0
  ·have hc:s'.fc≠0:=by simpa using hc
   rw[if_pos hc]at hR;refine .inr ⟨rfl,en,lv,mv,?_⟩;rw[<-hR];exact c29
 clear hR SN x9 c2;rintro b4 b5 b6 b7 b8 w3 (⟨rfl,hh⟩ | ⟨rfl,en,lv,mv,c3⟩)
 ·exact⟨fun _=>⟨m,JO _,hh⟩,fun hh=>(by cases hh)⟩
 refine⟨fun hh=>(by cases hh),fun _=>?_⟩;generalize C.1=n1 at*
 generalize C.2=s1 at*
 have hsB:B<=w3.heap.size:=c3.lB;have no3:AP true w3 (fun k=>B<=k/\k<w3.heap.size) n1 en lv mv:=
  ⟨(c3.no.en.inHeap (cA true) (by decide)).mono (cA true) fun k hk=>⟨hk.1.1,hk.2⟩,(c3.no.lv.inHeap (cA true) (by decide)).mono (cA true) fun k hk=>⟨hk.1.1,hk.2⟩,(c3.no.mv.sl (eU true) fun k hk=>hk).inHeap (eU true) (by decide)⟩
 obtain⟨gs3,o3,o3'⟩:=c3.o;have o3:Only [b,g] w w3:=o3.weaken fun x hx=>by
  simp only[ak]at hx;rcases hx with rfl | rfl | rfl | hx
  ·exact .inl (by simp)
  ·exact .inl (by simp)
  ·exact .inr fQ
  ·exact .inr (ay zw1 (o3' x hx))
 have k3:Kd F ts w w3 b l g t gp f B w3.heap.size n1 en lv mv s1 [] Sl.nil:=⟨c3.r,c3.nb,no3,Own.nil _ _ _ _ _ _,o3,aq _⟩
 generalize ru:w3.heap.size=B2 at*
 clear c3 no3 o3 o3' hC;generalize hK:oG ts (gP ts f) (ts.length+1) [] s1=K;have sk:∀{u u':World} {x y:Sx},B2<=u.heap.size->Dn F ts u u' b l y->aD [k0] u u':=fun hz k=>k.o.same fun x hx=>by
  simp only[ae]at hx⊢;omega
 have N7:∀{u u':World} {x y:Sx} {acc:List Nd} {kids:Sl},Kd F ts w u b l g t gp f B B2 n1 en lv mv x acc kids->Dn F ts u u' b l y->Kd F ts w u' b l g t gp f B B2 n1 en lv mv y acc kids:=fun a k=>a.nx hg.1 hbB hsB k;have go:∀{u:World} {x:Sx} {acc:List Nd} {kids:Sl},Kd F ts w u b l g t gp f B B2 n1 en lv mv x acc kids->∃(q:Sl) (u2:World),(Instr.buildSlice 52 4 #[.mk 0 (.string (ByteArray.mk #[115,116,97,116,101])),.mk 1 (.string (ByteArray.mk #[112,97,114,97,108,108,101,108])),.mk 2 (.string (ByteArray.mk #[104,105,115,116,111,114,121])),.mk 3 (.string (ByteArray.mk #[100,101,101,112]))]).run Tryz.prog u=.ok q.v u2/\aD [k0] u u2/\Calls Tryz.prog 141 #[rp b,q.v] u2 fun e u3=>e=.returned (.int .i64 (bA ts x lP:Nat))/\aD [k0] u2 u3/\Kd F ts w u3 b l g t gp f B B2 n1 en lv mv x acc kids:=fun{u x acc kids} a=>by
  obtain⟨q,u2,e1,hO,hm⟩:=Hn a.r lP (n:=4) (parts:=#[(0,.string (T AH)),(1,.string (T qC)),(2,.string (T sQ)),(3,.string (T G0))]) rfl rfl (by decide) (by decide);have a2:=N7 a (a.r.dn.q hO);refine⟨q,u2,e1,sk (x:=x) a.lB (a.r.dn.q hO),hm.mono ?_⟩;rintro _ u3 ⟨rfl,cU⟩;exact⟨rfl,sk (x:=x) a2.lB (a2.r.dn.q cU),N7 a2 (a2.r.dn.q cU)⟩
 obtain⟨q,w4,e1,OZ,Xf⟩:=go k3;refine⟨q,w4,e1,OZ,Xf.mono ?_⟩;rintro _ w5 ⟨rfl,Iq,k5⟩;refine⟨_,rfl,Iq,fun nv i2 _ _ _ _ w'=>∃(s':Sx) (acc:List Nd) (kids:Sl),i2=((bA ts s' lP:Nat):Int)/\Kd F ts w w' b l g t gp f B B2 n1 en lv mv s' acc kids/\oG ts (gP ts f) nv acc s'=K/\mu ts s'<nv/\acc.length+mu ts s'<=ts.length/\s'.d=tQ s.d/\(s'.fc=0->s.fc=0),ts.length+1,
  ⟨s1,[],Sl.nil,rfl,k5,hK,sd (oI _ _),by rw[aM,aJ];exact oI _ _,acy.d,fun e=>(acy.le e).1⟩,?_⟩
 clear Iq k5 Xf OZ e1 k3 hK;rintro nv _ b9 OK SY SZ w6 ⟨s',acc,kids,rfl,k6,hR,SN,x9,hd6,hz6⟩;obtain⟨m',rfl⟩:∃m',nv=m'+1:=⟨nv-1,by omega⟩
 rw[oG]at hR;have hkb:k0≠b:=t0.ne (by simp);have hkg:k0≠g:=by omega
 refine⟨fun hc=>?_,fun hc=>?_⟩
 ·have hc:=I9 hc;rw[if_neg hc]at hR;obtain⟨hfc,uG⟩:=cu hc;obtain⟨hf0,hNC⟩:=hN (hz6 hfc);have bp:=k6.r.lt;refine⟨_,Blk.eo k6.r.blk 1 rfl,b,1,_,_,rfl,k6.r.blk,by simp,hkb,fun w7 fg hB7=>?_⟩;rw[k6.r.wr]at hB7;have k7:=N7 k6 (y:=ci s') ⟨fg,k6.r.lm fg hB7 (xG k6.r hc)⟩;have zK:=h.sm;have hmul:=oI ts s';have Jv:=G7 h.en f (bA ts s' lP:Nat) (ci s') (by show InI s'.d;rw[hd6];exact Kr _);have hmu:=mA h.en hfc bp uG Jv.toOn0;generalize bA ts s' lP=kk at*
  generalize hNx:gP ts f (kk:Int) (ci s')=N at*
  have ah1:N.2.d=tQ s.d:=Jv.d.trans hd6;have ah2:N.2.fc=0->s.fc=0:=fun e=>hz6 (Jv.le e).1;refine⟨fun _ _ _ _ w'=>∃jj,Kd F ts w w' b l g t gp f B B2 n1 en lv mv N.2 (acc++[N.1]) jj,fun Vn b14 b15 b16 w8 h8=>?_,fun cS dx=>?_⟩
  ·obtain⟨jj,k8⟩:=h8;obtain⟨q,w9,e1,hs9,Xj⟩:=go k8;refine⟨q,w9,e1,hs9,Xj.mono ?_⟩;rintro _ cI ⟨rfl,ah3,uE⟩;exact⟨_,rfl,ah3,m',JO _,_,_,_,rfl,uE,hR,by omega,by rw[ah,aL];omega,ah1,ah2⟩
  ·have qX:=N7 k7 (k7.r.dn.q dx);have Eo:=qX.lB;have qc:∀{u:World},Sr F ts u b l (ci s')->Calls Tryz.prog 143 #[rp b,.int .i64 (kk:Int)] u fun e w'=>∃cs,e=.returned (.agg cs.toArray)/\lQ true f w' (Fr u.heap.size) N.1 cs/\Dn F ts u w' b l N.2:=fun hu=>by
    have:=hNC (kk:Int) (ci s') _ hu hd6;rw[hNx]at this;exact this
   have zN:∀{u u':World} {bs:List Nat},Only bs u u'->(∀x,x∈bs->x≠g)->be (fun k=>k=g) u u':=fun hO hb k hk bp=>by subst hk;exact hO.block k bp fun hm=>hb k hm rfl
   have zc:Value.cells (.agg (ly 0 [] [] [] Sl.nil Sl.nil Sl.nil Sl.nil 0).toArray)=(ly 0 [] [] [] Sl.nil Sl.nil Sl.nil Sl.nil 0).toArray:=rfl;have hz:∀(u:World),∃(y:Sl) (u2:World),(Instr.buildSlice 25 1 #[.mk 0 (.agg (ly 0 [] [] [] Sl.nil Sl.nil Sl.nil Sl.nil 0).toArray)]).run Tryz.prog u=.ok y.v u2/\Own (lQ true f) 9 27 u.heap.size u2 (fun _=>False) y [I1]/\Only [] u u2:=fun u=>by
    obtain⟨y,u2,a1,a2,a3,_⟩:=jf (P:=Tryz.prog) (t:=25) (e:=27) (i:=Tryz.t27) (w:=u) (F:=fun _=>False) (r:=lQ true f) (size:=9) (vs:=[.agg (ly 0 [] [] [] Sl.nil Sl.nil Sl.nil Sl.nil 0).toArray]) (xs:=[I1]) (len:=1) (parts:=#[(0,.agg (ly 0 [] [] [] Sl.nil Sl.nil Sl.nil Sl.nil 0).toArray)]) (by kernel_rfl) (by kernel_rfl) rfl rfl (by decide) rfl rfl (by decide) (by decide) (bI true f) ⟨⟨rfl,L9 hf0 _ _⟩,trivial⟩;exact⟨y,u2,a1,a2,a3⟩
   have acA:∀{u:World} {y:Sl} {A:Nat},B2<=A->Sh f B2 u kids acc->(∀k,A<=k->kids.a≠some ⟨k,0,none⟩)->SliceF (lQ true f) 9 u (Fr A) y [I1]->A<=u.heap.size->∃(s8:Sl) (u2:World),(Builtin.append_ #[25,25] 25 #[kids.v,y.v]).run Tryz.prog u=.ok s8.v u2/\Sh f B2 u2 s8 (acc++[I1])/\(∃gs,Only gs u u2/\∀x,x∈gs->B2<=x/\x<A)/\(∀k,A<=k->k<u.heap.size->s8.a≠some ⟨k,0,none⟩):=fun{u y A} hA ho hk hy hAu=>by
    obtain⟨s8,u2,a1,a2,gs,a3,a4,a5⟩:=vO (P:=Tryz.prog) (t:=25) (ty:=25) (e:=27) (i:=Tryz.t27) (bytes:=160) (size:=9) (y:=y) (ys:=[I1]) (by kernel_rfl) (by kernel_rfl) rfl rfl rfl rfl (bI true f) ho (hy.mono (bI true f) fun k wj=>⟨ay hA wj,hk k wj⟩) (ay hA hAu) (by rw[aL];omega) (by decide);refine⟨s8,u2,a1,a2,⟨gs,a3,fun x hx=>⟨(a4 x hx).2.1,?_⟩⟩,fun k h1 h2=>?_⟩
    ·exact Nat.lt_of_not_le fun tH=>hk x tH (a4 x hx).1
    ·rcases a5 with a5 | a5
     ·rw[a5];exact hk k h1
     ·rw[a5];intro e;injection e with e;injection e with e;omega
   have Q8:∀{u:World} {s8:Sl},Sr F ts u b l N.2->Blk u g t (gp++ly n1.k n1.nm n1.ini n1.dft en lv mv kids n1.a)->AP true u (fun k=>B<=k/\k<B2) n1 en lv mv->Only [b,g] w u->B2<=u.heap.size->Sh f B2 u s8 (acc++[I1])->∀w',Blk w' g t (gp++ly n1.k n1.nm n1.ini n1.dft en lv mv s8 n1.a)->Sh f B2 w' s8 (acc++[N.1])->(∃gk,B2<=gk/\Only [g,gk] u w')->∃jj,Kd F ts w w' b l g t gp f B B2 n1 en lv mv N.2 (acc++[N.1]) jj:=fun hr vF hno ho hz _ w' h1 h2 ⟨gk,h3,h4⟩=>
    ⟨_,hr.far h4 fun x hx=>(by
     simp only[ak,aw,bf]at hx;rcases hx with rfl | rfl
     ·exact hg
     ·exact hr.gt (by omega)),h1,hno.keep fun i hi bp=>h4.block i bp (by simp only[ak,aw,bf];omega),h2,ho.trans h4 fun x hx=>by
     simp only[ak,aw,bf]at hx⊢;omega,ay hz h4.size⟩
   refine⟨fun k=>k=g,_,rfl,rfl,kids,qX.nb.SM (gp.length+7) (Hq rfl),(qc qX.r).mono ?_,?_⟩
   ·rintro _ dK ⟨cs,rfl,hx,F6⟩;have J6:=N7 qX F6;have Kc:=hx;obtain⟨f',rfl⟩:∃f',f=f'+1:=⟨f-1,by omega⟩
    obtain⟨xe,xl,xm,xk,rfl,_⟩:=Kc;obtain⟨y,dX,e2,hy,dZ⟩:=hz dK;have vI:=N7 J6 (J6.r.dn.q dZ);obtain⟨s8,eK,e3,F7,⟨gs,dz,ry⟩,hs8⟩:=acA (u:=dX) (y:=y) (A:=cS.heap.size) Eo vI.kd (fun k hk=>qX.kd.new hk) ((hy.slice (bI true _)).mono (bI true _) fun k hk=>(by
     rcases hk with hk | hk
     ·exact hk.elim
     ·exact ay F6.o.size hk.1)) (ay F6.o.size dZ.size)
    have V8:∀x,x∈gs->x≠g:=fun x hx=>by have:=(ry x hx).1;omega
    have z14:=dz.size;have VD:=vI.lB;have z12:=F6.o.size;refine⟨_,_,_,_,xe,xl,xm,xk,_,rfl,sk (x:=s') qX.lB F6,zN F6.o (by simp only[ae];omega),y,dX,e2,sk (x:=s') J6.lB (J6.r.dn.q dZ),zN dZ (by simp),s8,eK,e3,dz.same (fun x hx=>?_),zN dz V8,?_⟩
    ·simp only[ae]at hx;subst hx;exact⟨by omega,fun hm=>by have:=(ry x hm).1;omega⟩
    ·refine zr (H:=fun k=>cS.heap.size<=k/\k<dK.heap.size) (acc:=acc) ?_ (fun k hk _=>⟨ay Eo hk.1,hs8 k hk.1 (bC hk.2 dZ.size)⟩) (fun k hk=>ay Eo hk.1) F7 qX.kd.len (dz.blk vI.nb fun hm=>V8 g hm rfl) (by omega) (by omega) hkg (Q8 (vI.r.own dz fun x hx=>(by have:=(ry x hx).1;omega)) (dz.blk vI.nb fun hm=>V8 g hm rfl) (vI.no.keep fun i hi bp=>dz.block i bp fun hm=>(by have:=(ry i hm).1;omega)) (vI.o.trans dz fun x hx=>.inr (by have:=(ry x hx).1;have:=qX.o.size;omega)) (ay VD z14) F7);refine(bI true _).keep ((bI true _).inHeap hx) fun k hk bp=>?_;exact(dz.block k (bC bp dZ.size) fun hm=>by have:=(ry k hm).2;have:=hk.1;omega).trans (dZ.block k bp (by simp))
   ·obtain⟨y,jK,e2,hy,lp⟩:=hz cS;have FR:=N7 qX (qX.r.dn.q lp);refine⟨y,jK,e2,sk (x:=s') qX.lB (qX.r.dn.q lp),zN lp (by simp),(qc FR.r).mono ?_⟩;rintro _ jl ⟨cs,rfl,hx,Bx⟩;have FT:=N7 FR Bx;have Kc:=hx;obtain⟨f',rfl⟩:∃f',f=f'+1:=⟨f-1,by omega⟩
    obtain⟨xe,xl,xm,xk,rfl,_⟩:=Kc;have ah5:=(((hy.slice (bI true _)).inHeap (bI true _) (by decide)).keep (bI true _) (by decide) (w':=jl) fun k hk bp=>Bx.o.block k bp (by
     rcases hk.1 with hk | hk
     ·exact hk.elim
     ·have:=hk.1;simp only[ae];omega)).mono (bI true _) (G:=Fr cS.heap.size) fun k hk=>(by
     rcases hk.1 with hk | hk
     ·exact hk.elim
     ·exact hk.1)
    obtain⟨s8,lZ,e3,F7,⟨gs,je,ry⟩,hs8⟩:=acA (u:=jl) (y:=y) (A:=cS.heap.size) Eo FT.kd (fun k hk=>qX.kd.new hk) ah5 (ay lp.size Bx.o.size);have V8:∀x,x∈gs->x≠g:=fun x hx=>by have:=(ry x hx).1;omega
    have z21:=je.size;have z20:=FT.lB;have z19:=lp.size;refine⟨_,_,_,_,xe,xl,xm,xk,_,rfl,sk (x:=s') FR.lB Bx,zN Bx.o (by simp only[ae];omega),s8,lZ,e3,je.same (fun x hx=>?_),zN je V8,?_⟩
    ·simp only[ae]at hx;subst hx;exact⟨by omega,fun hm=>by have:=(ry x hm).1;omega⟩
    ·refine zr (H:=fun k=>jK.heap.size<=k/\k<jl.heap.size) (acc:=acc) ?_ (fun k hk _=>⟨by show B2<=k;omega,hs8 k (by omega) hk.2⟩) (fun k hk=>by omega) F7 qX.kd.len (je.blk FT.nb fun hm=>V8 g hm rfl) (by omega) (by omega) hkg (Q8 (FT.r.own je fun x hx=>(by have:=(ry x hx).1;omega)) (je.blk FT.nb fun hm=>V8 g hm rfl) (FT.no.keep fun i hi bp=>je.block i bp fun hm=>(by have:=(ry i hm).1;omega)) (FT.o.trans je fun x hx=>.inr (by have:=(ry x hx).1;have:=qX.o.size;omega)) (ay z20 z21) F7);refine(bI true _).keep ((bI true _).inHeap hx) fun k hk bp=>?_;exact je.block k bp fun hm=>by have:=(ry k hm).2;have:=hk.1;omega
 ·have hc:=I8 hc;rw[if_pos hc]at hR;refine⟨_,Blk.eo k6.r.blk 6 rfl,b,6,_,_,rfl,k6.r.blk,by simp,hkb,fun oC ik ah6=>?_⟩;have Q1:=N7 k6 (y:={s' with d:=T9 s'.d}) ⟨ik,k6.r.lm ik ah6 k6.r.lt⟩;obtain⟨q,qf,e1,qk,hm⟩:=nK Q1.r [125];have k27:=N7 Q1 (Q1.r.dn.q qk);refine⟨q,qf,e1,sk (x:=s') Q1.lB (Q1.r.dn.q qk),hm.mono ?_⟩;rintro _ vd ⟨rfl,h28⟩;have NN:=N7 k27 h28;refine⟨rfl,sk (x:=s') k27.lB h28,rfl,_,NN.nb,?_,NN.o,?_⟩
  ·rw[<-hR];refine⟨en,lv,mv,kids,rfl,NN.no.mono fun k hk=>ay zw1 hk.1,(NN.kd.sl (bI true f) fun k hk=>hk).low (bI true f) (by omega)⟩
  ·rw[<-hR];exact NN.r
end
end Go.Proofs.YtmhoiicofhlgbaaGreatDoor.Con
namespace Go.Proofs.YtmhoiicofhlgbaaGreatDoor.Con
open Go Go.RowKit Go.Kt Go.Kt.V
set_option linter.unusedSimpArgs false
set_option linter.unusedVariables false
set_option maxHeartbeats 4000000
def Tk.Good (t:Tk):Prop:=(t.k=2->∃c r,t.t=c::r/\dU c=true)/\(t.k=4->∃c r,t.t=c::r/\dU c=false)/\0<=t.n/\t.n<=9223372036854775807
theorem Ma {m:List UInt8} {q:Tq} (h:j8 m=.ok q):q.1≠5/\∀a,Tk.Good ⟨q.1,q.2.1,q.2.2.1,a⟩:=by
 cases m with
 | nil=>cases h
 | cons c r=>
  simp only[j8]at h;split at h
  ·rename_i hc;unfold kE at h;split at h
   ·cases h
   ·injection h with h;subst h;have hw:dU c=true:=by unfold dU;rw[hc];rfl
    refine⟨by dsimp only;split<;>decide,fun a=>⟨fun _=>?_,fun h4=>?_,by dsimp only;decide,by dsimp only;decide⟩⟩
    ·dsimp only;rw[cn,if_pos hw];exact⟨c,_,rfl,hw⟩
    ·dsimp only at h4;split at h4<;>exact absurd h4 (by decide)
  ·rename_i hl;split at h
   ·rename_i hc;unfold pz at h;split at h
    ·cases h
    ·split at h
     ·cases h
     ·injection h with h;subst h;refine⟨by dsimp only;decide,fun a=>⟨fun h=>absurd h (by dsimp only;decide),fun h=>absurd h (by dsimp only;decide),by dsimp only;omega,?_⟩⟩;dsimp only;unfold eX;split
      ·dsimp only;decide
      ·split
       ·dsimp only;decide
       ·split
        ·dsimp only;omega
        ·dsimp only;decide
   ·rename_i hd;unfold lJ at h;split at h
    ·cases h
    ·rename_i hs;injection h with h;subst h;refine⟨by dsimp only;decide,fun a=>⟨fun h=>absurd h (by dsimp only;decide),fun _=>?_,by dsimp only;decide,by dsimp only;decide⟩⟩;obtain⟨n,hn⟩:∃n,jS (c::r)=n+1:=⟨jS (c::r)-1,by omega⟩
     dsimp only;rw[hn,fJ];refine⟨c,_,rfl,?_⟩;unfold dU;rw[gK];exact⟨by simpa using hl,by simpa using hd⟩
theorem Da {l:List UInt8}:∀(n i:Nat),i<=l.length->l.length-i<=n->∀r,iL l i=.ok r->∃(fr:List Tk) (a:Int),r=fr++[⟨5,[],0,a⟩]/\(∀t,t∈fr->t.k≠5/\t.Good)/\r.length<=l.length-i+1
 | n,i,hi,hn,r,h=>by
  rw[ir hi]at h;split at h
  ·injection h with h;exact⟨[],_,h.symm,fun t ht=>(by cases ht),by rw[<-h,aL];omega⟩
  ·split at h
   ·cases h
   ·rename_i q hq;have q1:=sK hq;have q2:=AD hq;rw[bK]at q2;split at h
    ·cases h
    ·rename_i r' hr';injection h with h;subst h
     match n,hn with
     | 0,hn=>omega
     | n+1,hn=>
      obtain⟨fr,a,e,hf,hl⟩:=Da n _ (by omega) (by omega) _ hr';have hg:=Ma hq;refine⟨_::fr,a,by rw[e];rfl,fun t ht=>?_,by rw[ao];omega⟩;rcases ak.1 ht with rfl | ht
      ·exact⟨hg.1,hg.2 _⟩
      ·exact hf t ht
theorem Qd {fr:List Tk} {a:Int} (h:∀t,t∈fr->t.k≠5):oM (fr++[⟨5,[],0,a⟩]):=fun i hi=>by
 rw[ah,aL]at hi;unfold tk;by_cases hl:i<fr.length
 ·rw[aR hl,bn hl,iy,ah,aL];exact⟨fun e=>absurd e (h _ (List.getElem_mem hl)),fun e=>by omega⟩
 ·have e:i=fr.length:=by omega
  subst e;rw[bh (aq _),qn,ah,aL];exact⟨fun _=>rfl,fun _=>rfl⟩
theorem Hs {l:List UInt8}:∀(n i:Nat),i<=l.length->l.length-i<=n->∀x,iL l i=.error x->x.1≠0
 | n,i,hi,hn,x,h=>by
  rw[ir hi]at h;split at h
  ·cases h
  ·split at h
   ·rename_i e hq;injection h with h;subst h;exact GQ hq
   ·rename_i q hq;have q1:=sK hq;have q2:=AD hq;rw[bK]at q2;split at h
    ·rename_i y hy;injection h with h;subst h
     match n,hn with
     | 0,hn=>omega
     | n+1,hn=>exact Hs n _ (by omega) (by omega) _ hy
    ·cases h
theorem rN {l:List UInt8} (h:(bU l).2.1=0):oM (bU l).1/\(∀t,t∈(bU l).1->t.Good)/\0<(bU l).1.length/\(bU l).1.length<=16385:=by
 unfold bU at h⊢;split at h
 ·cases h
 ·rename_i hl;rw[if_neg hl];cases hr:iL l 0 with
  | error x=>
   rw[hr]at h;exact absurd h (Hs l.length 0 (aF _) (by omega) _ hr)
  | ok r=>
   obtain⟨fr,a,e,hf,hn⟩:=Da l.length 0 (aF _) (by omega) r hr;dsimp only;subst e;refine⟨Qd fun t ht=>(hf t ht).1,fun t ht=>?_,by rw[ah,aL];omega,by omega⟩;rcases bJ.1 ht with ht | ht
   ·exact(hf t ht).2
   ·simp only[ae]at ht;subst ht;exact⟨fun h=>absurd h (by dsimp only;decide),fun h=>absurd h (by dsimp only;decide),by dsimp only;decide,by dsimp only;decide⟩
end Go.Proofs.YtmhoiicofhlgbaaGreatDoor.Con
namespace Go.Proofs.YtmhoiicofhlgbaaGreatDoor.Con
open Go Go.RowKit Go.Kt Go.Kt.V Go.Proofs.YtmhoiicofhlgbaaGreatDoor.Vc
set_option linter.unusedSimpArgs false
set_option linter.unusedVariables false
set_option maxHeartbeats 4000000
section
variable {F:Nat->Prop} {ts:List Tk} {w w' w2:World} {b:Nat} {l:Sl} {s s':Sx}
theorem Ht:∀(f:Nat) (d:Int),0<=d->d<f->d<=9223372036854775807->Sg F ts b l f d
 | 0,d,h0,h1,_=>by omega
 | f+1,d,h0,h1,h2=>by
  intro k u w h hd;refine(Y5 ⟨b,0,none⟩ k (fun v w'=>∃cs,v=(.agg cs.toArray)/\lQ true (f+1) w' (Fr w.heap.size) (gP ts (f+1) k u).1 cs/\Dn F ts w w' b l (gP ts (f+1) k u).2) w ?_).mono (by
   rintro e w' ⟨v,rfl,cs,rfl,h⟩;exact⟨cs,rfl,h⟩)
  unfold RZ;intro k0 w0 fQ eE cd;have t0:=h.zt.al cd fQ eE;refine(C9 t0.r k).mono ?_;rintro _ w1 ⟨rfl,h1'⟩;have t1:=t0.nx h1';have Jv:=xu h.en k u;have hnd:=P3 (ts:=ts) (k:=k) (s:=u);rw[gP];have vF:(di ts k u).1.ini=[]/\(di ts k u).1.dft=[]/\(di ts k u).1.en=[]/\(di ts k u).1.lv=[]/\(di ts k u).1.mv=[]:=⟨rfl,rfl,rfl,rfl,rfl⟩
  generalize di ts k u=N at*
  obtain⟨nb,u1⟩:=N;dsimp only at*
  obtain⟨i1,i2,i3,i4,i5⟩:=vF;obtain⟨nk,nnm,ah7,ah8,nen,nlv,nmv,na⟩:=nb;dsimp only at i1 i2 i3 i4 i5;subst i1 i2 i3 i4 i5;dsimp only at*
  refine⟨_,_,_,_,Sl.nil,Sl.nil,Sl.nil,Sl.nil,_,rfl,t0.sc h1' (by simp),fun hc k1 w2 kJ jp cO=>?_,fun hc k2 cI qM yj dm=>?_⟩
  ·rw[if_pos (by have:=aj hc;omega)];have t2:=t1.al cO kJ jp;obtain⟨q,w3,e1,cU,hm⟩:=nK t2.r [45,62];have t3:=t2.q cU;refine⟨q,w3,e1,t2.sq cU (by simp),hm.mono ?_⟩;rintro _ w4 ⟨rfl,h4⟩;have t4:=t3.nx h4;refine⟨rfl,t3.sc h4 (by simp),(sY t4.r).mono ?_⟩;rintro _ w5 ⟨rfl,h5⟩;have t5:=t4.nx h5;refine⟨_,rfl,t4.sc h5 (by simp),fun w6 dD=>?_⟩;have t6:=t5.f dD (by simp);obtain⟨q,w7,e1,fg,hm⟩:=nK t6.r [59];have t7:=t6.q fg;refine⟨q,w7,e1,t6.sq fg (by simp),hm.mono ?_⟩;rintro _ w8 ⟨rfl,h8⟩;have t8:=t7.nx h8;refine⟨rfl,t7.sc h8 (by simp),fun w9 fG=>⟨_,rfl,⟨Sl.nil,Sl.nil,Sl.nil,Sl.nil,rfl,⟨gH.nil _ _ _ _ _ _,gH.nil _ _ _ _ _ _,gH.nil _ _ _ _ _ _⟩,gH.nil _ _ _ _ _ _⟩,(t8.f fG (by simp)).dn⟩⟩
  ·rw[if_neg (by have:=ar hc;omega)];have t10:=t1.al dm qM yj;obtain⟨q,cS,e1,dx,hm⟩:=nK t10.r [123];have t11:=t10.q dx;refine⟨q,cS,e1,t10.sq dx (by simp),hm.mono ?_⟩;rintro _ dK ⟨rfl,F6⟩;have t12:=t11.nx F6;have hms:=fD (s:=u1) h.en [123];refine⟨rfl,t11.sc F6 (by simp),fun hB _=>?_⟩;have hsd:(cV ts u1 [123]).d=d:=hms.d.trans (Jv.d.trans hd);refine(Hr (f:=f) t12.r (gp:=[]) (n:=⟨nk,nnm,[],[],[],[],[],na⟩) rfl rfl rfl hB (t12.r.gt (t12.lt (by simp))) (by rw[hsd];exact⟨by omega,h2⟩) (fun hf=>?_)).mono ?_
   ·have hd0:=hnd (hms.le hf).1;rw[hd]at hd0;have NI:tQ d=d-1:=by unfold tQ;rw[gV (by omega) (by omega)]
    rw[hsd,NI];exact⟨by omega,Ht f (d-1) (by omega) (by omega) (by omega)⟩
   ·rintro _ dX ⟨rfl,cs,yq,hx,dZ,aia⟩;have Kc:=hx;obtain⟨xe,xl,xm,xk,rfl,_⟩:=Kc;have VD:Fz [b] w dX [k2,k0]:=t12.z.go dZ fun x hx=>(by simp only[ak,aw,bf]at hx⊢;omega)
    have l2:=t12.lt (k0:=k2) (by simp);have l0:=t12.lt (k0:=k0) (by simp);have k0l:=(t1.z.k k0 (by simp)).2;refine⟨rfl,t12.z.sm dZ (by simp) (fun x hx=>?_),_,_,_,_,xe,xl,xm,xk,_,yq,fun eK dz D6=>⟨_,rfl,?_,?_⟩⟩
    ·simp only[ak,aw,bf]at hx;rcases hx with rfl | rfl
     ·exact .inl (by simp)
     ·exact .inr fun y hy=>by simp only[ae]at hy;omega
    ·refine(bI true _).low ((bI true _).stay hx ((Stay.refl _ _).f dz (.inl ?_))) t12.z.o.size;have:=(t12.z.k k0 (by simp)).2;exact this
    ·exact⟨(VD.f dz (by simp)).o,aia.one dz l0⟩
theorem Ur (h:Sr F ts w b l s) (hg:∀t,t∈ts->t.Good):Calls Tryz.prog 76 #[rp b] w fun e w'=>e=.returned (.agg #[.string (T (pF ts s).1.n),.int .i64 (pF ts s).1.v,.int .i64 (pF ts s).1.a])/\Dn F ts w w' b l (pF ts s).2:=by
 refine ret (YH ⟨b,0,none⟩ (fun v w'=>v=(.agg #[.string (T (pF ts s).1.n),.int .i64 (pF ts s).1.v,.int .i64 (pF ts s).1.a])/\Dn F ts w w' b l (pF ts s).2) w ?_);unfold RO;intro k0 w0 fQ eE cd;have t0:=h.zt.al cd fQ eE;obtain⟨ad,g1,g2⟩:=t0.r.now;unfold pF;dsimp only;generalize NC:(if(tk ts s.i).k=1 then yH ts s else s)=s1;refine⟨fun w'=>Zt F ts w w' b l s1 [k0],fun w1 t1=>(sX t1.r (k:=1) (by decide)).mono ?_,l,Blk.eo t0.r.blk 0 rfl,_,Blk.eo t0.r.blk 1 rfl,ad,g1,_,g2.eo 0 _ rfl,fun hc dK eJ=>?_,fun hc eK dz=>?_⟩
 ·rintro _ w2 ⟨rfl,h2⟩;have t2:=t1.nx h2;refine⟨_,_,_,_,rfl,t1.sc h2 (by simp),fun k1 w3 kJ jp cU=>?_⟩;have t3:=t2.al cU kJ jp;obtain⟨q,w4,e1,cZ,hm⟩:=nK t3.r [61];have t4:=t3.q cZ;refine⟨q,w4,e1,t3.sq cZ (by simp),hm.mono ?_⟩;rintro _ w5 ⟨rfl,h5⟩;have t5:=t4.nx h5;refine⟨rfl,t4.sc h5 (by simp),?_⟩;obtain⟨q,w6,e1,dD,hm⟩:=zq t5.r [[45]] (n:=1) (parts:=#[(0,.string (T [45]))]) rfl rfl (by decide) (by decide);have t6:=t5.q dD;refine⟨q,w6,e1,t5.sq dD (by simp),hm.mono ?_⟩;rintro _ w7 ⟨rfl,h7⟩;have t7:=t6.nx h7;generalize hgg:bA ts (cV ts (dR ts s1 1).2 [61]) [[45]]=gg at*
  have hgl:gg<=1:=by rw[<-hgg];exact CR _
  refine⟨_,rfl,t6.sc h7 (by simp),(sX t7.r (k:=3) (by decide)).mono ?_⟩;rintro _ w8 ⟨rfl,h8⟩;have t8:=t7.nx h8;refine⟨_,_,_,_,rfl,t7.sc h8 (by simp),?_⟩;obtain⟨q,w9,e1,fG,hm⟩:=nK t8.r [59];have t9:=t8.q fG;refine⟨q,w9,e1,t8.sq fG (by simp),hm.mono ?_⟩;rintro _ cI ⟨rfl,N2⟩;refine⟨rfl,t9.sc N2 (by simp),fun cS dx=>⟨?_,((t9.nx N2).f dx (by simp)).dn⟩⟩;have hn:∀u:Sx,0<=(dR ts u 3).1.n/\(dR ts u 3).1.n<=9223372036854775807:=fun u=>by
   unfold dR;split
   ·exact⟨jQ 0,(by decide:(0:Int)<=9223372036854775807)⟩
   ·unfold tk;cases hx:ts[u.i]? with
    | none=>exact⟨jQ 0,(by decide:(0:Int)<=9223372036854775807)⟩
    | some t=>exact(hg t (aE hx)).2.2
  obtain⟨n0,n1⟩:=hn (if gg=0 then cV ts (dR ts s1 1).2 [61]else ci (cV ts (dR ts s1 1).2 [61]));generalize (dR ts (if gg=0 then cV ts (dR ts s1 1).2 [61]else ci (cV ts (dR ts s1 1).2 [61])) 3).1.n=x at*
  have e:IntKind.wrap .i64 ((IntKind.wrap .i64 (1-(IntKind.wrap .i64 (2*(gg:Int)))))*x)=if gg=0 then x else IntKind.wrap .i64 (-x):=by
   rcases(by omega:gg=0∨gg=1)with rfl | rfl
   ·rw[if_pos rfl];show IntKind.wrap .i64 (1*x)=x;rw[Int.one_mul,gV (by omega) (by omega)]
   ·rw[if_neg (by decide)];show IntKind.wrap .i64 (-1*x)=_;rw[Int.neg_one_mul]
  rw[e]
 ·refine(Un (t0.q eJ).r).mono ?_;rintro _ dX ⟨rfl,tM⟩;refine⟨rfl,(t0.q eJ).sc tM (by simp),?_⟩;rw[<-NC,if_pos (by simpa using hc)];exact(t0.q eJ).nx tM
 ·rw[<-NC,if_neg (by simpa using hc)];exact t0.q dz
end
theorem Si (w:World) (F:Nat->Prop):ChR true 15 w F ch0 Sl.nil (ly 0 [] [] [] Sl.nil Sl.nil Sl.nil Sl.nil 0):=⟨gH.nil _ _ _ _ _ _,L9 (by decide) _ _⟩
theorem ChR.stay {d:Nat} {w w':World} {B:Nat} {c:Ch} {vs:Sl} {cs:List Value} (h:ChR true d w (Fr B) c vs cs) (hs:Stay B w w'):ChR true d w' (Fr B) c vs cs:=⟨h.vars.stay fb (by decide) hs,(bI true d).stay h.root hs⟩
theorem ChR.low {d:Nat} {w:World} {A B:Nat} {c:Ch} {vs:Sl} {cs:List Value} (h:ChR true d w (Fr B) c vs cs) (hA:A<=B):ChR true d w (Fr A) c vs cs:=⟨h.vars.low fb hA,(bI true d).low h.root hA⟩
theorem Us {ts:List Tk} (hE:oM ts) {s:Sx} {ss:List (List UInt8)} (hi:s.i<ts.length) (hw:bA ts s ss≠0):mu ts (pF ts (ci s)).2<mu ts s:=
 mA hE (cu hw).1 hi (cu hw).2 (LI hE (ci s)).toOn0
theorem Db {w:World} (l:List UInt8) (hE:Er w):Calls Tryz.prog 34 #[.string (T l)] w fun e w'=>
  ∃(vs:Sl) (cs:List Value),e=.returned (.tuple #[.agg (vs.v::cs).toArray,.agg #[.int .i64 (dr l).2.1,.int .i64 (dr l).2.2]])/\ChR true 15 w' (Fr w.heap.size) (dr l).1 vs cs/\Only [] w w':=by
 refine(Ya (T l) (fun v w'=>∃(vs:Sl) (cs:List Value),v=(.tuple #[.agg (vs.v::cs).toArray,.agg #[.int .i64 (dr l).2.1,.int .i64 (dr l).2.2]])/\ChR true 15 w' (Fr w.heap.size) (dr l).1 vs cs/\Only [] w w') w ?_).mono (by
  rintro e w' ⟨v,rfl,vs,cs,rfl,h⟩;exact⟨vs,cs,rfl,h⟩)
 unfold Ry;generalize hP:dr l=P;unfold dr at hP;intro k0 k1 w0 fQ eE kJ jp cd;have z0:=cd.size;refine(CG l (hE.only cd)).mono ?_;rintro _ w1 ⟨rs,rfl,hT,bR⟩;have z1:=bR.size;have gX:=cd.cf bR;have tOk:=rN (l:=l);have aib:∀{w2 w3:World},Only [] w1 w2->Only [k1,k0] w2 w3->Only [] w w3:=fun cO cU=>((gX.cf cO).trans cU fun x hx=>.inr (by simp only[ak,aw,bf]at hx;omega))
 refine⟨rs,_,_,rfl,bR.same (by simp;omega),fun hc k2 w2 qM yj cO n1 n2 n3=>⟨fun k=>k=k2,rfl,fun e=>n2 e,fun e=>n3 e,fun w3 cU=>?_⟩,fun hc k3 k4 k5 w4 yp vL yN FY uG JD cZ=>?_⟩
 ·have hc:(bU l).2.1≠0:=by simpa using hc
  rw[if_pos hc]at hP;subst hP;exact⟨Sl.nil,_,rfl,Si _ _,aib cO cU⟩
 have hc:(bU l).2.1=0:=by simpa using hc
 obtain⟨Xk,OX,acC,dN⟩:=tOk hc;rw[if_neg (by simpa using hc)]at hP;have aic:=((hT.sl.inHeap hY (by decide)).mono hY (G:=fun k=>w0.heap.size<=k/\k<w1.heap.size) fun k hk=>⟨hk.1.1,hk.2⟩)
 generalize (bU l).1=ts at*
 clear tOk hT;have z4:=cZ.size;obtain⟨q,w5,e1,hq,eC⟩:=lI w4 [eh] (n:=1) (parts:=#[(0,.string (T eh))]) rfl rfl (by decide) (by decide);have z5:=eC.size;refine⟨q,w5,e1,eC.same (by simp;omega),fun yh n04 n14 n34 n54=>?_⟩;have r5:Sr (fun k=>w0.heap.size<=k/\k<w1.heap.size) ts w5 k4 rs rj:=⟨yh,SliceF.only hY (by decide) aic (cZ.cf eC) (by simp),fun k hk=>by have:=hk.2;omega,Xk,acC,by omega⟩
 have JY:∀k,(fun k=>w0.heap.size<=k/\k<w1.heap.size) k->k<w1.heap.size:=fun k hk=>hk.2;generalize (fun k=>w0.heap.size<=k/\k<w1.heap.size)=F at*
 have w5w:Only [] w w5:=(gX.cf cZ).cf eC;have sm:∀{u u':World} {x:Sx},w5.heap.size<=u.heap.size->Dn F ts u u' k4 rs x->aD [k0,k1,k3,k5] u u':=fun hz d=>d.o.same (by
  intro x hx;simp only[ak,aw,bf]at hx⊢;omega)
 have sq:∀{u u':World},w5.heap.size<=u.heap.size->Only [] u u'->aD [k0,k1,k3,k4,k5] u u':=fun hz o=>o.same fun x hx=>⟨by
  simp only[ak,aw,bf]at hx;omega,by simp⟩
 have oD:∀{u u':World} {x:Sx},Only [] w u->Dn F ts u u' k4 rs x->Only [] w u':=fun o d=>o.trans d.o fun x hx=>.inr (by simp only[ae]at hx;omega);have o5:∀{u u':World},Only [] w u->Only [k5] u u'->Only [] w u':=fun o d=>o.trans d fun x hx=>.inr (by simp only[ae]at hx;omega);have r55:∀{u u':World} {x:Sx},Sr F ts u k4 rs x->Only [k5] u u'->Sr F ts u' k4 rs x:=fun r o=>r.U4 o ⟨n54,fun hF=>by have:=JY _ hF;omega⟩;have Ij:=yh.lt;refine(Ho r5 (sJ hq) fun k hk e=>(by have:=hk.1;omega)).mono ?_;rintro _ w6 ⟨rfl,h6⟩;have z6:=h6.o.size;refine⟨rfl,sm (aq _) h6,rs,_,_,_,_,_,_,_,_,h6.r.blk,(C9 h6.r 1).mono ?_⟩;rintro _ w7 ⟨rfl,h7⟩;have z7:=h7.o.size;have hC:pH ts=(⟨(pG ts (ts.length+1) [] (cV ts (di ts 1 (cV ts rj eh)).2 [123])).1,(mr ts (gP ts 14) (di ts 1 (cV ts rj eh)).1 (pG ts (ts.length+1) [] (cV ts (di ts 1 (cV ts rj eh)).2 [123])).2).1⟩,E2 ts (mr ts (gP ts 14) (di ts 1 (cV ts rj eh)).1 (pG ts (ts.length+1) [] (cV ts (di ts 1 (cV ts rj eh)).2 [123])).2).2):=rfl;have vF:(di ts 1 (cV ts rj eh)).1.ini=[]/\(di ts 1 (cV ts rj eh)).1.dft=[]/\(di ts 1 (cV ts rj eh)).1.en=[]/\(di ts 1 (cV ts rj eh)).1.lv=[]/\(di ts 1 (cV ts rj eh)).1.mv=[]:=⟨rfl,rfl,rfl,rfl,rfl⟩
 have on7:On ts rj (di ts 1 (cV ts rj eh)).2:=(fD Xk _).trans (xu Xk _ _);generalize di ts 1 (cV ts rj eh)=N at*
 obtain⟨⟨nk,nnm,ah7,ah8,nen,nlv,nmv,na⟩,u1⟩:=N;dsimp only at*
 obtain⟨i1,i2,i3,i4,i5⟩:=vF;subst i1 i2 i3 i4 i5;refine⟨_,_,_,_,Sl.nil,Sl.nil,Sl.nil,Sl.nil,_,rfl,sm z6 h7,rs,_,_,_,_,_,_,_,_,h7.r.blk,fun w8 fy wl=>?_⟩;have z8:=fy.size;have r8:=r55 h7.r fy;have w8w:=o5 (oD (oD w5w h6) h7) fy;obtain⟨q,w9,e1,fG,hm⟩:=nK r8 [123];have z9:=fG.size;refine⟨q,w9,e1,sq (by omega) fG,hm.mono ?_⟩;rintro _ cI ⟨rfl,N2⟩;have OP:=N2.o.size;have aid:=oD (w8w.cf fG) N2;have aie:On ts rj (cV ts u1 [123]):=on7.trans (fD Xk _);clear hm;generalize cV ts u1 [123]=u2 at*
 generalize hV:pG ts (ts.length+1) [] u2=V at*
 generalize hB:cI.heap.size=B at*
 refine⟨rfl,sm (by omega) N2,rs,_,_,_,_,_,_,_,_,N2.r.blk,fun nv l10 i28 s3 s4 s5 qW rS wi yd i29 D2 i30 i31 i32 i33 i34 i35 i36 i37 w'=>∃(u:Sx) (acc:List Vr),i28=nk/\s3=T nnm/\s4=T []/\s5=T []/\qW=Sl.nil/\rS=Sl.nil/\wi=Sl.nil/\yd=Sl.nil/\i29=na/\Sr F ts w' k4 rs u/\Own Om 3 79 B w' (Fr B) l10 acc/\pG ts nv acc u=V/\mu ts u<nv/\acc.length+mu ts u<=ts.length/\Only [] w w'/\B<=w'.heap.size/\u.d=12,
  ts.length+1,⟨u2,[],rfl,rfl,rfl,rfl,rfl,rfl,rfl,rfl,rfl,N2.r,Own.nil _ _ _ _ _ _,hV,sd (oI _ _),by rw[aM,aJ];exact oI _ _,aid,Gc hB.symm,aie.d⟩,?_⟩
 clear hV;rintro nv l10 nk2 _ _ _ _ _ _ _ na2 D2 i30 i31 i32 i33 i34 i35 i36 i37 cS ⟨u,acc,rfl,rfl,rfl,rfl,rfl,rfl,rfl,rfl,rfl,r11,N8,hR,SN,x9,aif,zB,hud⟩;obtain⟨m,rfl⟩:∃m,nv=m+1:=⟨nv-1,by omega⟩
 rw[pG]at hR;obtain⟨q,dK,e1,eJ,hm⟩:=zq r11 [rI] (n:=1) (parts:=#[(0,.string (T rI))]) rfl rfl (by decide) (by decide);have z12:=eJ.size;refine⟨q,dK,e1,sq (by omega) eJ,hm.mono ?_⟩;rintro _ dX ⟨rfl,tM⟩;have VD:=tM.o.size;have V9:=oD (aif.cf eJ) tM;have S8:Own Om 3 79 B dX (Fr B) l10 acc:=(N8.stay fb eJ fun x hx=>(by cases hx)).stay fb tM.o fun x hx=>.inl (by simp only[ae]at hx;omega);refine⟨_,rfl,sm (by omega) tM,rs,_,_,_,_,_,_,_,_,tM.r.blk,fun F8 eK dz D6=>?_,fun F8 yq m05 m15 m35=>?_⟩
 ·have F8:=I9 F8;rw[if_neg F8]at hR tM;have z14:=dz.size;have r14:=tM.r.only dz;refine⟨fun k=>k=k5,rfl,(Ur r14 OX).mono ?_⟩;rintro _ gn ⟨rfl,J8⟩;have z15:=J8.o.size;have hmu:=Us Xk r11.lt F8;have Jv:=LI Xk (ci u);generalize pF ts (ci u)=X at*
  obtain⟨x,u'⟩:=X;dsimp only at*
  have Ka:=oI ts u;have acD:Own Om 3 79 B gn (Fr B) l10 acc:=(S8.stay fb dz fun x hx=>(by cases hx)).stay fb J8.o fun x hx=>.inl (by simp only[ae]at hx;omega);obtain⟨y,gR,e2,ix,zM,fR,e3,oV,⟨gs,jI,ry⟩,_⟩:=js (P:=Tryz.prog) (t:=22) (ty:=22) (e:=79) (i:=Tryz.t79) (bytes:=32) (size:=3) (v:=.agg #[.string (T x.n),.int .i64 x.v,.int .i64 x.a]) (x:=x) (G:=fun _=>False) (by kernel_rfl) (by kernel_rfl) rfl rfl rfl rfl (by decide) (by decide) (by decide) fb acD (by omega) rfl rfl (fun k hk _=>hk.elim) (by omega);have nU:∀g,g∈gs->B<=g:=fun g hg=>(ry g hg).2.1;have z16:=ix.size;have z17:=jI.size;refine⟨_,_,_,rfl,sm (by omega) J8,rs,_,_,_,_,_,_,_,_,J8.r.blk,fun k hk bp=>(by subst hk;exact J8.o.block k bp (by simp only[ae];omega)),y,gR,e2,sq (by omega) ix,be.only ix,zM,fR,e3,jI.same (fun x hx=>?_),fun k hk bp=>(by subst hk;exact jI.block k bp fun hm=>(by have:=nU k hm;omega)),fun jH oU N6=>?_⟩
  ·simp only[ak,aw,bf]at hx;exact⟨by omega,fun hm=>by have:=nU x hm;omega⟩
  ·have z18:=oU.size;have r17:Sr F ts fR k4 rs u':=(J8.r.only ix).own jI fun x hx=>(by have:=nU x hx;omega)
   refine⟨m,JO _,u',acc++[x],rfl,rfl,rfl,rfl,rfl,rfl,rfl,rfl,rfl,r55 r17 oU,?_,hR,by omega,by rw[ah,aL];omega,o5 (((oD (V9.cf dz) J8).cf ix).trans jI fun x hx=>.inr (by have:=nU x hx;have:=V9.size;omega)) oU,by omega,Jv.d.trans hud⟩;refine(oV.mono fb fun k hk=>?_).stay fb oU fun x hx=>.inl (by simp only[ae]at hx;omega);rcases hk with hk | hk
   ·exact hk
   ·show B<=k;omega
 ·have F8:=I8 F8;rw[if_pos F8]at hR tM;subst hR;dsimp only at hC;have r13:=tM.r;refine(Hr (f:=14) r13 (gp:=[l10.v]) (n:=⟨nk2,nnm,[],[],[],[],[],na2⟩) rfl rfl rfl yq ⟨n54,fun hF=>(by have:=JY _ hF;omega)⟩ (by rw[hud];exact⟨by decide,by decide⟩) (fun _=>by
   rw[hud];exact⟨by decide,Ht 14 11 (by decide) (by decide) (by decide)⟩)).mono ?_
  generalize mr ts (gP ts 14) ⟨nk2,nnm,[],[],[],[],[],na2⟩ u=D at*
  obtain⟨root,s1⟩:=D;dsimp only at hC;rw[hC]at hP;dsimp only at hP;rintro _ jK ⟨rfl,cs,acE,hx,lp,r19⟩;dsimp only at*
  have z19:=lp.size;have aii:Only [] w jK:=V9.trans lp fun x hx=>.inr (by simp only[ak,aw,bf]at hx;omega);have aij:Stay B dX jK:=Stay.of lp fun x hx=>.inl (by simp only[ak,aw,bf]at hx;omega);have c19:ChR true 15 jK (Fr w5.heap.size) ⟨acc,root⟩ l10 cs:=⟨((S8.sl fb fun k hk=>hk).stay fb (by decide) aij).low fb (by omega),(bI true 15).low hx (by omega)⟩
  have Kc:=hx;obtain⟨xe,xl,xm,xk,rfl,_⟩:=Kc;have sm3:∀{u u':World} {bs:List Nat},w5.heap.size<=u.heap.size->Only bs u u'->(∀x,x∈bs->x=k4∨x=k5)->aD [k0,k1,k3] u u':=fun hz o hb=>o.same fun x hx=>⟨by simp only[ak,aw,bf]at hx;omega,fun hm=>by have:=hb x hm;simp only[ak,aw,bf]at hx;omega⟩
  refine⟨rfl,sm3 (by omega) lp (by simp),rs,_,_,_,_,_,_,_,_,r19.blk,l10,_,_,_,_,xe,xl,xm,xk,_,acE,?_⟩;have st:∀{u u':World} {x:Sx},Sr F ts u k4 rs x->Blk u k5 29 (l10.v::ly root.b.k root.b.nm root.b.ini root.b.dft xe xl xm xk root.b.a)->Only [] w u->ChR true 15 u (Fr w5.heap.size) ⟨acc,root⟩ l10 (ly root.b.k root.b.nm root.b.ini root.b.dft xe xl xm xk root.b.a)->∀{y:Sx},Dn F ts u u' k4 rs y->Sr F ts u' k4 rs y/\Blk u' k5 29 (l10.v::ly root.b.k root.b.nm root.b.ini root.b.dft xe xl xm xk root.b.a)/\Only [] w u'/\ChR true 15 u' (Fr w5.heap.size) ⟨acc,root⟩ l10 (ly root.b.k root.b.nm root.b.ini root.b.dft xe xl xm xk root.b.a):=fun{u u' x} a1 a2 a3 a4 {y} d=>
   ⟨d.r,d.o.blk a2 (by simp only[ae];omega),oD a3 d,a4.stay (Stay.of d.o fun x hx=>.inl (by simp only[ae]at hx;omega))⟩
  refine⟨fun l27 i67 FP FQ NL l28 l29 l30 l31 i68 l32 i69 i70 i71 i72 i73 i74 i75 i76 jl=>w5.heap.size<=jl.heap.size/\Sr F ts jl k4 rs (E2 ts s1)/\Blk jl k5 29 (l10.v::ly root.b.k root.b.nm root.b.ini root.b.dft xe xl xm xk root.b.a)/\Only [] w jl/\ChR true 15 jl (Fr w5.heap.size) ⟨acc,root⟩ l10 (ly root.b.k root.b.nm root.b.ini root.b.dft xe xl xm xk root.b.a),?_,?_⟩
  ·rintro l27 i67 FP FQ NL l28 l29 l30 l31 i68 l32 i69 i70 i71 i72 i73 i74 i75 i76 jl ⟨z20,a1,a2,a3,a4⟩;refine(kr a1).mono ?_;rintro _ lZ ⟨rfl,je⟩;obtain⟨b1,b2,b3,b4⟩:=st a1 a2 a3 a4 (a1.dn.q je);have z21:=je.size;refine⟨_,rfl,sm3 z20 je (by simp),rs,_,_,_,_,_,_,_,_,b1.blk,l10,_,_,_,_,xe,xl,xm,xk,_,b2,fun hf rq JC _ _ p01 p03 p04 p05 p13 p14 p15 p34 p35 p45=>⟨fun k=>k=k4,rfl,fun e=>p04 e,fun e=>p14 e,fun rr qj _ _=>?_⟩,fun hf qe yM _ _=>?_⟩
   ·have hf:(E2 ts s1).fc≠0:=by simpa using hf
    rw[if_pos hf]at hP;subst hP;exact⟨Sl.nil,_,rfl,Si _ _,(b3.cf JC).trans qj fun x hx=>.inr (by simp only[ak,aw,bf]at hx;omega)⟩
   ·have hf:¬(E2 ts s1).fc≠0:=by simpa using hf
    rw[if_neg hf]at hP;subst hP;refine⟨l10,_,rfl,(b4.stay (Stay.of yM fun x hx=>.inl (by simp only[ak,aw,bf]at hx;omega))).low w5w.size,b3.trans yM fun x hx=>.inr (by simp only[ak,aw,bf]at hx;omega)⟩
  ·refine⟨fun b1 l39 i87 Q0 Vm s18 l40 l41 l42 l43 i88 l44 i89 i90 i91 i92 i93 i94 i95 i96 mG=>b1=decide (s1.fc=0/\(tk ts s1.i).k≠5)/\w5.heap.size<=mG.heap.size/\Sr F ts mG k4 rs s1/\Blk mG k5 29 (l10.v::ly root.b.k root.b.nm root.b.ini root.b.dft xe xl xm xk root.b.a)/\Only [] w mG/\ChR true 15 mG (Fr w5.heap.size) ⟨acc,root⟩ l10 (ly root.b.k root.b.nm root.b.ini root.b.dft xe xl xm xk root.b.a),?_,fun qf qk _ _=>?_⟩
   ·rintro b1 l39 i87 Q0 Vm s18 l40 l41 l42 l43 i88 l44 i89 i90 i91 i92 i93 i94 i95 i96 mG ⟨rfl,z25,a1,a2,a3,a4⟩;unfold E2;refine⟨fun hb=>(pO a1).mono ?_,fun hb=>?_⟩
    ·rw[if_pos (aj hb)];rintro _ oC ⟨rfl,h26⟩;obtain⟨b1,b2,b3,b4⟩:=st a1 a2 a3 a4 h26;have z26:=h26.o.size;exact⟨rfl,sm3 z25 h26.o (by simp),rs,_,_,_,_,_,_,_,_,b1.blk,l10,_,_,_,_,xe,xl,xm,xk,_,b2,by omega,b1,b2,b3,b4⟩
    ·rw[if_neg (ar hb)];exact⟨z25,a1,a2,a3,a4⟩
   ·have z27:=qk.size;obtain⟨a1,a2,a3,a4⟩:=st r19 acE aii c19 (r19.dn.q qk);refine(kr a1).mono ?_;rintro _ vd ⟨rfl,uF⟩;obtain⟨b1,b2,b3,b4⟩:=st a1 a2 a3 a4 (a1.dn.q uF);have z28:=uF.size;obtain⟨ad,g1,g2⟩:=b1.now;refine⟨_,rfl,sm3 (by omega) uF (by simp),rs,_,_,_,_,_,_,_,_,b1.blk,l10,_,_,_,_,xe,xl,xm,xk,_,b2,fun hb=>⟨ad,g1,_,g2.eo 0 _ rfl,?_,by omega,b1,b2,b3,b4⟩,fun hb=>⟨?_,by omega,b1,b2,b3,b4⟩⟩
    ·have hb:s1.fc=0:=by simpa using hb
     rw[br];simp[hb]
    ·have hb:¬s1.fc=0:=by simpa using hb
     simp[hb]
def Bu (w:World) (b k:Nat):Prop:=∃n c,w.cell? ⟨b,1,none⟩=some (.slice (some ⟨k,0,none⟩) n c)
structure Mw (f:Bool) (b:Nat) (w w':World):Prop where
 o:OnlyP (fun k=>k=b∨(f=false/\Bu w b k)) w w'
 u:∀k,Bu w' b k->Bu w b k∨(f=false/\w.heap.size<=k)
abbrev St:=Bool×Int
structure Qz (w0:World) (b:Nat) (w:World) (l:List UInt8) (st:St):Prop where
 o:Only [] w0 w
 lo:w0.heap.size<=b
 ex:∃(q:Option Addr) (sl:Sl),(q=none∨q=some ⟨b,0,none⟩)/\Blk w b 72 [.pointer q,sl.v,.bool st.1,.int .i64 st.2]/\Bf w (b+1) sl l
 i:st.1=false->0<=st.2/\st.2<=400
 big:l.length<=274877906944
structure Up (st:St) (c:Bool) (n:Nat) (bH:St):Prop where
 w:bH.1=((st.1||!c)||decide (400<st.2+n))
 a:bH.1=false->bH.2=st.2+n
theorem or3 {a b c:Bool} (h:false=((a||!b)||c)):a=false/\b=true/\c=false:=by
 revert h;cases a<;>cases b<;>cases c<;>decide
theorem Up.ok {st bH:St} {c:Bool} {n:Nat} (h:Up st c n bH) (e:bH.1=false):st.1=false/\c=true/\bH.2=st.2+n/\¬400<st.2+(n:Int):=by
 obtain⟨a,b,d⟩:=or3 (e.symm.trans h.w);exact⟨a,b,h.a e,ar d⟩
theorem Up.tr {st bH Wa:St} {c c':Bool} {n n':Nat} (h:Up st c n bH) (k:Up bH c' n' Wa):Up st (c&&c') (n+n') Wa:=by
 cases e:Wa.1 with
 | false=>
  obtain⟨k1,k2,k3,k4⟩:=k.ok e;obtain⟨h1,h2,h3,h4⟩:=h.ok k1;have h5:¬400<st.2+((n+n':Nat):Int):=by omega
  refine⟨?_,fun _=>by omega⟩;rw[e,h1,h2,k2,aK h5];rfl
 | true=>
  refine⟨?_,fun e2=>by rw[e]at e2;cases e2⟩;rw[e];refine Eq.symm (aP fun hn=>?_);obtain⟨a1,a2,a3⟩:=or3 (gL.2 hn).symm;rw[ab]at a2;have a3:=ar a3;have h5:¬400<st.2+(n:Int):=by omega
  have e1:bH.1=false:=by rw[h.w,a1,a2.1,aK h5];rfl
  have e2:=h.a e1;have h6:¬400<bH.2+(n':Int):=by omega
  have:=k.w;rw[e,e1,a2.2,aK h6]at this;cases this
theorem Up.cg {st bH:St} {c c':Bool} {n n':Nat} (h:Up st c n bH) (e:c=c') (en:n=n'):Up st c' n' bH:=by subst e en;exact h
theorem Up.le {st bH:St} {c:Bool} {n:Nat} (h:Up st c n bH) (h0:st.1=false->0<=st.2) (e:bH.1=false):0<=bH.2/\bH.2<=400:=by
 obtain⟨a,b,d,h2⟩:=h.ok e;have:=h0 a;omega
section
variable {f g:Bool} {w0 ws w w' w1 rQ:World} {b k:Nat} {l l':List UInt8} {st bH:St} {ks ks':List Nat}
theorem Mw.refl (f:Bool) (b:Nat) (w:World):Mw f b w w:=⟨OnlyP.refl _ _,fun _ h=>.inl h⟩
theorem Mw.trans (h:Mw f b w w') (k:Mw f b w' rQ):Mw f b w rQ:=by
 have z:=h.o.size;refine⟨h.o.trans k.o fun x hx=>?_,fun x hx=>?_⟩
 ·rcases hx with hx | ⟨ef,hx⟩
  ·exact .inl (.inl hx)
  ·rcases h.u x hx with e | ⟨_,e⟩
   ·exact .inl (.inr ⟨ef,e⟩)
   ·exact .inr e
 ·rcases k.u x hx with e | ⟨ef,e⟩
  ·exact h.u x e
  ·exact .inr ⟨ef,by omega⟩
theorem Mw.up (h:Mw f b w w'):Mw false b w w':=⟨h.o.mono fun k _ hk=>hk.elim .inl fun e=>.inr ⟨rfl,e.2⟩,fun k hk=>(h.u k hk).elim .inl fun e=>.inr ⟨rfl,e.2⟩⟩
theorem Mw.aaV (h:Mw true b w w'):Only [b] w w':=h.o.aaQ fun k hk=>hk.elim (fun e=>.inl (by rw[e];simp)) fun e=>(by cases e.1)
theorem sZ (h:w'.heap[b]? =w.heap[b]?) {k:Nat} (hb:Bu w' b k):Bu w b k:=by
 obtain⟨n,c,hc⟩:=hb;refine⟨n,c,?_⟩;unfold World.cell? at hc⊢;rw[h]at hc;exact hc
theorem Qz.lb (h:Qz w0 b w l st):b<w.heap.size:=by
 obtain⟨q,sl,_,hB,_⟩:=h.ex;exact hB.lt
theorem Qz.arg (h:Qz w0 b w l st) (h':Qz w0 b w' l' bH) {k:Nat} (hk:k<w0.heap.size):w'.heap[k]? =w.heap[k]? :=(h'.o.block k hk (by simp)).trans (h.o.block k hk (by simp)).symm
theorem Mw.only (hb:b<w.heap.size) (h:Only [] w w'):Mw f b w w':=⟨h.p0,fun k hk=>.inl (sZ (h.block b hb (by simp)) hk)⟩
theorem Hu {q v2 v3:Value} {t:TypeId} {sl:Sl} (hB:Blk w b t [q,sl.v,v2,v3]) {k:Nat} (h:Bu w b k):sl.a=some ⟨k,0,none⟩:=by
 obtain⟨n,c,hc⟩:=h;have:=Blk.eo hB 1 rfl 0 sl.v rfl;have e:(Addr.add ⟨b,0,none⟩ 1).add 0=⟨b,1,none⟩:=by simp[Addr.add]
 rw[e,hc]at this;have:(Value.slice (some ⟨k,0,none⟩) n c)=.slice sl.a sl.n sl.c:=Option.some.inj this;injection this with e1 _ _;exact e1.symm
theorem Dc {q v2 v3:Value} {t:TypeId} {sl:Sl} (hB:Blk w b t [q,sl.v,v2,v3]) {k:Nat} (h:sl.a=some ⟨k,0,none⟩):Bu w b k:=by
 have:=Blk.eo hB 1 rfl 0 sl.v rfl;have e:(Addr.add ⟨b,0,none⟩ 1).add 0=⟨b,1,none⟩:=by simp[Addr.add]
 rw[e]at this;refine⟨sl.n,sl.c,?_⟩;rw[this,<-h]
theorem Qz.bu (h:Qz w0 b w l st) {k:Nat} (hk:Bu w b k):b<k/\k<w.heap.size:=by
 obtain⟨q,sl,_,hB,hb⟩:=h.ex;have:=hb.lt (Hu hB hk);omega
theorem Qz.only (h:Qz w0 b w l st) (hO:Only [] w w'):Qz w0 b w' l st:=by
 obtain⟨q,sl,hq,hB,hb⟩:=h.ex;exact⟨h.o.cf hO,h.lo,⟨q,sl,hq,hO.blk hB (by simp),hb.keep fun g _ hl=>hO.block g hl (by simp)⟩,h.i,h.big⟩
structure Zq (f:Bool) (w0 ws:World) (b:Nat) (w:World) (l:List UInt8) (st:St) (ks:List Nat):Prop extends Qz w0 b w l st where
 m:Mw f b ws w
 k:∀k,k∈ks->k<w.heap.size/\k≠b/\¬Bu w b k
theorem Qz.z (f:Bool) (h:Qz w0 b w l st):Zq f w0 w b w l st []:=⟨h,Mw.refl f b w,fun k hk=>(by cases hk)⟩
theorem Zq.q (t:Zq f w0 ws b w l st ks) (hO:Only [] w w'):Zq f w0 ws b w' l st ks:=by
 have hb:=t.toQz.lb;refine⟨t.toQz.only hO,t.m.trans (Mw.only hb hO),fun k hk=>?_⟩;obtain⟨h1,h2,h3⟩:=t.k k hk;exact⟨bC h1 hO.size,h2,fun h=>h3 (sZ (hO.block b hb (by simp)) h)⟩
theorem Zq.al (t:Zq f w0 ws b w l st ks) (hO:Only [] w w') (h1:w.heap.size<=k) (h2:k<w'.heap.size):Zq f w0 ws b w' l st (k::ks):=by
 have hb:=t.toQz.lb;have t':=t.q hO;refine⟨t'.toQz,t'.m,fun x hx=>?_⟩;rcases ak.1 hx with rfl | hx
 ·exact⟨h2,by omega,fun h=>by have:=(t.toQz.bu (sZ (hO.block b hb (by simp)) h)).2;omega⟩
 ·exact t'.k x hx
theorem Zq.nx (t:Zq f w0 ws b w l st ks) (p:Qz w0 b w' l' bH) (m:Mw f b w w'):Zq f w0 ws b w' l' bH ks:=by
 refine⟨p,t.m.trans m,fun k hk=>?_⟩;obtain⟨h1,h2,h3⟩:=t.k k hk;exact⟨bC h1 m.o.size,h2,fun h=>(m.u k h).elim h3 fun e=>by have:=e.2;omega⟩
theorem Zq.sq (t:Zq f w0 ws b w l st ks) (hO:Only [] w w') (hk:∀k,k∈ks'->k∈ks):aD ks' w w':=hO.same fun x hx=>⟨(t.k x (hk x hx)).1,by simp⟩
theorem Zq.sm (t:Zq f w0 ws b w l st ks) (m:Mw g b w w') (hk:∀k,k∈ks'->k∈ks):aD ks' w w':=m.o.same fun x hx=>⟨(t.k x (hk x hx)).1,fun h=>h.elim (t.k x (hk x hx)).2.1 fun e=>(t.k x (hk x hx)).2.2 e.2⟩
theorem Zq.sj (t:Zq f w0 ws b w l st ks) (hz:w.heap.size<=w1.heap.size) (h:OnlyP (fun k=>w.heap.size<=k) w1 w') (hk:∀k,k∈ks'->k∈ks):aD ks' w1 w':=h.same fun x hx=>by
 have:=(t.k x (hk x hx)).1;exact⟨by omega,by omega⟩
theorem Zq.row (t:Zq true w0 ws b w l st ks) (hb:b<ws.heap.size) (hu:∀k,Bu ws b k->k<ws.heap.size) (hO:OnlyP (fun k=>ws.heap.size<=k) w w'):Zq true w0 ws b w' l st ks:=by
 have hB:=t.toQz.lb;have hlo:=t.lo;have hkb:∀k,Bu w b k->Bu ws b k:=fun k hk=>(t.m.u k hk).elim id fun e=>(by cases e.1)
 have JX:=hO.block b hB (by omega);obtain⟨q,sl,hq,hBl,hbf⟩:=t.ex;refine⟨⟨⟨hO.os.trans t.o.os,hO.tape.trans t.o.tape,hO.output.trans t.o.output,ay t.o.size hO.size,fun k hk _=>(hO.block k (bC hk t.o.size) (by omega)).trans (t.o.block k hk (by simp))⟩,hlo,⟨q,sl,hq,JX.trans hBl,hbf.keep fun g hg hl=>hO.block g hl fun e=>(by have:=hu g (hkb g (Dc hBl hg));omega)⟩,t.i,t.big⟩,⟨t.m.o.trans hO fun k hk=>.inr hk,fun k hk=>.inl (hkb k (sZ JX hk))⟩,fun k hk=>?_⟩;obtain⟨h1,h2,h3⟩:=t.k k hk;exact⟨bC h1 hO.size,h2,fun h=>h3 (sZ JX h)⟩
theorem be.of {ks:List Nat} (h:aD ks w w'):be (fun k=>k∈ks) w w':=fun k hk _=>h k hk
theorem pQ {w2:World} (h1:Only [] w w1) (h2:OnlyP (fun k=>w.heap.size<=k) w1 w2):Only [] w w2:=(h1.BH h2).only fun _ h=>h
end
theorem Mb (w:World) (ws:List (List UInt8)) {n:Nat} {parts:Array (Nat×Value)} (hp:parts=(((ws.map fun x=>Value.string (T x)).zipIdx 0).map fun x=>(x.2,x.1)).toArray) (hn:ws.length=n) (h0:0<n) (zK:n*1<=16777216):
  ∃(q:Sl) (w1:World) (g:Nat) (cs:List Value),(Instr.buildSlice 52 n parts).run Tryz.prog w=.ok q.v w1/\Only [] w w1/\w.heap.size<=g/\g<w1.heap.size/\Blk w1 g 9 cs/\
   ∀(i:Nat) x,ws[i]? =some x->cD q (i:Int) 1 ⟨g,i,none⟩/\∀w',Blk w' g 9 cs->aB w' ⟨g,i,none⟩ [.string (T x)]:=by
 obtain⟨q,w1,k1,k2,k3⟩:=lI w ws hp hn h0 zK;rcases k2 with⟨_,e⟩ | ⟨g,css,tail,a1,a2,a4,a5,a6,a7,a9,a8⟩
 ·subst e;simp at hn;omega
 ·have QW:=Fg a8;refine⟨q,w1,g,_,k1,k3,a2,a4.lt,a4,fun i x hx=>⟨⟨⟨g,0,none⟩,a1,aG i,?_,?_⟩,fun w' hB=>Blk.SM hB i ?_⟩⟩
  ·have:=(au.1 hx).1;omega
  ·rw[eV,az,rY,aJ]
  ·have:(ws.map fun x=>Value.string (T x))[i]? =some (.string (T x)):=by rw[bD,hx];rfl
   rw[QW,aR (au.1 this).1,this]
section
variable {w0 w:World} {b:Nat} {l:List UInt8} {st:St}
theorem Fi (b j:Nat):(Addr.add ⟨b,0,none⟩ j:Addr)=⟨b,j,none⟩:=by rw[eV,aJ]
theorem Qz.set (h:Qz w0 b w l st):∃(q:Option Addr) (sl:Sl),Blk w b 72 [.pointer q,sl.v,.bool st.1,.int .i64 st.2]/\
  ∀(w':World) (bH:St),Only [b] w w'->Blk w' b 72 [.pointer q,sl.v,.bool bH.1,.int .i64 bH.2]->(bH.1=false->0<=bH.2/\bH.2<=400)->Qz w0 b w' l bH/\Mw true b w w':=by
 obtain⟨q,sl,hq,hB,hb⟩:=h.ex;refine⟨q,sl,hB,fun w1 Il bR vG hi=>⟨⟨⟨bR.os.trans h.o.os,bR.tape.trans h.o.tape,bR.output.trans h.o.output,ay h.o.size bR.size,fun k hk _=>(bR.block k (bC hk h.o.size) (by have:=h.lo;simp;omega)).trans (h.o.block k hk (by simp))⟩,h.lo,⟨q,sl,hq,vG,hb.keep fun g hg hl=>bR.block g hl (by have:=(hb.lt hg).1;simp;omega)⟩,hi,h.big⟩,?_⟩⟩;exact⟨bR.p fun x hx=>.inl (.inl (by simpa using hx)),fun k hk=>.inl (Dc hB (Hu vG hk))⟩
theorem Qz.U5 (h:Qz w0 b w l st):Up st true 0 st:=by
 refine⟨?_,fun _=>by simp⟩;cases e:st.1
 ·have:=(h.i e).2;have h2:¬400<st.2+((0:Nat):Int):=by omega
  rw[aK h2];rfl
 ·rfl
theorem Hv {q:Option Addr} {sl:Sl} {wr:Bool} {ac:Int} (hB:Blk w b 72 [.pointer q,sl.v,.bool wr,.int .i64 ac]) (ok:Bool):Calls Tryz.prog 37 #[rp b,.bool ok] w fun e w'=>
  e=.returned (.tuple #[])/\Only [b] w w'/\Blk w' b 72 [.pointer q,sl.v,.bool (wr||!ok),.int .i64 ac]:=by
 refine ret (afj ⟨b,0,none⟩ ok (fun v w'=>v=.tuple #[]/\Only [b] w w'/\Blk w' b 72 [.pointer q,sl.v,.bool (wr||!ok),.int .i64 ac]) w ?_);unfold Y8;exact⟨wr,Blk.eo hB 2 rfl,b,2,_,_,Fi b 2,hB,by simp,fun w1 bR vG=>⟨rfl,bR,vG⟩⟩
theorem iv (h:Qz w0 b w l st) (ok:Bool):Calls Tryz.prog 37 #[rp b,.bool ok] w fun e w'=>e=.returned (.tuple #[])/\∃bH,Up st ok 0 bH/\Qz w0 b w' l bH/\Mw true b w w':=by
 obtain⟨q,sl,hB,DY⟩:=h.set;refine(Hv hB ok).mono ?_;rintro _ w1 ⟨rfl,bR,vG⟩;have hu:Up st ok 0 (st.1||!ok,st.2):=by
  refine⟨?_,fun e=>by simp⟩;cases e:st.1
  ·have:=(h.i e).2;have h2:¬400<st.2+((0:Nat):Int):=by omega
   rw[aK h2,Bool.or_false]
  ·simp
 exact⟨rfl,_,hu,DY w1 _ bR vG fun e=>hu.le (fun e=>(h.i e).1) e⟩
theorem ku (h:Qz w0 b w l st) (s:List UInt8) (hs:s.length<9223372036854775807):Calls Tryz.prog 39 #[rp b,.string (T s)] w fun e w'=>e=.returned (.string (T s))/\∃bH,Up st (cN s) 0 bH/\Qz w0 b w' l bH/\Mw true b w w':=by
 refine ret (afk ⟨b,0,none⟩ (T s) (fun v w'=>v=.string (T s)/\∃bH,Up st (cN s) 0 bH/\Qz w0 b w' l bH/\Mw true b w w') w ?_);unfold Y9;refine(LA s hs).mono ?_;rintro _ w1 ⟨rfl,bR⟩;refine⟨_,rfl,(iv (h.only bR) _).mono ?_⟩;rintro _ w2 ⟨rfl,bH,h1,h2,h3⟩;exact⟨rfl,rfl,bH,h1,h2,(Mw.only h.lb bR).trans h3⟩
theorem Hw (h:Qz w0 b w l st) {F:Nat->Prop} {x:Ex} {cs:List Value} (hx:rE false w F x cs) (hn:Hc x) (hs:AR x<=1759218604441) (hE:Er w0) (hT:Tb w0):
  Calls Tryz.prog 157 #[rp b,.agg cs.toArray] w fun e w'=>e=.returned (.string (T (ui x)))/\∃bH,Up st (sS x) 0 bH/\Qz w0 b w' l bH/\Mw true b w w':=by
 obtain⟨xs,rfl⟩:=fV hx;refine ret (afw ⟨b,0,none⟩ x.k x.n (T x.s) x.op xs x.a (fun v w'=>v=.string (T (ui x))/\∃bH,Up st (sS x) 0 bH/\Qz w0 b w' l bH/\Mw true b w w') w ?_);unfold Zn;intro k0 w1 fQ eE bR;have t1:=(h.z true).al bR fQ eE;refine(P6 ((gv false).keep hx fun k _ bp=>bR.block k bp (by simp)) hn hs (hE.only t1.o) (hT.only t1.o)).mono ?_;rintro _ w2 ⟨rfl,cO⟩;have t2:=t1.q cO;refine⟨_,rfl,t1.sq cO (by simp),(iv t2.toQz _).mono ?_⟩;rintro _ w3 ⟨rfl,bH,h1,h2,h3⟩;rw[show ByteArray.mk #[]=T []from rfl,jW]at h1;have e:(!decide (ui x=[]))=sS x:=by unfold sS;rw[decide_not]
 rw[e]at h1;exact⟨rfl,t2.sm h3 (by simp),rfl,bH,h1,h2,(t2.nx h2 h3).m⟩
theorem Hx (h:Qz w0 b w l st) {F:Nat->Prop} {x:Ex} {cs:List Value} (hx:rE false w F x cs):
  Calls Tryz.prog 158 #[rp b,.agg cs.toArray] w fun e w'=>e=.returned (.tuple #[])/\∃bH,Up st (oH x) 0 bH/\Qz w0 b w' l bH/\Mw true b w w':=by
 have dN:∃xs:Sl,cs=ou x.k x.n x.s x.op xs x.a/\xs.n=x.cX.length:=by
  obtain⟨d,hx⟩:=hx;cases d with
  | zero=>exact hx.elim
  | succ d=>
   obtain⟨sl,h1,h2,_⟩:=hx;exact⟨sl,h1,h2.len⟩
 obtain⟨xs,rfl,hl⟩:=dN;refine ret (afv ⟨b,0,none⟩ x.k x.n (T x.s) x.op xs x.a (fun v w'=>v=.tuple #[]/\∃bH,Up st (oH x) 0 bH/\Qz w0 b w' l bH/\Mw true b w w') w ?_);unfold Zm;intro k0 w1 fQ eE bR;have t1:=(h.z true).al bR fQ eE;refine(iv t1.toQz _).mono ?_;rintro _ w3 ⟨rfl,bH,h1,h2,h3⟩;rw[show ByteArray.mk #[]=T []from rfl,jW,hl]at h1;exact⟨rfl,t1.sm h3 (by simp),rfl,bH,h1,h2,(t1.nx h2 h3).m⟩
theorem Hy (h:Qz w0 b w l st):Calls Tryz.prog 42 #[rp b] w fun e w'=>e=.returned (.bool (decide (16384<l.length)))/\w'=w:=by
 refine ret (afn ⟨b,0,none⟩ (fun v w'=>v=.bool (decide (16384<l.length))/\w'=w) w ?_);unfold Zc;obtain⟨q,sl,hq,hB,hb⟩:=h.ex;refine(R0 _ (fun v w'=>v=.int .i64 (l.length:Int)/\w'=w) w ?_).mono ?_
 ·unfold La;rw[Fi];exact⟨sl,Blk.eo hB 1 rfl,by rw[hb.len],rfl⟩
 ·rintro _ w1 ⟨v,rfl,rfl,rfl⟩;refine⟨_,rfl,?_,rfl⟩;congr 1;rw[br];simp;omega
end
def Mc (a:Ac):Nat:=AR a.x+(a.n.length+1)
def iP:List Ac->Nat
 | []=>0
 | a::l=>Mc a+iP l
theorem Dd {a:Ac}:∀{l:List Ac},a∈l->Mc a<=iP l
 | [],h=>by simp at h
 | x::l,h=>by
  rw[iP];rcases ak.1 h with rfl | h
  ·omega
  ·have:=Dd h;omega
theorem lU:∀(l:List Ac),l.length<=iP l
 | []=>aF _
 | a::l=>by
  have:=lU l;rw[iP,ao];unfold Mc;omega
def Df (l:List (List UInt8)):Nat:=(l.map fun s=>s.length+1).sum
def Md (m:Mv):Nat:=(iP m.acts+AR m.g)+(Df m.tg+(m.ev.length+1))
theorem Hz (x:Ex):(ui x).length<=16384:=by
 by_cases h:ui x=[]
 ·rw[h];exact aF _
 ·obtain⟨h1,h2,h3⟩:=CX h;refine aP fun hc=>?_;have e:ui x=mX (xv x) x false []:=h2;rw[<-e]at h3;unfold iA at h3;have:bU (ui x)=([],2, -1):=by rw[bU,if_pos (by omega)]
  rw[this,if_pos (by decide)]at h3;exact absurd h3 (show ¬(2:Int)=0 by decide)
theorem oz {s:List UInt8} (h:cN s=true):ne s=true:=by
 unfold cN at h;simp only[ab]at h;have:=(aj h.1.1.1).1;unfold ne;rw[aK this];rfl
theorem aaj {x:Ex} (h:sS x=true):ne (ui x)=true:=by
 unfold ne;rw[aK (aj h)];rfl
theorem mD {x:List UInt8} (h:ne x=true) (ws:List (List UInt8)):eB (x::ws)=x++Lib.joinTail [32] (ws.filter ne):=by
 unfold eB;rw[nX,h,if_pos rfl,Lib.join_cons]
theorem dV (x:List UInt8) (r:List (List UInt8)):Lib.joinTail [32] (x::r)=32::(x++Lib.joinTail [32] r):=by
 unfold Lib.joinTail;rw[aI,bT];rfl
theorem kc:Lib.joinTail [32] []=[]:=rfl
theorem dW {x:List UInt8} (h:ne x=true) (ws:List (List UInt8)):(x::ws).filter ne=x::ws.filter ne:=by rw[nX,h,if_pos rfl]
theorem Me (ws:List (List UInt8)):([]::ws).filter ne=ws.filter ne:=by rw[nX,if_neg (by decide)]
def Ou (a:Ac):List (List UInt8):=if a.k=2 then[ga,a.n]else[if a.k=1 then mN else iO,a.n,[61],ui a.x]
theorem Sj {a:Ac} (h:gw a=true):eB (Ou a)++[59]=Hd a:=by
 unfold gw at h;simp only[ab]at h;obtain⟨⟨h1,h2⟩,h3⟩:=h;unfold Ou Hd;by_cases hk:a.k=2
 ·rw[if_pos hk,if_pos hk,mD (by decide),dW (oz h2),dc,dV,kc];simp
 ·rw[if_neg hk]at h3;have hw:ne (if a.k=1 then mN else iO)=true:=by split<;>decide
  rw[if_neg hk,if_neg hk,mD hw,dW (oz h2),dW (by decide),dW (aaj h3),dc,dV,dV,dV,kc];simp
theorem Qe (a:Ac):(eB (Ou a)).length<=16398+a.n.length:=by
 refine ay (fY _) ?_;have:=Hz a.x;unfold Ou;split
 ·simp only[aI,ep,bd,fO];show 5+1+(a.n.length+1+0)<=_;omega
 ·simp only[aI,ep,bd,fO];have:(if a.k=1 then mN else iO).length<=4:=by split<;>decide
  show _+1+(a.n.length+1+(1+1+(_+1+0)))<=_;omega
section
variable {w0 w:World} {b:Nat} {l:List UInt8} {st:St}
theorem aak (h:Qz w0 b w l st) {F:Nat->Prop} {a:Ac} {cs:List Value} (hx:rl false w F a cs) (hF:∀k,F k->k<w0.heap.size) (hn:C0 a) (hs:Mc a<=1759218604441) (hE:Er w0) (hT:Tb w0):
  Calls Tryz.prog 156 #[rp b,.agg cs.toArray] w fun e w'=>∃s bH,e=.returned (.string (T s))/\s.length<=16400+a.n.length/\(gw a=true->s=Hd a)/\Up st (gw a) 0 bH/\Qz w0 b w' l bH/\Mw true b w w':=by
 obtain⟨xc,rfl,hx⟩:=hx;obtain⟨xs,rfl⟩:=fV hx;unfold Mc at hs;refine(afu ⟨b,0,none⟩ a.k (T a.n) a.x.k a.x.n (T a.x.s) a.x.op xs a.x.a a.a (fun v w'=>∃s bH,v=.string (T s)/\s.length<=16400+a.n.length/\(gw a=true->s=Hd a)/\Up st (gw a) 0 bH/\Qz w0 b w' l bH/\Mw true b w w') w ?_).mono (by
  rintro e w' ⟨v,rfl,s,bH,rfl,h⟩;exact⟨s,bH,rfl,h⟩)
 unfold Zl;intro k0 w1 fQ eE bR;have t1:=(h.z true).al bR fQ eE;obtain⟨q,w2,g,cs,e1,cO,hg1,hg2,ru,bN⟩:=Mb w1 [[],mN,ga,iO] (n:=4) (parts:=#[.mk 0 (.string (ByteArray.mk #[])),.mk 1 (.string (ByteArray.mk #[115,101,116])),.mk 2 (.string (ByteArray.mk #[114,97,105,115,101])),.mk 3 (.string (ByteArray.mk #[101,109,105,116]))]) rfl rfl (by decide) (by decide);have t2:=t1.al cO hg1 hg2;have tail:=Qe a;refine⟨q,w2,e1,t1.sq cO (by simp),fun hc=>?_,fun hc=>?_⟩
 ·refine(iv t2.toQz false).mono ?_;rintro _ w3 ⟨rfl,bH,u1,u2,u3⟩;have hk:gw a=false:=by
   unfold gw;have:¬(1<=a.k/\a.k<=3):=by
    simp only[cp,bB]at hc;omega
   rw[aK this];rfl
  exact⟨rfl,t2.sm u3 (by simp),[],bH,rfl,aF _,fun e=>(by rw[hk]at e;cases e),by rw[hk];exact u1,u2,(t2.nx u2 u3).m⟩
 have JE:1<=a.k/\a.k<=3:=by
  simp only[gK,dE]at hc;omega
 have hwd:∀x,[[],mN,ga,iO][a.k.toNat]? =some x->cD q a.k 1 ⟨g,a.k.toNat,none⟩/\∀w',Blk w' g 9 cs->aB w' ⟨g,a.k.toNat,none⟩ [.string (T x)]:=fun x hx=>by
  have:=bN _ x hx;rwa[dT (by omega)]at this
 refine⟨fun Eb=>?_,fun Eb w8 fy=>?_⟩
 ·have hk:a.k=2:=by simpa using Eb
  have hW:Ou a=[ga,a.n]:=by unfold Ou;rw[if_pos hk]
  refine(Hx t2.toQz ((gv false).keep hx fun k hk _=>h.arg t2.toQz (hF k hk))).mono ?_;rintro _ w3 ⟨rfl,Wb,u1,u2,u3⟩;have t3:=t2.nx u2 u3;refine⟨rfl,t2.sm u3 (by simp),fun w4 cZ=>⟨fun k=>k∈[k0,g],by simp,?_⟩⟩;have t4:=t3.q cZ;obtain⟨y1,y2⟩:=hwd ga (by rw[hk];rfl);have tK:Blk w4 g 9 cs:=(t3.sq (ks':=[g]) cZ (by simp) g (by simp)).trans ((t2.sm (ks':=[g]) u3 (by simp) g (by simp)).trans ru);refine⟨_,y1,by simp,_,y2 w4 tK,(ku t4.toQz a.n (by omega)).mono ?_⟩;rintro _ w5 ⟨rfl,Q9,v1,v2,v3⟩;have t5:=t4.nx v2 v3;obtain⟨q6,w6,e6,dD,_,hj⟩:=zo w5 [ga,a.n] (n:=2) (parts:=#[.mk 0 (.string (T ga)),.mk 1 (.string (T a.n))]) rfl rfl (by decide) (by decide) (by rw[<-hW];omega);have z6:=dD.size;refine⟨_,rfl,t4.sm v3 (by simp),be.of (t4.sm v3 (by simp)),q6,w6,e6,t5.sq dD (by simp),be.of (t5.sq dD (by simp)),hj.mono ?_⟩;rintro _ w7 ⟨rfl,hP7⟩;have fg:=pQ dD hP7;have t7:=t5.q fg;have hU:=u1.tr v1;have oB:gw a=(oH a.x&&cN a.n):=by
   unfold gw;rw[if_pos hk,aZ JE,dl,Bool.and_comm]
  rw[<-oB]at hU;rw[<-hW];refine⟨_,rfl,t5.sj z6 hP7 (by simp),be.of (t5.sj z6 hP7 (by simp)),by rw[cK];omega,eB (Ou a)++[59],Q9,by rw[show ByteArray.mk #[59]=T [59]from rfl,jR],by rw[ah,aL];omega,fun oB=>Sj oB,hU,t7.toQz,t7.m⟩
 ·have hk:a.k≠2:=by simpa using Eb
  have hW:Ou a=[if a.k=1 then mN else iO,a.n,[61],ui a.x]:=by unfold Ou;rw[if_neg hk]
  have t8:=t2.q fy;obtain⟨y1,y2⟩:=hwd (if a.k=1 then mN else iO) (by
   by_cases h1:a.k=1
   ·rw[if_pos h1,h1];rfl
   ·rw[if_neg h1,show a.k=3 by omega];rfl)
  have wl:Blk w8 g 9 cs:=(t2.sq (ks':=[g]) fy (by simp) g (by simp)).trans ru;refine⟨fun k=>k∈[k0,g],by simp,_,y1,by simp,_,y2 w8 wl,by simp,(ku t8.toQz a.n (by omega)).mono ?_⟩;rintro _ w9 ⟨rfl,Wc,u1,u2,u3⟩;have t9:=t8.nx u2 u3;refine⟨_,rfl,t8.sm u3 (by simp),be.of (t8.sm u3 (by simp)),(Hw t9.toQz ((gv false).keep hx fun k hk _=>h.arg t9.toQz (hF k hk)) hn (by omega) hE hT).mono ?_⟩;rintro _ cI ⟨rfl,aim,v1,v2,v3⟩;have t10:=t9.nx v2 v3;obtain⟨Vs,cS,NP,dx,_,hj⟩:=zo cI [if a.k=1 then mN else iO,a.n,[61],ui a.x] (n:=4) (parts:=#[.mk 0 (.string (T (if a.k=1 then mN else iO))),.mk 1 (.string (T a.n)),.mk 2 (.string (T [61])),.mk 3 (.string (T (ui a.x)))]) rfl rfl (by decide) (by decide) (by rw[<-hW];omega);have Eo:=dx.size;refine⟨_,rfl,t9.sm v3 (by simp),be.of (t9.sm v3 (by simp)),Vs,cS,NP,t10.sq dx (by simp),be.of (t10.sq dx (by simp)),hj.mono ?_⟩;rintro _ dK ⟨rfl,Wd⟩;have eJ:=pQ dx Wd;have t12:=t10.q eJ;have hU:=u1.tr v1;have oB:gw a=(cN a.n&&sS a.x):=by
   unfold gw;rw[if_neg hk,aZ JE,dl]
  rw[<-oB]at hU;rw[<-hW];refine⟨_,rfl,t10.sj Eo Wd (by simp),be.of (t10.sj Eo Wd (by simp)),by rw[cK];omega,eB (Ou a)++[59],aim,by rw[show ByteArray.mk #[59]=T [59]from rfl,jR],by rw[ah,aL];omega,fun oB=>Sj oB,hU,t12.toQz,t12.m⟩
end
theorem Up.bad {st bH:St} {c c':Bool} {n n':Nat} (h:Up st c n bH) (e:bH.1=true) (hc:c'=true->c=true) (hn:n<=n'):Up st c' n' bH:=by
 refine⟨?_,fun e2=>by rw[e]at e2;cases e2⟩;rw[e];refine Eq.symm (aP fun hk=>?_);obtain⟨a1,a2,a3⟩:=or3 (gL.2 hk).symm;have a3:=ar a3;have:=h.w;rw[e,a1,hc a2,aK (show ¬400<st.2+(n:Int) by omega)]at this;cases this
theorem ta:∀(l m:List Ac),iP (l++m)=iP l+iP m
 | [],m=>by rw[aV];show _=0+_;omega
 | a::l,m=>by rw[bc,iP,iP,ta l m];omega
theorem Ut (a:Ac):ne (Hd a)=true:=by
 have:Hd a≠[]:=by unfold Hd;split<;>simp
 unfold ne;rw[aK this];rfl
theorem Mf:∀l:List Ac,Lib.joinTail [32] ((l.map Hd).filter ne)=LS l
 | []=>rfl
 | a::l=>by rw[aI,dW (Ut a),dV,Mf l,LS]
theorem Uu (x y:List (List UInt8)):Lib.joinTail [32] (x++y)=Lib.joinTail [32] x++Lib.joinTail [32] y:=by
 unfold Lib.joinTail;rw[cq,BD]
theorem aal (l:List Ac):eB ([123]::(l.map Hd++[[125]]))=yC l:=by
 rw[mD (by decide),iV,Uu,Mf];rfl
theorem Sk {w:World} {B:Nat} {s:Sl} {ws:List (List UInt8)} (h:Own jJ 1 9 B w (fun _=>True) s ws) (x:List UInt8) (hB:B<=w.heap.size) (hm:ws.length<=1073741824):
  ∃y w1,(Instr.buildSlice 52 1 #[.mk 0 (.string (T x))]).run Tryz.prog w=.ok (Sl.v y) w1/\Only [] w w1/\∃s' w2,(Builtin.append_ #[52,52] 52 #[Sl.v s,Sl.v y]).run Tryz.prog w1=.ok (Sl.v s') w2/\
   Own jJ 1 9 B w2 (fun _=>True) s' (ws++[x])/\∃gs,Only gs w1 w2/\∀g,g∈gs->s.a=some ⟨g,0,none⟩/\B<=g:=by
 obtain⟨y,w1,e1,bR,s',w2,e2,oV,⟨gs,cO,ry⟩,_⟩:=js (P:=Tryz.prog) (t:=52) (ty:=52) (e:=9) (i:=Tryz.t9) (bytes:=16) (size:=1) (v:=.string (T x)) (x:=x) (G:=fun _=>False) (by kernel_rfl) (by kernel_rfl) rfl rfl rfl rfl (by decide) (by decide) (by decide) cL h hB rfl rfl (fun k hk _=>hk.elim) (by omega);exact⟨y,w1,e1,bR,s',w2,e2,oV.mono cL fun k _=>trivial,gs,cO,fun g hg=>⟨(ry g hg).1,(ry g hg).2.1⟩⟩
theorem _root_.Go.Kt.Own.far {w w':World} {B b:Nat} {s:Sl} {ws:List (List UInt8)} (h:Own jJ 1 9 B w (fun _=>True) s ws) (hO:Only [b] w w') (hb:b<B):Own jJ 1 9 B w' (fun _=>True) s ws:=by
 rcases h with⟨rfl,rfl⟩ | ⟨g,css,tail,h1,h2,h4,h5,h6,h7,h9,h8⟩
 ·exact .inl ⟨rfl,rfl⟩
 ·have e:∀{l:List (List UInt8)} {css:List (List Value)},kY jJ 1 w (fun k=>True/\k≠g) l css->kY jJ 1 w' (fun k=>True/\k≠g) l css:=fun{l}=>by
   induction l with
   | nil=>intro css h;cases css with | nil=>trivial | cons _ _=>exact h
   | cons x l ih=>intro css h;cases css with | nil=>exact h | cons c css=>exact⟨h.1,ih h.2⟩
  exact .inr ⟨g,css,tail,h1,h2,hO.blk h4 (by simp;omega),h5,h6,h7,h9,e h8⟩
theorem Mg {α:Type} {p:α->Bool} {xs:List α} {j:Nat} (h:xs.all p=true):(xs.take j).all p=true:=by
 rw[cJ]at h⊢;exact fun x hx=>h x (List.mem_of_mem_take hx)
theorem Dg (ws:List (List UInt8)) (x:List UInt8):((ws++[x]).map fun l=>l.length+1).sum=(ws.map fun l=>l.length+1).sum+(x.length+1):=by
 rw[cq,List.sum_append];simp
section
variable {w0 w:World} {b:Nat} {l:List UInt8} {st:St}
theorem A1 (h:Qz w0 b w l st) {F:Nat->Prop} {s:Sl} {xs:List Ac} (hx:SliceF (rl false) 9 w F s xs) (hF:∀k,F k->k<w0.heap.size) (hn:∀a,a∈xs->C0 a) (hs:iP xs<=16777216) (hE:Er w0) (hT:Tb w0):
  Calls Tryz.prog 88 #[rp b,s.v] w fun e w'=>∃t bH,e=.returned (.string (T t))/\t.length<=16405*iP xs/\(bH.1=false->t=if xs=[]then[]else yC xs)/\Up st (xs.all gw) xs.length bH/\Qz w0 b w' l bH/\Mw true b w w':=by
 refine(aft ⟨b,0,none⟩ s (fun v w'=>∃t bH,v=.string (T t)/\t.length<=16405*iP xs/\(bH.1=false->t=if xs=[]then[]else yC xs)/\Up st (xs.all gw) xs.length bH/\Qz w0 b w' l bH/\Mw true b w w') w ?_).mono (by
  rintro e w' ⟨v,rfl,s,bH,rfl,h⟩;exact⟨s,bH,rfl,h⟩)
 unfold Zk;have dN:=hx.len;have hlz:=lU xs;refine⟨fun hc=>?_,fun hc=>?_⟩
 ·have hc:s.n=0:=by have:((s.n:Int))=0:=(by simpa using hc);omega
  have:xs=[]:=aW (by omega);subst this;exact⟨[],st,rfl,aF _,fun _=>(if_pos rfl).symm,h.U5,h,Mw.refl _ _ _⟩
 have eI:xs≠[]:=fun e=>by
  subst e;have:s.n=0:=dN;rw[this]at hc;exact absurd hc (by decide)
 obtain⟨q,sl,hB,DY⟩:=h.set;refine⟨st.2,Blk.eo hB 3 rfl,b,3,_,_,Fi b 3,hB,by simp,fun w1 bR vG=>⟨_,Blk.eo vG 3 rfl,(Hv (q:=q) (sl:=sl) (wr:=st.1) (ac:=IntKind.wrap .i64 (st.2+(s.n:Int))) vG _).mono ?_⟩⟩;rintro _ w2 ⟨rfl,cO,ru⟩;have hU1:Up st true xs.length (st.1||!decide (IntKind.wrap .i64 (st.2+(s.n:Int))<=400),IntKind.wrap .i64 (st.2+(s.n:Int))):=by
  cases e:st.1
  ·have:=h.i e;have ew:IntKind.wrap .i64 (st.2+(s.n:Int))=st.2+xs.length:=by rw[dN];exact gV (by omega) (by omega)
   rw[ew];refine⟨?_,fun _=>rfl⟩;rw[e];by_cases h4:st.2+(xs.length:Int)<=400
   ·rw[aZ h4,aK (by omega)];rfl
   ·rw[aK h4,aZ (by omega)];rfl
  ·exact⟨by rw[e];rfl,fun e2=>by cases e2⟩
 obtain⟨h2,vH⟩:=DY w2 _ (bR.trans cO fun x hx=>.inl hx) ru fun e=>hU1.le (fun e=>(h.i e).1) e;generalize (st.1||!decide (IntKind.wrap .i64 (st.2+(s.n:Int))<=400),IntKind.wrap .i64 (st.2+(s.n:Int)))=Il at*
 have b2:=h2.lb;have Vh:∀k,Bu w2 b k->k<w2.heap.size:=fun k hk=>(h2.bu hk).2;obtain⟨q3,w3,e3,cU,ain,_⟩:=zo w2 [[123]] (n:=1) (parts:=#[.mk 0 (.string (T [123]))]) rfl rfl (by decide) (by decide) (by decide);have t3:=(h2.z true).q cU;refine⟨rfl,q3,w3,e3,fun l1 w'=>∃ws bH,Own jJ 1 9 w2.heap.size w' (fun _=>True) l1 ws/\ws.length<=16777217/\(ws.map fun l=>l.length+1).sum<=2+16401*iP xs/\(bH.1=false->ws=[123]::xs.map Hd)/\Up Il (xs.all gw) 0 bH/\Zq true w0 w2 b w' l bH [],?_,?_⟩
 ·rintro l1 w4 ⟨ws,F9,We,hwl,hws,S9,hU4,t4⟩;have z4:=t4.m.o.size;obtain⟨y,w5,e5,eC,s6,w6,e6,aio,gs,dD,ry⟩:=Sk We [125] z4 (by omega);refine⟨y,w5,e5,s6,w6,e6,?_⟩;have t6:=(t4.q eC).row b2 Vh (dD.p (F:=fun k=>w2.heap.size<=k) fun x hx=>.inl (ry x hx).2);have JH:=Dg ws [125];have mF:=fY (ws++[[125]]);have hl1:([125]:List UInt8).length=1:=rfl;refine(xD aio (by omega) (by rw[ah,aL];omega)).mono ?_;rintro _ w7 ⟨rfl,hP7⟩;have t7:=t6.row b2 Vh hP7;have hsz:1<=iP xs:=by
   have:1<=xs.length:=o8.2 eI;omega
  refine⟨_,rfl,eB (ws++[[125]]),F9,rfl,by omega,fun e=>?_,(hU1.tr hU4).cg (by simp) (by simp),t7.toQz,vH.trans t7.m⟩;rw[if_neg eI,S9 e];exact aal xs
 refine⟨fun nv l1 i w'=>∃(j:Nat) (ws:List (List UInt8)) (bH:St),i=j/\j<=xs.length/\nv=xs.length-j/\Own jJ 1 9 w2.heap.size w' (fun _=>True) l1 ws/\ws.length<=j+1/\(ws.map fun l=>l.length+1).sum<=2+16401*iP (xs.take j)/\(bH.1=false->ws=[123]::(xs.take j).map Hd)/\Up Il ((xs.take j).all gw) 0 bH/\Zq true w0 w2 b w' l bH [],
  xs.length,⟨0,[[123]],Il,rfl,aF _,rfl,ain,aq _,aq _,fun _=>rfl,h2.U5,t3⟩,?_⟩
 rintro nv l4 _ w7 ⟨j,ws,Ta,rfl,hj,rfl,Ra,hwl,hws,S9,It,t7⟩;have z7:=t7.m.o.size;have NE:iP xs=iP (xs.take j)+iP (xs.drop j):=by rw[<-ta,dC]
 refine⟨fun hc=>?_,fun hc=>?_⟩
 ·have bp:(j:Int)<s.n:=aj hc;have hx7:SliceF (rl false) 9 w7 F s xs:=SliceF.keep (cA false) hx (by decide) fun k hk _=>h.arg t7.toQz (hF k hk);obtain⟨ad,a,cs,g1,g2,g3,g4,g5,g6⟩:=hx7.get (aG j) bp;rw[az]at g2;have ha:=aE g2;have pc:xs.take (j+1)=xs.take j++[a]:=by
   rw[aY,g2];rfl
  have hsa:iP (xs.take (j+1))=iP (xs.take j)+Mc a:=by
   rw[pc,ta];show _+(Mc a+0)=_;omega
  have alc:iP xs=iP (xs.take (j+1))+iP (xs.drop (j+1)):=by rw[<-ta,dC]
  obtain⟨xc,rfl,hxc⟩:=g6;obtain⟨xl,rfl⟩:=fV hxc;refine⟨ad,g1,_,_,_,_,_,_,_,_,_,g5,fun k5 w8 uG JD fy=>?_⟩;have t8:=t7.al fy uG JD;obtain⟨q8,sl8,wl,_⟩:=t8.toQz.set;refine⟨Ta.1,Blk.eo wl 2 rfl,fun hw=>?_,fun hw=>?_⟩
  ·have t8':Zq true w0 w2 b w8 l Ta []:=⟨t8.toQz,t8.m,fun k hk=>(by cases hk)⟩
   have F7:=Ra.keep cL fun k hk bp=>fy.block k bp (by simp);exact⟨ws,Ta,F7,by omega,by omega,fun e=>absurd (hw.symm.trans e) (by decide),It.bad hw Mg (aq _),t8'⟩
  refine(aak t8.toQz ((cA false).keep ⟨_,rfl,hxc⟩ fun k _ bp=>fy.block k bp (by simp)) hF (hn a ha) (by have:=Dd ha;omega) hE hT).mono ?_;rintro _ w9 ⟨tx,Wc,rfl,hl9,aip,Tc,h9,Xj⟩;have t9:=t8.nx h9 Xj;have aiq:∀g,l4.a=some ⟨g,0,none⟩->w2.heap.size<=g/\g<w7.heap.size:=fun g hg=>by
   rcases Ra with⟨rfl,_⟩ | ⟨g',css,tl,a1,a2,a4,_⟩
   ·cases hg
   ·rw[a1]at hg;injection hg with hg;injection hg with hg;subst hg;exact⟨a2,a4.lt⟩
  have air:Own jJ 1 9 w2.heap.size w9 (fun _=>True) l4 ws:=by
   have o1:=Ra.keep cL (w':=w8) fun k hk bp=>fy.block k bp (by simp);refine(o1.mono (G:=fun _=>True) cL fun _ _=>trivial).far Xj.aaV b2
  obtain⟨y,cI,D4,dm,FQ,cS,NP,N8,gs,dx,ry⟩:=Sk air tx (ay z7 (ay fy.size Xj.o.size)) (by omega);have t10:=t9.q dm;have t11:=t10.row b2 Vh (dx.p (F:=fun k=>w2.heap.size<=k) fun x hx=>.inl (ry x hx).2);have FQ:aD [k5] cI cS:=dx.same fun x hx=>by
   have:=(t10.k x (by simpa using hx)).1;refine⟨this,fun hm=>?_⟩;have:=(aiq x (ry x hm).1).2;simp only[ae]at hx;omega
  have JH:=Dg ws tx;refine⟨_,rfl,t8.sm Xj (by simp),y,cI,D4,t9.sq dm (by simp),_,cS,NP,FQ,xs.length-(j+1),by omega,j+1,ws++[tx],Wc,by rw[gV (by omega) (by omega)];rfl,by omega,rfl,N8,by rw[ah,aL];omega,?_,fun e=>?_,(It.tr Tc).cg ?_ rfl,⟨t11.toQz,t11.m,fun k hk=>(by cases hk)⟩⟩
  ·rw[JH,hsa];have:16400+a.n.length+1<=16401*Mc a:=by unfold Mc;omega
   omega
  ·obtain⟨e1,e2,_⟩:=Tc.ok e;rw[S9 e1,aip e2,pc,cq];rfl
  ·rw[pc,wv];simp
 ·have yg:¬(j:Int)<s.n:=ar hc;have mc:j=xs.length:=by omega
  subst mc;rw[aO (aq _)]at hws S9 It;exact⟨ws,Ta,Ra,by omega,hws,S9,It,t7⟩
end
end Go.Proofs.YtmhoiicofhlgbaaGreatDoor.Con
