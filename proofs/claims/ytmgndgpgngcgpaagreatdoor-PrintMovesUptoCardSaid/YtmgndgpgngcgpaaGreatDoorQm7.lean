import Derived.Test.YtmgndgpgngcgpaaGreatDoorQm6
set_option linter.unusedSectionVars false
set_option linter.unusedSimpArgs false
set_option linter.unusedVariables false
set_option maxHeartbeats 4000000
set_option maxRecDepth 100000
open Go renaming World->av,Value->aw
open Go.Value renaming int->O,string->ab,pointer->ae,agg->ah,tuple->ai,bool->aj
open Go.IntKind renaming i64->U,wrap->ar
open Go.Ending renaming returned->ak
open _root_.ByteArray renaming mk->ao
open _root_.Go.Proofs.Tryz renaming prog->aq
open Go.Instr renaming buildSlice->au
open Go renaming World->av,Value->aw,Calls->az
open Go.Kt renaming Only->ay,SliceF->aA,Cells->aB,OnlyP->aD,Blk->aF
namespace Go.Kt
open Go Go.RowKit Go.MapKept
section
variable {κ:Type} {d:TypeDesc} {kv:κ->aw} {g:κ->Prop} {P:Program} {w w':av} {r n:Nat} {m:κ->Option aw} {mty kt et:TypeId}
theorem MapV.Rf(K:Wi d kv g)(hm:P.underlying mty=some (.map kt et))(hd:P.underlying kt=some d){z:aw}(hz:∀w,(zeroValue et).run P w=.ok z w)(h:MapV kv g w r m n)(k:κ):
  (Instr.lookup mty (.map (some r)) (kv k) true).run P w=.ok (.tuple #[(m k).getD z,.bool (m k).isSome]) w:=by
 obtain⟨es,c,h1,h0,hn,h2,h4⟩:=h.mem;rcases findNow_spec (K.is k) es.toList 0 (Ze K h2)with⟨g1,g2⟩ | ⟨j,e,g1,g2,g3⟩
 ·have hn:m k=none:=by
   cases hmk:m k with
   | none=>rfl
   | some v=>
    obtain⟨x,hx,hk,_⟩:=(h4 k v).1 hmk;exact absurd hk (g2 x hx)
  simp[Instr.lookup,run_underlying hm,MapKept.run_getObj_map h1,MapKept.run_checkKey hd (K.is k),MapKept.run_findKey hd g1,Result.andThen,hz,hn]
 have he:=bF g2;have hmk:m k=some e.val:=(h4 k e.val).2 ⟨e,he,g3,rfl⟩;simp[Instr.lookup,run_underlying hm,MapKept.run_getObj_map h1,MapKept.run_checkKey hd (K.is k),MapKept.run_findKey hd g1,Result.andThen,hmk]
end
end Go.Kt
namespace Go.Proofs.YtmgndgpgngcgpaaGreatDoor.Con
open Go Go.RowKit Go.Kt Go.Kt.V Go.Proofs.YtmgndgpgngcgpaaGreatDoor.Vc
def mI(l:List (aH)):aH->Option aw:=λk=>if wF k l<l.length then some (.int U (wF k l:Nat))else none
theorem QL(l:List (aH))(x k:aH):mI (l++[x]) k=if x∈l then mI l k else if k=x then some (.int U (l.length:Nat))else mI l k:=by
 unfold mI;rw[aN,bp];by_cases hk:k∈l
 ·have h1:=sd.2 hk;rw[HC [x] hk,aR aE,aR h1];by_cases hx:x∈l
  ·rw[aR hx]
  rw[aO hx,aO λe=>hx (by rw[<-e];exact hk)]
 have h1:¬wF k l<l.length:=λh=>hk (sd.1 h);rw[aO h1];by_cases e:k=x
 ·subst e;rw[aO hk,aR rfl,HD [] hk,aR aE]
 have:¬wF k (l++[x])<(l++[x]).length:=λh=>by
  have:=sd.1 h;rw[cD,aQ]at this;exact this.elim hk e
 rw[aN,bp]at this;rw[aO this,aO e];split<;>rfl
theorem QM(l:List (aH))(k:aH):(mI l k).isSome=decide (k∈l):=by
 unfold mI;by_cases hk:k∈l
 ·rw[aR (sd.2 hk),bE hk];rfl
 rw[aO λh=>hk (sd.1 h),bq hk];rfl
abbrev Uy(w:av)(r:Nat)(l:List (aH)):Prop:=MapV kS gS w r (mI l) l.length
theorem Uy.at{w:av}{r:Nat}{l:List (aH)}(h:Uy w r l)(k:aH):(Instr.lookup 54 (.map (some r)) (ab (T k)) true).run aq w=.ok (ai #[O U (if wF k l<l.length then(wF k l:Nat)else 0:Int),aj (decide (k∈l))]) w:=by
 have:=h.Rf (P:=aq) (mty:=54) (kt:=9) (et:=3) (z:=O U 0) aff (by kernel_rfl) (by kernel_rfl) (λw=>Tryz.zeroValue3 w) k;rw[QM]at this;rw[this];unfold mI;split<;>rfl
theorem Uy.has{w:av}{r:Nat}{l:List (aH)}(h:Uy w r l){x:aH}(hx:x∈l):Uy w r (l++[x]):=by
 refine(h.ext λk=>?_).le aaG;rw[QL,aR hx]
structure Lo (w:av) (b m0 m1:Nat) (s:Sl) (nn vn:List (aH)) (f:Ft):Prop where
 blk:aF w b 56 [.map (some m0),s.v,.map (some m1),O U f.1,O U f.2]
 nm:Uy w m0 nn
 vr:Uy w m1 vn
 n0:m0<m1
 n1:m1<b
section
variable {w w':av} {b m0 m1:Nat} {s:Sl} {nn vn:List (aH)} {f:Ft}
theorem Lo.only(h:Lo w b m0 m1 s nn vn f){bs:List Nat}(hO:ay bs w w')(h0:b∉bs)(h1:m0∉bs)(h2:m1∉bs):Lo w' b m0 m1 s nn vn f:=⟨hO.blk h.blk h0,h.nm.only hO h1,h.vr.only hO h2,h.n0,h.n1⟩
end
def WK(P:aJ)(s:Sl)(w:av)(s':Sl)(w':av):Prop:=aD (λk=>P k∨s.a=some ⟨k,0,none⟩) w w'/\∀k,s'.a=some ⟨k,0,none⟩->s.a=some ⟨k,0,none⟩∨w.heap.size<=k
theorem WK.trans{P:aJ}{s t u:Sl}{w w' sD:av}(h:WK P s w t w')(g:WK P t w' u sD):WK P s w u sD:=by
 refine⟨h.1.trans g.1 λk hk=>?_,λk hk=>?_⟩
 ·rcases hk with hk | hk
  ·exact .inl (.inl hk)
  exact(h.2 k hk).elim (λh=>.inl (.inr h)) .inr
 rcases g.2 k hk with hk | hk
 ·exact h.2 k hk
 exact .inr (bh h.1.size hk)
theorem WK.of{P:aJ}{s:Sl}{w w':av}{bs:List Nat}(hO:ay bs w w')(hb:∀k,k∈bs->P k):WK P s w s w':=⟨hO.p λk hk=>.inl (.inl (hb k hk)),λk hk=>.inl hk⟩
end Go.Proofs.YtmgndgpgngcgpaaGreatDoor.Con
namespace Go.Kt
open Go Go.RowKit
end Go.Kt
namespace Go.Proofs.YtmgndgpgngcgpaaGreatDoor.Con
open Go Go.RowKit Go.Kt Go.Kt.V Go.Proofs.YtmgndgpgngcgpaaGreatDoor.Vc
structure Lx (w:av) (b m0 m1:Nat) (F:aJ) (s:Sl) (xs:List GC) (vn:List (aH)) (f:Ft):Prop where
 lo:Lo w b m0 m1 s (xs.map λx:GC=>x.nm) vn f
 sp:aA WJ 5 w F s xs
 fo:Fo xs
 ln:xs.length<=64
 nF:∀k,F k->k≠b
theorem H4.sl{B:Nat}{w:av}{s:Sl}{xs:List GC}(h:H4 B w s xs):aA WJ 5 w (λk=>B<=k) s xs:=(h.slice My).mono My λk hk=>hk.elim (λh=>h.elim) λh=>h.1
def tup(x:GC):Int×aH×Int×Int×Int:=(x.k,x.nm,x.pa,x.dp,x.en)
def sh(t:Tk):Tk:=⟨t.k,t.t,t.n,t.a+1⟩
inductive Sim:Ex->Ex->Prop
 | leaf (k n:Int) (s:aH) (op a b:Int):Sim (.mk k n s op [] a) (.mk k n s op [] b)
 | one (k n:Int) (s:aH) (op a b:Int) (x y:Ex):Sim x y->Sim (.mk k n s op [x] a) (.mk k n s op [y] b)
 | two (k n:Int) (s:aH) (op a b:Int) (x y x' y':Ex):Sim x x'->Sim y y'->Sim (.mk k n s op [x,y] a) (.mk k n s op [x',y'] b)
structure Wr (ts lM:List Tk) (n:Nat):Prop where
 e:∀i,n<=i->(tk ts i).k=5
 s:∀i,i<n->(tk lM (i+1)).k=(tk ts i).k/\(tk lM (i+1)).t=(tk ts i).t/\(tk lM (i+1)).n=(tk ts i).n
 c:(tk lM (n+1)).k=4/\(tk lM (n+1)).t=[41]
def qC(n:Nat)(r r':Pr):Prop:=∀x j,r=.ok (x,j)->(∃x',r'=.ok (x',j+1)/\Sim x x'/\j<=n)∨∃a,r'=.error (21,a)
section
variable {ts lM:List Tk} {n:Nat}
theorem Wr.lt(h:Wr ts lM n){i:Nat}(hk:(tk ts i).k≠5):i<n:=by
 refine bD λhn=>hk (h.e i aE)
theorem Wr.IB(h:Wr ts lM n){i:Nat}(hi:i<n)(s:aH):sg lM (i+1) s=sg ts i s:=by
 unfold sg;obtain⟨h1,h2,_⟩:=h.s i hi;rw[h1,h2]
theorem qC.map{r r':Pr}(h:qC n r r'){g g':Ex->Ex}(hg:∀x x',Sim x x'->Sim (g x) (g' x')):qC n (Dx g r) (Dx g' r'):=by
 intro x j hx;obtain⟨y,h1,rfl⟩:=wX hx;rcases h y j h1 with⟨x',h2,h3,h4⟩ | ⟨a,h2⟩
 ·exact .inl ⟨g' x',by rw[h2];rfl,hg _ _ h3,h4⟩
 exact .inr ⟨a,by rw[h2];rfl⟩
theorem qC.nest{r r':Pr}{d:Nat}{a a':Int}(h:d+1≠20->qC n r r'):qC n (im d a r) (im (d+1) a' r'):=by
 intro x j hx;obtain⟨h1,h2⟩:=oW hx;by_cases h3:d+1=20
 ·exact .inr ⟨a',by rw[im,aR h3]⟩
 rw[im,aO h3];exact h h3 x j h1
theorem qC.par(hw:Wr ts lM n){r r':Pr}(h:qC n r r'):qC n (pN ts r) (pN lM r'):=by
 intro x j hx;obtain⟨j',h1,h2,rfl⟩:=wY hx;rcases h x j' h1 with⟨x',h3,h4,h5⟩ | ⟨a,h3⟩
 ·have hl:=hw.lt (sK h2);exact .inl ⟨x',by rw[h3];simp only[pN];rw[aR (by rw[hw.IB hl];exact h2)],h4,hl⟩
 exact .inr ⟨a,by rw[h3];rfl⟩
theorem qC.err{e:Int×Int}{r':Pr}:qC n (.error e) r':=λx j hx=>ab2
theorem qC.in_(hw:Wr ts lM n)(i:Nat):qC n (yi ts i) (yi lM (i+1)):=by
 intro x j hx;have KH:=hx;obtain⟨rfl,rfl⟩:=FD KH;unfold yi at hx;split at hx
 ·rename_i h1;split at hx
  ·rename_i h2;split at hx
   ·rename_i h3;have hl:=hw.lt (sK h3);refine .inl ⟨.mk 3 0 (tk lM (i+1+2)).t 0 [] (tk lM (i+1)).a,?_,?_,hl⟩
    ·unfold yi;rw[aR (by rw[hw.IB (by omega:i+1<n)];exact h1),aR (by rw[(hw.s (i+2) aE).1];exact h2),aR (by rw[hw.IB hl];exact h3)]
    have e:(tk lM (i+1+2)).t=(tk ts (i+2)).t:=(hw.s (i+2) aE).2.1;rw[e];exact .leaf ..
   cases hx
  cases hx
 cases hx
theorem qC.one(hw:Wr ts lM n){E0 One E0' OE:Nat->Pr}{d i:Nat}(hE:d+1≠20->∀i,i<=n->qC n (E0 i) (E0' (i+1)))(hO:d+1≠20->∀i,i<=n->qC n (One i) (OE (i+1)))(hi:i<=n):qC n (mP ts E0 One d i) (mP lM E0' OE (d+1) (i+1)):=by
 by_cases KI:i=n
 ·subst KI;have h5:=hw.e i (aY _);have hs:∀s,sg ts i s=false:=λs=>by
   unfold sg;rw[h5];rfl
  have:mP ts E0 One d i=.error (eP ts i):=by
   unfold mP;rw[hs,hs,hs,aO aL,aO aL,aO acH,aO acH,aO (by rw[h5];rintro⟨h,_⟩;exact absurd h aL)]
  rw[this];exact qC.err
 have hl:i<n:=aE
 obtain⟨k1,k2,k3⟩:=hw.s i hl;unfold mP;rw[hw.IB hl,hw.IB hl,hw.IB hl,k1,k2,k3];split
 ·exact qC.map (qC.nest λh=>hO h (i+1) hl) λx x' hx=>.one _ _ _ _ _ _ _ _ hx
 split
 ·exact qC.nest λh=>qC.par hw (hE h (i+1) hl)
 split
 ·intro x j hx;simp only[eG,eK]at hx;obtain⟨rfl,rfl⟩:=hx;exact .inl ⟨_,rfl,.leaf ..,hl⟩
 split
 ·intro x j hx;simp only[eG,eK]at hx;obtain⟨rfl,rfl⟩:=hx;exact .inl ⟨_,rfl,.leaf ..,hl⟩
 split
 ·exact qC.in_ hw i
 exact qC.err
end
theorem SE{ts:List Tk}{E:Nat->Pr}{k:Int}{x:Ex}{j:Nat}(h:iU ts k j=0):∀g,gU ts E k g x j=.ok (x,j)
 | 0=>rfl
 | g+1=>by rw[gU,aR h]
theorem Uz{ts:List Tk}{j:Nat}(h:(tk ts j).k=5)(k:Int):iU ts k j=0:=by
 refine bD λhn=>?_;exact mT _ _ hn h
theorem Zf{ts:List Tk}{j:Nat}{t:aH}(h:(tk ts j).t=t)(hn:∀op,op<16->dl op≠t∨op=0∨14<=op)(k:Int):iU ts k j=0:=by
 have:∀(f op:Nat),1<=op->op+f<=14->iA ts k j f op=0:=by
  intro f
  induction f with
  | zero=>intro op _ _;rfl
  | succ f ih=>
   intro op h1 h2;rw[iA,aO,ih (op+1) aE aE];rintro⟨_,hs⟩;simp only[sg,aP,bC]at hs;rcases hn op aE with e | e | e
   ·exact e (by rw[<-h,hs.2])
   ·omega
   omega
 exact this 13 1 aE aE
theorem Sim.same{x y:Ex}(h:Sim x y):∀d,nc false d x y=true:=by
 have hd:∀{k n:Int} {s:aH} {op:Int} {xs ys:List Ex} {a b:Int},xs.length=ys.length->DD false (.mk k n s op xs a) (.mk k n s op ys b)=false:=λh=>by
  simp[DD,Ex.k,Ex.n,Ex.s,Ex.op,Ex.dq,Ex.a,h]
 induction h with
 | leaf k n s op a b=>
  intro d;cases d with
  | zero=>rfl
  | succ d=>rw[nc,aO (by rw[hd rfl];decide)];rfl
 | one k n s op a b x y h ih=>
  intro d;cases d with
  | zero=>rfl
  | succ d=>
   rw[nc,aO (by rw[hd (xs:=[x]) (ys:=[y]) rfl];decide)];simp only[Ex.dq,Bq,ih d,cH]
 | two k n s op a b x y x' y' h1 h2 zy CE=>
  intro d;cases d with
  | zero=>rfl
  | succ d=>
   rw[nc,aO (by rw[hd (xs:=[x,y]) (ys:=[x',y']) rfl];decide)];simp only[Ex.dq,Bq,zy d,CE d,cH]
def kt(t:Tk):Int×aH:=(t.k,t.t)
theorem ET{c:UInt8}{r:aH}(h1:mA c=false)(h2:(c==47)=false):jd false (c::r)=0:=by
 rw[jd,aO (by rw[h1];decide),aO (by rw[h2,dk];decide)]
theorem kI{c:UInt8}{r:aH}(h1:dZ c=false)(h2:cE c=false)(h3:mB.contains c=true)(h4:oU (c::r)=false):ki (c::r)=.ok (4,[c],0,1):=by
 have e:ki (c::r)=if dZ c then kC (c::r)else if cE c then pM (c::r)else mg (c::r):=rfl
 have hn:gR (c::r)=1:=by
  unfold gR;rw[h4];dsimp only;rw[aO aL,aR h3]
 rw[e,h1,h2,aO aL,aO aL,mg,hn];rfl
def soft(r:aH):Prop:=∀d,r.head? =some d->d≠61/\d≠62
theorem jC{c:UInt8}{r:aH}(hc:[38,124].contains c=false)(h:soft r):oU (c::r)=false:=by
 cases r with
 | nil=>rfl
 | cons d r=>
  obtain⟨h1,h2⟩:=h d rfl;have e1:(d==61)=false:=aaz
  have e2:(d==62)=false:=ab3
  show((d==61&&[60,62,61,33].contains c)||(d==c&&[38,124].contains c)||(c==45&&d==62))=false;rw[e1,e2,hc,dk,fN,fN];rfl
structure De (ts:List Tk) (n m:Nat) (s:aH):Prop where
 a:∀i,i<n->(tk ts i).k=4/\(tk ts i).t=s
 b:∀i,n<=i->i<n+m->(tk ts i).k=4/\(tk ts i).t=[40]
 c:(tk ts (n+m)).k=1/\(tk ts (n+m)).t=[120]
 e:∀i,n+m<i->i<=n+m+m->(tk ts i).k=4/\(tk ts i).t=[41]
 z:(tk ts (n+m+m+1)).k=5
 l:ts.length=n+m+m+2
section
variable {ts:List Tk} {n m:Nat} {s:aH}
theorem Mz{ts:List Tk}{i:Nat}{t s:aH}(h:(tk ts i).t=t)(ia:t≠s):sg ts i s=false:=by
 unfold sg;rw[h,bq ia,fN]
theorem FQ{ts:List Tk}{i:Nat}{t:aH}(h:(tk ts i).k=4/\(tk ts i).t=t):sg ts i t=true:=by
 unfold sg;rw[h.1,h.2,bE rfl];rfl
end
abbrev K3:=Int×aH×Int
def k3(t:Tk):K3:=(t.k,t.t,t.n)
theorem MA{p:UInt8->Prop}(h:∀n:Fin 256,p (UInt8.ofNat n.val))(c:UInt8):p c:=by
 have:=h ⟨c.toNat,c.toNat_lt⟩;simpa using this
theorem vE{p:UInt8->Bool}{r:aH}(hr:∀c,r.head? =some c->p c=false):∀(l:aH),(∀c,c∈l->p c=true)->(l++r).takeWhile p=l
 | [],_=>by
  cases r with
  | nil=>rfl
  | cons c r=>rw[cp,cT,aO (by rw[hr c rfl];decide)]
 | c::l,hl=>by rw[cy,cT,aR (hl c aM),vE hr l λx hx=>hl x aa4]
theorem D2{a b:aH}(h:a≠[]):(a++b).head? =a.head? :=by
 cases a with
 | nil=>exact absurd rfl h
 | cons c a=>rfl
theorem mQ{u:Nat}(h:u<10):Lib.decDigits u=[UInt8.ofNat (48+u)]:=by rw[Lib.decDigits,dif_pos h]
theorem pf{u:Nat}(h:¬u<10):Lib.decDigits u=Lib.decDigits (u/10)++[UInt8.ofNat (48+u % 10)]:=by rw[Lib.decDigits,dif_neg h]
theorem uI{u:Nat}(h:u<10):(UInt8.ofNat (48+u)).toNat=48+u:=by
 rw[UInt8.toNat_ofNat'];omega
theorem SF{u:Nat}(h:u<10):cE (UInt8.ofNat (48+u))=true:=by
 unfold cE;rw[uI h];simp;omega
theorem uJ(u:Nat):∀c,c∈Lib.decDigits u->cE c=true:=by
 induction u using Nat.strongRecOn with
 | _ u ih=>
  intro c hc;by_cases h:u<10
  ·rw[mQ h,aQ]at hc;subst hc;exact SF h
  rw[pf h,cD,aQ]at hc;rcases hc with hc | rfl
  ·exact ih (u/10) aE c hc
  exact SF (Nat.mod_lt _ aL)
theorem vF(u:Nat):Lib.decDigits u≠[]:=by
 by_cases h:u<10
 ·rw[mQ h];simp
 rw[pf h];simp
theorem FR(a:Nat)(l:aH)(c:UInt8):jF a (l++[c])=jF a l*10+(c.toNat-48):=by
 simp[jF,tX]
theorem QN(u:Nat):jF 0 (Lib.decDigits u)=u:=by
 induction u using Nat.strongRecOn with
 | _ u ih=>
  by_cases h:u<10
  ·rw[mQ h];have:=uI h;simp only[jF,List.foldl_cons,List.foldl_nil];omega
  rw[pf h,FR,ih (u/10) aE,uI (Nat.mod_lt _ aL)];omega
theorem MB(u:Nat)(h0:0<u):(Lib.decDigits u).head? ≠some 48:=by
 induction u using Nat.strongRecOn with
 | _ u ih=>
  by_cases h:u<10
  ·rw[mQ h,fR];intro e;injection e with e;have:=br UInt8.toNat e;rw[uI h]at this;have h48:(48:UInt8).toNat=48:=rfl;omega
  rw[pf h,D2 (vF _)];exact ih (u/10) aE aE
theorem MC(u:Nat)(h:1<(Lib.decDigits u).length):0<u:=by
 refine bD λhn=>?_;have:u=0:=aE
 subst this;rw[mQ aL]at h;simp at h
theorem FT{c:UInt8}(h:cE c=true):dM c=true:=by unfold dM;rw[h,lN]
theorem MD{c:UInt8}(h:cE c=true):dZ c=false:=by
 unfold cE at h;unfold dZ;simp only[aP,bC]at h;simp;omega
theorem ml{n:Int}(h:0<=n):Lib.itoa n=Lib.decDigits n.toNat:=by
 unfold Lib.itoa;rw[aO aE]
theorem ME{n:Int}(h0:0<=n)(h1:n<=9223372036854775807){r:aH}(hr:∀c,r.head? =some c->dM c=false):ki (Lib.itoa n++r)=.ok (3,[],n,(Lib.itoa n).length):=by
 rw[ml h0];generalize hu:n.toNat=u;have hn:n=(u:Int):=aE
 have fm:=uJ u;have ia:=vF u;have hw:=vE (p:=dM) hr (Lib.decDigits u) λc hc=>FT (fm c hc);have hd:=vE (p:=cE) (λc h=>by
  have:=hr c h;unfold dM at this;exact(eZ.1 this).2) (Lib.decDigits u) fm
 have hp:eI (Lib.decDigits u++r)=(u,(Lib.decDigits u).length,0):=by
  unfold eI;rw[hd,QN];rw[aO (by simp[ia]),aO,aR aE];rintro(h | ⟨h2,h3⟩)
  ·exact ia h
  rw[D2 ia]at h3;exact MB u (MC u h2) h3
 have ahC:pM (Lib.decDigits u++r)=.ok (3,[],n,(Lib.decDigits u).length):=by
  unfold pM;rw[hp,hw,aO aM,aO aM,hn]
 generalize hm:Lib.decDigits u=m at*
 cases m with
 | nil=>exact absurd rfl ia
 | cons c m=>
  have hc:=fm c aM;have e:ki (c::m++r)=if dZ c then kC (c::m++r)else if cE c then pM (c::m++r)else mg (c::m++r):=rfl
  rw[e,MD hc,hc,aO aL,aR rfl,ahC]
theorem rq{l:aH}{i:Nat}{p r:aH}{k:Int}{t:aH}{n:Int}{ts:List Tk}(h:l.drop i=p++r)(hp:p≠[])(hb:jd false (p++r)=0)(ht:ki (p++r)=.ok (k,t,n,p.length))(hr:jl l (i+p.length)=.ok ts):jl l i=.ok (⟨k,t,n,(i:Nat)⟩::ts):=by
 have Xe:=Cw.2 hp;have hi:i<l.length:=by
  have:=br List.length h;rw[bW,aN]at this;omega
 rw[jg aE,h,hb,gz,aO aE,h,ht];dsimp only;rw[hr]
theorem je{l:aH}{i:Nat}{p r:aH}(h:l.drop i=p++r):l.drop (i+p.length)=r:=by
 rw[<-iP,h,List.drop_left]
theorem wh{l:aH}{i:Nat}{p r:aH}(hi:i<=l.length)(h:l.drop i=p++r):i+p.length<=l.length:=by
 have:=br List.length h;rw[bW,aN]at this;omega
def jY:Nat->Ex->Bool->aH
 | 0,_,_=>[]
 | d+1,x,wr=>clo wr (opn wr []++(
  if x.k=1 then Lib.itoa x.n
  else if x.k=2 then x.s
  else if x.k=3 then[105,110,40]++x.s++[41]
  else if x.k=4 then(match x.dq with
   | [y]=>dl x.op.toNat++jY d y (decide (bM y<6))
   | _=>[])
  else(match x.dq with
   | [y,z]=>jY d y (decide (bM y<bM x))++([32]++dl x.op.toNat++[32])++jY d z (decide (bM z<=bM x))
   | _=>[])))
theorem lJ(wr:Bool)(l:aH):opn wr l=l++opn wr []:=by cases wr<;>simp[opn]
theorem MF(wr:Bool)(l m:aH):clo wr (l++m)=l++clo wr m:=by cases wr<;>simp[clo]
theorem FU(wr:Bool)(l:aH):l.length<=(clo wr l).length:=by cases wr<;>simp[clo]
theorem UA(wr:Bool)(l:aH):l.length<=(opn wr l).length:=by cases wr<;>simp[opn]
theorem D3:∀(d:Nat) (x:Ex) (wr:Bool) (l:aH),l.length<=(mF d x wr l).length
 | 0,_,_,_=>aY _
 | d+1,x,wr,l=>by
  rw[mF];split
  ·exact aY _
  refine bh ?_ (FU _ _);have h1:=UA wr l;split
  ·rw[aN];omega
  split
  ·rw[aN];omega
  split
  ·rw[aN];omega
  split
  ·split
   ·rename_i y _;have:=D3 d y (decide (bM y<6)) (opn wr l++dl x.op.toNat);rw[aN]at this;omega
   exact aY _
  split
  ·rename_i y z _;have a1:=D3 d y (decide (bM y<bM x)) (opn wr l);have a2:=D3 d z (decide (bM z<=bM x)) (mF d y (decide (bM y<bM x)) (opn wr l)++([32]++dl x.op.toNat++[32]));rw[aN]at a2;omega
  exact aY _
theorem Ah:∀(d:Nat) {x:Ex} (wr:Bool) (l:aH),cf d x=true->(mF d x wr l).length<=16384->mF d x wr l=l++jY d x wr
 | 0,x,wr,l,h,_=>aah
 | d+1,x,wr,l,h,hl=>by
  rw[cf,aP]at h;obtain⟨hh,ha⟩:=h;have h0:=D3 (d+1) x wr l;have hc:¬16384<l.length:=aE
  rw[mF,aO hc]at hl⊢;rw[jY,<-MF];have tU:=bh (FU wr _) hl;congr 1;by_cases k1:x.k=1
  ·rw[aR k1,aR k1,lJ wr l,bf]
  by_cases k2:x.k=2
  ·rw[aO k1,aO k1,aR k2,aR k2,lJ wr l,bf]
  by_cases k3:x.k=3
  ·rw[aO k1,aO k1,aO k2,aO k2,aR k3,aR k3,lJ wr l,bf]
  by_cases k4:x.k=4
  ·obtain⟨y,hy,_⟩:=qV hh k4;rw[aO k1,aO k2,aO k3,aR k4,hy]at tU;rw[aO k1,aO k1,aO k2,aO k2,aO k3,aO k3,aR k4,aR k4,hy];rw[hy]at ha;dsimp only at tU⊢;simp only[iB,cH]at ha;rw[Ah d _ _ ha tU,lJ wr l];simp only[bf]
  obtain⟨_,y,z,hy,_⟩:=nf hh k1 k2 k3 k4;rw[aO k1,aO k2,aO k3,aO k4,hy]at tU;rw[aO k1,aO k1,aO k2,aO k2,aO k3,aO k3,aO k4,aO k4,hy];rw[hy]at ha;dsimp only at tU⊢;simp only[iB,cH,aP]at ha;have h1:=D3 d z (decide (bM z<=bM x)) (mF d y (decide (bM y<bM x)) (opn wr l)++([32]++dl x.op.toNat++[32]));rw[aN]at h1;rw[Ah d _ _ ha.2 tU,Ah d _ _ ha.1 aE,lJ wr l];simp only[bf]
def Zg(wr:Bool):List K3:=if wr then[(4,[40],0)]else[]
def Zh(wr:Bool):List K3:=if wr then[(4,[41],0)]else[]
def mo:Nat->Ex->Bool->List K3
 | 0,_,_=>[]
 | d+1,x,wr=>Zg wr++(
  if x.k=1 then[(3,[],x.n)]
  else if x.k=2 then[(1,x.s,0)]
  else if x.k=3 then[(2,[105,110],0),(4,[40],0),(1,x.s,0),(4,[41],0)]
  else if x.k=4 then(match x.dq with
   | [y]=>(4,dl x.op.toNat,0)::mo d y (decide (bM y<6))
   | _=>[])
  else(match x.dq with
   | [y,z]=>mo d y (decide (bM y<bM x))++(4,dl x.op.toNat,0)::mo d z (decide (bM z<=bM x))
   | _=>[]))++Zh wr
def kj(c:UInt8):Bool:=dZ c||cE c||c==40||c==45||c==33
theorem Jz:∀n:Fin 256,kj (UInt8.ofNat n.val)=true->mA (UInt8.ofNat n.val)=false/\(UInt8.ofNat n.val==47)=false/\UInt8.ofNat n.val≠61/\UInt8.ofNat n.val≠62:=aca
theorem jZ{c:UInt8}(h:kj c=true):mA c=false/\(c==47)=false/\c≠61/\c≠62:=MA (p:=λc=>kj c=true->mA c=false/\(c==47)=false/\c≠61/\c≠62) Jz c h
def MG(c:UInt8):Bool:=[32,41,59,93,44,10].contains c
def qu(r:aH):Prop:=∀c,r.head? =some c->MG c=true
theorem QO:∀n:Fin 256,MG (UInt8.ofNat n.val)=true->dM (UInt8.ofNat n.val)=false/\cE (UInt8.ofNat n.val)=false/\UInt8.ofNat n.val≠61/\UInt8.ofNat n.val≠62:=aca
theorem FV{c:UInt8}(h:MG c=true):dM c=false/\cE c=false/\c≠61/\c≠62:=MA (p:=λc=>MG c=true->dM c=false/\cE c=false/\c≠61/\c≠62) QO c h
theorem qu.word{r:aH}(h:qu r):∀(l:aH),(∀c,c∈l->dM c=true)->(l++r).takeWhile dM=l
 | [],_=>by
  cases r with
  | nil=>rfl
  | cons c r=>
   rw[cp,cT,aO (by rw[(FV (h c rfl)).1];decide)]
 | c::l,hl=>by
  rw[cy,cT,aR (hl c aM),h.word l λx hx=>hl x aa4]
theorem H5{n:Int}(h0:0<=n)(h1:n<=9223372036854775807){r:aH}(hr:qu r):ki (Lib.itoa n++r)=.ok (3,[],n,(Lib.itoa n).length):=ME h0 h1 λc h=>(FV (hr c h)).1
theorem D4{s r:aH}(hn:cN s=true)(hr:qu r):ki (s++r)=.ok (1,s,0,s.length):=by
 unfold cN at hn;simp only[aP]at hn;obtain⟨⟨⟨h1,h2⟩,h3⟩,h4⟩:=hn;obtain⟨h1,h5⟩:=aV h1;have h3:=aV h3;have h4:ic.contains s=false:=ab4
 have hw:=hr.word s λc hc=>by rw[<-h3]at hc;exact vu c hc
 have hwr:kC (s++r)=.ok (1,s,0,s.length):=by
  unfold kC;rw[hw,aO aE,h4];rfl
 cases s with
 | nil=>exact absurd rfl h1
 | cons c s=>
  have e:ki (c::s++r)=if dZ c then kC (c::s++r)else if cE c then pM (c::s++r)else mg (c::s++r):=rfl
  have h2:dZ c=true:=h2;rw[e,h2,aR rfl,hwr]
theorem UB{op:Nat}(h1:1<=op)(h2:op<=13)(r:aH):ki (dl op++32::r)=.ok (4,dl op,0,(dl op).length)/\jd false (dl op++32::r)=0:=by
 match op,h1,h2 with
 | 1,_,_=>exact⟨rfl,rfl⟩
 | 2,_,_=>exact⟨rfl,rfl⟩
 | 3,_,_=>exact⟨rfl,rfl⟩
 | 4,_,_=>exact⟨rfl,rfl⟩
 | 5,_,_=>exact⟨rfl,rfl⟩
 | 6,_,_=>exact⟨rfl,rfl⟩
 | 7,_,_=>exact⟨rfl,rfl⟩
 | 8,_,_=>exact⟨rfl,rfl⟩
 | 9,_,_=>exact⟨rfl,rfl⟩
 | 10,_,_=>exact⟨rfl,rfl⟩
 | 11,_,_=>exact⟨rfl,rfl⟩
 | 12,_,_=>exact⟨rfl,rfl⟩
 | 13,_,_=>exact⟨rfl,rfl⟩
theorem si:∀(d:Nat) {x:Ex} (wr:Bool),cf d x=true->jz d x->∃c t,jY d x wr=c::t/\kj c=true
 | 0,x,wr,h,_=>aah
 | d+1,x,true,h,_=>⟨40,_,rfl,aL⟩
 | d+1,x,false,h,⟨hn,hs⟩=>by
  rw[cf,aP]at h;obtain⟨hh,ha⟩:=h;have e:jY (d+1) x false=(
  if x.k=1 then Lib.itoa x.n
  else if x.k=2 then x.s
  else if x.k=3 then[105,110,40]++x.s++[41]
  else if x.k=4 then(match x.dq with
   | [y]=>dl x.op.toNat++jY d y (decide (bM y<6))
   | _=>[])
  else(match x.dq with
   | [y,z]=>jY d y (decide (bM y<bM x))++([32]++dl x.op.toNat++[32])++jY d z (decide (bM z<=bM x))
   | _=>[])):=rfl
  rw[e];by_cases k1:x.k=1
  ·rw[aR k1];have h0:0<=x.n:=by
    rw[fH,aR k1]at hh;have:=(qU hh).1;split at this<;>omega
   rw[ml h0];cases hm:Lib.decDigits x.n.toNat with
   | nil=>exact absurd hm (vF _)
   | cons c m=>
    have:=uJ x.n.toNat c (by rw[hm];simp);exact⟨c,m,rfl,by unfold kj;rw[this];simp⟩
  have name:cN x.s=true->∃c t,x.s=c::t/\kj c=true:=λhn=>by
   unfold cN at hn;simp only[aP]at hn;obtain⟨⟨⟨h1,h2⟩,h3⟩,h4⟩:=hn;cases hs:x.s with
   | nil=>rw[hs]at h2;cases h2
   | cons c t=>
    rw[hs]at h2;have h2:dZ c=true:=h2;exact⟨c,t,rfl,by unfold kj;rw[h2];simp⟩
  by_cases k2:x.k=2
  ·rw[aO k1,aR k2];exact name (iV hh (.inl k2))
  by_cases k3:x.k=3
  ·rw[aO k1,aO k2,aR k3];exact⟨105,_,rfl,aL⟩
  by_cases k4:x.k=4
  ·obtain⟨y,hy,ho⟩:=qV hh k4;rw[aO k1,aO k2,aO k3,aR k4,hy];rcases ho with ho | ho
   ·rw[ho];exact⟨45,_,rfl,aL⟩
   rw[ho];exact⟨33,_,rfl,aL⟩
  obtain⟨_,y,z,hy,_⟩:=nf hh k1 k2 k3 k4;rw[aO k1,aO k2,aO k3,aO k4,hy];rw[hy]at ha hs;simp only[iB,cH,aP]at ha;obtain⟨c,t,h1,h2⟩:=si d (decide (bM y<bM x)) ha.1 (hs y aM);dsimp only;rw[h1];exact⟨c,_,rfl,h2⟩
theorem nu{r:aH}(h:∃c t,r=c::t/\kj c=true):soft r:=by
 obtain⟨c,t,rfl,hs⟩:=h;intro d hd;simp only[fR,bg]at hd;subst hd;exact⟨(jZ hs).2.2.1,(jZ hs).2.2.2⟩
theorem qu.soft{r:aH}(h:qu r):soft r:=λd hd=>(FV (h d hd)).2.2
theorem su{a b:aH}(h:∃c t,a=c::t/\kj c=true):∃c t,a++b=c::t/\kj c=true:=by
 obtain⟨c,t,rfl,hs⟩:=h;exact⟨c,t++b,rfl,hs⟩
theorem SG{l:aH}{i:Nat}{r:aH}(h:l.drop i=32::r)(hr:jd false r=0):jl l i=jl l (i+1):=by
 have hi:i<=l.length:=by
  refine bD λhn=>?_;rw[dj aE]at h;cases h
 rw[lA hi,h,jd,aR aL,hr]
theorem sw{l:aH}:∀(d:Nat) {x:Ex} (wr:Bool) (i:Nat) {r:aH} {ts:List Tk},cf d x=true->jz d x->i<=l.length->l.drop i=jY d x wr++r->qu r->jl l (i+(jY d x wr).length)=.ok ts->∃us,jl l i=.ok (us++ts)/\us.map k3=mo d x wr
 | 0,x,wr,i,r,ts,h,_,_,_,_,_=>aah
 | d+1,x,wr,i,r,ts,h,⟨hn,hs⟩,hi,hl,hr,ht=>by
  have qm:=h;rw[cf,aP]at h;obtain⟨hh,ha⟩:=h;have core:∀(i:Nat) {r:aH} {ts:List Tk},i<=l.length->l.drop i=jY (d+1) x false++r->qu r->jl l (i+(jY (d+1) x false).length)=.ok ts->∃us,jl l i=.ok (us++ts)/\us.map k3=mo (d+1) x false:=by
   intro i r ts hi hl hr ht;have e:jY (d+1) x false=(
   if x.k=1 then Lib.itoa x.n
   else if x.k=2 then x.s
   else if x.k=3 then[105,110,40]++x.s++[41]
   else if x.k=4 then(match x.dq with
    | [y]=>dl x.op.toNat++jY d y (decide (bM y<6))
    | _=>[])
   else(match x.dq with
    | [y,z]=>jY d y (decide (bM y<bM x))++([32]++dl x.op.toNat++[32])++jY d z (decide (bM z<=bM x))
    | _=>[])):=rfl
   have e2:mo (d+1) x false=(
   if x.k=1 then[(3,[],x.n)]
   else if x.k=2 then[(1,x.s,0)]
   else if x.k=3 then[(2,[105,110],0),(4,[40],0),(1,x.s,0),(4,[41],0)]
   else if x.k=4 then(match x.dq with
    | [y]=>(4,dl x.op.toNat,0)::mo d y (decide (bM y<6))
    | _=>[])
   else(match x.dq with
    | [y,z]=>mo d y (decide (bM y<bM x))++(4,dl x.op.toNat,0)::mo d z (decide (bM z<=bM x))
    | _=>[]))++[]:=rfl
   rw[bL]at e2;obtain⟨c0,t0,Xg,abB⟩:=si (d+1) false qm ⟨hn,hs⟩;have W5:jd false (jY (d+1) x false++r)=0:=by
    rw[Xg,cy];exact ET (jZ abB).1 (jZ abB).2.1
   have ia:jY (d+1) x false≠[]:=by rw[Xg];simp
   by_cases k1:x.k=1
   ·rw[aR k1]at e e2;have h0:0<=x.n:=by
     rw[fH,aR k1]at hh;have:=(qU hh).1;split at this<;>omega
    rw[e2];exact⟨[⟨3,[],x.n,(i:Nat)⟩],rq hl ia W5 (by rw[e];exact H5 h0 hn.2 hr) ht,rfl⟩
   by_cases k2:x.k=2
   ·rw[aO k1,aR k2]at e e2;rw[e2];exact⟨[⟨1,x.s,0,(i:Nat)⟩],rq hl ia W5 (by rw[e];exact D4 (iV hh (.inl k2)) hr) ht,rfl⟩
   by_cases KJ:x.k=3
   ·rw[aO k1,aO k2,aR KJ]at e e2;have Xn:=iV hh (.inr KJ);obtain⟨cs,tss,mq,Wj⟩:∃c t,x.s=c::t/\kj c=true:=by
     have Wk:=Xn;unfold cN at Wk;simp only[aP]at Wk;obtain⟨⟨⟨_,h2⟩,_⟩,_⟩:=Wk;cases hs:x.s with
     | nil=>rw[hs]at h2;cases h2
     | cons c t=>
      rw[hs]at h2;have h2:dZ c=true:=h2;exact⟨c,t,rfl,by unfold kj;rw[h2];simp⟩
    have a0:l.drop i=[105,110]++([40]++(x.s++([41]++r))):=by rw[hl,e];simp
    have a1:=je a0;have a2:=je a1;have a3:=je a2;have len:(jY (d+1) x false).length=2+1+x.s.length+1:=by rw[e];simp;omega
    have ht:jl l (i+([105,110]:aH).length+([40]:aH).length+x.s.length+([41]:aH).length)=.ok ts:=by
     rw[<-ht,len];congr 1;simp only[aU,aZ];omega
    have b3:=rq (n:=0) a3 aM (ET aL aL) (kI aL aL aL (jC aL hr.soft)) ht;have b2:=rq (n:=0) (k:=1) (t:=x.s) a2 (by rw[mq];simp) (by rw[mq,cy];exact ET (jZ Wj).1 (jZ Wj).2.1) (D4 Xn λc hc=>aaW) b3;have b1:=rq (n:=0) a1 aM (ET aL aL) (kI aL aL aL (jC aL (nu (su (a:=x.s) (b:=[41]++r) ⟨cs,tss,mq,Wj⟩)))) b2;have b0:=rq (n:=0) (k:=2) (t:=[105,110]) a0 aM (ET aL aL) rfl b1;rw[e2];exact⟨[_,_,_,_],b0,rfl⟩
   by_cases k4:x.k=4
   ·obtain⟨y,hy,ho⟩:=qV hh k4;rw[aO k1,aO k2,aO KJ,aR k4,hy]at e e2;dsimp only at e e2;rw[hy]at ha hs;simp only[iB,cH]at ha;have zF:=hs y aM;have kP:=si d (decide (bM y<6)) ha zF;have a0:l.drop i=dl x.op.toNat++(jY d y (decide (bM y<6))++r):=by rw[hl,e,bf]
    have a1:=je a0;have ht:jl l (i+(dl x.op.toNat).length+(jY d y (decide (bM y<6))).length)=.ok ts:=by
     rw[<-ht,e,aN,fb]
    obtain⟨us,u1,u2⟩:=sw d (decide (bM y<6)) _ ha zF (wh hi a0) a1 hr ht;have nI:ki (dl x.op.toNat++(jY d y (decide (bM y<6))++r))=.ok (4,dl x.op.toNat,0,(dl x.op.toNat).length)/\dl x.op.toNat≠[]/\jd false (dl x.op.toNat++(jY d y (decide (bM y<6))++r))=0:=by
     rcases ho with ho | ho
     ·rw[ho];exact⟨kI (c:=45) aL aL aL (jC aL (nu (su (a:=jY d y (decide (bM y<6))) (b:=r) kP))),aL,ET aL aL⟩
     rw[ho];exact⟨kI (c:=33) aL aL aL (jC aL (nu (su (a:=jY d y (decide (bM y<6))) (b:=r) kP))),aL,ET aL aL⟩
    rw[e2];exact⟨⟨4,dl x.op.toNat,0,(i:Nat)⟩::us,rq a0 nI.2.1 nI.2.2 nI.1 u1,by rw[bG,u2];rfl⟩
   obtain⟨_,y,z,hy,NY,Gf⟩:=nf hh k1 k2 KJ k4;rw[aO k1,aO k2,aO KJ,aO k4,hy]at e e2;dsimp only at e e2;rw[hy]at ha hs;simp only[iB,cH,aP]at ha;have zF:=hs y aM;have Ps:=hs z aM;obtain⟨cz,tz,hz1,Ck⟩:=si d (decide (bM z<=bM x)) ha.2 Ps;have Kx:jd false (jY d z (decide (bM z<=bM x))++r)=0:=by
    rw[hz1,cy];exact ET (jZ Ck).1 (jZ Ck).2.1
   have nI:=UB (op:=x.op.toNat) aE aE (jY d z (decide (bM z<=bM x))++r);have Od:dl x.op.toNat≠[]:=by
    have:∀q,q<14->1<=q->dl q≠[]:=aL
    exact this _ aE aE
   have a0:l.drop i=jY d y (decide (bM y<bM x))++([32]++(dl x.op.toNat++([32]++(jY d z (decide (bM z<=bM x))++r)))):=by rw[hl,e];simp only[bf]
   have a1:=je a0;have a2:=je a1;have a3:=je a2;have a4:=je a3;have i1:=wh hi a0;have i2:=wh i1 a1;have i3:=wh i2 a2;have i4:=wh i3 a3;have ht:jl l (i+(jY d y (decide (bM y<bM x))).length+([32]:aH).length+(dl x.op.toNat).length+([32]:aH).length+(jY d z (decide (bM z<=bM x))).length)=.ok ts:=by
    rw[<-ht,e];congr 1;simp only[aN,aU,aZ];omega
   obtain⟨vs,v1,v2⟩:=sw d (decide (bM z<=bM x)) _ ha.2 Ps i4 a4 hr ht;have b3:jl l (i+(jY d y (decide (bM y<bM x))).length+([32]:aH).length+(dl x.op.toNat).length)=.ok (vs++ts):=by
    exact(SG a3 Kx).trans v1
   have b2:=rq a2 Od nI.2 nI.1 b3;have b1:=(SG a1 nI.2).trans b2;obtain⟨us,u1,u2⟩:=sw d (decide (bM y<bM x)) i ha.1 zF hi a0 (λc hc=>aaW) b1;rw[e2];exact⟨us++⟨4,dl x.op.toNat,0,_⟩::vs,by rw[u1,bf];rfl,by rw[dx,bG,u2,v2];rfl⟩
  cases wr with
  | false=>exact core i hi hl hr ht
  | true=>
   have e:jY (d+1) x true=[40]++(jY (d+1) x false++[41]):=by
    unfold jY;simp[clo,opn]
   have e2:mo (d+1) x true=(4,[40],0)::(mo (d+1) x false++[(4,[41],0)]):=by
    unfold mo;simp[Zg,Zh]
   have kP:=si (d+1) false qm ⟨hn,hs⟩;have a0:l.drop i=[40]++(jY (d+1) x false++([41]++r)):=by rw[hl,e];simp only[bf]
   have a1:=je a0;have a2:=je a1;have ht:jl l (i+([40]:aH).length+(jY (d+1) x false).length+([41]:aH).length)=.ok ts:=by
    rw[<-ht,e];congr 1;simp only[aN,aU,aZ];omega
   have b2:=rq (n:=0) a2 aM (ET aL aL) (kI aL aL aL (jC aL hr.soft)) ht;obtain⟨us,u1,u2⟩:=core _ (wh hi a0) a1 (λc hc=>aaW) b2;have b0:=rq (n:=0) a0 aM (ET aL aL) (kI aL aL aL (jC aL (nu (su (a:=jY (d+1) x false) (b:=[41]++r) kP)))) u1;rw[e2];refine⟨⟨4,[40],0,(i:Nat)⟩::(us++[⟨4,[41],0,((i+([40]:aH).length+(jY (d+1) x false).length:Nat):Int)⟩]),by rw[b0];simp only[cy,bf,cp,dT],?_⟩;rw[bG,dx,u2];rfl
def At(ts:List Tk)(i:Nat)(L:List K3):Prop:=∀j q,L[j]? =some q->k3 (tk ts (i+j))=q
section
variable {ts:List Tk} {i:Nat} {A B:List K3}
theorem At.left(h:At ts i (A++B)):At ts i A:=λj q hj=>h j q (by rw[bT (bd.1 hj).1];exact hj)
theorem At.right(h:At ts i (A++B)):At ts (i+A.length) B:=λj q hj=>by
 have:=h (A.length+j) q (by rw[dE aE,dI];exact hj);rwa[<-fb]at this
theorem At.head{q:K3}(h:At ts i (q::A)):(tk ts i).k=q.1/\(tk ts i).t=q.2.1/\(tk ts i).n=q.2.2:=by
 have:=h 0 q rfl;rw[gz]at this;rw[<-this];exact⟨rfl,rfl,rfl⟩
theorem At.tail{q:K3}(h:At ts i (q::A)):At ts (i+1) A:=λj p hj=>by
 have:=h (j+1) p hj;rwa[fb,lO 1 j]
theorem MH{p q:Nat}(hp:1<=p)(NZ:p<=13)(hq:1<=q)(Pb:q<=13)(h:dl p=dl q):p=q:=by
 have:∀p,p<14->∀q,q<14->1<=p->1<=q->dl p=dl q->p=q:=aL
 exact this p aE q aE hp hq h
theorem Zj{op:Nat}(h1:1<=op)(h2:op<=13)(hk:(tk ts i).k=4)(ht:(tk ts i).t=dl op)(k:Int):iU ts k i=if eE (op:Int)=k then(op:Int)else 0:=by
 have:∀(f q:Nat),1<=q->q+f<=14->iA ts k i f q=if q<=op/\op<q+f/\eE (op:Int)=k then(op:Int)else 0:=by
  intro f
  induction f with
  | zero=>intro q _ _;rw[aO aE];rfl
  | succ f ih=>
   intro q hq hf;rw[iA,ih (q+1) aE aE];by_cases he:q=op
   ·subst he;have hs:sg ts i (dl q)=true:=FQ ⟨hk,ht⟩;by_cases hr:eE (q:Int)=k
    ·rw[aR ⟨hr,hs⟩,aR ⟨aY _,aE,hr⟩]
    rw[aO (λh=>hr h.1),aO aE,aO (λh=>hr h.2.2)]
   have hs:¬sg ts i (dl q)=true:=λhs=>he (by
    simp only[sg,aP,bC]at hs;exact MH hq aE h1 h2 (by rw[<-ht,hs.2]))
   rw[aO (λh=>hs h.2)];by_cases hc:q+1<=op/\op<q+1+f/\eE (op:Int)=k
   ·rw[aR hc,aR ⟨aE,aE,hc.2.2⟩]
   rw[aO hc,aO (λh=>hc ⟨aE,aE,h.2.2⟩)]
 rw[iU,this 13 1 aE aE];by_cases hr:eE (op:Int)=k
 ·rw[aR hr,aR ⟨h1,aE,hr⟩]
 rw[aO hr,aO (λh=>hr h.2.2)]
theorem xh{op:Int}(h1:1<=op)(h2:op<=13):0<=eE op/\eE op<=5:=by
 unfold eE;split
 ·omega
 split
 ·omega
 split
 ·omega
 split
 ·omega
 split
 ·omega
 split
 ·omega
 omega
theorem H6{f d k0:Nat}{x:Ex}{j:Nat}(h:cK ts f k0 d i=.ok (x,j))(h6:k0<=6):∀(m k:Nat),k+m=k0->(∀q:Int,(k:Int)<=q->q<(k0:Int)->iU ts q j=0)->cK ts (f+m) k d i=.ok (x,j)
 | 0,k,hk,_=>by
  have:k=k0:=aE
  subst this;exact h
 | m+1,k,hk,h0=>by
  rw[<-fb,cK,aO aE,H6 h h6 m (k+1) aE λq h1 h2=>h0 q aE h2];simp only[yh];exact SE (h0 _ (ix _) aE) _
theorem D5{f d k0:Nat}{e:Int×Int}(h:cK ts f k0 d i=.error e)(h6:k0<=6):∀(m k:Nat),k+m=k0->cK ts (f+m) k d i=.error e
 | 0,k,hk=>by
  have:k=k0:=aE
  subst this;exact h
 | m+1,k,hk=>by
  rw[<-fb,cK,aO aE,D5 h h6 m (k+1) aE];rfl
end
def SH(x:Ex)(j:Nat)(r:Pr):Prop:=(∃x',r=.ok (x',j)/\Sim x x')∨∃a,r=.error (21,a)
theorem SH.down{ts:List Tk}{i f d k0 k:Nat}{x:Ex}{j:Nat}(h:SH x j (cK ts (f-(k0-k)) k0 d i))(hf:k0-k<=f)(h6:k0<=6)(hk:k<=k0)(h0:∀q:Int,(k:Int)<=q->q<(k0:Int)->iU ts q j=0):SH x j (cK ts f k d i):=by
 have e:f=(f-(k0-k))+(k0-k):=aE
 rcases h with⟨x',h1,h2⟩ | ⟨a,h1⟩
 ·exact .inl ⟨x',by rw[e];exact H6 h1 h6 _ k aE h0,h2⟩
 exact .inr ⟨a,by rw[e];exact D5 h1 h6 _ k aE⟩
abbrev PP(ts:List Tk)(d:Nat):Prop:=∀{x:Ex} (wr:Bool) (k dd i f:Nat),cf d x=true->At ts i (mo d x wr)->k<=6->(wr=false->(k:Int)<=bM x)->dd<=20->fj k dd<=f->i+(mo d x wr).length<ts.length->(∀q:Int,(k:Int)<=q->q<=5->iU ts q (i+(mo d x wr).length)=0)->SH x (i+(mo d x wr).length) (cK ts f k dd i)
abbrev QQ(ts:List Tk)(d:Nat):Prop:=∀{x:Ex} (k dd i f:Nat),cf d x=true->x.k=5->(k:Int)=bM x->At ts i (mo d x false)->dd<=20->fj k dd<=f+1->i+(mo d x false).length<ts.length->(∀q:Int,(k:Int)<q->q<=5->iU ts q (i+(mo d x false).length)=0)->
 (∃x' g,ts.length-(i+(mo d x false).length)<=g/\cK ts (f+1) k dd i=gU ts (cK ts f (k+1) dd) k g x' (i+(mo d x false).length)/\Sim x x')∨∃a,cK ts (f+1) k dd i=.error (21,a)
theorem yG(x:Ex):x=.mk x.k x.n x.s x.op x.dq x.a:=by cases x;rfl
section
variable {ts:List Tk} {d:Nat}
theorem H7(hP:PP ts d)(hQ:QQ ts d):QQ ts (d+1):=by
 intro x k dd i f qm oy N2 cG NK hf cd h0;rw[cf,aP]at qm;obtain⟨hh,ha⟩:=qm;obtain⟨_,y,z,hy,NY,Gf⟩:=nf hh aE aE aE aE;have hnx:x.n=0/\x.s=[]:=by
  rw[fH,aO aE,aO aE,aO aE,aR oy,aP]at hh;have:=qU hh.2;exact⟨this.1,this.2.1⟩
 have hlx:bM x=eE x.op:=by rw[bM,aR oy]
 obtain⟨r0,r5⟩:=xh NY Gf;have e2:mo (d+1) x false=(mo d y (decide (bM y<bM x))++(4,dl x.op.toNat,0)::mo d z (decide (bM z<=bM x))):=by
  rw[mo,aO aE,aO aE,aO aE,aO aE,hy];simp[Zg,Zh]
 rw[e2]at cG cd h0⊢;rw[hy]at ha;simp only[iB,cH,aP]at ha;have Wl:=cG.left;have abC:=cG.right;have ahE:=abC.tail;obtain⟨t1,t2,_⟩:=abC.head;rw[aN,aU]at cd h0⊢;generalize EV:i+(mo d y (decide (bM y<bM x))).length=j1 at*
 have hjz:i+((mo d y (decide (bM y<bM x))).length+((mo d z (decide (bM z<=bM x))).length+1))=j1+1+(mo d z (decide (bM z<=bM x))).length:=aE
 rw[hjz]at cd h0⊢;generalize Ri:j1+1+(mo d z (decide (bM z<=bM x))).length=j2 at*
 have nI:∀q:Int,iU ts q j1=if eE x.op=q then x.op else 0:=λq=>by
  have:=Zj (ts:=ts) (i:=j1) (op:=x.op.toNat) aE aE t1 t2 q;rwa[fO aE]at this
 have hex:x=.mk 5 0 [] x.op [y,z] x.a:=by
  have:=yG x;rw[oy,hnx.1,hnx.2,hy]at this;exact this
 have I0:fj (k+1) dd<=f:=by unfold fj at hf⊢;omega
 have abD:(∃y' g,ts.length-j1<=g/\cK ts (f+1) k dd i=gU ts (cK ts f (k+1) dd) k g y' j1/\Sim y y')∨∃a,cK ts (f+1) k dd i=.error (21,a):=by
  by_cases hB:bM y=bM x
  ·have hwr:decide (bM y<bM x)=false:=bq aE;have hy5:y.k=5:=by
    refine bD λhn=>?_;have:bM y=6:=by rw[bM,aO hn]
    omega
   rw[hwr]at Wl EV;have:=hQ (x:=y) k dd i f ha.1 hy5 (by rw[hB];exact N2) Wl NK hf aE (λq h1 h2=>by rw[EV,nI,aO aE]);rw[EV]at this;exact this
  have:=hP (x:=y) (decide (bM y<bM x)) (k+1) dd i f ha.1 Wl aE (λhw=>by have:=aW hw;omega) NK I0 aE (λq h1 h2=>by rw[EV,nI,aO aE]);rw[EV]at this;rw[cK,aO aE];rcases this with⟨y',h1,h2⟩ | ⟨a,h1⟩
  ·exact .inl ⟨y',ts.length-j1,aY _,acJ,h2⟩
  exact .inr ⟨a,acJ⟩
 refine abD.elim (λ⟨y',g,hg,h1,h2⟩=>?_) .inr;obtain⟨g,rfl⟩:∃m,g=m+1:=⟨g-1,aE⟩
 have qE:iU ts (k:Int) j1=x.op:=by rw[nI,aR aE]
 have hz:=hP (x:=z) (decide (bM z<=bM x)) (k+1) dd (j1+1) f ha.2 ahE aE (λhw=>by have:=aW hw;omega) NK I0 aE (λq h1 h2=>by rw[Ri];exact h0 q aE h2);rw[Ri]at hz;rw[h1,gU,qE,aO aE];rcases hz with⟨z',h3,h4⟩ | ⟨a,h3⟩
 ·refine .inl ⟨.mk 5 0 [] x.op [y',z'] y'.a,g,aE,by rw[h3];rfl,?_⟩;rw[hex];exact .two _ _ _ _ _ _ _ _ _ _ h2 h4
 exact .inr ⟨a,by rw[h3];rfl⟩
theorem QP(hP:PP ts d)(hQ:QQ ts d):PP ts (d+1):=by
 have plain:∀{x:Ex} (k dd i f:Nat),cf (d+1) x=true->At ts i (mo (d+1) x false)->k<=6->(k:Int)<=bM x->dd<=20->fj k dd<=f->i+(mo (d+1) x false).length<ts.length->(∀q:Int,(k:Int)<=q->q<=5->iU ts q (i+(mo (d+1) x false).length)=0)->SH x (i+(mo (d+1) x false).length) (cK ts f k dd i):=by
  intro x k dd i f qm cG Vs N2 NK hf cd h0;have ahF:=qm;rw[cf,aP]at qm;obtain⟨hh,ha⟩:=qm;by_cases oy:x.k=5
  ·obtain⟨_,y,z,hy,NY,Gf⟩:=nf hh aE aE aE aE;have hlx:bM x=eE x.op:=by rw[bM,aR oy]
   obtain⟨r0,r5⟩:=xh NY Gf;obtain⟨k0,iJ⟩:∃k0:Nat,(k0:Int)=bM x:=⟨(bM x).toNat,aE⟩
   refine SH.down (k0:=k0) ?_ aaE aE aE λq h1 h2=>h0 q h1 aE;obtain⟨f',hf'⟩:∃m,f-(k0-k)=m+1:=⟨f-(k0-k)-1,aaE⟩
   rw[hf'];rcases H7 hP hQ k0 dd i f' ahF oy iJ cG NK (by unfold fj at hf⊢;omega) cd (λq h1 h2=>h0 q aE h2)with⟨x',g,hg,h1,h2⟩ | h
   ·exact .inl ⟨x',by rw[h1];exact SE (h0 _ aE aE) _,h2⟩
   exact .inr h
  have hlx:bM x=6:=by rw[bM,aO oy]
  refine SH.down (k0:=6) ?_ aaE aE aE λq h1 h2=>h0 q h1 aE;obtain⟨f',hf'⟩:∃m,f-(6-k)=m+1:=⟨f-(6-k)-1,aaE⟩
  have I0:(20-dd)*8<=f':=aaE
  rw[hf',cK,aR rfl];unfold mP;by_cases k1:x.k=1
  ·have e2:mo (d+1) x false=[(3,[],x.n)]:=by rw[mo,aR k1];rfl
   rw[e2]at cG⊢;obtain⟨t1,t2,t3⟩:=cG.head;dsimp only at t1 t2 t3;rw[Mz t2 aL,Mz t2 aL,Mz t2 aL,aO aL,aO aL,aR t1,t3];refine .inl ⟨_,rfl,?_⟩;rw[fH,aR k1]at hh;obtain⟨_,b2,b3,b4⟩:=qU hh;have hs:x.dq=[]:=bA aE;have:=yG x;rw[k1,b2,b3,hs]at this;rw[this];exact .leaf ..
  by_cases k2:x.k=2
  ·have e2:mo (d+1) x false=[(1,x.s,0)]:=by rw[mo,aO k1,aR k2];rfl
   rw[e2]at cG⊢;obtain⟨t1,t2,t3⟩:=cG.head;dsimp only at t1 t2 t3;have CG:∀s,sg ts i s=false:=λs=>by unfold sg;rw[t1];rfl
   rw[CG,CG,CG,aO aL,aO aL,aO (by rw[t1];decide),aR t1,t2];refine .inl ⟨_,rfl,?_⟩;rw[fH,aO k1,aR (.inl k2),aP]at hh;obtain⟨b1,b2,b3,b4⟩:=qU hh.2;have hs:x.dq=[]:=bA aE;have:=yG x;rw[k2,b1,b3,hs]at this;rw[this];exact .leaf ..
  by_cases KJ:x.k=3
  ·have e2:mo (d+1) x false=[(2,[105,110],0),(4,[40],0),(1,x.s,0),(4,[41],0)]:=by rw[mo,aO k1,aO k2,aR KJ];rfl
   rw[e2]at cG⊢;obtain⟨t1,t2,t3⟩:=cG.head;obtain⟨u1,u2,u3⟩:=cG.tail.head;obtain⟨v1,v2,v3⟩:=cG.tail.tail.head;obtain⟨p1,p2,p3⟩:=cG.tail.tail.tail.head;dsimp only at t1 t2 t3 u1 u2 u3 v1 v2 v3 p1 p2 p3;have CG:∀s,sg ts i s=false:=λs=>by unfold sg;rw[t1];rfl
   rw[CG,CG,CG,aO aL,aO aL,aO (by rw[t1];decide),aO (by rw[t1];decide),aR ⟨t1,t2⟩];unfold yi;rw[aR (FQ ⟨u1,u2⟩),aR v1,aR (FQ ⟨p1,p2⟩)];refine .inl ⟨_,rfl,?_⟩;rw[fH,aO k1,aR (.inr KJ),aP]at hh;obtain⟨b1,b2,b3,b4⟩:=qU hh.2;have hs:x.dq=[]:=bA aE;have:=yG x;rw[KJ,b1,b3,hs]at this;have v2:(tk ts (i+2)).t=x.s:=v2;rw[v2,this];exact .leaf ..
  have k4:x.k=4:=bD λk4=>oy (nf hh k1 k2 KJ k4).1;obtain⟨y,hy,ho⟩:=qV hh k4;have e2:mo (d+1) x false=(4,dl x.op.toNat,0)::mo d y (decide (bM y<6)):=by
   rw[mo,aO k1,aO k2,aO KJ,aR k4,hy];simp[Zg,Zh]
  rw[e2]at cG cd⊢;rw[hy]at ha;simp only[iB,cH]at ha;obtain⟨t1,t2,t3⟩:=cG.head;dsimp only at t1 t2 t3;have hor:(sg ts i [45]||sg ts i [33])=true:=by
   rcases ho with ho | ho
   ·have:sg ts i [45]=true:=FQ ⟨t1,by rw[t2,ho];rfl⟩;rw[this,GJ]
   have:sg ts i [33]=true:=FQ ⟨t1,by rw[t2,ho];rfl⟩;rw[this,lN]
  rw[aR hor];by_cases xq:dd=20
  ·exact .inr ⟨(tk ts i).a,by rw[im,aR xq];rfl⟩
  rw[im,aO xq];rw[aU]at cd⊢;have hj:i+((mo d y (decide (bM y<6))).length+1)=i+1+(mo d y (decide (bM y<6))).length:=aE
  rw[hj]at cd⊢;have hy6:bM y<=6:=by
   unfold bM eE;split
   ·split
    ·omega
    split
    ·omega
    split
    ·omega
    split
    ·omega
    split
    ·omega
    split
    ·omega
    omega
   omega
  rcases hP (x:=y) (decide (bM y<6)) 6 (dd+1) (i+1) f' ha cG.tail (aY _) (λhw=>by have:=aW hw;omega) aE (by unfold fj;omega) cd (λq h1 h2=>aE)with⟨y',h1,h2⟩ | ⟨a,h1⟩
  ·refine .inl ⟨_,acJ,?_⟩;rw[fH,aO k1,aO aE,aR k4]at hh;obtain⟨b1,b2,b3,b4⟩:=qU hh;have nI:(if(tk ts i).t=[33]then(15:Int)else 14)=x.op:=by
    rcases ho with ho | ho
    ·rw[t2,ho];rfl
    rw[t2,ho];rfl
   have:=yG x;rw[k4,b1,b2,hy]at this;rw[nI,this];exact .one _ _ _ _ _ _ _ _ h2
  exact .inr ⟨a,acJ⟩
 intro x wr k dd i f qm cG Vs N2 NK hf cd h0;cases wr with
 | false=>exact plain k dd i f qm cG Vs (N2 rfl) NK hf cd h0
 | true=>
  have e2:mo (d+1) x true=(4,[40],0)::(mo (d+1) x false++[(4,[41],0)]):=by
   unfold mo;simp[Zg,Zh]
  refine SH.down (k0:=6) ?_ aaE aE aE λq h1 h2=>h0 q h1 aE;rw[e2]at cG cd⊢;obtain⟨f',hf'⟩:∃m,f-(6-k)=m+1:=⟨f-(6-k)-1,aaE⟩
  have I0:(20-dd)*8<=f':=aaE
  obtain⟨t1,t2,t3⟩:=cG.head;have KI:=cG.tail.left;obtain⟨p1,p2,p3⟩:=cG.tail.right.head;dsimp only at t1 t2 t3 p1 p2 p3;rw[hf',cK,aR rfl];unfold mP;rw[Mz t2 aL,Mz t2 aL,FQ ⟨t1,t2⟩,aO aL,aR rfl];by_cases xq:dd=20
  ·exact .inr ⟨(tk ts i).a,by rw[im,aR xq]⟩
  rw[im,aO xq];rw[aU,aN,bp]at cd⊢;have hj:i+((mo (d+1) x false).length+1+1)=i+1+(mo (d+1) x false).length+1:=aE
  rw[hj]at cd⊢;have ahG:0<=bM x:=by
   unfold bM eE;split
   ·split
    ·omega
    split
    ·omega
    split
    ·omega
    split
    ·omega
    split
    ·omega
    split
    ·omega
    omega
   omega
  rcases plain 0 (dd+1) (i+1) f' qm KI aE aE aE (by unfold fj;omega) aE (λq h1 h2=>Zf p2 aL q)with⟨x',h1,h2⟩ | ⟨a,h1⟩
  ·refine .inl ⟨x',?_,h2⟩;rw[h1];simp only[pN];rw[aR (FQ ⟨p1,p2⟩)]
  exact .inr ⟨a,acJ⟩
theorem D6(ts:List Tk):∀d,PP ts d/\QQ ts d
 | 0=>⟨(by intro x wr k dd i f h;cases h),(by intro x k dd i f h;cases h)⟩
 | d+1=>⟨QP (D6 ts d).1 (D6 ts d).2,H7 (D6 ts d).1 (D6 ts d).2⟩
end
theorem D7{d:Nat}{x:Ex}(hs:cf d x=true)(hn:jz d x)(hr:(fi (mF d x false [])).2.1=0):(mF d x false []).length<=16384/\Sim x (fi (mF d x false [])).1:=by
 have eu:(mF d x false []).length<=16384:=by
  refine bD λhc=>?_;unfold fi at hr;have:ch (mF d x false [])=([],2, -1):=by rw[ch,aR aE]
  rw[this,aR aL]at hr;exact absurd hr (show ¬(2:Int)=0 by decide)
 refine⟨eu,?_⟩;have Te:=Ah d false [] hs eu;rw[cp]at Te;rw[Te]at hr eu⊢;generalize hL:jY d x false=L at*
 have OG:jl L (0+L.length)=.ok [⟨5,[],0,((L.length:Nat):Int)⟩]:=by
  have hd:L.drop L.length=[]:=dj (aY _);have h5:jd false []=0:=rfl;rw[bI,jg (aY _),hd,h5,aR aE];rfl
 obtain⟨us,h1,h2⟩:=sw (l:=L) d (x:=x) false 0 (r:=[]) hs hn (bm _) (by rw[eY,bL,hL]) (λc hc=>by cases hc) (by rw[hL];exact OG);generalize Px:us++[(⟨5,[],0,((L.length:Nat):Int)⟩:Tk)]=ts at*
 have t1:ch L=(ts,0,0):=by
  rw[ch,aO aE,h1]
 have Xo:us.length=(mo d x false).length:=by rw[<-h2,bX]
 have Kz:ts.length=us.length+1:=by rw[<-Px,aN,bp]
 have cG:At ts 0 (mo d x false):=λj q hj=>by
  rw[<-h2,cR,fM]at hj;obtain⟨t,g1,rfl⟩:=hj;have:tk ts (0+j)=t:=by
   unfold tk;rw[<-Px,bI,bT (bd.1 g1).1,g1];rfl
  rw[this]
 have hke:(tk ts us.length).k=5:=by
  unfold tk;rw[<-Px,dE (aY _),GI];rfl
 have ahG:0<=bM x:=by
  unfold bM eE;split
  ·split
   ·omega
   split
   ·omega
   split
   ·omega
   split
   ·omega
   split
   ·omega
   split
   ·omega
   omega
  omega
 have hP:=(D6 ts d).1 (x:=x) false 0 0 0 (fj 0 0) hs cG aL (λ_=>aE) aL (aY _) aE (λq _ _=>Uz (by rw[bI,<-Xo];exact hke) q);have Va:oe ts 0=cK ts (fj 0 0) 0 0 0:=rfl;rw[<-Va]at hP;have hrd:fi L=if(bQ ts 0).2.2.1≠0 then(tT,(bQ ts 0).2.2.1,(bQ ts 0).2.2.2)else if(tk ts (bQ ts 0).2.1.toNat).k≠5 then(tT,4,(tk ts (bQ ts 0).2.1.toNat).a)else((bQ ts 0).1,0,(bQ ts 0).2.2.2):=by
  unfold fi;rw[t1];rfl
 rw[hrd]at hr⊢;have Ru:bQ ts 0=if 0<ts.length/\jy ts+1=ts.length then(match oe ts 0 with
  | .error (c,p)=>(tT,0,c,p)
  | .ok (x,j)=>(x,(j:Int),0,0))else(tT,0,1, -1):=by
  unfold bQ;by_cases hc:0<ts.length/\jy ts+1=ts.length
  ·rw[aR hc,aR ⟨ix _,aE,hc.2⟩];rfl
  rw[aO hc,aO (λhh=>hc ⟨aE,hh.2.2⟩)]
 rw[Ru]at hr⊢;have hc:0<ts.length/\jy ts+1=ts.length:=bD λhc=>by
  rw[aO hc,aR aL]at hr;exact absurd hr (show ¬(1:Int)=0 by decide)
 rw[aR hc]at hr⊢;rcases hP with⟨x',g1,g2⟩ | ⟨a,g1⟩
 ·rw[g1]at hr⊢;dsimp only at hr⊢;rw[aO aL,ba,bI,<-Xo,hke,aO aL];exact g2
 rw[g1]at hr;dsimp only at hr;rw[aR aL]at hr;exact absurd hr (show ¬(21:Int)=0 by decide)
structure Em (ts lM:List Tk) (n o:Nat):Prop where
 e:∀i,n<=i->(tk ts i).k=5
 s:∀i,i<n->(tk lM (o+i)).k=(tk ts i).k/\(tk lM (o+i)).t=(tk ts i).t/\(tk lM (o+i)).n=(tk ts i).n
 c:(tk lM (o+n)).k=4/\((tk lM (o+n)).t=[59]∨(tk lM (o+n)).t=[93])
def Rm(n o:Nat)(r r':Pr):Prop:=∀x j,r=.ok (x,j)->∃x',r'=.ok (x',o+j)/\Sim x x'/\j<=n
theorem D8(op:Nat):dl op≠[59]/\dl op≠[93]:=by
 rcases lP op 16 with h | h
 ·have:∀q,q<16->dl q≠[59]/\dl q≠[93]:=aL
  exact this op h
 unfold dl;rw[cQ (by exact h)];decide
section
variable {ts lM:List Tk} {n o:Nat}
theorem Em.lt(h:Em ts lM n o){i:Nat}(hk:(tk ts i).k≠5):i<n:=bD λhn=>hk (h.e i aE)
theorem Em.IB(h:Em ts lM n o){i:Nat}(hi:i<n)(s:aH):sg lM (o+i) s=sg ts i s:=by
 unfold sg;obtain⟨h1,h2,_⟩:=h.s i hi;rw[h1,h2]
theorem Em.sgn(h:Em ts lM n o){i:Nat}(hi:i<=n){s:aH}(h1:s≠[59])(h2:s≠[93]):sg lM (o+i) s=sg ts i s:=by
 rcases lP i n with hl | hl
 ·exact h.IB hl s
 have:i=n:=aE
 subst this;unfold sg;rw[h.e i (aY _)];have:decide ((tk lM (o+i)).t=s)=false:=bq λe=>by
  rcases h.c.2 with c | c
  ·exact h1 (by rw[<-e,c])
  exact h2 (by rw[<-e,c])
 rw[this,fN];rfl
theorem Em.opf(h:Em ts lM n o){i:Nat}(hi:i<=n)(k:Int):∀(f op:Nat),iA lM k (o+i) f op=iA ts k i f op
 | 0,_=>rfl
 | f+1,op=>by rw[iA,iA,h.sgn hi (D8 op).1 (D8 op).2,h.opf hi k f]
theorem Em.op(h:Em ts lM n o){i:Nat}(hi:i<=n)(k:Int):iU lM k (o+i)=iU ts k i:=h.opf hi k 13 1
theorem Rm.map{r r':Pr}(h:Rm n o r r'){g g':Ex->Ex}(hg:∀x x',Sim x x'->Sim (g x) (g' x')):Rm n o (Dx g r) (Dx g' r'):=by
 intro x j hx;obtain⟨y,h1,rfl⟩:=wX hx;obtain⟨x',h2,h3,h4⟩:=h y j h1;exact⟨g' x',by rw[h2];rfl,hg _ _ h3,h4⟩
theorem Rm.and{r r':Pr}{f f':Ex->Nat->Pr}(h:Rm n o r r')(hf:∀x x' j,r=.ok (x,j)->j<=n->Sim x x'->Rm n o (f x j) (f' x' (o+j))):Rm n o (yh r f) (yh r' f'):=by
 intro x j hx;obtain⟨y,m,h1,h5⟩:=uq hx;obtain⟨x',h2,h3,h4⟩:=h y m h1;rw[h2];exact hf y x' m h1 h4 h3 x j h5
theorem Rm.nest{r r':Pr}{d:Nat}{a a':Int}(h:Rm n o r r'):Rm n o (im d a r) (im d a' r'):=by
 intro x j hx;obtain⟨h1,h2⟩:=oW hx;have:d≠20:=λe=>by rw[im,aR e]at hx;cases hx
 rw[im,aO this];exact h x j h1
theorem Rm.par(hw:Em ts lM n o){r r':Pr}(h:Rm n o r r'):Rm n o (pN ts r) (pN lM r'):=by
 intro x j hx;obtain⟨j',h1,h2,rfl⟩:=wY hx;obtain⟨x',h3,h4,h5⟩:=h x j' h1;have hl:=hw.lt (sK h2);exact⟨x',by rw[h3];simp only[pN];rw[aR (by rw[hw.IB hl];exact h2)];rfl,h4,hl⟩
theorem Rm.err{e:Int×Int}{r':Pr}:Rm n o (.error e) r':=λx j hx=>ab2
theorem Rm.in_(hw:Em ts lM n o)(i:Nat):Rm n o (yi ts i) (yi lM (o+i)):=by
 intro x j hx;have KH:=hx;obtain⟨rfl,rfl⟩:=FD KH;unfold yi at hx;split at hx
 ·rename_i h1;split at hx
  ·rename_i h2;split at hx
   ·rename_i h3;have hl:=hw.lt (sK h3);have e1:(tk lM (o+i+2)).k=(tk ts (i+2)).k/\(tk lM (o+i+2)).t=(tk ts (i+2)).t/\(tk lM (o+i+2)).n=(tk ts (i+2)).n:=hw.s (i+2) aE;refine⟨.mk 3 0 (tk lM (o+i+2)).t 0 [] (tk lM (o+i)).a,?_,?_,hl⟩
    ·unfold yi;rw[aR (show sg lM (o+i+1) [40]=true from(hw.IB (i:=i+1) aE _).trans h1),aR (by rw[e1.1];exact h2),aR (show sg lM (o+i+3) [41]=true from(hw.IB (i:=i+3) hl _).trans h3)];rfl
    rw[e1.2.1];exact .leaf ..
   cases hx
  cases hx
 cases hx
theorem Rm.one(hw:Em ts lM n o){E0 One E0' OE:Nat->Pr}{d i:Nat}(hE:∀i,i<=n->Rm n o (E0 i) (E0' (o+i)))(hO:∀i,i<=n->Rm n o (One i) (OE (o+i)))(hi:i<=n):Rm n o (mP ts E0 One d i) (mP lM E0' OE d (o+i)):=by
 by_cases KI:i=n
 ·subst KI;have h5:=hw.e i (aY _);have hs:∀s,sg ts i s=false:=λs=>by
   unfold sg;rw[h5];rfl
  have:mP ts E0 One d i=.error (eP ts i):=by
   unfold mP;rw[hs,hs,hs,aO aL,aO aL,aO acH,aO acH,aO (by rw[h5];rintro⟨h,_⟩;exact absurd h aL)]
  rw[this];exact Rm.err
 have hl:i<n:=aE
 obtain⟨k1,k2,k3⟩:=hw.s i hl;unfold mP;rw[hw.IB hl,hw.IB hl,hw.IB hl,k1,k2,k3];split
 ·exact Rm.map (Rm.nest (hO (i+1) hl)) λx x' hx=>.one _ _ _ _ _ _ _ _ hx
 split
 ·exact Rm.nest (Rm.par hw (hE (i+1) hl))
 split
 ·intro x j hx;simp only[eG,eK]at hx;obtain⟨rfl,rfl⟩:=hx;exact⟨_,rfl,.leaf ..,hl⟩
 split
 ·intro x j hx;simp only[eG,eK]at hx;obtain⟨rfl,rfl⟩:=hx;exact⟨_,rfl,.leaf ..,hl⟩
 split
 ·exact Rm.in_ hw i
 exact Rm.err
theorem Rm.loop(hw:Em ts lM n o){E E':Nat->Pr}{k:Int}(hm:∀i x j,E i=.ok (x,j)->i<j)(hE:∀i,i<=n->Rm n o (E i) (E' (o+i))):∀(g g':Nat) (x x':Ex) (j:Nat),j<=n->n-j<g->n-j<g'->Sim x x'->Rm n o (gU ts E k g x j) (gU lM E' k g' x' (o+j))
 | 0,_,_,_,j,_,h,_,_=>aE
 | _,0,_,_,j,_,_,h,_=>aE
 | g+1,g'+1,x,x',j,hj,h1,h2,hs=>by
  rw[gU,gU,hw.op hj];split
  ·intro y m hy;simp only[eG,eK]at hy;obtain⟨rfl,rfl⟩:=hy;exact⟨_,rfl,hs,hj⟩
  rename_i h0;have hl:=hw.lt (mT _ _ h0);refine Rm.and (hE (j+1) hl) λy y' m hy hmn AA=>?_;have:=hm _ _ _ hy;exact Rm.loop hw hm hE g g' _ _ m hmn aE aE (.two _ _ _ _ _ _ _ _ _ _ hs AA)
theorem Rm.expr(hw:Em ts lM n o)(hl:ts.length=n+1)(hl':o+n<lM.length):∀(f k d i:Nat),i<=n->Rm n o (cK ts f k d i) (cK lM f k d (o+i))
 | 0,k,d,i,_=>Rm.err
 | f+1,k,d,i,hi=>by
  rw[cK,cK];split
  ·exact Rm.one hw (λi hi=>Rm.expr hw hl hl' f 0 (d+1) i hi) (λi hi=>Rm.expr hw hl hl' f 6 (d+1) i hi) hi
  have hR:∀i,i<=n->Rm n o (cK ts f (k+1) d i) (cK lM f (k+1) d (o+i)):=λi hi=>Rm.expr hw hl hl' f (k+1) d i hi;refine Rm.and (hR i hi) λx x' j hx hj hs=>?_;exact Rm.loop hw (λi x j h=>jx _ _ _ _ h) hR _ _ _ _ _ hj aE aE hs
end
theorem Sim.trans{x y:Ex}(h:Sim x y):∀{z:Ex},Sim y z->Sim x z:=by
 induction h with
 | leaf k n s op a b=>intro z hz;cases hz;exact .leaf ..
 | one k n s op a b x y h ih=>intro z hz;cases hz with | one _ _ _ _ _ c _ z h2=>exact .one _ _ _ _ _ _ _ _ (ih h2)
 | two k n s op a b x y x' y' h1 h2 i1 i2=>intro z hz;cases hz with | two _ _ _ _ _ c _ _ z1 z2 k1 k2=>exact .two _ _ _ _ _ _ _ _ _ _ (i1 k1) (i2 k2)
def Pk(E:aH->Prop)(p:aH)(ks:List K3):Prop:=∀(l:aH) (i:Nat) (r:aH) (ts:List Tk),i<=l.length->l.drop i=p++r->E r->jl l (i+p.length)=.ok ts->∃us,jl l i=.ok (us++ts)/\us.map k3=ks
abbrev Tr:aH->Prop:=λ_=>True
def Kv(q:aH):Prop:=∃c t,q=c::t/\MG c=true
section
variable {E E':aH->Prop} {p q:aH} {a b:List K3}
theorem Pk.nil(E:aH->Prop):Pk E [] []:=λ_ _ _ ts _ _ _ h=>⟨[],h,rfl⟩
theorem Pk.glue(h:Pk E p a)(k:Pk E' q b)(he:∀r,E' r->E (q++r)):Pk E' (p++q) (a++b):=by
 intro l i r ts hi hd hr ht;rw[bf]at hd;obtain⟨us,h1,h2⟩:=k _ _ _ _ (wh hi hd) (je hd) hr (by rw[fb,<-aN];exact ht);obtain⟨vs,h3,h4⟩:=h _ _ _ _ hi hd (he r hr) h1;exact⟨vs++us,by rw[bf];exact h3,by rw[dx,h2,h4]⟩
theorem Pk.t(h:Pk Tr p a)(k:Pk E q b):Pk E (p++q) (a++b):=h.glue k λ_ _=>trivial
theorem Kv.mU(h:Kv q)(r:aH):qu (q++r):=by
 obtain⟨c,t,rfl,hc⟩:=h;intro d hd;rw[cy,fR,bg]at hd;subst hd;exact hc
theorem Pk.e(h:Pk qu p a)(k:Pk E q b)(hq:Kv q):Pk E (p++q) (a++b):=h.glue k λr _=>hq.mU r
theorem MJ{c:UInt8}(hc:mA c=true):Pk Tr [c] []:=by
 intro l i r ts hi hd _ ht;refine⟨[],?_,rfl⟩;have Xi:l.drop i=c::r:=hd;have i1:i+1<=l.length:=wh hi hd;have d1:l.drop (i+1)=r:=je hd;have e:jd false (c::r)=1+jd false r:=by rw[jd,aR hc]
 rw[lA hi,Xi,e,<-fb];rw[bp,lA i1,d1]at ht;exact ht
theorem Pk.sp(h:Pk E q b):Pk E (32::q) b:=(MJ (c:=32) aL).t h
theorem Pk.nl(h:Pk Tr p a):Pk Tr (p++[10]) a:=by
 have:=h.t (MJ (c:=10) aL);rwa[bL]at this
theorem vG{k:Int}{t:aH}{n:Int}(hp:p≠[])(h:∀r,E r->jd false (p++r)=0/\ki (p++r)=.ok (k,t,n,p.length)):Pk E p [(k,t,n)]:=λl i r ts hi hd hr ht=>
 ⟨[⟨k,t,n,(i:Nat)⟩],rq hd hp (h r hr).1 (h r hr).2 ht,rfl⟩
theorem afg{c:UInt8}(h0:dZ c=false)(h1:cE c=false)(h2:[60,62,61,33].contains c=false)(h3:[38,124].contains c=false)(h4:(c==45)=false)(h5:mB.contains c=true)(r:aH):ki (c::r)=.ok (4,[c],0,1):=by
 have hs:oU (c::r)=false:=by
  cases r with
  | nil=>rfl
  | cons d r=>
   show((d==61&&[60,62,61,33].contains c)||(d==c&&[38,124].contains c)||(c==45&&d==62))=false;rw[h2,h3,h4];simp
 exact kI h0 h1 h5 hs
def gC(c:UInt8):K3:=(4,[c],0)
def UC:K3:=(4,[45,62],0)
theorem Pk.one(c:UInt8)(h0:dZ c=false)(h1:cE c=false)(h2:[60,62,61,33].contains c=false)(h3:[38,124].contains c=false)(h4:(c==45)=false)(h5:mB.contains c=true)(h6:mA c=false)(h7:(c==47)=false)(h:Pk E q b):Pk E (c::q) (gC c::b):=
 (vG (p:=[c]) (E:=Tr) aM λr _=>⟨ET h6 h7,afg h0 h1 h2 h3 h4 h5 r⟩).t h
theorem Pk.lb(h:Pk E q b):Pk E (123::q) (gC 123::b):=h.one 123 aL aL aL aL aL aL aL aL
theorem Pk.rb(h:Pk E q b):Pk E (125::q) (gC 125::b):=h.one 125 aL aL aL aL aL aL aL aL
theorem Pk.lk(h:Pk E q b):Pk E (91::q) (gC 91::b):=h.one 91 aL aL aL aL aL aL aL aL
theorem Pk.rk(h:Pk E q b):Pk E (93::q) (gC 93::b):=h.one 93 aL aL aL aL aL aL aL aL
theorem Pk.sc(h:Pk E q b):Pk E (59::q) (gC 59::b):=h.one 59 aL aL aL aL aL aL aL aL
theorem Pk.cm(h:Pk E q b):Pk E (44::q) (gC 44::b):=h.one 44 aL aL aL aL aL aL aL aL
theorem Pk.eq(h:Pk E q b)(hq:Kv q):Pk E (61::q) (gC 61::b):=
 (vG (p:=[61]) (E:=qu) aM λr hr=>⟨ET aL aL,kI aL aL aL (jC aL hr.soft)⟩).e h hq
theorem Pk.to(h:Pk E q b):Pk E (45::62::q) (UC::b):=
 (vG (p:=[45,62]) (E:=Tr) aM λr _=>⟨ET aL aL,rfl⟩).t h
theorem tL:Kv (59::q):=⟨59,q,rfl,rfl⟩
theorem gI:Kv (32::q):=⟨32,q,rfl,rfl⟩
theorem UD:Kv (93::q):=⟨93,q,rfl,rfl⟩
theorem UE:Kv (44::q):=⟨44,q,rfl,rfl⟩
theorem H8{s:aH}(h1:s≠[])(h2:s.length<=24)(h3:∃c t,s=c::t/\dZ c=true)(h4:∀c,c∈s->dM c=true):Pk qu s [(if ic.contains s then 2 else 1,s,0)]:=by
 obtain⟨c,t,rfl,hc⟩:=h3;refine vG h1 λr hr=>⟨?_,?_⟩
 ·have:=jZ (c:=c) (by unfold kj;rw[hc];simp);exact ET this.1 this.2.1
 have e:ki (c::t++r)=if dZ c then kC (c::t++r)else if cE c then pM (c::t++r)else mg (c::t++r):=rfl
 rw[e,hc,aR rfl];unfold kC;rw[hr.word _ h4,aO aE]
theorem kJ{s:aH}(hn:cN s=true):Pk qu s [(1,s,0)]:=by
 unfold cN at hn;simp only[aP]at hn;obtain⟨⟨⟨h1,h2⟩,h3⟩,h4⟩:=hn;obtain⟨h1,h5⟩:=aV h1;have h3:=aV h3;have h4:ic.contains s=false:=ab4
 have:=H8 h1 h5 (by
  cases s with
  | nil=>exact absurd rfl h1
  | cons c t=>exact⟨c,t,rfl,h2⟩) (λc hc=>by rw[<-h3]at hc;exact vu c hc)
 rw[h4]at this;exact this
theorem ny{s:aH}(h:(decide (s≠[]/\s.length<=24)&&(match s with | c::_=>dZ c | []=>false)&&s.all dM&&ic.contains s)=true):Pk qu s [(2,s,0)]:=by
 simp only[aP]at h;obtain⟨⟨⟨h1,h2⟩,h3⟩,h4⟩:=h;obtain⟨h1,h5⟩:=aV h1;have:=H8 h1 h5 (by
  cases s with
  | nil=>exact absurd rfl h1
  | cons c t=>exact⟨c,t,rfl,h2⟩) (λc hc=>(dv.1 h3) c hc)
 rw[h4]at this;exact this
theorem FW{n:Int}(h0:0<=n)(h1:n<=9223372036854775807):Pk qu (Lib.itoa n) [(3,[],n)]:=by
 have ia:Lib.itoa n≠[]:=by rw[ml h0];exact vF _
 refine vG ia λr hr=>⟨?_,H5 h0 h1 hr⟩
 rw[ml h0];cases hm:Lib.decDigits n.toNat with
 | nil=>exact absurd hm (vF _)
 | cons c m=>
  have hd:=uJ n.toNat c (by rw[hm];simp);have:=jZ (c:=c) (by unfold kj;rw[hd];simp);exact ET this.1 this.2.1
def wI(v:Int):List K3:=if v<0 then[gC 45,(3,[], -v)]else[(3,[],v)]
theorem UF{v:Int}(hv:wA v)(hm:v≠ -9223372036854775808):Pk qu (Lib.itoa v) (wI v):=by
 obtain⟨h1,h2⟩:=hv;unfold wI;by_cases h:v<0
 ·rw[aR h];have e:Lib.itoa v=45::Lib.itoa (-v):=by
   unfold Lib.itoa;rw[aR h,aO aE,show v.natAbs=(-v).toNat by omega]
  rw[e];have hp:=FW (n:= -v) aE aE;refine(vG (p:=[45]) (E:=λr=>soft r) (k:=4) (t:=[45]) (n:=0) aM λr hr=>⟨ET aL aL,kI aL aL aL (jC aL hr)⟩).glue hp λr hr=>?_;show soft (Lib.itoa (-v)++r);rw[ml (n:= -v) aE];cases hm:Lib.decDigits (-v).toNat with
  | nil=>exact absurd hm (vF _)
  | cons c m=>
   have hd:=uJ (-v).toNat c (by rw[hm];simp);exact nu ⟨c,m++r,rfl,by unfold kj;rw[hd];simp⟩
 rw[aO h];exact FW aE aE
end
def Ai(x:Ex):List K3:=mo (yy x) x false
theorem SI{x:Ex}(h:oo x=true)(hn:Js x):cf (yy x) x=true/\qD x=jY (yy x) x false/\(fi (qD x)).2.1=0/\(qD x).length<=16384/\Sim x (fi (qD x)).1:=by
 have h:=aV h;obtain⟨h1,h2,h3⟩:=DP h;obtain⟨h4,h5⟩:=D7 h1 (hn _) h3;have h6:=Ah _ false [] h1 h4;unfold qD;rw[h2];exact⟨h1,h6,h3,h4,h5⟩
theorem SJ{x:Ex}(h:oo x=true)(hn:Js x):Pk qu (qD x) (Ai x):=by
 obtain⟨h1,h2,_⟩:=SI h hn;rw[h2];exact λl i r ts hi hd hr ht=>sw (yy x) false i h1 (hn _) hi hd hr ht
def EU(a:Ac):List K3:=
 if a.k=2 then(2,iC,0)::(1,a.n,0)::[gC 59]else(2,if a.k=1 then nK else jL,0)::(1,a.n,0)::gC 61::(Ai a.x++[gC 59])
def wJ:List Ac->List K3
 | []=>[]
 | a::l=>EU a++wJ l
def u7(l:List Ac):List K3:=gC 123::(wJ l++[gC 125])
theorem Zk{a:Ac}(h:fx a=true)(hn:Ab a):Pk Tr (u6 a) (EU a):=by
 unfold fx at h;simp only[aP]at h;obtain⟨⟨h1,h2⟩,h3⟩:=h;unfold u6 EU;by_cases hk:a.k=2
 ·rw[aR hk,aR hk];exact(ny (s:=iC) aL).e (Pk.sp ((kJ h2).e (Pk.sc (Pk.nil _)) tL)) gI
 rw[aO hk]at h3⊢;rw[aO hk];have tail:=Pk.sp ((kJ h2).e (Pk.sp (Pk.eq (Pk.sp ((SJ h3 hn).e (Pk.sc (Pk.nil Tr)) tL)) gI)) gI);by_cases h1k:a.k=1
 ·simp only[aR h1k];exact(ny (s:=nK) aL).e tail gI
 simp only[aO h1k];exact(ny (s:=jL) aL).e tail gI
theorem ML:∀{l:List Ac},l.all fx=true->(∀a,a∈l->Ab a)->Pk Tr (tH l) (wJ l)
 | [],_,_=>Pk.nil _
 | a::l,h,hn=>by
  rw[fp,aP]at h;exact Pk.sp ((Zk h.1 (hn a aM)).t (ML h.2 λb hb=>hn b (by simp[hb])))
theorem MM{l:List Ac}(h:l.all fx=true)(hn:∀a,a∈l->Ab a):Pk Tr (sI l) (u7 l):=
 Pk.lb ((ML h hn).t (Pk.sp (Pk.rb (Pk.nil _))))
def FX:List (aH)->List K3
 | []=>[]
 | s::l=>gC 44::(1,s,0)::FX l
def Zl(m:Mv):List K3:=if m.k=1 then[(2,wG,0),(1,m.ev,0)]else if m.k=3 then[(2,fY,0),(3,[],m.wt)]else[(2,fI,0)]
def SK(m:Mv):List K3:=if m.gd then gC 91::(Ai m.g++[gC 93])else[]
def FY(m:Mv):List K3:=match m.tg with
 | []=>[]
 | s::l=>UC::(1,s,0)::FX l
def H9(m:Mv):List K3:=Zl m++(SK m++((if m.acts=[]then[]else u7 m.acts)++(FY m++[gC 59])))
theorem SL:∀{l:List (aH)},l.all cN=true->Pk Tr (zr l++[59]) (FX l++[gC 59])/\Kv (zr l++[59])
 | [],_=>⟨Pk.sc (Pk.nil _),tL⟩
 | s::l,h=>by
  rw[fp,aP]at h;obtain⟨h1,h2⟩:=SL h.2;refine⟨?_,UE⟩;have:=Pk.cm (Pk.sp ((kJ h.1).e h1 h2));simpa[zr,FX]using this
theorem Zm{m:Mv}(h:jo m=true)(hn:IV m):Pk Tr (sO m) (H9 m):=by
 unfold jo at h;simp only[aP]at h;obtain⟨⟨⟨⟨⟨h1,h2⟩,h3⟩,h4⟩,h5⟩,h6⟩:=h;have h1:=aV h1;have h6:=aV h6;unfold sO H9;have t1:Pk Tr ((match m.tg with
  | []=>[]
  | s::l=>32::45::62::32::(s++zr l))++[59]) (FY m++[gC 59])/\Kv ((match m.tg with
  | []=>[]
  | s::l=>32::45::62::32::(s++zr l))++[59]):=by
  unfold FY;cases hm:m.tg with
  | nil=>exact⟨Pk.sc (Pk.nil _),tL⟩
  | cons s l=>
   rw[hm,fp,aP]at h5;obtain⟨g1,g2⟩:=SL h5.2;refine⟨?_,gI⟩;have:=Pk.sp (Pk.to (Pk.sp ((kJ h5.1).e g1 g2)));simpa using this
 generalize ((match m.tg with
  | []=>[]
  | s::l=>32::45::62::32::(s++zr l))++[59]:aH)=R1 at*
 generalize FY m++[gC 59]=K1 at*
 have t2:Pk Tr ((if m.acts=[]then[]else 32::sI m.acts)++R1) ((if m.acts=[]then[]else u7 m.acts)++K1)/\Kv ((if m.acts=[]then[]else 32::sI m.acts)++R1):=by
  by_cases ha:m.acts=[]
  ·rw[aR ha,aR ha];exact t1
  rw[aO ha,aO ha];exact⟨Pk.sp ((MM h4 hn.a).t t1.1),gI⟩
 generalize ((if m.acts=[]then[]else 32::sI m.acts)++R1:aH)=R2 at*
 generalize (if m.acts=[]then[]else u7 m.acts)++K1=K2 at*
 have t3:Pk Tr (Hz m++R2) (SK m++K2)/\Kv (Hz m++R2):=by
  unfold Hz SK;cases hg:m.gd with
  | false=>exact t2
  | true=>
   rw[hg]at h3;refine⟨?_,gI⟩;have:=Pk.sp (Pk.lk ((SJ h3 hn.g).e (Pk.rk t2.1) UD));simpa using this
 generalize (Hz m++R2:aH)=R3 at*
 generalize SK m++K2=K3' at*
 unfold Jt Zl;by_cases k1:m.k=1
 ·rw[aR k1]at h2⊢;rw[aR k1,bf];exact(ny (s:=wG) aL).e (Pk.sp ((kJ h2).e t3.1 t3.2)) gI
 rw[aO k1,aO k1];by_cases k3:m.k=3
 ·rw[aR k3,aR k3,bf];exact(ny (s:=fY) aL).e (Pk.sp ((FW aE hn.w.2).e t3.1 t3.2)) gI
 rw[aO k3,aO k3];exact(ny (s:=fI) aL).e t3.1 t3.2
theorem MN{p:aH}{a:List K3}(h:Pk Tr p a):∀d,Pk Tr (qs d++p) a
 | 0=>h
 | d+1=>Pk.sp (Pk.sp (MN h d))
theorem Zn{d:Nat}{p:aH}{a:List K3}(h:Pk Tr p a):Pk Tr (So (d,p)) a:=MN h.nl d
def Lq(L:List Ln)(ks:List K3):Prop:=Pk Tr (ux L) ks
theorem Lq.nil:Lq [] []:=Pk.nil _
theorem Lq.mU{L M:List Ln}{a b:List K3}(h:Lq L a)(k:Lq M b):Lq (L++M) (a++b):=by
 unfold Lq ux;rw[List.flatMap_append];exact h.t k
theorem Lq.one{d:Nat}{p:aH}{a:List K3}(h:Pk Tr p a):Lq [(d,p)] a:=by
 unfold Lq ux;rw[List.flatMap_cons,List.flatMap_nil,bL];exact Zn h
theorem Lq.cons{d:Nat}{p:aH}{a:List K3}{L:List Ln}{b:List K3}(h:Pk Tr p a)(k:Lq L b):Lq ((d,p)::L) (a++b):=(Lq.one h).mU k
def FZ(b:Nb):List K3:=if b.ini=[]then[]else[(2,ec,0),(1,b.ini,0),gC 59]
def O2(b:Nb):List K3:=if b.en=[]then[]else(2,fZ,0)::u7 b.en
def JA(b:Nb):List K3:=if b.lv=[]then[]else(2,ga,0)::u7 b.lv
def tM:List Mv->List K3
 | []=>[]
 | m::l=>H9 m++tM l
def vH(b:Nb):List K3:=FZ b++(O2 b++(JA b++tM b.mv))
mutual
def JB:Nd->List K3
 | .mk b l=>
  if jX b.k then(2,kW b.k,0)::(1,b.nm,0)::UC::(1,b.dft,0)::[gC 59]
  else(2,kW b.k,0)::(1,b.nm,0)::gC 123::(vH b++(jI l++[gC 125]))
def jI:List Nd->List K3
 | []=>[]
 | x::l=>JB x++jI l
end
structure Xp (b:Nb):Prop where
 nm:cN b.nm=true
 ini:b.ini=[]∨cN b.ini=true
 en:b.en.all fx=true
 lv:b.lv.all fx=true
 mv:b.mv.all jo=true
theorem MO{b:Nb}{n:Nat}(h:rh b n=true)(hh:jX b.k=false):(b.k=1∨b.k=2)/\b.dft=[]/\Xp b:=by
 unfold rh at h;rw[hh]at h;simp only[aP,gu,iM,ci,bC]at h;obtain⟨h0,⟨⟨⟨h1,h2⟩,h3⟩,h4⟩,h5⟩:=h;exact⟨h1.1,h1.2,h0,h2,h3,h4,h5⟩
theorem Zo{b:Nb}{n:Nat}(h:rh b n=true)(hh:jX b.k=true):cN b.nm=true/\cN b.dft=true/\b.ini=[]/\b.en=[]/\b.lv=[]/\b.mv=[]/\n=0:=by
 unfold rh at h;rw[hh]at h;simp only[aP,wQ,bC]at h;obtain⟨h0,h1,h2,h3,h4,h5,h6⟩:=h;exact⟨h0,h1,h2,h3,h4,bA h5,h6⟩
theorem SM{d:Nat}{b:Nb}(h:Xp b)(hn:Tc b):Lq (yW d b) (vH b):=by
 unfold yW vH;refine Lq.mU ?_ (Lq.mU ?_ (Lq.mU ?_ ?_))
 ·unfold ri FZ;by_cases hi:b.ini=[]
  ·rw[aR hi,aR hi];exact Lq.nil
  rw[aO hi,aO hi];exact Lq.one ((ny (s:=ec) aL).e (Pk.sp ((kJ (h.ini.resolve_left hi)).e (Pk.sc (Pk.nil _)) tL)) gI)
 ·unfold FL O2;by_cases hi:b.en=[]
  ·rw[aR hi,aR hi];exact Lq.nil
  rw[aO hi,aO hi];exact Lq.one ((ny (s:=fZ) aL).e (Pk.sp (MM h.en hn.en)) gI)
 ·unfold HA JA;by_cases hi:b.lv=[]
  ·rw[aR hi,aR hi];exact Lq.nil
  rw[aO hi,aO hi];exact Lq.one ((ny (s:=ga) aL).e (Pk.sp (MM h.lv hn.lv)) gI)
 unfold WH;have hm:=h.mv;have hk:=hn.mv;generalize b.mv=l at*
 induction l with
 | nil=>exact Lq.nil
 | cons m l ih=>
  rw[fp,aP]at hm;exact Lq.cons (Zm hm.1 (hk m aM)) (ih hm.2 λx hx=>hk x aa4)
theorem Ia(k:Int):Pk qu (kW k) [(2,kW k,0)]:=by
 unfold kW;split
 ·exact ny aL
 split
 ·exact ny aL
 split
 ·exact ny aL
 exact ny aL
mutual
theorem Zp:∀(d:Nat) (x:Nd),jM d x=true->yY x->Lq (yX d x) (JB x)
 | d,.mk b l,h,hn=>by
  rw[jM]at h;rw[yY]at hn;rw[yX,JB];simp only[aP]at h;obtain⟨⟨_,h1⟩,h2⟩:=h;cases hh:jX b.k with
  | true=>
   obtain⟨a1,a2,_⟩:=Zo h1 hh;rw[aR rfl,aR rfl];exact Lq.one ((Ia b.k).e (Pk.sp ((kJ a1).e (Pk.sp (Pk.to (Pk.sp ((kJ a2).e (Pk.sc (Pk.nil _)) tL)))) gI)) gI)
  | false=>
   obtain⟨_,_,hs⟩:=MO h1 hh;rw[aO aL,aO aL];exact Lq.cons ((Ia b.k).e (Pk.sp ((kJ hs.nm).e (Pk.sp (Pk.lb (Pk.nil _))) gI)) gI) ((SM hs hn.1).mU ((F0 (d+1) l h2 hn.2).mU (Lq.one (Pk.rb (Pk.nil _)))))
theorem F0:∀(d:Nat) (l:List Nd),gX d l=true->uy l->Lq (lD d l) (jI l)
 | d,[],_,_=>by
  rw[lD,jI];exact Lq.nil
 | d,x::l,h,hn=>by
  rw[gX,aP]at h;rw[uy]at hn;rw[lD,jI];exact(Zp d x h.1 hn.1).mU (F0 d l h.2 hn.2)
end
def MP(v:Vr):List K3:=(2,sM,0)::(1,v.n,0)::gC 61::(wI v.v++[gC 59])
def sQ:List Vr->List K3
 | []=>[]
 | v::l=>MP v++sQ l
def WL(c:Ch):List K3:=(2,dX,0)::(1,c.root.b.nm,0)::gC 123::(sQ c.vars++(vH c.root.b++(jI c.root.kids++[gC 125])))
theorem Zr{c:Ch}(h:pR c=true)(hn:Ry c):Lq (we c) (WL c):=by
 unfold pR at h;simp only[aP]at h;obtain⟨⟨h1,h2⟩,h3⟩:=h;replace h3:=aV h3;obtain⟨vars,⟨b,l⟩⟩:=c;have hr:=hn.r;rw[yY]at hr;rw[jM]at h2;simp only[aP]at h2;obtain⟨⟨_,h4⟩,h5⟩:=h2;have hk:b.k=1:=h3.1;have hh:jX b.k=false:=acI
 obtain⟨_,_,hs⟩:=MO h4 hh;unfold we WL;have hv:Lq (vars.map λv=>(1,O0 v)) (sQ vars):=by
  have hv:=hn.v;dsimp only at h1 hv;clear h3 hn h4 h5 hr
  induction vars with
  | nil=>exact Lq.nil
  | cons v m ih=>
   rw[fp,aP,aP]at h1;refine Lq.cons ?_ (ih h1.2 λx hx=>hv x aa4);exact(ny (s:=sM) aL).e (Pk.sp ((kJ h1.1.1).e (Pk.sp (Pk.eq (Pk.sp ((UF (hv v aM) (aV h1.1.2)).e (Pk.sc (Pk.nil _)) tL)) gI)) gI)) gI
 exact Lq.cons ((ny (s:=dX) aL).e (Pk.sp ((kJ hs.nm).e (Pk.sp (Pk.lb (Pk.nil _))) gI)) gI) (hv.mU ((SM hs hr.1).mU ((F0 1 l h5 hr.2).mU (Lq.one (Pk.rb (Pk.nil _))))))
def kl{α:Type}(R:α->α->Prop)(xs ys:List α):Prop:=xs.length=ys.length/\∀(i:Nat) (x y:α),xs[i]? =some x->ys[i]? =some y->R x y
def Zs(t:Bool)(x y:Ex):Prop:=∀d,nc t d x y=true
structure EJ (t:Bool) (x y:Ac):Prop where
 k:x.k=y.k
 n:x.n=y.n
 e:Zs t x.x y.x
 a:t=true->x.a=y.a
structure Tn (t:Bool) (x y:Mv):Prop where
 k:x.k=y.k
 ev:x.ev=y.ev
 wt:x.wt=y.wt
 gd:x.gd=y.gd
 g:Zs t x.g y.g
 acts:kl (EJ t) x.acts y.acts
 tg:x.tg=y.tg
 a:t=true->x.a=y.a
structure NbE (t:Bool) (x y:Nb):Prop where
 k:x.k=y.k
 nm:x.nm=y.nm
 ini:x.ini=y.ini
 dft:x.dft=y.dft
 en:kl (EJ t) x.en y.en
 lv:kl (EJ t) x.lv y.lv
 mv:kl (Tn t) x.mv y.mv
 a:t=true->x.a=y.a
def NdE(t:Bool):Nat->Nd->Nd->Prop
 | 0,_,_=>True
 | d+1,x,y=>NbE t x.b y.b/\kl (NdE t d) x.kids y.kids
structure VrE (t:Bool) (x y:Vr):Prop where
 n:x.n=y.n
 v:x.v=y.v
 a:t=true->x.a=y.a
structure ChE (t:Bool) (d:Nat) (x y:Ch):Prop where
 vars:kl (VrE t) x.vars y.vars
 root:NdE t d x.root y.root
theorem BM{p:Prop}:false=true->p:=λh=>aah
theorem yH{α:Type}{R:α->α->Prop}:kl R [] []:=⟨rfl,λi x y hx _=>by simp at hx⟩
theorem QS{α:Type}{R:α->α->Prop}{x y:α}{xs ys:List α}(h:R x y)(k:kl R xs ys):kl R (x::xs) (y::ys):=⟨by rw[aU,aU,k.1],λi a b ha hb=>by
 cases i with
 | zero=>
  simp only[cW,bg]at ha hb;subst ha hb;exact h
 | succ i=>exact k.2 i a b (by simpa using ha) aap⟩
def di(s:Sx)(n:Nat)(a m k:Nat):Sx:={s with i:=s.i+n,a:=s.a-a,m:=s.m-m,n:=s.n-k}
theorem cJ(s:Sx)(n a m k n' a' m' k':Nat):di (di s n a m k) n' a' m' k'=di s (n+n') (a+a') (m+m') (k+k'):=by
 unfold di;simp only[Sx.mk.injEq,true_and];refine⟨aE,?_,?_,?_⟩<;>omega
theorem UG(s:Sx):di s 0 0 0 0=s:=by
 unfold di;cases s;simp
theorem gZ(s:Sx):cX s=di s 1 0 0 0:=by
 unfold cX di;cases s;simp
theorem D9{ts:List Tk}(h:od ts)(h0:0<ts.length):jy ts+1=ts.length:=by
 have h1:=wZ ts;have h2:jy ts<ts.length:=by
  refine bD λhn=>?_;have:=ur ts (ts.length-1) aE;exact this ((h _ aE).2 aE)
 exact(h _ h2).1 (uu ts h2)
theorem SN{ts:List Tk}{i:Nat}(h:(tk ts i).k≠5):i<ts.length:=bD λhn=>h (by
 unfold tk;rw[cQ aE];rfl)
def Kw(q:K3)(l:List (aH)):Nat:=if q.1≠2/\q.1≠4 then 0 else if wF q.2.1 l<l.length then wF q.2.1 l+1 else 0
section
variable {ts:List Tk} {s:Sx} {q:K3} {A:List K3}
theorem dr(h0:s.fc=0)(h:At ts s.i (q::A))(l:List (aH)):cu ts s l=Kw q l:=by
 obtain⟨h1,h2,_⟩:=h.head;unfold cu Kw;rw[h1,h2];by_cases hc:q.1≠2/\q.1≠4
 ·rw[aR (.inr hc),aR hc]
 rw[aO (λh=>h.elim (λe=>e h0) hc),aO hc]
theorem iv(h0:s.fc=0){x:aH}(h:At ts s.i (q::A))(hq:Kw q [x]=1):dP ts s x=di s 1 0 0 0:=by
 unfold dP;rw[dr h0 h,hq,aO aL,gZ]
theorem sA(h0:s.fc=0){k:Int}(h:At ts s.i (q::A))(hq:q.1=k):(fu ts s k).1.t=q.2.1/\(fu ts s k).1.n=q.2.2/\(fu ts s k).2=di s 1 0 0 0:=by
 obtain⟨h1,h2,h3⟩:=h.head;unfold fu;rw[aO (λhn=>hn.elim (λe=>e h0) λe=>e (by rw[h1,hq])),gZ];exact⟨h2,h3,rfl⟩
theorem sB(h0:s.fc=0){x:aH}(h:At ts s.i ((1,x,0)::A)):io ts s=(x,di s 1 0 0 0):=by
 obtain⟨a,b,c⟩:=sA (k:=1) h0 h rfl;unfold io;rw[a,c]
theorem uK{x:Int}(h1:1<=x)(h2:x<=1000):vw x=x-1:=by
 unfold vw;rw[fS aE aE]
end
theorem Aj{x:Ex}(h:mj x=true):Zs false x tT:=by
 obtain⟨k,n,s,op,l,a⟩:=x;unfold mj at h;simp only[aP,dy,bC]at h;obtain⟨⟨⟨⟨h1,h2⟩,h3⟩,h4⟩,h5⟩:=h;obtain rfl:k=0:=h1;obtain rfl:n=0:=h2;obtain rfl:s=[]:=h3;obtain rfl:op=0:=h4;have h6:(l.length:Int)=0:=h5;obtain rfl:l=[]:=bA aE;exact λd=>(Sim.leaf 0 0 [] 0 a 0).same d
section
variable {ts:List Tk} (hE:od ts)
include hE
theorem MQ{s:Sx}(h0:s.fc=0){x:Ex}(h:oo x=true)(hn:Js x){q:K3}{A:List K3}(cG:At ts s.i (Ai x++q::A))(hq:q.1=4/\(q.2.1=[59]∨q.2.1=[93])):
  Zs false x (mh ts s).1/\(mh ts s).2=di s (Ai x).length 0 0 0:=by
 obtain⟨h1,h2,h3,h4,h5⟩:=SI h hn;have hL:=h2;generalize qD x=L at*
 have OG:jl L (0+L.length)=.ok [⟨5,[],0,((L.length:Nat):Int)⟩]:=by
  have hd:L.drop L.length=[]:=dj (aY _);have h5:jd false []=0:=rfl;rw[bI,jg (aY _),hd,h5,aR aE];rfl
 obtain⟨us,g1,g2⟩:=sw (l:=L) (yy x) (x:=x) false 0 (r:=[]) h1 (hn _) (bm _) (by rw[eY,bL,hL]) (λc hc=>by cases hc) (by rw[<-hL];exact OG);generalize hte:us++[(⟨5,[],0,((L.length:Nat):Int)⟩:Tk)]=te at*
 have t1:ch L=(te,0,0):=by rw[ch,aO aE,g1]
 have Xo:us.length=(Ai x).length:=by unfold Ai;rw[<-g2,bX]
 have Kz:te.length=us.length+1:=by rw[<-hte,aN,bp]
 have hEt:od te:=by
  have:=(tI (l:=L) (by rw[t1])).1;rw[t1]at this;exact this
 have hep:=D9 hEt aE;unfold fi at h3 h5;rw[t1]at h3 h5;dsimp only at h3 h5;rw[aO aL]at h3 h5;by_cases c1:(bQ te 0).2.2.1≠0
 ·rw[aR c1]at h3;exact absurd h3 c1
 rw[aO c1]at h3 h5;by_cases c2:(tk te (bQ te 0).2.1.toNat).k≠5
 ·rw[aR c2]at h3;exact absurd h3 (show ¬(4:Int)=0 by decide)
 rw[aO c2]at h5;have c1:=Decidable.not_not.1 c1;have c2:=Decidable.not_not.1 c2;dsimp only at h5;have hp:bQ te 0=(match oe te 0 with
  | .error (c,p)=>(tT,0,c,p)
  | .ok (x,j)=>(x,(j:Int),0,0)):=by
  unfold bQ;rw[aR ⟨ix 0,aE,hep⟩];rfl
 have hM:Em te ts us.length s.i:=by
  refine⟨λi hi=>?_,λi hi=>?_,?_⟩
  ·unfold tk;rw[<-hte];rcases Nat.eq_or_lt_of_le hi with e | e
   ·rw[<-e,dE (aY _),GI];rfl
   rw[cQ aay];rfl
  ·have yP:i<(Ai x).length:=aE
   have e1:=cG.left i _ (bJ yP);have e2:k3 (tk te i)=(Ai x)[i]:=by
    have:(us.map k3)[i]? =some (Ai x)[i]:=by
     rw[g2];exact bJ yP
    rw[cR,fM]at this;obtain⟨t,w1,w2⟩:=this;rw[<-w2];unfold tk;rw[<-hte,bT hi,w1];rfl
   have e3:=e1.trans e2.symm;unfold k3 at e3;simp only[eK]at e3;exact e3
  have:=cG.right.head;rw[<-Xo]at this;rw[this.1,this.2.1];exact hq
 cases hr:oe te 0 with
 | error e=>
  obtain⟨c,p⟩:=e;rw[hr]at hp;exfalso;rw[hp]at c1 c2;have hc:c=0:=c1;subst hc;exact lC _ _ _ _ hr rfl
 | ok y=>
  obtain⟨x0,j⟩:=y;rw[hr]at hp;dsimp only at hp;rw[hp]at c2 h5;dsimp only at c2 h5;have cd:s.i+us.length<ts.length:=by
   refine SN λe=>?_;have:=cG.right.head.1;rw[<-Xo]at this;rw[this,hq.1]at e;exact absurd e aL
  obtain⟨x',k1,k2,KJ⟩:=Rm.expr hM Kz cd (fj 0 0) 0 0 0 (bm _) x0 j hr;have hj:j=us.length:=by
   rw[ba]at c2;have:=(hEt j aE).1 c2;omega
  subst hj;have EW:bQ ts s.i=(x',((s.i+us.length:Nat):Int),0,0):=by
   unfold bQ;rw[aR ⟨bc _,aE,D9 hE aE⟩,ba];unfold oe;rw[gz]at k1;rw[k1]
  unfold mh;rw[aO (λe=>e h0),EW];dsimp only;rw[aO (λe=>e rfl)];refine⟨(h5.trans k2).same,?_⟩;rw[ba,Xo];unfold di;simp
theorem QT{s:Sx}(h0:s.fc=0)(ha:1<=s.a)(hb:s.a<=1000):qW ts s=di s 0 1 0 0:=by
 unfold qW di;rw[aO aE,uK ha hb];simp
theorem Zu{s:Sx}(h0:s.fc=0)(ha:1<=s.a)(hb:s.a<=1000){a:Ac}(h:fx a=true)(hn:Ab a){A:List K3}(cG:At ts s.i (EU a++A)):EJ false a (nj ts s).1/\(nj ts s).2=di s (EU a).length 1 0 0:=by
 unfold fx at h;simp only[aP]at h;obtain⟨⟨h1,h2⟩,h3⟩:=h;have h1:=aV h1;obtain⟨k,n,x,at_⟩:=a;dsimp only at h1 h2 h3;have abF:∃w A',EU ⟨k,n,x,at_⟩++A=(2,w,0)::(1,n,0)::A'/\(Kw (2,w,0) [nK,iC,jL]:Nat)=k.toNat:=by
  unfold EU;by_cases hk:k=2
  ·rw[aR hk];exact⟨_,_,rfl,by rw[hk];decide⟩
  rw[aO hk];by_cases ku:k=1
  ·rw[aR ku];exact⟨_,_,rfl,by rw[ku];decide⟩
  rw[aO ku];have:k=3:=aE
  exact⟨_,_,rfl,by rw[this];decide⟩
 obtain⟨w,A',e1,e2⟩:=abF;have Kh:=cG;rw[e1]at Kh;have hw:=dr h0 Kh [nK,iC,jL];rw[e2]at hw;have Py:(k.toNat:Int)=k:=fO aE;unfold nj;rw[hw,aO aE,QT (ts:=ts) hE h0 ha hb,aO (λe=>e h0)];rw[gZ,cJ,sB (s:=di s (0+1) (1+0) (0+0) (0+0)) h0 Kh.tail];dsimp only;unfold FF;by_cases hk:k=2
 ·subst hk;rw[aR (show Int.toNat 2=2 from rfl)];have h3:mj x=true:=by simpa using h3
  have ea:EU ⟨2,n,x,at_⟩=[(2,iC,0),(1,n,0),gC 59]:=rfl;rw[ea]at cG⊢;have h59:=cG.tail.tail;rw[iv (s:=di (di s (0+1) (1+0) (0+0) (0+0)) 1 0 0 0) h0 h59 aL,cJ,cJ];exact⟨⟨rfl,rfl,Aj h3,BM⟩,rfl⟩
 rw[aO aE];rw[aO hk]at h3;have ea:EU ⟨k,n,x,at_⟩=(2,if k=1 then nK else jL,0)::(1,n,0)::gC 61::(Ai x++[gC 59]):=by
  unfold EU;rw[aO hk]
 rw[ea]at cG⊢;have IP:=cG.tail.tail;rw[iv (s:=di (di s (0+1) (1+0) (0+0) (0+0)) 1 0 0 0) h0 IP aL,cJ,cJ];have hx:At ts (s.i+1+1+1) ((Ai x++[gC 59])++A):=IP.tail;rw[bf]at hx;obtain⟨r1,r2⟩:=MQ hE (s:=di s (0+1+1+1) (1+0+0+0) (0+0+0+0) (0+0+0+0)) h0 h3 hn (q:=gC 59) (A:=A) hx ⟨rfl,.inl rfl⟩;rw[r2];have h59:=hx.right;rw[iv (s:=di (di s (0+1+1+1) (1+0+0+0) (0+0+0+0) (0+0+0+0)) (Ai x).length 0 0 0) h0 h59 aL,cJ,cJ];refine⟨⟨Py.symm,rfl,r1,BM⟩,?_⟩;simp only[aU,aN,aZ];congr 1;omega
theorem SO:∀(l:List Ac) (f:Nat) (acc:List Ac) {s:Sx},s.fc=0->l.length<f->(l.length:Int)<=s.a->s.a<=1000->l.all fx=true->(∀a,a∈l->Ab a)->∀{A:List K3},At ts s.i (wJ l++gC 125::A)->
  ∃r,nU ts f acc s=(acc++r,di s ((wJ l).length+1) l.length 0 0)/\kl (EJ false) l r
 | [],f,acc,s,h0,hf,ha,hb,h,hn,A,cG=>by
  obtain⟨f,rfl⟩:∃g,f=g+1:=⟨f-1,abA⟩
  have cG:At ts s.i (gC 125::A):=cG;rw[nU,aO (λe=>e h0),dr h0 cG,aR aL,gZ];exact⟨[],by rw[bL];rfl,yH⟩
 | a::l,f,acc,s,h0,hf,ha,hb,h,hn,A,cG=>by
  rw[aU]at hf ha;obtain⟨f,rfl⟩:∃g,f=g+1:=⟨f-1,aE⟩
  rw[fp,aP]at h;have cG:At ts s.i ((EU a++wJ l)++gC 125::A):=cG;rw[bf]at cG;have hw:cu ts s [[125]]=0:=by
   have:∃w B,EU a++(wJ l++gC 125::A)=(2,w,0)::B/\Kw (2,w,0) [[125]]=0:=by
    unfold EU;split
    ·exact⟨_,_,rfl,aL⟩
    split
    ·exact⟨_,_,rfl,aL⟩
    exact⟨_,_,rfl,aL⟩
   obtain⟨w,B,e1,e2⟩:=this;have Kh:=cG;rw[e1]at Kh;rw[dr h0 Kh,e2]
  obtain⟨r1,r2⟩:=Zu hE h0 aE hb h.1 (hn a aM) cG;rw[nU,aO (λe=>e h0),hw,aO (λe=>e rfl),r2];obtain⟨r,e1,e2⟩:=SO l f (acc++[(nj ts s).1]) (s:=di s (EU a).length 1 0 0) h0 aE aab aab h.2 (λb hb=>hn b (by simp[hb])) cG.right;refine⟨(nj ts s).1::r,?_,QS r1 e2⟩;rw[e1,cJ,bf];simp only[wJ,aN,aU,dT];congr 2<;>omega
theorem Ea:∀l:List Ac,l.length<=(wJ l).length
 | []=>aY _
 | a::l=>by
  have h1:=Ea l;have h2:1<=(EU a).length:=by
   unfold EU;split<;>simp
  rw[wJ,aN,aU];omega
theorem At.inr{s:Sx}{L:List K3}{q:K3}{A:List K3}(cG:At ts s.i (L++q::A))(hq:q.1≠5):s.i+L.length<ts.length:=SN (by rw[cG.right.head.1];exact hq)
theorem UH{s:Sx}(h0:s.fc=0){l:List Ac}(ha:(l.length:Int)<=s.a)(hb:s.a<=1000)(h:l.all fx=true)(hn:∀a,a∈l->Ab a){A:List K3}(cG:At ts s.i (u7 l++A)):
  ∃r,gf ts s=(r,di s (u7 l).length l.length 0 0)/\kl (EJ false) l r:=by
 unfold gf;have cG:At ts s.i (gC 123::((wJ l++[gC 125])++A)):=cG;rw[bf]at cG;have h1:=cG.tail;have cd:=At.inr hE (s:=di s 1 0 0 0) (L:=wJ l) h1 aL;rw[iv h0 cG aL];have:=Ea (ts:=ts) hE l;obtain⟨r,e1,e2⟩:=SO hE l (ts.length+1) [] (s:=di s 1 0 0 0) h0 aE aab aab h hn h1;refine⟨r,?_,e2⟩;rw[e1,cJ,cp];unfold u7;simp only[aU,aN,aZ];congr 2
 ·omega
 omega
theorem Zv:∀(l:List (aH)) (f:Nat) (acc:List (aH)) {s:Sx},s.fc=0->l.length<f->∀{A:List K3},At ts s.i (FX l++gC 59::A)->oY ts f [44] acc s=(acc++l,di s (FX l).length 0 0 0)
 | [],f,acc,s,h0,hf,A,cG=>by
  obtain⟨f,rfl⟩:∃g,f=g+1:=⟨f-1,abA⟩
  have cG:At ts s.i (gC 59::A):=cG;rw[oY,dr h0 cG,aR aL,bL];show(acc,s)=(acc,di s 0 0 0 0)
  rw[UG]
 | x::l,f,acc,s,h0,hf,A,cG=>by
  rw[aU]at hf;obtain⟨f,rfl⟩:∃g,f=g+1:=⟨f-1,aE⟩
  have cG:At ts s.i (gC 44::(1,x,0)::(FX l++gC 59::A)):=cG;rw[oY,dr h0 cG,aO aL,gZ,sB (s:=di s 1 0 0 0) h0 cG.tail];dsimp only;rw[cJ,Zv l f (acc++[x]) (s:=di s (1+1) (0+0) (0+0) (0+0)) h0 aE cG.tail.tail,cJ,bf];simp only[FX,aU,dT];congr 2;omega
theorem Ib:∀l:List (aH),l.length<=(FX l).length
 | []=>aY _
 | x::l=>by
  have:=Ib l;rw[FX,aU,aU,aU];omega
theorem Ic{s:Sx}(h0:s.fc=0)(m m0:Mv){A:List K3}(cG:At ts s.i ((FY m++[gC 59])++A))(Xq:m0.tg=[]):yu ts m0 s=({m0 with tg:=m.tg},di s (FY m++[gC 59]).length 0 0 0):=by
 unfold yu;rw[bf]at cG;have oz:=cG;unfold FY at cG⊢;cases hm:m.tg with
 | nil=>
  rw[hm]at cG;have cG:At ts s.i (gC 59::A):=cG;rw[oY,dr h0 cG,aR aL];dsimp only;rw[iv h0 cG aL];rfl
 | cons x l=>
  rw[hm]at cG;have cG:At ts s.i (UC::(1,x,0)::(FX l++gC 59::A)):=cG;have cd:=At.inr hE (s:=di s 2 0 0 0) (L:=FX l) cG.tail.tail aL;have:=Ib (ts:=ts) hE l;rw[oY,dr h0 cG,aO aL,gZ,sB (s:=di s 1 0 0 0) h0 cG.tail];dsimp only;rw[cJ,Zv hE l ts.length ([]++[x]) (s:=di s (1+1) (0+0) (0+0) (0+0)) h0 aE cG.tail.tail,cJ];dsimp only;rw[iv (s:=di s (1+1+(FX l).length) (0+0+0) (0+0+0) (0+0+0)) h0 (q:=gC 59) (A:=A) (by
   have:=cG.tail.tail.right;have e:s.i+1+1+(FX l).length=(di s (1+1+(FX l).length) (0+0+0) (0+0+0) (0+0+0)).i:=aab
   rw[<-e];exact this) aL,cJ]
  simp only[aU,aN,aZ,cp,dT];congr 2;omega
theorem Ie{s:Sx}(h0:s.fc=0)(m m0:Mv)(ha:(m.acts.length:Int)<=s.a)(hb:s.a<=1000)(h:m.acts.all fx=true)(hn:∀x,x∈m.acts->Ab x){A:List K3}(cG:At ts s.i (((if m.acts=[]then[]else u7 m.acts)++(FY m++[gC 59]))++A))(Xq:m0.tg=[])(h0a:m0.acts=[]):
  ∃r,wc ts m0 s=({m0 with acts:=r,tg:=m.tg},di s ((if m.acts=[]then[]else u7 m.acts)++(FY m++[gC 59])).length m.acts.length 0 0)/\kl (EJ false) m.acts r:=by
 obtain⟨k0,v0,t0,d0,x0,ac0,g0,p0⟩:=m0;dsimp only at Xq h0a;subst Xq h0a;unfold wc;by_cases he:m.acts=[]
 ·rw[aR he]at cG⊢;have hw:cu ts s [[123]]=0:=by
   have oz:=cG;unfold FY at oz;cases hm:m.tg with
   | nil=>
    rw[hm]at oz;rw[dr h0 (q:=gC 59) (A:=A) oz];decide
   | cons x l=>
    rw[hm]at oz;rw[dr h0 (q:=UC) (A:=_) oz];decide
  rw[hw,aR rfl,Ic hE h0 m _ cG rfl];refine⟨[],?_,by rw[he];exact yH⟩;rw[he];rfl
 rw[aO he]at cG⊢;rw[bf]at cG;have hw:cu ts s [[123]]=1:=by
  rw[dr h0 (q:=gC 123) cG];decide
 obtain⟨r,e1,e2⟩:=UH hE h0 ha hb h hn cG;rw[hw,aO aL,e1];dsimp only;rw[Ic hE (s:=di s (u7 m.acts).length m.acts.length 0 0) h0 m _ cG.right rfl,cJ];refine⟨r,?_,e2⟩;simp only[aN,gz]
theorem BN{s:Sx}(h0:s.fc=0)(m m0:Mv)(ha:(m.acts.length:Int)<=s.a)(hb:s.a<=1000)(h:jo m=true)(hn:IV m){A:List K3}(cG:At ts s.i ((SK m++((if m.acts=[]then[]else u7 m.acts)++(FY m++[gC 59])))++A))
  (Xq:m0.tg=[]) (h0a:m0.acts=[]) (h0g:m0.gd=false) (h0x:m0.g=tT):
  ∃g r,nq ts m0 s=({m0 with gd:=m.gd,g:=g,acts:=r,tg:=m.tg},di s (SK m++((if m.acts=[]then[]else u7 m.acts)++(FY m++[gC 59]))).length m.acts.length 0 0)/\Zs false m.g g/\kl (EJ false) m.acts r:=by
 unfold jo at h;simp only[aP]at h;obtain⟨⟨⟨⟨⟨_,_⟩,h3⟩,h4⟩,_⟩,_⟩:=h;obtain⟨k0,v0,t0,d0,x0,ac0,g0,p0⟩:=m0;dsimp only at Xq h0a h0g h0x;subst Xq h0a h0g h0x;unfold nq;unfold SK at cG⊢;cases hg:m.gd with
 | false=>
  rw[hg]at h3 cG;simp only[gu,iM,cp]at h3 cG⊢;have hw:cu ts s [[91]]=0:=by
   have oz:=cG;by_cases he:m.acts=[]
   ·rw[aR he]at oz;unfold FY at oz;cases hm:m.tg with
    | nil=>
     rw[hm]at oz;rw[dr h0 (q:=gC 59) (A:=A) oz];decide
    | cons x l=>
     rw[hm]at oz;rw[dr h0 (q:=UC) (A:=_) oz];decide
   rw[aO he]at oz;rw[dr h0 (q:=gC 123) (A:=_) oz];decide
  obtain⟨r,e1,e2⟩:=Ie hE h0 m ⟨k0,v0,t0,false,tT,[],[],p0⟩ ha hb h4 hn.a cG rfl rfl;rw[hw,aR rfl,e1];exact⟨tT,r,rfl,Aj h3,e2⟩
 | true=>
  rw[hg]at h3 cG;simp only[wQ]at h3 cG⊢;have cG:At ts s.i (gC 91::(Ai m.g++gC 93::(((if m.acts=[]then[]else u7 m.acts)++(FY m++[gC 59]))++A))):=by simpa using cG
  have hw:cu ts s [[91]]=1:=by
   rw[dr h0 cG];decide
  obtain⟨r1,r2⟩:=MQ hE (s:=di s 1 0 0 0) h0 h3 hn.g (q:=gC 93) cG.tail ⟨rfl,.inr rfl⟩;rw[hw,aO aL,gZ,r2,cJ,iv (s:=di s (1+(Ai m.g).length) (0+0) (0+0) (0+0)) h0 (q:=gC 93) (by
   have:=cG.tail.right;have e:s.i+1+(Ai m.g).length=(di s (1+(Ai m.g).length) (0+0) (0+0) (0+0)).i:=aab
   rw[<-e];exact this) aL,cJ]
  obtain⟨r,e1,e2⟩:=Ie hE (s:=di s (1+(Ai m.g).length+1) (0+0+0) (0+0+0) (0+0+0)) h0 m ⟨k0,v0,t0,true,(mh ts (di s 1 0 0 0)).1,[],[],p0⟩ aab aab h4 hn.a (by
   have:=cG.tail.right.tail;have e:s.i+1+(Ai m.g).length+1=(di s (1+(Ai m.g).length+1) (0+0+0) (0+0+0) (0+0+0)).i:=aab
   rw[<-e];exact this) rfl rfl
  rw[e1,cJ];refine⟨_,r,?_,r1,e2⟩;congr 2<;>(try simp only[aU,aN,aZ])<;>omega
theorem QU{s:Sx}(h0:s.fc=0)(ha:1<=s.m)(hb:s.m<=1000):pQ ts s=di s 0 0 1 0:=by
 unfold pQ di;rw[aO aE,uK ha hb];simp
theorem afi{s:Sx}(h0:s.fc=0){m:Mv}(ha:(m.acts.length:Int)<=s.a)(hb:s.a<=1000)(wK:1<=s.m)(tq:s.m<=1000)(h:jo m=true)(hn:IV m){A:List K3}(cG:At ts s.i (H9 m++A)):
  cu ts s [wG,fI,fY]=m.k.toNat/\1<=m.k/\Tn false m (lf ts m.k s).1/\(lf ts m.k s).2=di s (H9 m).length m.acts.length 1 0:=by
 have h':=h;unfold jo at h';simp only[aP]at h';obtain⟨⟨⟨⟨⟨h1,h2⟩,_⟩,_⟩,_⟩,h6⟩:=h';have h1:=aV h1;have h6:=aV h6;unfold H9 at cG⊢;rw[bf]at cG;unfold lf;rw[QU (ts:=ts) hE h0 wK tq,aO (λe=>e h0)];generalize hR:SK m++((if m.acts=[]then[]else u7 m.acts)++(FY m++[gC 59]))=R at*
 unfold Zl at cG⊢;by_cases k1:m.k=1
 ·rw[aR k1]at cG h2⊢;rw[aR k1];have cG:At ts s.i ((2,wG,0)::(1,m.ev,0)::(R++A)):=cG;refine⟨by rw[dr h0 cG,k1];decide,aE,?_⟩;rw[gZ,cJ,sB (s:=di s (0+1) (0+0) (1+0) (0+0)) h0 cG.tail];dsimp only;rw[cJ];obtain⟨g,r,e1,e2,e3⟩:=BN hE (s:=di s (0+1+1) (0+0+0) (1+0+0) (0+0+0)) h0 m {L6 m.k (tk ts s.i).a with ev:=m.ev} aab aab h hn (by rw[hR];exact cG.tail.tail) rfl rfl rfl rfl;rw[e1,hR,cJ];refine⟨⟨rfl,rfl,?_,rfl,e2,e3,rfl,BM⟩,?_⟩
  ·show m.wt=0;omega
  dsimp only;congr 1<;>(try simp only[aU,aN,aZ])<;>omega
 rw[aO k1]at cG h2⊢;rw[aO k1];have h2:=aV h2;by_cases k3:m.k=3
 ·rw[aR k3]at cG⊢;rw[aR k3];have cG:At ts s.i ((2,fY,0)::(3,[],m.wt)::(R++A)):=cG;refine⟨by rw[dr h0 cG,k3];decide,aE,?_⟩;obtain⟨c1,c2,c3⟩:=sA (s:=di s (0+1) (0+0) (1+0) (0+0)) (k:=3) h0 cG.tail rfl;rw[gZ,cJ,c2,c3];dsimp only;rw[cJ];obtain⟨g,r,e1,e2,e3⟩:=BN hE (s:=di s (0+1+1) (0+0+0) (1+0+0) (0+0+0)) h0 m {L6 m.k (tk ts s.i).a with wt:=m.wt} aab aab h hn (by rw[hR];exact cG.tail.tail) rfl rfl rfl rfl;rw[e1,hR,cJ];refine⟨⟨rfl,h2,rfl,rfl,e2,e3,rfl,BM⟩,?_⟩;dsimp only;congr 1<;>(try simp only[aU,aN,aZ])<;>omega
 rw[aO k3]at cG⊢;rw[aO k3];have cG:At ts s.i ((2,fI,0)::(R++A)):=cG;have k2:m.k=2:=aE
 refine⟨by rw[dr h0 cG,k2];decide,aE,?_⟩;rw[gZ,cJ];obtain⟨g,r,e1,e2,e3⟩:=BN hE (s:=di s (0+1) (0+0) (1+0) (0+0)) h0 m (L6 m.k (tk ts s.i).a) aab aab h hn (by rw[hR];exact cG.tail) rfl rfl rfl rfl;rw[e1,hR,cJ];refine⟨⟨rfl,h2,?_,rfl,e2,e3,rfl,BM⟩,?_⟩
 ·show m.wt=0;omega
 dsimp only;congr 1<;>(try simp only[aU,aN,aZ])<;>omega
end
def MR(x y:Nd):Prop:=∀d,NdE false d x y
theorem BO{b b':Nb}{l l':List Nd}(h:NbE false b b')(k:kl MR l l'):MR (.mk b l) (.mk b' l'):=λd=>by
 cases d with
 | zero=>trivial
 | succ d=>exact⟨h,k.1,λi x y hx hy=>k.2 i x y hx hy d⟩
def wi(q:K3):Prop:=Kw q [wG,fI,fY]=0/\Kw q [ec,fZ,ga]=0/\q.1≠5
def rr(l:List Mv):Nat:=(l.map λm=>m.acts.length).sum
theorem UI(b:Nb):uZ b=b.en.length+(b.lv.length+rr b.mv):=by unfold uZ rr;omega
section
variable {ts:List Tk} (hE:od ts)
include hE
theorem UJ{s:Sx}(h0:s.fc=0)(n:Nb){h:y9}(hi:h.i=false){x:aH}{A:List K3}(cG:At ts s.i ((2,ec,0)::(1,x,0)::gC 59::A)):dm ts n h s=(true,{n with ini:=x},{h with i:=true},di s 3 0 0 0):=by
 unfold dm;have w1:cu ts s [wG,fI,fY]=0:=aaL
 have w2:cu ts s [ec,fZ,ga]=1:=aaL
 rw[w1,aO (λe=>e rfl),w2];show(if h.i=true then(false,n,h,jA ts s)else(true,{n with ini:=(io ts (cX s)).1},{h with i:=true},dP ts (io ts (cX s)).2 [59]))=_;rw[hi,aO aL,gZ,sB (s:=di s 1 0 0 0) h0 cG.tail];dsimp only;rw[iv (s:=di (di s 1 0 0 0) 1 0 0 0) h0 cG.tail.tail aL,cJ,cJ]
theorem Zw{s:Sx}(h0:s.fc=0)(n:Nb){h:y9}(hi:h.e=false){l:List Ac}(ha:(l.length:Int)<=s.a)(hb:s.a<=1000)(hl:l.all fx=true)(hn:∀a,a∈l->Ab a){A:List K3}(cG:At ts s.i ((2,fZ,0)::(u7 l++A))):
  ∃r,dm ts n h s=(true,{n with en:=r},{h with e:=true},di s ((u7 l).length+1) l.length 0 0)/\kl (EJ false) l r:=by
 unfold dm;have w1:cu ts s [wG,fI,fY]=0:=aaL
 have w2:cu ts s [ec,fZ,ga]=2:=aaL
 rw[w1,aO (λe=>e rfl),w2];obtain⟨r,e1,e2⟩:=UH hE (s:=di s 1 0 0 0) h0 aab aab hl hn cG.tail
 suffices hh:(if h.e=true then(false,n,h,jA ts s)else(true,{n with en:=(gf ts (cX s)).1},{h with e:=true},(gf ts (cX s)).2))=(true,{n with en:=r},{h with e:=true},di s ((u7 l).length+1) l.length 0 0)from⟨r,hh,e2⟩
 rw[hi,aO aL,gZ,e1];dsimp only;rw[cJ];congr 4<;>omega
theorem Zx{s:Sx}(h0:s.fc=0)(n:Nb){h:y9}(hi:h.l=false){l:List Ac}(ha:(l.length:Int)<=s.a)(hb:s.a<=1000)(hl:l.all fx=true)(hn:∀a,a∈l->Ab a){A:List K3}(cG:At ts s.i ((2,ga,0)::(u7 l++A))):
  ∃r,dm ts n h s=(true,{n with lv:=r},{h with l:=true},di s ((u7 l).length+1) l.length 0 0)/\kl (EJ false) l r:=by
 unfold dm;have w1:cu ts s [wG,fI,fY]=0:=aaL
 have w2:cu ts s [ec,fZ,ga]=3:=aaL
 rw[w1,aO (λe=>e rfl),w2];obtain⟨r,e1,e2⟩:=UH hE (s:=di s 1 0 0 0) h0 aab aab hl hn cG.tail
 suffices hh:(if h.l=true then(false,n,h,jA ts s)else(true,{n with lv:=(gf ts (cX s)).1},{h with l:=true},(gf ts (cX s)).2))=(true,{n with lv:=r},{h with l:=true},di s ((u7 l).length+1) l.length 0 0)from⟨r,hh,e2⟩
 rw[hi,aO aL,gZ,e1];dsimp only;rw[cJ];congr 4<;>omega
theorem Zy{s:Sx}(h0:s.fc=0)(n:Nb)(h:y9){m:Mv}(ha:(m.acts.length:Int)<=s.a)(hb:s.a<=1000)(wK:1<=s.m)(tq:s.m<=1000)(hm:jo m=true)(hn:IV m){A:List K3}(cG:At ts s.i (H9 m++A)):
  ∃r,dm ts n h s=(true,{n with mv:=n.mv++[r]},h,di s (H9 m).length m.acts.length 1 0)/\Tn false m r:=by
 obtain⟨h1,h2,h3,h4⟩:=afi hE h0 ha hb wK tq hm hn cG;unfold dm;rw[h1,aR aE,fO aE,h4];exact⟨_,rfl,h3⟩
theorem QV{s:Sx}(h0:s.fc=0)(n:Nb)(h:y9){q:K3}{A:List K3}(hq:wi q)(cG:At ts s.i (q::A)):dm ts n h s=(false,n,h,s):=by
 unfold dm;rw[dr h0 cG,dr h0 cG,hq.1,hq.2.1,aO (λe=>e rfl)];rfl
theorem uL{s:Sx}(h0:s.fc=0){f:Nat}{n n':Nb}{h h':y9}{s':Sx}(hc:dm ts n h s=(true,n',h',s')):fz ts (f+1) n h s=fz ts f n' h' s':=by
 rw[fz,aO (λe=>e h0),hc];rfl
theorem MS:∀(l:List Mv) (f:Nat) (n:Nb) (h:y9) {s:Sx},s.fc=0->l.length<f->(rr l:Int)<=s.a->s.a<=1000->(l.length:Int)<=s.m->s.m<=1000->l.all jo=true->(∀m,m∈l->IV m)->∀{q:K3} {A:List K3},wi q->At ts s.i (tM l++q::A)->
  ∃r,fz ts f n h s=({n with mv:=n.mv++r},di s (tM l).length (rr l) l.length 0)/\kl (Tn false) l r
 | [],f,n,h,s,h0,hf,ha,hb,wK,tq,hl,hn,q,A,hq,cG=>by
  obtain⟨f,rfl⟩:∃g,f=g+1:=⟨f-1,abA⟩
  have cG:At ts s.i (q::A):=cG;rw[fz,aO (λe=>e h0),QV hE h0 n h hq cG];refine⟨[],?_,yH⟩;rw[bL];show(n,s)=(n,di s 0 0 0 0)
  rw[UG]
 | m::l,f,n,h,s,h0,hf,ha,hb,wK,tq,hl,hn,q,A,hq,cG=>by
  rw[aU]at hf wK;obtain⟨f,rfl⟩:∃g,f=g+1:=⟨f-1,aE⟩
  rw[fp,aP]at hl;have es:rr (m::l)=m.acts.length+rr l:=by unfold rr;rw[bG,cr]
  rw[es]at ha;have cG:At ts s.i ((H9 m++tM l)++q::A):=cG;rw[bf]at cG;obtain⟨x,e1,e2⟩:=Zy hE h0 n h aE hb aE tq hl.1 (hn m aM) cG;rw[uL hE h0 e1];obtain⟨r,e3,e4⟩:=MS l f {n with mv:=n.mv++[x]} h (s:=di s (H9 m).length m.acts.length 1 0) h0 aE aab aab aab aab hl.2 (λy hy=>hn y (by simp[hy])) hq cG.right;refine⟨x::r,?_,QS e2 e4⟩;rw[e3,cJ,es];simp only[tM,aN,aU,bf,dT];congr 2;omega
theorem Eb:∀l:List Mv,l.length<=(tM l).length
 | []=>aY _
 | m::l=>by
  have h1:=Eb l;have h2:1<=(H9 m).length:=by
   unfold H9 Zl;rw[aN];split
   ·simp only[aU];omega
   split<;>(simp only[aU];omega)
  rw[tM,aN,aU];omega
theorem SP{f:Nat}{n:Nb}{h:y9}{s:Sx}{b:Nb}(h0:s.fc=0)(hf:(JA b).length+b.mv.length<f)(ha:(b.lv.length+rr b.mv:Nat)<=s.a)(hb:s.a<=1000)(wK:(b.mv.length:Int)<=s.m)(tq:s.m<=1000)(hs:Xp b)(hn:Tc b){q:K3}{A:List K3}(hq:wi q)(cG:At ts s.i (JA b++(tM b.mv++q::A)))(hl:h.l=false)(Cq:n.lv=[]):
  ∃r1 r2,fz ts f n h s=({n with lv:=r1,mv:=n.mv++r2},di s ((JA b).length+(tM b.mv).length) (b.lv.length+rr b.mv) b.mv.length 0)/\kl (EJ false) b.lv r1/\kl (Tn false) b.mv r2:=by
 obtain⟨nk,nn,ni,nd,ne,nl,nm,na⟩:=n;dsimp only at Cq;subst Cq;unfold JA at cG hf⊢;by_cases he:b.lv=[]
 ·rw[aR he]at cG hf⊢;rw[aZ]at hf;obtain⟨r,e1,e2⟩:=MS hE b.mv f _ h h0 aE aE hb wK tq hs.mv hn.mv hq cG;refine⟨[],r,?_,by rw[he];exact yH,e2⟩;rw[e1,he];simp only[aZ,bI]
 rw[aO he]at cG hf⊢;simp only[aU]at hf;obtain⟨f,rfl⟩:∃g,f=g+1:=⟨f-1,aE⟩
 obtain⟨r1,e1,e2⟩:=Zx hE h0 _ hl aE hb hs.lv hn.lv cG;rw[uL hE h0 e1];obtain⟨r2,e3,e4⟩:=MS hE b.mv f _ _ (s:=di s ((u7 b.lv).length+1) b.lv.length 0 0) h0 aE aab aab aab aab hs.mv hn.mv hq (by
  have h5:=cG.tail.right;have e:s.i+1+(u7 b.lv).length=(di s ((u7 b.lv).length+1) b.lv.length 0 0).i:=aab
  rw[<-e];exact h5)
 refine⟨r1,r2,?_,e2,e4⟩;rw[e3,cJ,aU];congr 2;omega
theorem SQ{f:Nat}{n:Nb}{h:y9}{s:Sx}{b:Nb}(h0:s.fc=0)(hf:(O2 b).length+((JA b).length+b.mv.length)<f)(ha:(b.en.length+(b.lv.length+rr b.mv):Nat)<=s.a)(hb:s.a<=1000)(wK:(b.mv.length:Int)<=s.m)(tq:s.m<=1000)(hs:Xp b)(hn:Tc b){q:K3}{A:List K3}(hq:wi q)(cG:At ts s.i (O2 b++(JA b++(tM b.mv++q::A))))(he0:h.e=false)(hl:h.l=false)(Kf:n.en=[])(Cq:n.lv=[]):
  ∃r0 r1 r2,fz ts f n h s=({n with en:=r0,lv:=r1,mv:=n.mv++r2},di s ((O2 b).length+((JA b).length+(tM b.mv).length)) (b.en.length+(b.lv.length+rr b.mv)) b.mv.length 0)/\kl (EJ false) b.en r0/\kl (EJ false) b.lv r1/\kl (Tn false) b.mv r2:=by
 obtain⟨nk,nn,ni,nd,ne,nl,nm,na⟩:=n;dsimp only at Cq Kf;subst Cq Kf;unfold O2 at cG hf⊢;by_cases he:b.en=[]
 ·rw[aR he]at cG hf⊢;rw[aZ]at hf;obtain⟨r1,r2,e1,e2,e3⟩:=SP hE (f:=f) (h:=h) (n:=⟨nk,nn,ni,nd,[],[],nm,na⟩) h0 aE aE hb wK tq hs hn hq cG hl rfl;refine⟨[],r1,r2,?_,by rw[he];exact yH,e2,e3⟩;rw[e1,he];simp only[aZ,bI]
 rw[aO he]at cG hf⊢;simp only[aU]at hf;obtain⟨f,rfl⟩:∃g,f=g+1:=⟨f-1,aE⟩
 obtain⟨r0,e1,e2⟩:=Zw hE h0 _ he0 aE hb hs.en hn.en cG;rw[uL hE h0 e1];obtain⟨r1,r2,e3,e4,e5⟩:=SP hE (n:=⟨nk,nn,ni,nd,r0,[],nm,na⟩) (h:={h with e:=true}) (s:=di s ((u7 b.en).length+1) b.en.length 0 0) h0 (f:=f) aE aab aab aab aab hs hn hq (by
  have h5:=cG.tail.right;have e:s.i+1+(u7 b.en).length=(di s ((u7 b.en).length+1) b.en.length 0 0).i:=aab
  rw[<-e];exact h5) hl rfl
 refine⟨r0,r1,r2,?_,e2,e4,e5⟩;rw[e3,cJ,aU];congr 2<;>omega
theorem afj{f:Nat}{n:Nb}{s:Sx}{b:Nb}(h0:s.fc=0)(hf:(FZ b).length+((O2 b).length+((JA b).length+b.mv.length))<f)(ha:(uZ b:Int)<=s.a)(hb:s.a<=1000)(wK:(b.mv.length:Int)<=s.m)(tq:s.m<=1000)(hs:Xp b)(hn:Tc b){q:K3}{A:List K3}(hq:wi q)(cG:At ts s.i (vH b++q::A))(RH:n.ini=[])(Kf:n.en=[])(Cq:n.lv=[])(tn:n.mv=[]):
  ∃r0 r1 r2,fz ts f n ⟨false,false,false⟩ s=({n with ini:=b.ini,en:=r0,lv:=r1,mv:=r2},di s (vH b).length (uZ b) b.mv.length 0)/\kl (EJ false) b.en r0/\kl (EJ false) b.lv r1/\kl (Tn false) b.mv r2:=by
 rw[UI]at ha⊢;obtain⟨nk,nn,ni,nd,ne,nl,nm,na⟩:=n;dsimp only at RH Cq Kf tn;subst RH Cq Kf tn;unfold vH at cG⊢;have cG:At ts s.i (FZ b++(O2 b++(JA b++(tM b.mv++q::A)))):=by simpa[bf]using cG
 simp only[aN];unfold FZ at cG hf⊢;by_cases he:b.ini=[]
 ·rw[aR he]at cG hf⊢;rw[aZ]at hf;obtain⟨r0,r1,r2,e1,e2⟩:=SQ hE (f:=f) (n:=⟨nk,nn,[],nd,[],[],[],na⟩) (h:=⟨false,false,false⟩) h0 aE ha hb wK tq hs hn hq cG rfl rfl rfl rfl;refine⟨r0,r1,r2,?_,e2⟩;rw[e1,he];simp only[aZ,bI,cp]
 rw[aO he]at cG hf⊢;simp only[aU]at hf;obtain⟨f,rfl⟩:∃g,f=g+1:=⟨f-1,aE⟩
 have e1:=UJ hE h0 ⟨nk,nn,[],nd,[],[],[],na⟩ (h:=⟨false,false,false⟩) rfl cG;rw[uL hE h0 e1];obtain⟨r0,r1,r2,e3,e4⟩:=SQ hE (n:=⟨nk,nn,b.ini,nd,[],[],[],na⟩) (h:=⟨true,false,false⟩) (s:=di s 3 0 0 0) h0 (f:=f) aE aab aab aab aab hs hn hq cG.tail.tail.tail rfl rfl rfl rfl;refine⟨r0,r1,r2,?_,e4⟩;rw[e3,cJ];simp only[aU,aZ,cp];congr 2<;>omega
theorem yI{s:Sx}(h0:s.fc=0)(k:Int){nm:aH}{A:List K3}(cG:At ts s.i ((1,nm,0)::A))(hn1:1<=s.n)(hn2:s.n<=1000)(hd:s.d≠0):∃a,dY ts k s=({Sm with k:=k,nm:=nm,a:=a},di s 1 0 0 1):=by
 have hu:zn ts s=di s 0 0 0 1:=by
  unfold zn di;rw[aO aE,uK hn1 hn2];simp
 have hr:nW ts s=di s 0 0 0 1:=by
  unfold nW;rw[aR cG.head.1,hu,aO (show ¬(di s 0 0 0 1).d=0 from hd)]
 obtain⟨c1,c2,c3⟩:=sA (s:=di s 0 0 0 1) (k:=1) h0 (q:=(1,nm,0)) (A:=A) cG rfl;refine⟨(fu ts (di s 0 0 0 1) 1).1.a,?_⟩;unfold dY;rw[hr,c1,c3,cJ]
theorem UK{k:Int}(h1:1<=k)(h2:k<=4):Kw (2,kW k,0) nr=k.toNat:=by
 have:k=1∨k=2∨k=3∨k=4:=aE
 rcases this with rfl | rfl | rfl | rfl<;>decide
theorem BP{d:Nat}{b:Nb}{l:List Nd}(h:jM d (.mk b l)=true):1<=b.k/\b.k<=4:=by
 rw[jM]at h;simp only[aP]at h;cases hh:jX b.k with
 | true=>
  have:=aV hh;omega
 | false=>
  have:=(MO h.1.2 hh).1;omega
theorem uM(x:Nd):∃B,JB x=(2,kW x.b.k,0)::B:=by
 obtain⟨b,l⟩:=x;rw[JB];split
 ·exact⟨_,rfl⟩
 exact⟨_,rfl⟩
abbrev MT(ts:List Tk)(f:Nat):Prop:=∀(x:Nd) (deep:Nat) {s:Sx} {A:List K3},jM deep x=true->yY x->s.fc=0->s.d=12-(deep:Int)->13<=deep+f->(n8 x:Int)<=s.n->s.n<=1000->(r9 x:Int)<=s.a->s.a<=1000->(rZ x:Int)<=s.m->s.m<=1000->At ts s.i ((JB x).tail++A)->
 ∃r,jr ts f x.b.k s=(r,di s ((JB x).length-1) (r9 x) (rZ x) (n8 x))/\MR x r
theorem MU{N:Nat}(hN:MT ts N):∀(l:List Nd) (f:Nat) (acc:List Nd) (deep:Nat) {s:Sx},gX deep l=true->uy l->s.fc=0->s.d=12-(deep:Int)->13<=deep+N->l.length<f->(gH l:Int)<=s.n->s.n<=1000->(jN l:Int)<=s.a->s.a<=1000->(kH l:Int)<=s.m->s.m<=1000->∀{A:List K3},At ts s.i (jI l++gC 125::A)->
  ∃r,qi ts (jr ts N) f acc s=(acc++r,di s (jI l).length (jN l) (kH l) (gH l))/\kl MR l r
 | [],f,acc,deep,s,h,hn,h0,hd,NJ,hf,n1,n2,a1,a2,m1,m2,A,cG=>by
  obtain⟨f,rfl⟩:∃g,f=g+1:=⟨f-1,abA⟩
  rw[jI]at cG⊢;have cG:At ts s.i (gC 125::A):=cG;rw[qi,dr h0 cG,aR aL,jN,kH,gH];exact⟨[],by rw[bL,aZ,UG],yH⟩
 | x::l,f,acc,deep,s,h,hn,h0,hd,NJ,hf,n1,n2,a1,a2,m1,m2,A,cG=>by
  rw[aU]at hf;obtain⟨f,rfl⟩:∃g,f=g+1:=⟨f-1,aE⟩
  rw[gX,aP]at h;rw[uy]at hn;rw[gH]at n1⊢;rw[jN]at a1⊢;rw[kH]at m1⊢;rw[jI]at cG⊢;rw[bf]at cG;obtain⟨B,hB⟩:=uM (ts:=ts) hE x;have hk:=BP (ts:=ts) hE (d:=deep) (b:=x.b) (l:=x.kids) (by obtain⟨b,k⟩:=x;exact h.1);have hw:cu ts s nr=x.b.k.toNat:=by
   have oz:=cG;rw[hB]at oz;rw[dr h0 oz];exact UK (ts:=ts) hE hk.1 hk.2
  have Py:(x.b.k.toNat:Int)=x.b.k:=fO aE;have h1:At ts (di s 1 0 0 0).i ((JB x).tail++(jI l++gC 125::A)):=by
   have oz:=cG;rw[hB]at oz⊢;exact oz.tail
  have eu:1<=(JB x).length:=by rw[hB,aU];omega
  obtain⟨r,e1,e2⟩:=hN x deep (s:=di s 1 0 0 0) h.1 hn.1 h0 hd NJ aab aab aab aab aab aab h1;rw[qi,hw,aO aE,Py,gZ,e1];dsimp only;rw[cJ];obtain⟨r2,e3,e4⟩:=MU hN l f (acc++[r]) deep (s:=di s (1+((JB x).length-1)) (0+r9 x) (0+rZ x) (0+n8 x)) h.2 hn.2 h0 hd NJ aE aab aab aab aab aab aab (by
   have h5:=cG.right;have e:s.i+(JB x).length=(di s (1+((JB x).length-1)) (0+r9 x) (0+rZ x) (0+n8 x)).i:=aab
   rw[<-e];exact h5)
  refine⟨r::r2,?_,QS e2 e4⟩;rw[e3,cJ,bf,aN];simp only[dT];congr 2<;>omega
theorem Ec:∀l:List Nd,l.length<=(jI l).length
 | []=>bm _
 | x::l=>by
  have:=Ec l;obtain⟨B,hB⟩:=uM (ts:=ts) hE x;rw[jI,hB,aN,aU,aU];omega
theorem Ed(l:List Nd)(h:∀x,x∈l->1<=x.b.k/\x.b.k<=4)(A:List K3):∃q B,jI l++gC 125::A=q::B/\wi q:=by
 cases l with
 | nil=>
  rw[jI];exact⟨_,_,rfl,by unfold wi;decide⟩
 | cons x l=>
  obtain⟨B,hB⟩:=uM (ts:=ts) hE x;rw[jI,hB];refine⟨_,_,rfl,?_⟩;obtain⟨h1,h2⟩:=h x aM;have:x.b.k=1∨x.b.k=2∨x.b.k=3∨x.b.k=4:=aE
  unfold wi;rcases this with e | e | e | e<;>rw[e]<;>decide
theorem uN{d:Nat}:∀{l:List Nd},gX d l=true->∀x,x∈l->1<=x.b.k/\x.b.k<=4
 | [],_,x,hx=>by simp at hx
 | y::l,h,x,hx=>by
  rw[gX,aP]at h;rcases aX.1 hx with rfl | hx
  ·obtain⟨b,k⟩:=x;exact BP (ts:=ts) hE h.1
  exact uN h.2 x hx
theorem MV{N:Nat}(hN:MT ts N){b:Nb}{l:List Nd}{deep:Nat}{s:Sx}{n:Nb}(hl:gX (deep+1) l=true)(Wm:uy l)(hs:Xp b)(hn:Tc b)(h0:s.fc=0)(hd:s.d=12-(deep:Int))(hdp:deep<12)(NJ:13<=deep+1+N)
  (n1:(gH l:Int)<=s.n) (n2:s.n<=1000) (a1:(uZ b+jN l:Nat)<=s.a) (a2:s.a<=1000) (m1:(b.mv.length+kH l:Nat)<=s.m) (m2:s.m<=1000) {A:List K3} (cG:At ts s.i ((vH b++(jI l++[gC 125]))++A)) (RH:n.ini=[]) (Kf:n.en=[]) (Cq:n.lv=[]) (tn:n.mv=[]):
  ∃r0 r1 r2 r,nV ts (jr ts N) n s=(.mk {n with ini:=b.ini,en:=r0,lv:=r1,mv:=r2} r,di s (vH b++(jI l++[gC 125])).length (uZ b+jN l) (b.mv.length+kH l) (gH l))/\kl (EJ false) b.en r0/\kl (EJ false) b.lv r1/\kl (Tn false) b.mv r2/\kl MR l r:=by
 have cG:At ts s.i (vH b++(jI l++gC 125::A)):=by simpa[bf]using cG
 obtain⟨q,B,Vb,Pb⟩:=Ed hE l (uN hE hl) A;have KI:=At.inr hE (s:=s) (L:=vH b++jI l) (q:=gC 125) (A:=A) (by simpa[bf]using cG) aL;rw[aN]at KI;have Oe:=Eb (ts:=ts) hE b.mv;have N2:=Ec (ts:=ts) hE l;have ans:(FZ b).length+((O2 b).length+((JA b).length+(tM b.mv).length))=(vH b).length:=by unfold vH;simp only[aN]
 have OH:vw s.d=s.d-1:=uK aE aE;have hi1:Ud (s.d-1)=s.d:=by
  unfold Ud;rw[fS aE aE];omega
 have OI:=cG;rw[Vb]at OI;obtain⟨r0,r1,r2,e1,e2,e3,e4⟩:=afj hE (f:=ts.length+1) (n:=n) (s:={s with d:=s.d-1}) h0 aE aaq a2 aaq m2 hs hn Pb OI RH Kf Cq tn;obtain⟨r,e5,e6⟩:=MU hE hN l (ts.length+1) [] (deep+1) (s:=di {s with d:=s.d-1} (vH b).length (uZ b) b.mv.length 0) hl Wm h0 aab NJ aE aab aab aab aab aab aab cG.right;refine⟨r0,r1,r2,r,?_,e2,e3,e4,e6⟩;unfold nV;dsimp only;rw[OH,e1];dsimp only;rw[e5];dsimp only;have e7:({di (di {s with d:=s.d-1} (vH b).length (uZ b) b.mv.length 0) (jI l).length (jN l) (kH l) (gH l)with d:=Ud (di (di {s with d:=s.d-1} (vH b).length (uZ b) b.mv.length 0) (jI l).length (jN l) (kH l) (gH l)).d}:Sx)=di s ((vH b).length+(jI l).length) (uZ b+jN l) (b.mv.length+kH l) (0+gH l):=by
  rw[cJ];unfold di;dsimp only;rw[hi1]
 rw[e7,iv (s:=di s ((vH b).length+(jI l).length) (uZ b+jN l) (b.mv.length+kH l) (0+gH l)) h0 (q:=gC 125) (A:=A) (by
  have h5:=cG.right.right;rw[fb]at h5;exact h5) aL,cJ,cp]
 simp only[aN,aU,aZ];congr 2<;>omega
theorem MW:∀f,MT ts f
 | 0=>by
  intro x deep s A h hn h0 hd NJ;obtain⟨b,l⟩:=x;rw[jM]at h;simp only[aP]at h;have:=aV h.1.1;omega
 | f+1=>by
  intro x deep s A h hn h0 hd NJ n1 n2 a1 a2 m1 m2 cG;obtain⟨b,l⟩:=x;have hk:=BP (ts:=ts) hE h;rw[jM]at h;rw[yY]at hn;rw[n8]at n1⊢;rw[r9]at a1⊢;rw[rZ]at m1⊢;simp only[aP]at h;obtain⟨⟨h1,h2⟩,h3⟩:=h;have h1:=aV h1;show ∃r,jr ts (f+1) b.k s=_/\_;rw[JB]at cG⊢;rw[jr];cases hh:jX b.k with
  | true=>
   obtain⟨g1,g2,g3,g4,g5,g6,g7⟩:=Zo h2 hh;have h34:=aV hh;have hl:l=[]:=bA g7;subst hl;rw[hh,aR rfl]at cG;have cG:At ts s.i ((1,b.nm,0)::UC::(1,b.dft,0)::gC 59::A):=cG;obtain⟨a,e1⟩:=yI hE h0 b.k cG aE n2 aE;rw[aR aE,aR rfl,e1];dsimp only;rw[iv (s:=di s 1 0 0 1) h0 cG.tail aL,cJ,sB (s:=di s (1+1) (0+0) (0+0) (1+0)) h0 cG.tail.tail];dsimp only;rw[iv (s:=di (di s (1+1) (0+0) (0+0) (1+0)) 1 0 0 0) h0 cG.tail.tail.tail aL,cJ,cJ];refine⟨_,?_,BO (b':={Sm with k:=b.k,nm:=b.nm,a:=a,dft:=b.dft}) ⟨rfl,rfl,g3,rfl,by rw[g4];exact yH,by rw[g5];exact yH,by rw[g6];exact yH,BM⟩ yH⟩;congr 1;rw[jN,kH,gH];have:uZ b=0:=by unfold uZ;rw[g4,g5,g6];rfl
   rw[this,g6];rfl
  | false=>
   obtain⟨g1,g2,hs⟩:=MO h2 hh;rw[hh,aO aL]at cG;have cG:At ts s.i ((1,b.nm,0)::gC 123::((vH b++(jI l++[gC 125]))++A)):=cG;obtain⟨a,e1⟩:=yI hE h0 b.k cG aE n2 aE;rw[aO aE,aO aL,e1];dsimp only;rw[iv (s:=di s 1 0 0 1) h0 cG.tail aL,cJ];obtain⟨r0,r1,r2,r,e2,e3,e4,e5,e6⟩:=MV hE (MW f) (deep:=deep) (s:=di s (1+1) (0+0) (0+0) (1+0)) (n:={Sm with k:=b.k,nm:=b.nm,a:=a}) h3 hn.2 hs hn.1 h0 hd h1 aE aab aab aab aab aab aab cG.tail.tail rfl rfl rfl rfl;rw[e2,cJ];refine⟨_,?_,BO (b':={Sm with k:=b.k,nm:=b.nm,a:=a,ini:=b.ini,en:=r0,lv:=r1,mv:=r2}) ⟨rfl,rfl,rfl,g2,e3,e4,e5,BM⟩ e6⟩;congr 2<;>(try simp only[aU])<;>omega
theorem Zz{s:Sx}(h0:s.fc=0){v:Int}(hv:wA v)(hm:v≠ -9223372036854775808){q:K3}{A:List K3}(cG:At ts s.i (wI v++q::A)):
  ∃g:Nat,cu ts s [[45]]=g/\(if g=0 then(fu ts (if g=0 then s else cX s) 3).1.n else ar U (-(fu ts (if g=0 then s else cX s) 3).1.n))=v/\(fu ts (if g=0 then s else cX s) 3).2=di s (wI v).length 0 0 0:=by
 obtain⟨h1,h2⟩:=hv;unfold wI at cG⊢;by_cases hn:v<0
 ·rw[aR hn]at cG⊢;have cG:At ts s.i (gC 45::(3,[], -v)::q::A):=cG;obtain⟨c1,c2,c3⟩:=sA (s:=di s 1 0 0 0) (k:=3) h0 cG.tail rfl;refine⟨1,aaL,?_,?_⟩
  ·rw[aO aL,aO aL,gZ,c2];dsimp only;rw[Int.neg_neg,fS h1 h2]
  rw[aO aL,gZ,c3,cJ];rfl
 rw[aO hn]at cG⊢;have cG:At ts s.i ((3,[],v)::q::A):=cG;obtain⟨c1,c2,c3⟩:=sA (s:=s) (k:=3) h0 cG rfl;exact⟨0,by rw[dr h0 cG];rfl,by rw[aR rfl,aR rfl,c2],by rw[aR rfl,c3];rfl⟩
theorem ZA{s:Sx}(h0:s.fc=0)(v1:1<=s.v)(v2:s.v<=1000){v:Vr}(hv:wA v.v)(hm:v.v≠ -9223372036854775808){A:List K3}(cG:At ts s.i ((MP v).tail++A)):
  ∃r,qY ts s=(r,di {s with v:=s.v-1} (MP v).tail.length 0 0 0)/\VrE false v r:=by
 have cG:At ts s.i ((1,v.n,0)::gC 61::((wI v.v++[gC 59])++A)):=cG;have hu:zo ts s={s with v:=s.v-1}:=by
  unfold zo;rw[aO aE,uK v1 v2]
 unfold qY;dsimp only;rw[aR cG.head.1,hu];generalize NG:({s with v:=s.v-1}:Sx)=s1;have e0:s1.fc=0:=by rw[<-NG];exact h0
 have cG:At ts s1.i ((1,v.n,0)::gC 61::((wI v.v++[gC 59])++A)):=by rw[<-NG];exact cG
 obtain⟨c1,c2,c3⟩:=sA (s:=s1) (k:=1) e0 cG rfl;rw[c1,c3,iv (s:=di s1 1 0 0 0) e0 cG.tail aL,cJ];have h2:At ts (di s1 (1+1) (0+0) (0+0) (0+0)).i (wI v.v++gC 59::A):=by
  have:=cG.tail.tail;rw[bf]at this;exact this
 obtain⟨g,g1,g2,g3⟩:=Zz hE (s:=di s1 (1+1) (0+0) (0+0) (0+0)) e0 hv hm h2;rw[g1,g2,g3,cJ,iv (s:=di s1 (1+1+(wI v.v).length) (0+0+0) (0+0+0) (0+0+0)) e0 (q:=gC 59) (A:=A) (by
  have h5:=h2.right;have e:(di s1 (1+1) (0+0) (0+0) (0+0)).i+(wI v.v).length=(di s1 (1+1+(wI v.v).length) (0+0+0) (0+0+0) (0+0+0)).i:=aab
  rw[<-e];exact h5) aL,cJ]
 refine⟨⟨v.n,v.v,(fu ts s1 1).1.a⟩,?_,⟨rfl,rfl,BM⟩⟩;unfold MP;simp only[List.tail_cons,aU,aN,aZ];congr 2;omega
theorem MX:∀(l:List Vr) (f:Nat) (acc:List Vr) {s:Sx},s.fc=0->l.length<f->(l.length:Int)<=s.v->s.v<=1000->(∀v,v∈l->wA v.v/\v.v≠ -9223372036854775808)->∀{q:K3} {A:List K3},Kw q [sM]=0->At ts s.i (sQ l++q::A)->
  ∃r,qZ ts f acc s=(acc++r,di {s with v:=s.v-l.length} (sQ l).length 0 0 0)/\kl (VrE false) l r
 | [],f,acc,s,h0,hf,v1,v2,hv,q,A,hq,cG=>by
  obtain⟨f,rfl⟩:∃g,f=g+1:=⟨f-1,abA⟩
  have cG:At ts s.i (q::A):=cG;rw[qZ,dr h0 cG,aR hq];refine⟨[],?_,yH⟩;rw[bL];unfold di sQ;simp
 | v::l,f,acc,s,h0,hf,v1,v2,hv,q,A,hq,cG=>by
  rw[aU]at hf v1;obtain⟨f,rfl⟩:∃g,f=g+1:=⟨f-1,aE⟩
  have cG:At ts s.i ((MP v++sQ l)++q::A):=cG;rw[bf]at cG;have OI:At ts s.i ((2,sM,0)::((MP v).tail++(sQ l++q::A))):=cG;obtain⟨r,e1,e2⟩:=ZA hE (s:=di s 1 0 0 0) h0 aab aab (hv v aM).1 (hv v aM).2 OI.tail;rw[qZ,dr h0 OI,aO aL,gZ,e1];dsimp only;have e3:di {di s 1 0 0 0 with v:=(di s 1 0 0 0).v-1} (MP v).tail.length 0 0 0=di {s with v:=s.v-1} (MP v).length 0 0 0:=by
   unfold di MP;simp only[List.tail_cons,aU,Sx.mk.injEq,true_and];refine⟨aE,?_,?_,?_⟩<;>omega
  rw[e3];obtain⟨r2,e4,e5⟩:=MX l f (acc++[r]) (s:=di {s with v:=s.v-1} (MP v).length 0 0 0) h0 aE aab aab (λx hx=>hv x aa4) hq cG.right;refine⟨r::r2,?_,QS e2 e5⟩;rw[e4,bf,aU];simp only[dT];congr 1;unfold di;simp only[sQ,aN,Sx.mk.injEq,true_and];refine⟨aE,aE,?_,?_,?_⟩<;>omega
theorem Ee:∀l:List Vr,l.length<=(sQ l).length
 | []=>aY _
 | v::l=>by
  have:=Ee l;rw[sQ,aN,aU];unfold MP;rw[aU];omega
theorem QW{c:Ch}(h:pR c=true)(hn:Ry c)(cG:At ts 0 (WL c++[(5,[],0)])):(ra ts).2.fc=0/\∀d,ChE false d c (ra ts).1:=by
 unfold pR at h;simp only[aP]at h;obtain⟨⟨h1,h2⟩,h3⟩:=h;replace h3:=aV h3;obtain⟨vars,⟨b,l⟩⟩:=c;have hv:=hn.v;have hr:=hn.r;rw[yY]at hr;rw[jM]at h2;simp only[aP]at h2;obtain⟨⟨_,h4⟩,h5⟩:=h2;dsimp only at h1 h3 hv;obtain⟨q1,q2,q3,q4,q5⟩:=h3;have hk:b.k=1:=q1;rw[n8]at q3;rw[rZ]at q4;rw[r9]at q5;have hh:jX b.k=false:=acI
 obtain⟨_,g2,hs⟩:=MO h4 hh;have zv:∀v,v∈vars->wA v.v/\v.v≠ -9223372036854775808:=λv hx=>by
  have:=(dv.1 h1) v hx;simp only[aP,bC]at this;exact⟨hv v hx,this.2⟩
 unfold WL at cG;have cG:At ts ta.i ((2,dX,0)::(1,b.nm,0)::gC 123::(sQ vars++((vH b++(jI l++[gC 125]))++[(5,[],0)]))):=by
  have e:(2,dX,0)::(1,b.nm,0)::gC 123::(sQ vars++((vH b++(jI l++[gC 125]))++[(5,[],0)]))=(2,dX,0)::(1,b.nm,0)::gC 123::(sQ vars++(vH b++(jI l++[gC 125])))++[(5,[],0)]:=by simp[bf]
  rw[e];exact cG
 have z0:ta.fc=0:=rfl;unfold ra;dsimp only;rw[iv (s:=ta) z0 cG aL];obtain⟨a,e1⟩:=yI hE (s:=di ta 1 0 0 0) z0 1 cG.tail aL aL aL;rw[e1];dsimp only;rw[iv (s:=di (di ta 1 0 0 0) 1 0 0 1) z0 cG.tail.tail aL,cJ,cJ];have Wn:At ts (di ta (1+1+1) (0+0+0) (0+0+0) (0+1+0)).i (sQ vars++((vH b++(jI l++[gC 125]))++[(5,[],0)])):=cG.tail.tail.tail;obtain⟨q,B,hq,hqv⟩:∃q B,(vH b++(jI l++[gC 125]))++[((5,[],0):K3)]=q::B/\Kw q [sM]=0/\q.1≠5:=by
  obtain⟨q,B,j1,j2⟩:=Ed hE l (uN hE h5) [((5,[],0):K3)];have jv:Kw q [sM]=0:=by
   cases l with
   | nil=>
    rw[jI]at j1;have:q=gC 125:=by injection j1 with j _;exact j.symm
    rw[this];decide
   | cons x l=>
    obtain⟨C,hC⟩:=uM (ts:=ts) hE x;rw[jI,hC]at j1;have:q=(2,kW x.b.k,0):=by injection j1 with j _;exact j.symm
    obtain⟨x1,x2⟩:=uN (ts:=ts) hE h5 x aM;have x3:x.b.k=1∨x.b.k=2∨x.b.k=3∨x.b.k=4:=aE
    rw[this];rcases x3 with e | e | e | e<;>rw[e]<;>decide
  have e:(vH b++(jI l++[gC 125]))++[((5,[],0):K3)]=vH b++(jI l++gC 125::[(5,[],0)]):=by simp[bf]
  rw[e,j1];unfold vH FZ O2 JA;by_cases i1:b.ini=[]
  ·rw[aR i1];by_cases i2:b.en=[]
   ·rw[aR i2];by_cases i3:b.lv=[]
    ·rw[aR i3];cases tn:b.mv with
     | nil=>exact⟨q,B,rfl,jv,j2.2.2⟩
     | cons m ms=>
      have:∃w C,H9 m=(2,w,0)::C/\Kw (2,w,0) [sM]=0:=by
       unfold H9 Zl;split
       ·exact⟨_,_,rfl,aL⟩
       split
       ·exact⟨_,_,rfl,aL⟩
       exact⟨_,_,rfl,aL⟩
      obtain⟨w,C,u1,u2⟩:=this;rw[tM,u1];exact⟨_,_,rfl,u2,(by decide:(2:Int)≠5)⟩
    rw[aO i3];exact⟨_,_,rfl,aL,(by decide:(2:Int)≠5)⟩
   rw[aO i2];exact⟨_,_,rfl,aL,(by decide:(2:Int)≠5)⟩
  rw[aO i1];exact⟨_,_,rfl,aL,(by decide:(2:Int)≠5)⟩
 have Wo:=Wn;rw[hq]at Wo;have eu:=Ee (ts:=ts) hE vars;have KI:=At.inr hE Wo hqv.2;obtain⟨rv,e2,e3⟩:=MX hE vars (ts.length+1) [] (s:=di ta (1+1+1) (0+0+0) (0+0+0) (0+1+0)) z0 aE aau aL zv hqv.1 Wo;rw[e2];dsimp only;obtain⟨r0,r1,r2,r,e4,e5,e6,e7,e8⟩:=MV hE (MW hE 14) (deep:=0) (s:=di {di ta (1+1+1) (0+0+0) (0+0+0) (0+1+0)with v:=(di ta (1+1+1) (0+0+0) (0+0+0) (0+1+0)).v-vars.length} (sQ vars).length 0 0 0) (n:={Sm with k:=1,nm:=b.nm,a:=a}) h5 hr.2 hs hr.1 z0 rfl aL aL aau aau aau aau aau aau Wn.right rfl rfl rfl rfl;rw[e4];dsimp only;rw[cJ];refine⟨?_,λd=>⟨by rw[cp];exact e3,BO (b':={Sm with k:=1,nm:=b.nm,a:=a,ini:=b.ini,en:=r0,lv:=r1,mv:=r2}) ⟨hk,rfl,rfl,g2,e5,e6,e7,BM⟩ e8 d⟩⟩;unfold FG;rw[aO]
 ·exact z0
 rintro⟨_,ia⟩;refine ia ?_;have h6:=Wn.right.right.head.1;rw[fb]at h6;exact h6
end
theorem JC{c:Ch}(h:pR c=true)(hn:Ry c)(hl:(ux (we c)).length<=16384):(jm (ux (we c))).2.1=0/\∀d,ChE false d c (jm (ux (we c))).1:=by
 have hq:=Zr h hn;unfold Lq at hq;generalize ux (we c)=L at*
 have OG:jl L (0+L.length)=.ok [⟨5,[],0,((L.length:Nat):Int)⟩]:=by
  have hd:L.drop L.length=[]:=dj (aY _);have h5:jd false []=0:=rfl;rw[bI,jg (aY _),hd,h5,aR aE];rfl
 obtain⟨us,h1,h2⟩:=hq L 0 [] _ (bm _) (by rw[eY,bL]) trivial OG;generalize Px:us++[(⟨5,[],0,((L.length:Nat):Int)⟩:Tk)]=ts at*
 have t1:ch L=(ts,0,0):=by rw[ch,aO aE,h1]
 have hE:od ts:=by
  have:=(tI (l:=L) (by rw[t1])).1;rw[t1]at this;exact this
 have hm:ts.map k3=WL c++[(5,[],0)]:=by rw[<-Px,dx,h2];rfl
 have cG:At ts 0 (WL c++[(5,[],0)]):=λj q hj=>by
  rw[<-hm,cR,fM]at hj;obtain⟨t,g1,rfl⟩:=hj;have:tk ts (0+j)=t:=by
   unfold tk;rw[bI,g1];rfl
  rw[this]
 obtain⟨c1,c2⟩:=QW hE h hn cG;unfold jm;rw[t1];dsimp only;rw[aO aL,aO (by rw[c1];decide)];exact⟨rfl,c2⟩
end Go.Proofs.YtmgndgpgngcgpaaGreatDoor.Con
namespace Go.Kt
open Go Go.RowKit Go.ChangeShapes Go.WideShapes
def yJ{α β:Type}(r:Rp α)(q:Rp β):Rp (α×β):=λw F x cs=>∃c d,cs=c++d/\r w F x.1 c/\q w F x.2 d
def SR:Rp Unit:=λ_ _ _ cs=>cs=[]
def ZB:Rp Bool:=λ_ _ b cs=>cs=[.bool b]
section
variable {H:Type} {enc:TypeId×aw->H} {P:Program}
theorem tf(hl:laidOutB P=true){W W'}{sp}(hb:Below W.heap.size W W'):∀{ts:List TypeId} {vs:List aw} {ds:List _} {ps:List MemPlace},
  (∀t,t∈ts->P.readableRec t=true/\t<P.types.size)->DataW.TrodAll enc P W 0 (λ_=>true) true ts vs ds ps->(∀x,x∈ps->x.block<W.heap.size)->(∀x,x∈ps->sp x.block=true)->DataW.TrodAll enc P W' 0 sp true ts vs ds ps
 | [],vs,ds,ps,_,h,_,_=>by
  obtain⟨rfl,rfl,rfl⟩:=trodAll_nil h;exact trodAll_mk0
 | t::ts,vs,ds,ps,hr,h,cd,OC=>by
  obtain⟨v,vs',d,ds',p,q,rfl,rfl,rfl,h1,h2⟩:=trodAll_cons h;obtain⟨r1,r2⟩:=hr t aM;exact trodAll_cons_mk (WideElems.Trod_stays hl r1 r2 h1 (λx hx=>hb.same (cd x aa4)) λx hx=>OC x aa4)
   (tf hl hb (λu hu=>hr u (by simp[hu])) h2 (λx hx=>cd x aa4) λx hx=>OC x aa4)
theorem law_post{f}{s:ChangeSpec}{fresh handsOn again}{W W'}{args}{ds gs}{before}{tb}
  (hW:DataW.Whole enc P f.params.toList s.vars false W args.toList ds gs before) (hv:s.vars=[])
  (VW:(s.fn H (ds++gs)).results=[.lit (.bool true)]) (hargs:(s.fn H (ds++gs)).args=ds) (zv:(s.fn H (ds++gs)).vars=[])
  (ht:f.resultTypes=#[tb]) (hu:P.underlying tb=some .bool) (hl:laidOutB P=true) (Wp:(f.params.toList.all λt=>P.readableRec t&&decide (t<P.types.size))=true) (hO:Only [] W W'):
  s.post enc P f false fresh handsOn again W args (.bool true) W':=by
 have hb:=hO.below (aY _) aM;have cd:=λp hp=>hW.lt p hp;obtain⟨p,q,hA,hV,rfl,hz,hn⟩:=id hW;rw[hv]at hV;obtain⟨rfl,rfl⟩:=trodVars_none hV;rw[bL]at*
 have Xc:∀sp,_->DataW.TrodAll enc P W' 0 sp true f.params.toList args.toList (s.fn H ds).args p:=λsp OC=>by
  rw[hargs];exact tf hl hb (λt ht=>by simpa using dv.1 Wp t ht) hA (λx hx=>by simpa using cd x hx) OC
 have hV':∀sp,DataW.TrodVars enc P W' sp s.vars (s.fn H ds).vars []:=λsp=>by
  rw[hv,zv];simp[DataW.TrodVars]
 have Tp:∀b sp hd,DataW.TrodAll enc P W' b sp hd f.resultTypes.toList ((Value.bool true).resultList f.resultTypes.size) (s.fn H ds).results []:=λb sp hd=>by
  rw[VW,ht];exact trodAll_cons_mk (shut_bool hu true) trodAll_mk0
 have hold:∀x∈p,(λb=>decide _) x.block=true:=λx hx=>by simpa using cd x hx
 refine⟨ds,[],p,[],p,[],hW,by simpa using Tp _ _ _,by simpa using Xc _ hold,by simpa using hV' _,World.keptBut_mono (λx hx=>⟨hx,aas⟩) (hb.frame _),λ_=>?_⟩;refine⟨ok_one ht rfl (okWide_bool_mk hu true),_,_,_++[],⟨[]++p,[],trodAll_append (Xc _ (λ_ _=>rfl)) (Tp _ _ _),hV' _,rfl,?_,?_⟩,?_⟩
 ·intro b off hp;have hp:=by simpa using hp
  rw[hb.frozen (p:=_) (cd _ hp)];exact hz b off hp
 ·intro ha;cases ha
 intro x hp _;simpa using hp
variable {W:av} {base:Nat} {spare:Nat->Bool} {held:Bool} {α:Type}
def Ak(enc:TypeId×aw->H)(P:Program)(W:av)(base:Nat)(spare:Nat->Bool)(held:Bool)(t:TypeId)(r:Rp α):Prop:=
 ∀eU cs x,DataW.trod enc P W base spare held eU t cs=some x->(∀n,n∈x.1.weights P t->n<=reachBytes)->∃a,r W (λ_=>True) a cs
theorem jJ{t}(ht:P.underlying t=some (.int .i64)):Ak enc P W base spare held t Fh:=λeU cs x h _=>by
 obtain⟨n,rfl,rfl,hw⟩:=DataW.trod_int ht h;refine⟨n,rfl,?_⟩;simpa[Lit.wf,IntKind.min,IntKind.max,IntKind.signed,IntKind.bits,wA]using hw
def rSl(r:Rp α)(size bytes:Nat):Rp (List α):=λw F xs cs=>∃s,cs=[s.v]/\SliceF r size w F s xs/\xs.length*bytes<=140737488351232
theorem ru{e}:∀{l:List _} {d:DataW H},d∈l->∀n,n∈d.weights P e->n∈DataW.weightsAll P e l
 | d0::l,d,hd,n,hn=>by
  simp[DataW.weightsAll,cD];rcases aX.1 hd with rfl | hd
  ·exact .inl hn
  exact .inr (ru hd n hn)
 | [],d,hd,_,_=>by simp at hd
theorem wj{β:Type}{p:Nat->β->Prop}:∀n,(∀i,i<n->∃b,p i b)->∃l:List β,l.length=n/\∀i b,l[i]? =some b->p i b
 | 0,_=>⟨[],rfl,λi b h=>aax⟩
 | n+1,h=>by
  obtain⟨l,h1,h2⟩:=wj n λi hi=>h i aE;obtain⟨b,hb⟩:=h n aE;refine⟨l++[b],acK,λi c hc=>?_⟩;by_cases hi:i<l.length
  ·rw[bT hi]at hc;exact h2 i c hc
  have:i=n:=by
   have:=(bd.1 hc).1;simp at this;omega
  subst this;simp[h1]at hc;rw[<-hc];exact hb
theorem Ak.map{β}{t}{r}{q}(h:Ak enc P W base spare held t r)(f:α->β)(hf:∀a cs,r W (λ_=>True) a cs->q W (λ_=>True) (f a) cs):Ak enc P W base spare held t q:=λeU cs x hx hw=>by
 obtain⟨a,ha⟩:=h eU cs x hx hw;exact⟨f a,hf a cs ha⟩
theorem F1{t}(ht:P.underlying t=some .bool):Ak enc P W base spare held t ZB:=λeU cs x h _=>by
 obtain⟨b,rfl,rfl⟩:=DataW.trod_bool ht h;exact⟨b,rfl⟩
theorem weights_of{ts}{ds}(h:(DataW.weightsEach P ts ds).all (· <=reachBytes)=true)(j:Nat){t}{d:DataW H}(ht:ts[j]? =some t)(hd:ds[j]? =some d):∀n,n∈d.weights P t->n<=reachBytes:=
 λn hn=>by simpa using dv.1 h n (DataW.weights_mem_each ht hd n hn)
end
structure IsBulk {H:Type} (B:DataW H->Nat):Prop where
 one:∀d,1<=B d
 sl:∀e s,(e.map B).sum+1<=B (.slice e s)
 str:∀b,b.length+1<=B (.lit (.string b))
 agg:∀p,(p.map B).sum+1<=B (.agg p)
 ptr:∀d,B d+1<=B (.ptr d)
 iface:∀t d,B d+1<=B (.iface t d)
section
variable {H:Type} {enc:TypeId×aw->H} {P:Program} {W:av} {base:Nat} {spare:Nat->Bool} {held:Bool} {α β:Type} {B:DataW H->Nat}
def ZC:Rp ByteArray:=λ_ _ s cs=>cs=[.string s]/\s.size<=140737488351232
def kn(B:DataW H->Nat)(enc:TypeId×aw->H)(P:Program)(W:av)(base:Nat)(spare:Nat->Bool)(held:Bool)(t:TypeId)(r:Rp α)(m:α->Nat):Prop:=
 ∀eU cs x,DataW.trod enc P W base spare held eU t cs=some x->(∀n,n∈x.1.weights P t->n<=reachBytes)->∃a,r W (λ_=>True) a cs/\m a<=B x.1
theorem jh(hB:IsBulk B){t}{r:Rp α}(h:Ak enc P W base spare held t r):kn B enc P W base spare held t r λ_=>1:=λeU cs x hx hw=>by
 obtain⟨a,ha⟩:=h eU cs x hx hw;exact⟨a,ha,hB.one _⟩
theorem pV(hB:IsBulk B){t}(ht:P.underlying t=some .string):kn B enc P W base spare held t ZC λs=>s.size+1:=λeU cs x h hw=>by
 obtain⟨s,rfl,rfl,hs⟩:=DataW.trod_string ht h;have h1:=hw _ (by simp;exact dG);have e:s.data.toList.length=s.size:=rfl;simp[e,reachBytes]at h1;refine⟨s,⟨rfl,?_⟩,?_⟩
 ·omega
 have:=hB.str s.data.toList;exact this
theorem MY{p}{g:Nat->Nat}:∀{l:List α} {o:Nat},(∀i b,l[i]? =some b->p b<=g (o+i))->(l.map p).sum<=((List.range l.length).map λi=>g (o+i)).sum
 | [],_,_=>aM
 | a::l,o,h=>by
  rw[aU,List.range_succ_eq_map,bG,bG,cr,cr,j8];have ih:=MY (p:=p) (g:=g) (l:=l) (o:=o+1) λi b hb=>by
   have:=h (i+1) b hb;rw[show o+1+i=o+(i+1) by omega];exact this
  refine kX (h 0 a rfl) (bh ih (GH ?_));congr 1;refine qB λi _=>?_;congr 1;omega
theorem pW(hB:IsBulk B){t e}{r:Rp α}{m}{size}(ht:P.underlying t=some (.slice e))(hs:P.cellsOf e=size){bytes}(hb:P.bytesOf e=bytes)(he:kn B enc P W base spare held e r m):
  kn B enc P W base spare held t (rSl r size bytes) λxs=>(xs.map m).sum+1:=λeU cs x h hw=>by
 subst hs;rcases Deep.open_slice ht h with⟨rfl,rfl⟩ | ⟨a,len,cap,mm,n,D,Pl,rfl,_,hl,hm,VX,rfl,Xr⟩
 ·exact⟨[],⟨Sl.nil,rfl,SliceF.nil _ _ _ _,aM⟩,hB.one _⟩
 have hlm:len<=mm:=by rw[VX];split<;>omega
 have hex:∀i,i<len->∃b,(∃Ew,Ew.length=P.cellsOf e/\Cells W _ Ew/\r W _ b Ew)/\m b<=B _:=λi hi=>by
  obtain⟨Ew,g1,g2⟩:=Xr i aE;obtain⟨_,g3,g4⟩:=World.cells?_some g1;obtain⟨b,g5,g6⟩:=he n Ew _ g2 λk hk=>hw k (by
   simp[DataW.weights,ht,aX,cD];exact .inr (.inl (ru (rL.2 ⟨i,List.mem_range.2 hi,rfl⟩) k hk)))
  refine⟨b,⟨Ew,g3,λj v hj=>?_,g5⟩,g6⟩;rw[g4 j (by have:=(bd.1 hj).1;omega)];exact hj
 obtain⟨l,h1,h2⟩:=wj len hex;refine⟨l,⟨⟨some a,len,cap⟩,rfl,⟨h1.symm,hl,λh=>aah,hm,λj x hj=>?_⟩,?_⟩,?_⟩
 ·obtain⟨⟨Ew,g1,g2,g3⟩,_⟩:=h2 j x hj;exact⟨a,Ew,rfl,trivial,g1,g2,g3⟩
 ·have:=hw _ (by simp only[DataW.weights,ht];exact dG);rw[hb]at this;simp[bX,List.length_range,reachBytes]at this;rw[h1];have h3:len*bytes<=(len+(mm-len))*bytes:=ey _ aE;omega
 refine bh (Kn ?_) (hB.sl _ ((List.range _).map λj=>D _));have h4:=MY (p:=m) (g:=λi=>B _) (l:=l) (o:=0) λi b hb=>by
  rw[bI];exact(h2 i b hb).2
 rw[h1]at h4;simpa[Function.comp_def]using h4
def BQ(B:DataW H->Nat)(enc:TypeId×aw->H)(P:Program)(W:av)(base:Nat)(spare:Nat->Bool)(held:Bool)(T off:Nat)(fs:List Field)(r:Rp α)(m:α->Nat):Prop:=
 ∀n (cs:List aw) (xs:List _),cs.length=T->xs.length=fs.length->
  (∀(i:Nat) f,fs[i]? =some f->DataW.trod enc P W base spare held n f.type ((cs.drop f.offset).take (P.cellsOf f.type))=xs[i]?)->
  (∀(i:Nat) f x,fs[i]? =some f->xs[i]? =some x->∀k,k∈x.1.weights P f.type->k<=reachBytes)->∃a,r W (λ_=>True) a (cs.drop off)/\m a<=(xs.map λx=>B x.1).sum
theorem BR{T off}(h:T=off):BQ B enc P W base spare held T off [] SR λ_=>0:=λn cs xs hl _ _ _=>⟨(),by
 exact List.drop_eq_nil_of_le aE,bm _⟩
theorem fC{T off s}{f}{fs}{r:Rp α}{q:Rp β}{m}{m'}(ho:f.offset=off)(hs:P.cellsOf f.type=s)(hr:kn B enc P W base spare held f.type r m)(hq:BQ B enc P W base spare held T (off+s) fs q m'):
  BQ B enc P W base spare held T off (f::fs) (yJ r q) λx=>m x.1+m' x.2:=λn cs xs hl hx hf hw=>by
 cases xs with
 | nil=>simp at hx
 | cons x xs=>
  have h0:=hf 0 f rfl;rw[ho,hs]at h0;obtain⟨a,ha,Ez⟩:=hr n _ x h0 (hw 0 f x rfl rfl);obtain⟨b,hb,mH⟩:=hq n cs xs hl aas (λi g hg=>hf (i+1) g hg) (λi g y hg hy=>hw (i+1) g y hg hy);exact⟨(a,b),⟨_,_,by rw[<-iP,eL],ha,hb⟩,kX Ez mH⟩
theorem oq(hB:IsBulk B){t}{fs}{T}{r:Rp α}{m}(ht:P.underlying t=some (.struct fs))(hT:P.cellsOf t=T)(hF:BQ B enc P W base spare held T 0 fs.toList r m):kn B enc P W base spare held t r λx=>m x+1:=λeU cs x h hw=>by
 obtain⟨xs,n,rfl,rfl,hl,JR,hf⟩:=DataW.trod_struct ht h;obtain⟨a,ha,Ez⟩:=hF n cs xs aE (by simpa using JR) (λi f hi=>hf i f aaC) (λi f x hi hx k hk=>hw k (by
  simp[DataW.weights,ht];refine DataW.weights_mem_each (j:=i) ?_ acE k hk;simp only[Array.toList_map,cR,hi];rfl))
 refine⟨a,by simpa using ha,bh (Kn Ez) ?_⟩;have:=hB.agg (xs.map (·.1));rwa[j8]at this
theorem kn.map{t}{r}{q}{m}{m'}(h:kn B enc P W base spare held t r m)(f:α->β)(hf:∀a cs,r W (λ_=>True) a cs->q W (λ_=>True) (f a) cs/\m' (f a)<=m a):kn B enc P W base spare held t q m':=λeU cs x hx hw=>by
 obtain⟨a,ha,Ez⟩:=h eU cs x hx hw;obtain⟨h1,h2⟩:=hf a cs ha;exact⟨f a,h1,bh h2 Ez⟩
theorem argB_struct{t}{fs}{r}{m}{b0}{v}{d}{p}(ht:P.underlying t=some (.struct fs))(qE:Value.okWide P W .any b0 t v)(h:DataW.Trod enc P W base spare held t v d p)
  (nI:kn B enc P W base spare held t r m) (hw:∀n,n∈d.weights P t->n<=reachBytes):∃(a:α) (cs:List aw),v=.agg cs.toArray/\r W (λ_=>True) a cs/\m a<=B d:=by
 obtain⟨cs,rfl,_⟩:=okWide_struct ht qE;obtain⟨eU,hf⟩:=h;obtain⟨a,ha,Ez⟩:=nI eU _ _ hf hw;exact⟨a,cs.toList,aM,ha,Ez⟩
theorem sum_one:∀l:List α,(l.map λ_=>1).sum=l.length
 | []=>rfl
 | _::l=>by rw[bG,cr,sum_one l,aU];omega
end
end Go.Kt
namespace Go.Proofs.YtmgndgpgngcgpaaGreatDoor.Con
open Go Go.RowKit Go.Kt Go.Kt.V Go.Proofs.YtmgndgpgngcgpaaGreatDoor.Vc Go.ChangeShapes Go.WideShapes
theorem MZ{D E:Type}{B:D->Nat}{sz:E->Nat}{Q:Nat->E->Prop}:∀(xs:List D) (o:Nat),(∀j y,xs[j]? =some y->∃e,Q (o+j) e/\sz e<=B y)->
  ∃l:List E,l.length=xs.length/\(∀j e,l[j]? =some e->Q (o+j) e)/\(l.map sz).sum<=(xs.map B).sum
 | [],o,_=>⟨[],rfl,λj p h=>aax,aY _⟩
 | x::xs,o,h=>by
  obtain⟨e,h1,h2⟩:=h 0 x rfl;obtain⟨l,h3,h4,h5⟩:=MZ (B:=B) (sz:=sz) (Q:=Q) xs (o+1) λj y hj=>by
   have:=h (j+1) y hj;rwa[fb,lO 1 j]
  refine⟨e::l,by rw[aU,aU,h3],λj p hj=>?_,?_⟩
  ·cases j with
   | zero=>
    simp only[cW,bg]at hj;subst hj;exact h1
   | succ j=>
    have:=h4 j p hj;rwa[fb,lO 1 j]at this
  rw[bG,cr,bG,cr];exact kX h2 h5
theorem Ef{n:Nat}:∀{l:List Nat},n∈l->n<=l.sum
 | [],h=>aax
 | x::l,h=>by
  rw[cr];rcases aX.1 h with rfl | h
  ·omega
  have:=Ef h;omega
theorem M0{E:Type}(f:E->Nat):∀(l:List E),∃m,∀p,p∈l->f p<=m
 | []=>⟨0,λp h=>aax⟩
 | x::l=>by
  obtain⟨m,h⟩:=M0 f l;refine⟨max (f x) m,λp hp=>?_⟩;rcases aX.1 hp with rfl | hp
  ·exact xv _ _
  exact bh (h p hp) (vV _ _)
theorem SS{α β:Type}{r:Rp α}{q:Rp β}{size:Nat}{w:av}{F:aJ}{s:Sl}{xs:List α}(f:α->β)(h:aA r size w F s xs)(hf:∀x cs,x∈xs->r w F x cs->q w F (f x) cs):aA q size w F s (xs.map f):=by
 refine⟨by rw[bX];exact h.len,h.cap,h.nil0,h.big,λj y hj=>?_⟩;rw[cR,fM]at hj;obtain⟨x,hx,rfl⟩:=hj;obtain⟨bs,cs,g1,g2,g3,g4,g5⟩:=h.at_ j x hx;exact⟨bs,cs,g1,g2,g3,g4,hf x cs (bF hx) g5⟩
theorem SU{α:Type}{r:Rp α}{size:Nat}{w:av}{F:aJ}{s:Sl}{xs:List α}(h:aA r size w F s xs){x:α}(hx:x∈xs):∃cs,r w F x cs:=h.mem hx
def rXU:Rp (Ex×Nat):=λw F x cs=>rE false w F x.1 cs/\Js x.1/\yV x.1<=x.2
def ZD:Rp (Ac×Nat):=λw F x cs=>sN false w F x.1 cs/\Ab x.1/\DX x.1<=x.2
def rMvU:Rp (Mv×Nat):=λw F x cs=>zq false w F x.1 cs/\IV x.1/\DY x.1+2<=x.2
theorem Ig:∀l:List Ex,OZ l=(l.map yV).sum
 | []=>rfl
 | x::l=>by rw[OZ,bG,cr,Ig l]
theorem Eg:∀l:List Ac,iG l=(l.map DX).sum
 | []=>rfl
 | x::l=>by rw[iG,bG,cr,Eg l]
theorem Ih{α:Type}{f:α->Nat}:∀{l:List (α×Nat)},(∀x,x∈l->f x.1<=x.2)->((l.map (·.1)).map f).sum<=(l.map λx=>x.2).sum
 | [],_=>aY _
 | x::l,h=>by
  rw[bG,bG,cr,bG,cr];exact kX (h x aM) (Ih λy hy=>h y (by simp[hy]))
theorem bsz(s:aK):s.data.toList.length=s.size:=by rw[qA];rfl
section
variable {H:Type} {enc:TypeId×aw->H} {W:av} {base:Nat} {spare:Nat->Bool} {held:Bool} {B:DataW H->Nat}
def UL(enc:TypeId×aw->H)(W:av)(base:Nat)(spare:Nat->Bool)(held:Bool)(t:TypeId):Rp (DataW H):=λ_ _ x cs=>∃eU p,DataW.trod enc aq W base spare held eU t cs=some (x,p)/\∀n,n∈x.weights aq t->n<=reachBytes
theorem M1(hB:IsBulk B)(t:TypeId):kn B enc aq W base spare held t (UL enc W base spare held t) B:=λeU cs x h hw=>⟨x.1,⟨eU,x.2,h,hw⟩,aY _⟩
theorem JD(hB:IsBulk B):kn B enc aq W base spare held 40 (yJ Fh (yJ Fh (yJ ZC (yJ Fh (yJ (rSl (UL enc W base spare held 40) 6 72) (yJ Fh SR))))))
  λx=>(1+(1+((x.2.2.1.size+1)+(1+(((x.2.2.2.2.1.map B).sum+1)+(1+0))))))+1:=by
 have h:=oq (enc:=enc) (P:=aq) (W:=W) (base:=base) (spare:=spare) (held:=held) (T:=6) hB Tryz.underlying40 (by kernel_rfl)
  (fC (s:=1) rfl (by kernel_rfl) (jh hB (jJ Tryz.underlying3)) (fC (s:=1) rfl (by kernel_rfl) (jh hB (jJ Tryz.underlying3)) (fC (s:=1) rfl (by kernel_rfl) (pV hB Tryz.underlying9) (fC (s:=1) rfl (by kernel_rfl) (jh hB (jJ Tryz.underlying3)) (fC (s:=1) rfl (by kernel_rfl) (pW (size:=6) (bytes:=72) hB Tryz.underlying38 (by kernel_rfl) (by kernel_rfl) (M1 hB _)) (fC (s:=1) rfl (by kernel_rfl) (jh hB (jJ Tryz.underlying3)) (BR rfl)))))))
 exact h
theorem M2(hB:IsBulk B):∀(N:Nat) {x:DataW H} {cs:aI} {F:aJ},B x<=N->UL enc W base spare held 40 W F x cs->∃(e:Ex) (d:Nat),Ks false d W (λ_=>True) e cs/\Js e/\yV e<=B x
 | 0,x,cs,F,h,_=>by have:=hB.one x;omega
 | N+1,x,cs,F,h,⟨eU,p,ht,hw⟩=>by
  obtain⟨⟨k,n,s,op,xs,a,u⟩,hr,hm⟩:=JD (enc:=enc) (W:=W) (base:=base) (spare:=spare) (held:=held) hB eU cs (x,p) ht hw;obtain⟨c1,r1,rfl,⟨rfl,i1⟩,c2,r2,rfl,⟨rfl,i2⟩,c3,r3,rfl,⟨rfl,i3⟩,c4,r4,rfl,⟨rfl,i4⟩,c5,r5,rfl,⟨sl,rfl,xo,_⟩,c6,r6,rfl,⟨rfl,i6⟩,hu⟩:=hr;have hu:r6=[]:=hu;subst hu;dsimp only at hm xo i1 i2 i3;have RD:∀y,y∈xs->B y<=(xs.map B).sum:=λy hy=>Ef (List.mem_map_of_mem hy);obtain⟨l,l1,l2,l3⟩:=MZ (B:=B) (sz:=λe:Ex×Nat=>yV e.1) (Q:=λj e=>∃base cs,sl.a=some base/\cs.length=6/\aB W (base.add (j*6)) cs/\Ks false e.2 W (λ_=>True) e.1 cs/\Js e.1) xs 0 λj y hj=>by
   rw[bI];obtain⟨bs,ds,g1,g2,g3,g4,g5⟩:=xo.at_ j y hj;obtain⟨e,d,t1,t2,t3⟩:=M2 hB N (x:=y) (by have:=RD y (bF hj);omega) g5;exact⟨(e,d),⟨bs,ds,g1,g3,g4,t1,t2⟩,t3⟩
  obtain⟨m,hmx⟩:=M0 (λe:Ex×Nat=>e.2) l;refine⟨.mk k n s.data.toList op (l.map (·.1)) a,m+1,⟨sl,?_,?_,λh=>aah⟩,λd=>?_,?_⟩
  ·have e:kD k n s.data.toList op sl a=[O U k,O U n,ab s,O U op,sl.v,O U a]:=by
    show[_,_,Value.string (T s.data.toList),_,_,_]=_;rw[<-CU s]
   exact e.symm
  ·refine⟨by rw[Ex.dq,bX,l1];exact xo.len,xo.cap,xo.nil0,xo.big,λj e hj=>?_⟩;rw[Ex.dq,cR,fM]at hj;obtain⟨q,q1,rfl⟩:=hj;obtain⟨bs,ds,g1,g2,g3,g4,g5⟩:=l2 j q q1;rw[bI]at g3;exact⟨bs,ds,g1,trivial,g2,g3,FH (hmx q (bF q1)) g4⟩
  ·cases d with
   | zero=>trivial
   | succ d=>
    refine⟨i2,λy hy=>?_⟩;obtain⟨q,q1,rfl⟩:=rL.1 hy;obtain⟨j,hj⟩:=lc q1;obtain⟨bs,ds,g1,g2,g3,g4,g5⟩:=l2 j q hj;exact g5 d
  rw[FI];show OZ (l.map (·.1))+(s.data.toList.length+1)<=_;rw[Ig,j8,bsz];have e:(l.map (yV∘λx=>x.1)).sum=(l.map λe:Ex×Nat=>yV e.1).sum:=rfl;omega
theorem Al(hB:IsBulk B):kn B enc aq W base spare held 40 rXU λx=>x.2:=λeU cs x h hw=>by
 obtain⟨e,d,h1,h2,h3⟩:=M2 hB (B x.1) (x:=x.1) (F:=λ_=>True) (aY _) ⟨eU,x.2,h,hw⟩;exact⟨(e,B x.1),⟨⟨d,h1⟩,h2,h3⟩,aY _⟩
theorem JE(hB:IsBulk B):kn B enc aq W base spare held 139 ZD λx=>x.2:=by
 have h:=oq (enc:=enc) (P:=aq) (W:=W) (base:=base) (spare:=spare) (held:=held) (T:=9) hB Tryz.underlying139 (by kernel_rfl)
  (fC (s:=1) rfl (by kernel_rfl) (jh hB (jJ Tryz.underlying3)) (fC (s:=1) rfl (by kernel_rfl) (pV hB Tryz.underlying9) (fC (s:=6) rfl (by kernel_rfl) (Al hB) (fC (s:=1) rfl (by kernel_rfl) (jh hB (jJ Tryz.underlying3)) (BR rfl)))))
 refine h.map (λx=>((⟨x.1,x.2.1.data.toList,x.2.2.1.1,x.2.2.2.1⟩:Ac),x.2.2.1.2+(x.2.1.size+1))) ?_;rintro⟨k,n,⟨e,m⟩,a,u⟩ cs ⟨c1,r1,rfl,⟨rfl,i1⟩,c2,r2,rfl,⟨rfl,i2⟩,c3,r3,rfl,⟨he,hn,hz⟩,c4,r4,rfl,⟨rfl,i4⟩,hu⟩;have hu:r4=[]:=hu;subst hu;refine⟨⟨⟨c3,?_,he⟩,hn,?_⟩,aaq⟩
 ·show _=_::Value.string (T n.data.toList)::_;rw[<-CU n];simp
 show yV e+(n.data.toList.length+1)<=_;rw[bsz];dsimp only at hz⊢;omega
theorem UM{w:av}{F:aJ}{s:Sl}{xs:List (Ac×Nat)}(h:aA ZD 9 w F s xs):ja false (sN false) 9 139 w F s (xs.map (·.1))/\(∀a,a∈xs.map (·.1)->Ab a)/\iG (xs.map (·.1))<=(xs.map λx=>x.2).sum:=by
 refine⟨⟨SS (·.1) h λx cs _ hx=>hx.1,λh=>aah⟩,λa ha=>?_,?_⟩
 ·obtain⟨x,hx,rfl⟩:=rL.1 ha;obtain⟨cs,hc⟩:=SU h hx;exact hc.2.1
 rw[Eg];exact Ih λx hx=>by
  obtain⟨cs,hc⟩:=SU h hx;exact hc.2.2
theorem opensB_mv(hB:IsBulk B):kn B enc aq W base spare held 43 rMvU λx=>x.2:=by
 have h:=oq (enc:=enc) (P:=aq) (W:=W) (base:=base) (spare:=spare) (held:=held) (T:=13) hB Tryz.underlying43 (by kernel_rfl)
  (fC (s:=1) rfl (by kernel_rfl) (jh hB (jJ Tryz.underlying3)) (fC (s:=1) rfl (by kernel_rfl) (pV hB Tryz.underlying9) (fC (s:=1) rfl (by kernel_rfl) (jh hB (jJ Tryz.underlying3)) (fC (s:=1) rfl (by kernel_rfl) (jh hB (F1 Tryz.underlying4)) (fC (s:=6) rfl (by kernel_rfl) (Al hB)
  (fC (s:=1) rfl (by kernel_rfl) (pW (size:=9) (bytes:=104) hB Tryz.underlying23 (by kernel_rfl) (by kernel_rfl) (JE hB)) (fC (s:=1) rfl (by kernel_rfl) (pW (size:=1) (bytes:=16) hB Tryz.underlying41 (by kernel_rfl) (by kernel_rfl) (pV hB Tryz.underlying9)) (fC (s:=1) rfl (by kernel_rfl) (jh hB (jJ Tryz.underlying3)) (BR rfl)))))))))
 refine h.map (λx=>((⟨x.1,x.2.1.data.toList,x.2.2.1,x.2.2.2.1,x.2.2.2.2.1.1,x.2.2.2.2.2.1.map (·.1),x.2.2.2.2.2.2.1.map λs=>s.data.toList,x.2.2.2.2.2.2.2.1⟩:Mv),(((x.2.2.2.2.2.1.map λx=>x.2).sum+x.2.2.2.2.1.2)+((x.2.2.2.2.2.2.1.map λs=>s.size+1).sum+(x.2.1.size+1)))+2)) ?_;rintro⟨k,ev,wt,gd,⟨g,m⟩,ac,tg,a,u⟩ cs ⟨c1,r1,rfl,⟨rfl,i1⟩,c2,r2,rfl,⟨rfl,i2⟩,c3,r3,rfl,⟨rfl,i3⟩,c4,r4,rfl,h4,c5,r5,rfl,⟨he,hn,hz⟩,c6,r6,rfl,⟨nM,rfl,EZ,_⟩,c7,r7,rfl,⟨tsl,rfl,za,_⟩,c8,r8,rfl,⟨rfl,i8⟩,hu⟩;have hu:r8=[]:=hu;have h4:c4=[aj gd]:=h4;subst hu h4;obtain⟨a1,a2,a3⟩:=UM EZ;have ahL:aA jR 1 W (λ_=>True) tsl (tg.map λs=>s.data.toList):=SS (λs=>s.data.toList) za λx cs _ hx=>by
  obtain⟨rfl,_⟩:=hx;show _=[Value.string (T x.data.toList)]
  rw[<-CU x]
 refine⟨⟨⟨c5,nM,tsl,?_,he,a1,⟨ahL,λh=>aah⟩⟩,⟨hn,a2,i3⟩,?_⟩,aaq⟩
 ·show _=_::Value.string (T ev.data.toList)::_;rw[<-CU ev];simp
 show(iG (ac.map (·.1))+yV g)+(Cz (tg.map λs=>s.data.toList)+(ev.data.toList.length+1))+2<=_;have e:Cz (tg.map λs=>s.data.toList)=(tg.map λs=>s.size+1).sum:=by
  unfold Cz;rw[j8];congr 1
 rw[e,bsz];dsimp only at hz a3⊢;omega
end
theorem JF{c:Ch}(hn:Ry c):tK c=gn c:=by
 unfold tK gn;by_cases h1:pR c=true
 ·rw[aR h1,aR h1];by_cases h2:16384<(cZ [] (we c)).length
  ·rw[aR h2,aR h2]
  rw[aO h2,aO h2];have e:=FM (we c) [] aE;rw[cp]at e;have hl:=JC h1 hn (by rw[<-e];omega);rw[e,aO (by rw[hl.1];decide)]
 rw[aO h1,aO h1]
def ot(l:aH):Prop:=∀c,c∈l->c≠10
theorem ot.mU{l m:aH}(h:ot l)(g:ot m):ot (l++m):=λc hc=>(cD.1 hc).elim (h c) (g c)
theorem ot.cons{x:UInt8}{l:aH}(h:x≠10)(g:ot l):ot (x::l):=λc hc=>by
 rcases aX.1 hc with rfl | hc
 ·exact h
 exact g c hc
theorem ot.nil:ot []:=λc hc=>by cases hc
theorem iX{l:aH}(h:(l.all λc=>c !=10)=true):ot l:=λc hc=>by
 have:=dv.1 h c hc;simpa using this
theorem M3{l:aH}(h:l.takeWhile dM=l):ot l:=λc hc e=>by
 subst e;have:=EO (p:=dM) (l:=l);rw[h]at this;exact absurd (dv.1 this _ hc) aL
theorem ph{s:aH}(h:cN s=true):ot s:=by
 unfold cN at h;simp only[aP,bC]at h;exact M3 h.1.2
theorem Ii{n:Int}(h:0<=n):ot (Lib.itoa n):=λc hc e=>by
 subst e;rw[ml h]at hc;exact absurd (uJ n.toNat _ hc) aL
theorem M4(k:Nat):ot (dl k):=by
 unfold dl;cases h:qp[k]? with
 | none=>exact ot.nil
 | some x=>
  have fm:(qp.all λl=>l.all λc=>c !=10)=true:=by kernel_rfl
  exact iX (dv.1 fm x (bF h))
theorem QX{l:aH}(wr:Bool)(h:ot l):ot (opn wr l):=by
 unfold opn;split
 ·exact h.mU (iX rfl)
 exact h
theorem QY{l:aH}(wr:Bool)(h:ot l):ot (clo wr l):=by
 unfold clo;split
 ·exact h.mU (iX rfl)
 exact h
theorem BS:∀(d:Nat) {x:Ex} {wr:Bool} {l:aH},cf d x=true->ot l->ot (mF d x wr l)
 | 0,x,wr,l,_,h=>h
 | d+1,x,wr,l,hs,h=>by
  unfold mF;split
  ·exact h
  rw[cf,aP]at hs;obtain⟨hh,ha⟩:=hs;have ho:=QX wr h;refine QY wr ?_;unfold fH at hh;have sub:∀y,y∈x.dq->cf d y=true:=λy hy=>by
   have:∀{l:List Ex},iB (cf d) l=true->∀y,y∈l->cf d y=true:=fun{l}=>by
    induction l with
    | nil=>intro _ y hy;cases hy
    | cons a l ih=>
     intro h y hy;rw[iB,aP]at h;rcases aX.1 hy with rfl | hy
     ·exact h.1
     exact ih h.2 y hy
   exact this ha y hy
  by_cases h1:x.k=1
  ·rw[aR h1]at hh⊢;refine ho.mU (Ii ?_);have:=(qU hh).1;omega
  rw[aO h1]at hh⊢;by_cases h2:x.k=2
  ·rw[aR (.inl h2),aP]at hh;rw[aR h2];exact ho.mU (ph hh.1)
  rw[aO h2];by_cases h3:x.k=3
  ·rw[aR (.inr h3),aP]at hh;rw[aR h3];exact ho.mU (((iX rfl).mU (ph hh.1)).mU (iX rfl))
  rw[aO h3];by_cases h4:x.k=4
  ·rw[aR h4];split
   ·rename_i y hy;exact BS d (sub y aaM) (ho.mU (M4 _))
   exact h
  rw[aO h4];split
  ·rename_i y z hy;exact BS d (sub z aaM) ((BS d (sub y aaM) ho).mU (((iX rfl).mU (M4 _)).mU (iX rfl)))
  exact h
theorem M5(x:Ex):ot (qD x):=by
 unfold qD ld;split
 ·rename_i hs;split
  ·exact ot.nil
  exact BS _ hs ot.nil
 exact ot.nil
theorem UN{a:Ac}(h:fx a=true):ot (u6 a):=by
 unfold fx at h;simp only[aP]at h;have hn:=ph h.1.2;unfold u6;split
 ·exact(iX rfl).mU (.cons aL (hn.mU (iX rfl)))
 refine ot.mU ?_ (.cons aL (hn.mU (.cons aL (.cons aL (.cons aL ((M5 _).mU (iX rfl)))))));split
 ·exact iX rfl
 exact iX rfl
theorem Ij:∀{l:List Ac},l.all fx=true->ot (tH l)
 | [],_=>ot.nil
 | a::l,h=>by
  rw[fp,aP]at h;exact .cons aL ((UN h.1).mU (Ij h.2))
theorem M6:∀{l:List (aH)},l.all cN=true->ot (zr l)
 | [],_=>ot.nil
 | a::l,h=>by
  rw[fp,aP]at h;exact .cons aL (.cons aL ((ph h.1).mU (M6 h.2)))
theorem M7{m:Mv}(h:jo m=true):ot (sO m)/\∃c l,sO m=c::l/\c≠32:=by
 unfold jo at h;simp only[aP,bC]at h;obtain⟨⟨⟨⟨⟨h1,h2⟩,h3⟩,h4⟩,h5⟩,h6⟩:=h;have hd:ot (Jt m)/\∃c l,Jt m=c::l/\c≠32:=by
  unfold Jt;by_cases k1:m.k=1
  ·rw[aR k1]at h2⊢;exact⟨(iX rfl).mU (.cons aL (ph h2)),_,_,rfl,aL⟩
  rw[aO k1];by_cases k3:m.k=3
  ·rw[aR k3];exact⟨(iX rfl).mU (.cons aL (Ii aE)),_,_,rfl,aL⟩
  rw[aO k3];exact⟨iX rfl,_,_,rfl,aL⟩
 unfold sO;refine⟨hd.1.mU (ot.mU ?_ (ot.mU ?_ (ot.mU ?_ (iX rfl)))),?_⟩
 ·unfold Hz;split
  ·exact .cons aL (.cons aL ((M5 _).mU (iX rfl)))
  exact ot.nil
 ·split
  ·exact ot.nil
  unfold sI;exact .cons aL (.cons aL ((Ij h4).mU (iX rfl)))
 ·split
  ·exact ot.nil
  rename_i s l e;rw[e,fp,aP]at h5;exact .cons aL (.cons aL (.cons aL (.cons aL ((ph h5.1).mU (M6 h5.2)))))
 obtain⟨c,l,e,hc⟩:=hd.2;rw[e];exact⟨c,_,rfl,hc⟩
theorem M8{m:aH}:∀{l:aH},ot l->Lib.indexByte (l++10::m) 10=(l.length:Nat)
 | [],_=>rfl
 | c::l,h=>by
  have ih:=M8 (m:=m) (l:=l) λx hx=>h x (.tail _ hx);have hc:=h c (.head _);rw[cy,Lib.indexByte,aO aaf,ih,aO (by rw[dy];omega),aU];rfl
theorem Ik{l m:aH}(h:ot l):Lib.indexB (T (l++10::m)) (T [10])=(l.length:Nat):=by
 show Lib.index (l++10::m) [10]=_;rw[Lib.index_one];exact M8 h
theorem QZ{l1 l2 l3:aH}(h1:ot l1)(h2:ot l2):∃k,Lib.countB (T (l1++10::(l2++10::l3))) (T [10])=k+2/\(Lib.splitB (T [10]) 0 (k+2) (T (l1++10::(l2++10::l3))))[1]? =some (T l2):=by
 have e1:=Ik (m:=l2++10::l3) h1;have e2:=Ik (m:=l3) h2;have x1:(T (l1++10::(l2++10::l3))).extract (l1.length+(T [10]).size) (T (l1++10::(l2++10::l3))).size=T (l2++10::l3):=by
  rw[oJ,bO,bO,Ki,dj aM,cp,bU aae];congr 1;rw[show l1.length+([10]:aH).length-l1.length=1 by simp];rfl
 refine⟨Lib.countB ((T (l2++10::l3)).extract (l2.length+(T [10]).size) (T (l2++10::l3)).size) (T [10]),?_,?_⟩
 ·rw[Lib.countB_hit _ _ _ aL e1,x1,Lib.countB_hit _ _ _ aL e2];omega
 rw[Lib.splitB_hit _ _ _ _ _ e1,gL,x1,Lib.splitB_hit _ _ _ _ _ e2,cW,oJ];congr 2;rw[eY,rM,gz,List.take_left]
def cM(m:Mv):Ch:=⟨[],.mk ⟨1,[99],[],[],[],[],[m],0⟩ []⟩
def wk(m:Mv):aH:=if(gn (cM m)).2=0 then sO m else[]
theorem ZE{m:Mv}(h:(gn (cM m)).2=0):jo m=true:=by
 unfold gn at h;split at h
 ·rename_i hc;unfold pR cM at hc;simp only[aP]at hc;have:=hc.1.2;rw[jM,aP,aP]at this;have:=this.1.2;unfold rh at this;rw[aP]at this;have:=this.2;rw[aO (by show ¬jX 1=true;decide)]at this;simp only[aP,fp]at this;exact this.2.1
 exact absurd h (by show ¬(22:Int)=0;decide)
theorem Q0{m:Mv}(h:(gn (cM m)).2=0):(gn (cM m)).1=(dX++[32,99,32,123])++10::((32::32::sO m)++10::[125,10]):=by
 unfold gn at h⊢;split at h
 ·rename_i hc;rw[aR hc];split at h
  ·exact absurd h (by show ¬(2:Int)=0;decide)
  rename_i hl;rw[aO hl];show cZ [] _=_;rw[FM _ _ aE,cp];simp[we,cM,yW,ri,FL,HA,WH,lD,ux,So,qs,Nd.b,Nd.kids]
 exact absurd h (by show ¬(22:Int)=0;decide)
theorem Q1{m:Mv}(h:jo m=true):Lib.trimLeftB (32::32::sO m) 32=sO m:=by
 obtain⟨_,c,l,e,hc⟩:=M7 h;rw[e];unfold Lib.trimLeftB;have hc:(c==32)=false:=aaf
 simp[List.dropWhile,hc]
end Go.Proofs.YtmgndgpgngcgpaaGreatDoor.Con
namespace Go.Kt
open Go Go.RowKit
end Go.Kt
