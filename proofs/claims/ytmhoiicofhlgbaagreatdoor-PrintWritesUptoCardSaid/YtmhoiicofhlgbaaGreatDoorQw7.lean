import Derived.Test.YtmhoiicofhlgbaaGreatDoorQw6
set_option linter.unusedSectionVars false
namespace Go.Proofs.YtmhoiicofhlgbaaGreatDoor.Con
open Go.Value renaming int->O,string->ab,pointer->ae,agg->ah,tuple->ai,bool->aj
open Go.IntKind renaming i64->U,wrap->ar
open Go.Ending renaming returned->ak
open _root_.ByteArray renaming mk->ao
open _root_.Go.Proofs.Tryz renaming prog->aq
open Go.Instr renaming buildSlice->au
open Go renaming World->av,Value->aw,Calls->az
open Go.Kt renaming Only->ay
open Go Go.RowKit Go.Kt Go.Kt.V
set_option linter.unusedSimpArgs false
set_option linter.unusedVariables false
set_option maxHeartbeats 4000000
structure Em (ts lw:List Tk) (n o:Nat):Prop where
 e:∀i,n<=i->(tk ts i).k=5
 s:∀i,i<n->(tk lw (o+i)).k=(tk ts i).k/\(tk lw (o+i)).t=(tk ts i).t/\(tk lw (o+i)).n=(tk ts i).n
 c:(tk lw (o+n)).k=4/\((tk lw (o+n)).t=[59]∨(tk lw (o+n)).t=[93])
def Rm (n o:Nat) (r r':Pr):Prop:=∀x j,r=.ok (x,j)->∃x',r'=.ok (x',o+j)/\Sim x x'/\j<=n
theorem Ej (op:Nat):dh op≠[59]/\dh op≠[93]:=by
 rcases jP op 16 with h | h
 ·have:∀q,q<16->dh q≠[59]/\dh q≠[93]:=by decide
  exact this op h
 ·unfold dh;rw[cr (by exact h)];decide
section
variable {ts lw:List Tk} {n o:Nat}
theorem Em.lt (h:Em ts lw n o) {i:Nat} (hk:(tk ts i).k≠5):i<n:=bf fun hn=>hk (h.e i (by omega))
theorem Em.IV (h:Em ts lw n o) {i:Nat} (hi:i<n) (s:aB):sg lw (o+i) s=sg ts i s:=by
 unfold sg;obtain⟨h1,h2,_⟩:=h.s i hi;rw[h1,h2]
theorem Em.sgn (h:Em ts lw n o) {i:Nat} (hi:i<=n) {s:aB} (h1:s≠[59]) (h2:s≠[93]):sg lw (o+i) s=sg ts i s:=by
 rcases jP i n with hl | hl
 ·exact h.IV hl s
 ·have:i=n:=by omega
  subst this;unfold sg;rw[h.e i (aK _)];have:decide ((tk lw (o+i)).t=s)=false:=aZ fun e=>by
   rcases h.c.2 with c | c
   ·exact h1 (by rw[<-e,c])
   ·exact h2 (by rw[<-e,c])
  rw[this,fI];rfl
theorem Em.opf (h:Em ts lw n o) {i:Nat} (hi:i<=n) (k:Int):∀(f op:Nat),ij lw k (o+i) f op=ij ts k i f op
 | 0,_=>rfl
 | f+1,op=>by rw[ij,ij,h.sgn hi (Ej op).1 (Ej op).2,h.opf hi k f]
theorem Em.op (h:Em ts lw n o) {i:Nat} (hi:i<=n) (k:Int):iE lw k (o+i)=iE ts k i:=h.opf hi k 13 1
theorem Rm.map {r r':Pr} (h:Rm n o r r') {g g':Ex->Ex} (hg:∀x x',Sim x x'->Sim (g x) (g' x')):Rm n o (DL g r) (DL g' r'):=by
 intro x j hx;obtain⟨y,h1,rfl⟩:=wS hx;obtain⟨x',h2,h3,h4⟩:=h y j h1;exact⟨g' x',by rw[h2];rfl,hg _ _ h3,h4⟩
theorem Rm.and {r r':Pr} {f f':Ex->Nat->Pr} (h:Rm n o r r') (hf:∀x x' j,r=.ok (x,j)->j<=n->Sim x x'->Rm n o (f x j) (f' x' (o+j))):Rm n o (yd r f) (yd r' f'):=by
 intro x j hx;obtain⟨y,m,h1,h5⟩:=ue hx;obtain⟨x',h2,h3,h4⟩:=h y m h1;rw[h2];exact hf y x' m h1 h4 h3 x j h5
theorem Rm.nest {r r':Pr} {d:Nat} {a a':Int} (h:Rm n o r r'):Rm n o (gU d a r) (gU d a' r'):=by
 intro x j hx;obtain⟨h1,h2⟩:=oL hx;have:d≠20:=fun e=>by rw[gU,if_pos e]at hx;cases hx
 rw[gU,if_neg this];exact h x j h1
theorem Rm.par (hw:Em ts lw n o) {r r':Pr} (h:Rm n o r r'):Rm n o (pJ ts r) (pJ lw r'):=by
 intro x j hx;obtain⟨j',h1,h2,rfl⟩:=wT hx;obtain⟨x',h3,h4,h5⟩:=h x j' h1;have hl:=hw.lt (sw h2);exact⟨x',by rw[h3];simp only[pJ];rw[if_pos (by rw[hw.IV hl];exact h2)];rfl,h4,hl⟩
theorem Rm.err {e:Int×Int} {r':Pr}:Rm n o (.error e) r':=fun x j hx=>by cases hx
theorem Rm.in_ (hw:Em ts lw n o) (i:Nat):Rm n o (yf ts i) (yf lw (o+i)):=by
 intro x j hx;have R7:=hx;obtain⟨rfl,rfl⟩:=FQ R7;unfold yf at hx;split at hx
 ·rename_i h1;split at hx
  ·rename_i h2;split at hx
   ·rename_i h3;have hl:=hw.lt (sw h3);have e1:(tk lw (o+i+2)).k=(tk ts (i+2)).k/\(tk lw (o+i+2)).t=(tk ts (i+2)).t/\(tk lw (o+i+2)).n=(tk ts (i+2)).n:=hw.s (i+2) (by omega);refine⟨.mk 3 0 (tk lw (o+i+2)).t 0 [] (tk lw (o+i)).a,?_,?_,hl⟩
    ·unfold yf;rw[if_pos (show sg lw (o+i+1) [40]=true from(hw.IV (i:=i+1) (by omega) _).trans h1),if_pos (by rw[e1.1];exact h2),if_pos (show sg lw (o+i+3) [41]=true from(hw.IV (i:=i+3) hl _).trans h3)];rfl
    ·rw[e1.2.1];exact .leaf ..
   ·cases hx
  ·cases hx
 ·cases hx
theorem Rm.one (hw:Em ts lw n o) {E0 One E0' O1:Nat->Pr} {d i:Nat} (hE:∀i,i<=n->Rm n o (E0 i) (E0' (o+i))) (hO:∀i,i<=n->Rm n o (One i) (O1 (o+i))) (hi:i<=n):Rm n o (mz ts E0 One d i) (mz lw E0' O1 d (o+i)):=by
 by_cases KX:i=n
 ·subst KX;have h5:=hw.e i (aK _);have hs:∀s,sg ts i s=false:=fun s=>by
   unfold sg;rw[h5];rfl
  have:mz ts E0 One d i=.error (eF ts i):=by
   unfold mz;rw[hs,hs,hs,if_neg (by decide),if_neg (by decide),if_neg (by rw[h5];decide),if_neg (by rw[h5];decide),if_neg (by rw[h5];rintro⟨h,_⟩;exact absurd h (by decide))]
  rw[this];exact Rm.err
 ·have hl:i<n:=by omega
  obtain⟨k1,k2,k3⟩:=hw.s i hl;unfold mz;rw[hw.IV hl,hw.IV hl,hw.IV hl,k1,k2,k3];split
  ·exact Rm.map (Rm.nest (hO (i+1) hl)) fun x x' hx=>.one _ _ _ _ _ _ _ _ hx
  ·split
   ·exact Rm.nest (Rm.par hw (hE (i+1) hl))
   ·split
    ·intro x j hx;simp only[dj,cW]at hx;obtain⟨rfl,rfl⟩:=hx;exact⟨_,rfl,.leaf ..,hl⟩
    ·split
     ·intro x j hx;simp only[dj,cW]at hx;obtain⟨rfl,rfl⟩:=hx;exact⟨_,rfl,.leaf ..,hl⟩
     ·split
      ·exact Rm.in_ hw i
      ·exact Rm.err
theorem Rm.loop (hw:Em ts lw n o) {E E':Nat->Pr} {k:Int} (hm:∀i x j,E i=.ok (x,j)->i<j) (hE:∀i,i<=n->Rm n o (E i) (E' (o+i))):∀(g g':Nat) (x x':Ex) (j:Nat),j<=n->n-j<g->n-j<g'->Sim x x'->Rm n o (gI ts E k g x j) (gI lw E' k g' x' (o+j))
 | 0,_,_,_,j,_,h,_,_=>by omega
 | _,0,_,_,j,_,_,h,_=>by omega
 | g+1,g'+1,x,x',j,hj,h1,h2,hs=>by
  rw[gI,gI,hw.op hj];split
  ·intro y m hy;simp only[dj,cW]at hy;obtain⟨rfl,rfl⟩:=hy;exact⟨_,rfl,hs,hj⟩
  ·rename_i h0;have hl:=hw.lt (mH _ _ h0);refine Rm.and (hE (j+1) hl) fun y y' m hy hmn AK=>?_;have:=hm _ _ _ hy;exact Rm.loop hw hm hE g g' _ _ m hmn (by omega) (by omega) (.two _ _ _ _ _ _ _ _ _ _ hs AK)
theorem Rm.expr (hw:Em ts lw n o) (hl:ts.length=n+1) (hl':o+n<lw.length):∀(f k d i:Nat),i<=n->Rm n o (cx ts f k d i) (cx lw f k d (o+i))
 | 0,k,d,i,_=>Rm.err
 | f+1,k,d,i,hi=>by
  rw[cx,cx];split
  ·exact Rm.one hw (fun i hi=>Rm.expr hw hl hl' f 0 (d+1) i hi) (fun i hi=>Rm.expr hw hl hl' f 6 (d+1) i hi) hi
  ·have hR:∀i,i<=n->Rm n o (cx ts f (k+1) d i) (cx lw f (k+1) d (o+i)):=fun i hi=>Rm.expr hw hl hl' f (k+1) d i hi;refine Rm.and (hR i hi) fun x x' j hx hj hs=>?_;exact Rm.loop hw (fun i x j h=>jk _ _ _ _ h) hR _ _ _ _ _ hj (by omega) (by omega) hs
end
theorem Sim.trans {x y:Ex} (h:Sim x y):∀{z:Ex},Sim y z->Sim x z:=by
 induction h with
 | leaf k n s op a b=>intro z hz;cases hz;exact .leaf ..
 | one k n s op a b x y h ih=>intro z hz;cases hz with | one _ _ _ _ _ c _ z h2=>exact .one _ _ _ _ _ _ _ _ (ih h2)
 | two k n s op a b x y x' y' h1 h2 i1 i2=>intro z hz;cases hz with | two _ _ _ _ _ c _ _ z1 z2 k1 k2=>exact .two _ _ _ _ _ _ _ _ _ _ (i1 k1) (i2 k2)
def Pk (E:aB->Prop) (p:aB) (ks:List K3):Prop:=∀(l:aB) (i:Nat) (r:aB) (ts:List Tk),i<=l.length->l.drop i=p++r->E r->iX l (i+p.length)=.ok ts->∃us,iX l i=.ok (us++ts)/\us.map k3=ks
abbrev Tr:aB->Prop:=fun _=>True
def KM (q:aB):Prop:=∃c t,q=c::t/\M4 c=true
section
variable {E E':aB->Prop} {p q:aB} {a b:List K3}
theorem Pk.nil (E:aB->Prop):Pk E [] []:=fun _ _ _ ts _ _ _ h=>⟨[],h,rfl⟩
theorem Pk.glue (h:Pk E p a) (k:Pk E' q b) (he:∀r,E' r->E (q++r)):Pk E' (p++q) (a++b):=by
 intro l i r ts hi hd hr ht;rw[aV]at hd;obtain⟨us,h1,h2⟩:=k _ _ _ _ (vZ hi hd) (iM hd) hr (by rw[eH,<-aD];exact ht);obtain⟨vs,h3,h4⟩:=h _ _ _ _ hi hd (he r hr) h1;exact⟨vs++us,by rw[aV];exact h3,by rw[di,h2,h4]⟩
theorem Pk.t (h:Pk Tr p a) (k:Pk E q b):Pk E (p++q) (a++b):=h.glue k fun _ _=>trivial
theorem KM.AF (h:KM q) (r:aB):ql (q++r):=by
 obtain⟨c,t,rfl,hc⟩:=h;intro d hd;rw[cn,fN,aJ]at hd;subst hd;exact hc
theorem Pk.e (h:Pk ql p a) (k:Pk E q b) (hq:KM q):Pk E (p++q) (a++b):=h.glue k fun r _=>hq.AF r
theorem M6 {c:UInt8} (hc:lY c=true):Pk Tr [c] []:=by
 intro l i r ts hi hd _ ht;refine⟨[],?_,rfl⟩;have Yv:l.drop i=c::r:=hd;have i1:i+1<=l.length:=vZ hi hd;have d1:l.drop (i+1)=r:=iM hd;have e:iL false (c::r)=1+iL false r:=by rw[iL,if_pos hc]
 rw[lg hi,Yv,e,<-eH];rw[aW,lg i1,d1]at ht;exact ht
theorem Pk.sp (h:Pk E q b):Pk E (32::q) b:=(M6 (c:=32) (by decide)).t h
theorem Pk.nl (h:Pk Tr p a):Pk Tr (p++[10]) a:=by
 have:=h.t (M6 (c:=10) (by decide));rwa[br]at this
theorem vu {k:Int} {t:aB} {n:Int} (hp:p≠[]) (h:∀r,E r->iL false (p++r)=0/\jZ (p++r)=.ok (k,t,n,p.length)):Pk E p [(k,t,n)]:=fun l i r ts hi hd hr ht=>
 ⟨[⟨k,t,n,(i:Nat)⟩],qZ hd hp (h r hr).1 (h r hr).2 ht,rfl⟩
theorem ahP {c:UInt8} (h0:dT c=false) (h1:cw c=false) (h2:[60,62,61,33].contains c=false) (h3:[38,124].contains c=false) (h4:(c==45)=false) (h5:lZ.contains c=true) (r:aB):jZ (c::r)=.ok (4,[c],0,1):=by
 have hs:oJ (c::r)=false:=by
  cases r with
  | nil=>rfl
  | cons d r=>
   show((d==61&&[60,62,61,33].contains c)||(d==c&&[38,124].contains c)||(c==45&&d==62))=false;rw[h2,h3,h4];simp
 exact kw h0 h1 h5 hs
def gv (c:UInt8):K3:=(4,[c],0)
def VM:K3:=(4,[45,62],0)
theorem Pk.one (c:UInt8) (h0:dT c=false) (h1:cw c=false) (h2:[60,62,61,33].contains c=false) (h3:[38,124].contains c=false) (h4:(c==45)=false) (h5:lZ.contains c=true) (h6:lY c=false) (h7:(c==47)=false) (h:Pk E q b):Pk E (c::q) (gv c::b):=
 (vu (p:=[c]) (E:=Tr) (by simp) fun r _=>⟨Fa h6 h7,ahP h0 h1 h2 h3 h4 h5 r⟩).t h
theorem Pk.lb (h:Pk E q b):Pk E (123::q) (gv 123::b):=h.one 123 (by decide) (by decide) (by decide) (by decide) (by decide) (by decide) (by decide) (by decide)
theorem Pk.rb (h:Pk E q b):Pk E (125::q) (gv 125::b):=h.one 125 (by decide) (by decide) (by decide) (by decide) (by decide) (by decide) (by decide) (by decide)
theorem Pk.lk (h:Pk E q b):Pk E (91::q) (gv 91::b):=h.one 91 (by decide) (by decide) (by decide) (by decide) (by decide) (by decide) (by decide) (by decide)
theorem Pk.rk (h:Pk E q b):Pk E (93::q) (gv 93::b):=h.one 93 (by decide) (by decide) (by decide) (by decide) (by decide) (by decide) (by decide) (by decide)
theorem Pk.sc (h:Pk E q b):Pk E (59::q) (gv 59::b):=h.one 59 (by decide) (by decide) (by decide) (by decide) (by decide) (by decide) (by decide) (by decide)
theorem Pk.cm (h:Pk E q b):Pk E (44::q) (gv 44::b):=h.one 44 (by decide) (by decide) (by decide) (by decide) (by decide) (by decide) (by decide) (by decide)
theorem Pk.eq (h:Pk E q b) (hq:KM q):Pk E (61::q) (gv 61::b):=
 (vu (p:=[61]) (E:=ql) (by simp) fun r hr=>⟨Fa (by decide) (by decide),kw (by decide) (by decide) (by decide) (jo (by decide) hr.soft)⟩).e h hq
theorem Pk.to (h:Pk E q b):Pk E (45::62::q) (VM::b):=
 (vu (p:=[45,62]) (E:=Tr) (by simp) fun r _=>⟨Fa (by decide) (by decide),rfl⟩).t h
theorem tB:KM (59::q):=⟨59,q,rfl,rfl⟩
theorem gz:KM (32::q):=⟨32,q,rfl,rfl⟩
theorem VN:KM (93::q):=⟨93,q,rfl,rfl⟩
theorem VO:KM (44::q):=⟨44,q,rfl,rfl⟩
theorem Iu {s:aB} (h1:s≠[]) (h2:s.length<=24) (h3:∃c t,s=c::t/\dT c=true) (h4:∀c,c∈s->dC c=true):Pk ql s [(if gQ.contains s then 2 else 1,s,0)]:=by
 obtain⟨c,t,rfl,hc⟩:=h3;refine vu h1 fun r hr=>⟨?_,?_⟩
 ·have:=jL (c:=c) (by unfold j6;rw[hc];simp);exact Fa this.1 this.2.1
 ·have e:jZ (c::t++r)=if dT c then kl (c::t++r)else if cw c then pI (c::t++r)else lQ (c::t++r):=rfl
  rw[e,hc,if_pos rfl];unfold kl;rw[hr.word _ h4,if_neg (by omega)]
theorem kx {s:aB} (hn:cF s=true):Pk ql s [(1,s,0)]:=by
 unfold cF at hn;simp only[aE]at hn;obtain⟨⟨⟨h1,h2⟩,h3⟩,h4⟩:=hn;obtain⟨h1,h5⟩:=aG h1;have h3:=aG h3;have h4:gQ.contains s=false:=by simpa using h4
 have:=Iu h1 h5 (by
  cases s with
  | nil=>exact absurd rfl h1
  | cons c t=>exact⟨c,t,rfl,h2⟩) (fun c hc=>by rw[<-h3]at hc;exact vf c hc)
 rw[h4]at this;exact this
theorem nf {s:aB} (h:(decide (s≠[]/\s.length<=24)&&(match s with | c::_=>dT c | []=>false)&&s.all dC&&gQ.contains s)=true):Pk ql s [(2,s,0)]:=by
 simp only[aE]at h;obtain⟨⟨⟨h1,h2⟩,h3⟩,h4⟩:=h;obtain⟨h1,h5⟩:=aG h1;have:=Iu h1 h5 (by
  cases s with
  | nil=>exact absurd rfl h1
  | cons c t=>exact⟨c,t,rfl,h2⟩) (fun c hc=>(dB.1 h3) c hc)
 rw[h4]at this;exact this
theorem Ga {n:Int} (h0:0<=n) (h1:n<=9223372036854775807):Pk ql (Lib.itoa n) [(3,[],n)]:=by
 have gf:Lib.itoa n≠[]:=by rw[mZ h0];exact vq _
 refine vu gf fun r hr=>⟨?_,Iq h0 h1 hr⟩
 rw[mZ h0];cases hm:Lib.decDigits n.toNat with
 | nil=>exact absurd hm (vq _)
 | cons c m=>
  have hd:=xd n.toNat c (by rw[hm];simp);have:=jL (c:=c) (by unfold j6;rw[hd];simp);exact Fa this.1 this.2.1
def wz (v:Int):List K3:=if v<0 then[gv 45,(3,[], -v)]else[(3,[],v)]
theorem VP {v:Int} (hv:vR v) (hm:v≠ -9223372036854775808):Pk ql (Lib.itoa v) (wz v):=by
 obtain⟨h1,h2⟩:=hv;unfold wz;by_cases h:v<0
 ·rw[if_pos h];have e:Lib.itoa v=45::Lib.itoa (-v):=by
   unfold Lib.itoa;rw[if_pos h,if_neg (by omega),show v.natAbs=(-v).toNat by omega]
  rw[e];have hp:=Ga (n:= -v) (by omega) (by omega);refine(vu (p:=[45]) (E:=fun r=>soft r) (k:=4) (t:=[45]) (n:=0) (by simp) fun r hr=>⟨Fa (by decide) (by decide),kw (by decide) (by decide) (by decide) (jo (by decide) hr)⟩).glue hp fun r hr=>?_;show soft (Lib.itoa (-v)++r);rw[mZ (n:= -v) (by omega)];cases hm:Lib.decDigits (-v).toNat with
  | nil=>exact absurd hm (vq _)
  | cons c m=>
   have hd:=xd (-v).toNat c (by rw[hm];simp);exact nc ⟨c,m++r,rfl,by unfold j6;rw[hd];simp⟩
 ·rw[if_neg h];exact Ga (by omega) (by omega)
end
def Ap (x:Ex):List K3:=lX (yA x) x false
theorem T1 {x:Ex} (h:oa x=true) (hn:JJ x):bW (yA x) x=true/\rO x=jK (yA x) x false/\(eV (rO x)).2.1=0/\(rO x).length<=16384/\Sim x (eV (rO x)).1:=by
 have h:=aG h;obtain⟨h1,h2,h3⟩:=D2 h;obtain⟨h4,h5⟩:=Ei h1 (hn _) h3;have h6:=Ao _ false [] h1 h4;unfold rO;rw[h2];exact⟨h1,h6,h3,h4,h5⟩
theorem T2 {x:Ex} (h:oa x=true) (hn:JJ x):Pk ql (rO x) (Ap x):=by
 obtain⟨h1,h2,_⟩:=T1 h hn;rw[h2];exact fun l i r ts hi hd hr ht=>rW (yA x) false i h1 (hn _) hi hd hr ht
def Fb (a:Ac):List K3:=
 if a.k=2 then(2,ik,0)::(1,a.n,0)::[gv 59]else(2,if a.k=1 then nA else jz,0)::(1,a.n,0)::gv 61::(Ap a.x++[gv 59])
def wA:List Ac->List K3
 | []=>[]
 | a::l=>Fb a++wA l
def uQ (l:List Ac):List K3:=gv 123::(wA l++[gv 125])
theorem ab4 {a:Ac} (h:fC a=true) (hn:Ai a):Pk Tr (vV a) (Fb a):=by
 unfold fC at h;simp only[aE]at h;obtain⟨⟨h1,h2⟩,h3⟩:=h;unfold vV Fb;by_cases hk:a.k=2
 ·rw[if_pos hk,if_pos hk];exact(nf (s:=ik) (by decide)).e (Pk.sp ((kx h2).e (Pk.sc (Pk.nil _)) tB)) gz
 ·rw[if_neg hk]at h3⊢;rw[if_neg hk];have tail:=Pk.sp ((kx h2).e (Pk.sp (Pk.eq (Pk.sp ((T2 h3 hn).e (Pk.sc (Pk.nil Tr)) tB)) gz)) gz);by_cases h1k:a.k=1
  ·simp only[if_pos h1k];exact(nf (s:=nA) (by decide)).e tail gz
  ·simp only[if_neg h1k];exact(nf (s:=jz) (by decide)).e tail gz
theorem M7:∀{l:List Ac},l.all fC=true->(∀a,a∈l->Ai a)->Pk Tr (uj l) (wA l)
 | [],_,_=>Pk.nil _
 | a::l,h,hn=>by
  rw[jh,aE]at h;exact Pk.sp ((ab4 h.1 (hn a (by simp))).t (M7 h.2 fun b hb=>hn b (by simp[hb])))
theorem M8 {l:List Ac} (h:l.all fC=true) (hn:∀a,a∈l->Ai a):Pk Tr (sP l) (uQ l):=
 Pk.lb ((M7 h hn).t (Pk.sp (Pk.rb (Pk.nil _))))
def Gb:List (aB)->List K3
 | []=>[]
 | s::l=>gv 44::(1,s,0)::Gb l
def hdK (m:Mv):List K3:=if m.k=1 then[(2,wx,0),(1,m.ev,0)]else if m.k=3 then[(2,fU,0),(3,[],m.wt)]else[(2,fA,0)]
def T3 (m:Mv):List K3:=if m.gd then gv 91::(Ap m.g++[gv 93])else[]
def Gc (m:Mv):List K3:=match m.tg with
 | []=>[]
 | s::l=>VM::(1,s,0)::Gb l
def Iv (m:Mv):List K3:=hdK m++(T3 m++((if m.acts=[]then[]else uQ m.acts)++(Gc m++[gv 59])))
theorem T4:∀{l:List (aB)},l.all cF=true->Pk Tr (Ah l++[59]) (Gb l++[gv 59])/\KM (Ah l++[59])
 | [],_=>⟨Pk.sc (Pk.nil _),tB⟩
 | s::l,h=>by
  rw[jh,aE]at h;obtain⟨h1,h2⟩:=T4 h.2;refine⟨?_,VO⟩;have:=Pk.cm (Pk.sp ((kx h.1).e h1 h2));simpa[Ah,Gb]using this
theorem ab6 {m:Mv} (h:jA m=true) (hn:KW m):Pk Tr (yD m) (Iv m):=by
 unfold jA at h;simp only[aE]at h;obtain⟨⟨⟨⟨⟨h1,h2⟩,h3⟩,h4⟩,h5⟩,h6⟩:=h;have h1:=aG h1;have h6:=aG h6;unfold yD Iv;have t1:Pk Tr ((match m.tg with
  | []=>[]
  | s::l=>32::45::62::32::(s++Ah l))++[59]) (Gc m++[gv 59])/\KM ((match m.tg with
  | []=>[]
  | s::l=>32::45::62::32::(s++Ah l))++[59]):=by
  unfold Gc;cases hm:m.tg with
  | nil=>exact⟨Pk.sc (Pk.nil _),tB⟩
  | cons s l=>
   rw[hm,jh,aE]at h5;obtain⟨g1,g2⟩:=T4 h5.2;refine⟨?_,gz⟩;have:=Pk.sp (Pk.to (Pk.sp ((kx h5.1).e g1 g2)));simpa using this
 generalize ((match m.tg with
  | []=>[]
  | s::l=>32::45::62::32::(s++Ah l))++[59]:aB)=R1 at*
 generalize Gc m++[gv 59]=K1 at*
 have t2:Pk Tr ((if m.acts=[]then[]else 32::sP m.acts)++R1) ((if m.acts=[]then[]else uQ m.acts)++K1)/\KM ((if m.acts=[]then[]else 32::sP m.acts)++R1):=by
  by_cases ha:m.acts=[]
  ·rw[if_pos ha,if_pos ha];exact t1
  ·rw[if_neg ha,if_neg ha];exact⟨Pk.sp ((M8 h4 hn.a).t t1.1),gz⟩
 generalize ((if m.acts=[]then[]else 32::sP m.acts)++R1:aB)=R2 at*
 generalize (if m.acts=[]then[]else uQ m.acts)++K1=K2 at*
 have t3:Pk Tr (JK m++R2) (T3 m++K2)/\KM (JK m++R2):=by
  unfold JK T3;cases hg:m.gd with
  | false=>exact t2
  | true=>
   rw[hg]at h3;refine⟨?_,gz⟩;have:=Pk.sp (Pk.lk ((T2 h3 hn.g).e (Pk.rk t2.1) VN));simpa using this
 generalize (JK m++R2:aB)=R3 at*
 generalize T3 m++K2=K3' at*
 unfold Po hdK;by_cases k1:m.k=1
 ·rw[if_pos k1]at h2⊢;rw[if_pos k1,aV];exact(nf (s:=wx) (by decide)).e (Pk.sp ((kx h2).e t3.1 t3.2)) gz
 ·rw[if_neg k1,if_neg k1];by_cases k3:m.k=3
  ·rw[if_pos k3,if_pos k3,aV];exact(nf (s:=fU) (by decide)).e (Pk.sp ((Ga (by omega) hn.w.2).e t3.1 t3.2)) gz
  ·rw[if_neg k3,if_neg k3];exact(nf (s:=fA) (by decide)).e t3.1 t3.2
theorem M9 {p:aB} {a:List K3} (h:Pk Tr p a):∀d,Pk Tr (qV d++p) a
 | 0=>h
 | d+1=>Pk.sp (Pk.sp (M9 h d))
theorem ab7 {d:Nat} {p:aB} {a:List K3} (h:Pk Tr p a):Pk Tr (Vq (d,p)) a:=M9 h.nl d
def Lq (L:List Ln) (ks:List K3):Prop:=Pk Tr (vW L) ks
theorem Lq.nil:Lq [] []:=Pk.nil _
theorem Lq.AF {L M:List Ln} {a b:List K3} (h:Lq L a) (k:Lq M b):Lq (L++M) (a++b):=by
 unfold Lq vW;rw[List.flatMap_append];exact h.t k
theorem Lq.one {d:Nat} {p:aB} {a:List K3} (h:Pk Tr p a):Lq [(d,p)] a:=by
 unfold Lq vW;rw[List.flatMap_cons,List.flatMap_nil,br];exact ab7 h
theorem Lq.cons {d:Nat} {p:aB} {a:List K3} {L:List Ln} {b:List K3} (h:Pk Tr p a) (k:Lq L b):Lq ((d,p)::L) (a++b):=(Lq.one h).AF k
def Gd (b:Nb):List K3:=if b.ini=[]then[]else[(2,dE,0),(1,b.ini,0),gv 59]
def Pv (b:Nb):List K3:=if b.en=[]then[]else(2,fD,0)::uQ b.en
def JU (b:Nb):List K3:=if b.lv=[]then[]else(2,fE,0)::uQ b.lv
def tC:List Mv->List K3
 | []=>[]
 | m::l=>Iv m++tC l
def vw (b:Nb):List K3:=Gd b++(Pv b++(JU b++tC b.mv))
mutual
def JV:Nd->List K3
 | .mk b l=>
  if j5 b.k then(2,kW b.k,0)::(1,b.nm,0)::VM::(1,b.dft,0)::[gv 59]
  else(2,kW b.k,0)::(1,b.nm,0)::gv 123::(vw b++(jw l++[gv 125]))
def jw:List Nd->List K3
 | []=>[]
 | x::l=>JV x++jw l
end
structure YD (b:Nb):Prop where
 nm:cF b.nm=true
 ini:b.ini=[]∨cF b.ini=true
 en:b.en.all fC=true
 lv:b.lv.all fC=true
 mv:b.mv.all jA=true
theorem Na {b:Nb} {n:Nat} (h:sC b n=true) (hh:j5 b.k=false):(b.k=1∨b.k=2)/\b.dft=[]/\YD b:=by
 unfold sC at h;rw[hh]at h;simp only[aE,fm,iy,bS,bd]at h;obtain⟨h0,⟨⟨⟨h1,h2⟩,h3⟩,h4⟩,h5⟩:=h;exact⟨h1.1,h1.2,h0,h2,h3,h4,h5⟩
theorem ab8 {b:Nb} {n:Nat} (h:sC b n=true) (hh:j5 b.k=true):cF b.nm=true/\cF b.dft=true/\b.ini=[]/\b.en=[]/\b.lv=[]/\b.mv=[]/\n=0:=by
 unfold sC at h;rw[hh]at h;simp only[aE,if_true,bd]at h;obtain⟨h0,h1,h2,h3,h4,h5,h6⟩:=h;exact⟨h0,h1,h2,h3,h4,bc h5,h6⟩
theorem T5 {d:Nat} {b:Nb} (h:YD b) (hn:Un b):Lq (zx d b) (vw b):=by
 unfold zx vw;refine Lq.AF ?_ (Lq.AF ?_ (Lq.AF ?_ ?_))
 ·unfold sD Gd;by_cases hi:b.ini=[]
  ·rw[if_pos hi,if_pos hi];exact Lq.nil
  ·rw[if_neg hi,if_neg hi];exact Lq.one ((nf (s:=dE) (by decide)).e (Pk.sp ((kx (h.ini.resolve_left hi)).e (Pk.sc (Pk.nil _)) tB)) gz)
 ·unfold HT Pv;by_cases hi:b.en=[]
  ·rw[if_pos hi,if_pos hi];exact Lq.nil
  ·rw[if_neg hi,if_neg hi];exact Lq.one ((nf (s:=fD) (by decide)).e (Pk.sp (M8 h.en hn.en)) gz)
 ·unfold JL JU;by_cases hi:b.lv=[]
  ·rw[if_pos hi,if_pos hi];exact Lq.nil
  ·rw[if_neg hi,if_neg hi];exact Lq.one ((nf (s:=fE) (by decide)).e (Pk.sp (M8 h.lv hn.lv)) gz)
 ·unfold mvL;have hm:=h.mv;have hk:=hn.mv;generalize b.mv=l at*
  induction l with
  | nil=>exact Lq.nil
  | cons m l ih=>
   rw[jh,aE]at hm;exact Lq.cons (ab6 hm.1 (hk m (by simp))) (ih hm.2 fun x hx=>hk x (by simp[hx]))
theorem Iw (k:Int):Pk ql (kW k) [(2,kW k,0)]:=by
 unfold kW;split
 ·exact nf (by decide)
 split
 ·exact nf (by decide)
 split
 ·exact nf (by decide)
 ·exact nf (by decide)
mutual
theorem ab9:∀(d:Nat) (x:Nd),jJ d x=true->vX x->Lq (ze d x) (JV x)
 | d,.mk b l,h,hn=>by
  rw[jJ]at h;rw[vX]at hn;rw[ze,JV];simp only[aE]at h;obtain⟨⟨_,h1⟩,h2⟩:=h;cases hh:j5 b.k with
  | true=>
   obtain⟨a1,a2,_⟩:=ab8 h1 hh;rw[if_pos rfl,if_pos rfl];exact Lq.one ((Iw b.k).e (Pk.sp ((kx a1).e (Pk.sp (Pk.to (Pk.sp ((kx a2).e (Pk.sc (Pk.nil _)) tB)))) gz)) gz)
  | false=>
   obtain⟨_,_,hs⟩:=Na h1 hh;rw[if_neg (by decide),if_neg (by decide)];exact Lq.cons ((Iw b.k).e (Pk.sp ((kx hs.nm).e (Pk.sp (Pk.lb (Pk.nil _))) gz)) gz) ((T5 hs hn.1).AF ((Gf (d+1) l h2 hn.2).AF (Lq.one (Pk.rb (Pk.nil _)))))
theorem Gf:∀(d:Nat) (l:List Nd),gK d l=true->sE l->Lq (lV d l) (jw l)
 | d,[],_,_=>by
  rw[lV,jw];exact Lq.nil
 | d,x::l,h,hn=>by
  rw[gK,aE]at h;rw[sE]at hn;rw[lV,jw];exact(ab9 d x h.1 hn.1).AF (Gf d l h.2 hn.2)
end
def Nc (v:Vr):List K3:=(2,sB,0)::(1,v.n,0)::gv 61::(wz v.v++[gv 59])
def sH:List Vr->List K3
 | []=>[]
 | v::l=>Nc v++sH l
def XZ (c:Ch):List K3:=(2,dZ,0)::(1,c.root.b.nm,0)::gv 123::(sH c.vars++(vw c.root.b++(jw c.root.kids++[gv 125])))
theorem aca {c:Ch} (h:qk c=true) (hn:PV c):Lq (xa c) (XZ c):=by
 unfold qk at h;simp only[aE]at h;obtain⟨⟨h1,h2⟩,h3⟩:=h;replace h3:=aG h3;obtain⟨vars,⟨b,l⟩⟩:=c;have hr:=hn.r;rw[vX]at hr;rw[jJ]at h2;simp only[aE]at h2;obtain⟨⟨_,h4⟩,h5⟩:=h2;have hk:b.k=1:=h3.1;have hh:j5 b.k=false:=by rw[hk];rfl
 obtain⟨_,_,hs⟩:=Na h4 hh;unfold xa XZ;have hv:Lq (vars.map fun v=>(1,Ps v)) (sH vars):=by
  have hv:=hn.v;dsimp only at h1 hv;clear h3 hn h4 h5 hr
  induction vars with
  | nil=>exact Lq.nil
  | cons v m ih=>
   rw[jh,aE,aE]at h1;refine Lq.cons ?_ (ih h1.2 fun x hx=>hv x (by simp[hx]));exact(nf (s:=sB) (by decide)).e (Pk.sp ((kx h1.1.1).e (Pk.sp (Pk.eq (Pk.sp ((VP (hv v (by simp)) (aG h1.1.2)).e (Pk.sc (Pk.nil _)) tB)) gz)) gz)) gz
 exact Lq.cons ((nf (s:=dZ) (by decide)).e (Pk.sp ((kx hs.nm).e (Pk.sp (Pk.lb (Pk.nil _))) gz)) gz) (hv.AF ((T5 hs hr.1).AF ((Gf 1 l h5 hr.2).AF (Lq.one (Pk.rb (Pk.nil _))))))
theorem B0 {p:Prop}:false=true->p:=fun h=>by cases h
theorem yM {α:Type} {R:α->α->Prop}:iu R [] []:=⟨rfl,fun i x y hx _=>by simp at hx⟩
theorem Rl {α:Type} {R:α->α->Prop} {x y:α} {xs ys:List α} (h:R x y) (k:iu R xs ys):iu R (x::xs) (y::ys):=⟨by rw[aH,aH,k.1],fun i a b ha hb=>by
 cases i with
 | zero=>
  simp only[cj,aJ]at ha hb;subst ha hb;exact h
 | succ i=>exact k.2 i a b (by simpa using ha) (by simpa using hb)⟩
def cV (s:Sx) (n:Nat) (a m k:Nat):Sx:={s with i:=s.i+n,a:=s.a-a,m:=s.m-m,n:=s.n-k}
theorem cB (s:Sx) (n a m k n' a' m' k':Nat):cV (cV s n a m k) n' a' m' k'=cV s (n+n') (a+a') (m+m') (k+k'):=by
 unfold cV;simp only[Sx.mk.injEq,true_and];refine⟨by omega,?_,?_,?_⟩<;>omega
theorem VQ (s:Sx):cV s 0 0 0 0=s:=by
 unfold cV;cases s;simp
theorem gL (s:Sx):cJ s=cV s 1 0 0 0:=by
 unfold cJ cV;cases s;simp
theorem Ek {ts:List Tk} (h:nY ts) (h0:0<ts.length):jl ts+1=ts.length:=by
 have h1:=wU ts;have h2:jl ts<ts.length:=by
  refine bf fun hn=>?_;have:=uf ts (ts.length-1) (by omega);exact this ((h _ (by omega)).2 (by omega))
 exact(h _ h2).1 (ug ts h2)
theorem T6 {ts:List Tk} {i:Nat} (h:(tk ts i).k≠5):i<ts.length:=bf fun hn=>h (by
 unfold tk;rw[cr (by omega)];rfl)
def KN (q:K3) (l:List (aB)):Nat:=if q.1≠2/\q.1≠4 then 0 else if uM q.2.1 l<l.length then uM q.2.1 l+1 else 0
section
variable {ts:List Tk} {s:Sx} {q:K3} {A:List K3}
theorem dc (h0:s.fc=0) (h:At ts s.i (q::A)) (l:List (aB)):bU ts s l=KN q l:=by
 obtain⟨h1,h2,_⟩:=h.head;unfold bU KN;rw[h1,h2];by_cases hc:q.1≠2/\q.1≠4
 ·rw[if_pos (.inr hc),if_pos hc]
 ·rw[if_neg (fun h=>h.elim (fun e=>e h0) hc),if_neg hc]
theorem ia (h0:s.fc=0) {x:aB} (h:At ts s.i (q::A)) (hq:KN q [x]=1):dA ts s x=cV s 1 0 0 0:=by
 unfold dA;rw[dc h0 h,hq,if_neg (by decide),gL]
theorem rX (h0:s.fc=0) {k:Int} (h:At ts s.i (q::A)) (hq:q.1=k):(eW ts s k).1.t=q.2.1/\(eW ts s k).1.n=q.2.2/\(eW ts s k).2=cV s 1 0 0 0:=by
 obtain⟨h1,h2,h3⟩:=h.head;unfold eW;rw[if_neg (fun hn=>hn.elim (fun e=>e h0) fun e=>e (by rw[h1,hq])),gL];exact⟨h2,h3,rfl⟩
theorem rY (h0:s.fc=0) {x:aB} (h:At ts s.i ((1,x,0)::A)):gx ts s=(x,cV s 1 0 0 0):=by
 obtain⟨a,b,c⟩:=rX (k:=1) h0 h rfl;unfold gx;rw[a,c]
theorem ux {x:Int} (h1:1<=x) (h2:x<=1000):uN x=x-1:=by
 unfold uN;rw[fy (by omega) (by omega)]
end
theorem Aq {x:Ex} (h:lU x=true):Pn false x tG:=by
 obtain⟨k,n,s,op,l,a⟩:=x;unfold lU at h;simp only[aE,cZ,bd]at h;obtain⟨⟨⟨⟨h1,h2⟩,h3⟩,h4⟩,h5⟩:=h;obtain rfl:k=0:=h1;obtain rfl:n=0:=h2;obtain rfl:s=[]:=h3;obtain rfl:op=0:=h4;have h6:(l.length:Int)=0:=h5;obtain rfl:l=[]:=bc (by omega);exact fun d=>(Sim.leaf 0 0 [] 0 a 0).same d
section
variable {ts:List Tk} (hE:nY ts)
include hE
theorem Nf {s:Sx} (h0:s.fc=0) {x:Ex} (h:oa x=true) (hn:JJ x) {q:K3} {A:List K3} (cy:At ts s.i (Ap x++q::A)) (hq:q.1=4/\(q.2.1=[59]∨q.2.1=[93])):
  Pn false x (lR ts s).1/\(lR ts s).2=cV s (Ap x).length 0 0 0:=by
 obtain⟨h1,h2,h3,h4,h5⟩:=T1 h hn;have hL:=h2;generalize rO x=L at*
 have O2:iX L (0+L.length)=.ok [⟨5,[],0,((L.length:Nat):Int)⟩]:=by
  have hd:L.drop L.length=[]:=cX (aK _);have h5:iL false []=0:=rfl;rw[bm,iR (aK _),hd,h5,if_pos (by omega)];rfl
 obtain⟨us,g1,g2⟩:=rW (l:=L) (yA x) (x:=x) false 0 (r:=[]) h1 (hn _) (aQ _) (by rw[fg,br,hL]) (fun c hc=>by cases hc) (by rw[<-hL];exact O2);generalize hte:us++[(⟨5,[],0,((L.length:Nat):Int)⟩:Tk)]=te at*
 have t1:ca L=(te,0,0):=by rw[ca,if_neg (by omega),g1]
 have YC:us.length=(Ap x).length:=by unfold Ap;rw[<-g2,bL]
 have KO:te.length=us.length+1:=by rw[<-hte,aD,aW]
 have hEt:nY te:=by
  have:=(tw (l:=L) (by rw[t1])).1;rw[t1]at this;exact this
 have hep:=Ek hEt (by omega);unfold eV at h3 h5;rw[t1]at h3 h5;dsimp only at h3 h5;rw[if_neg (by decide)]at h3 h5;by_cases c1:(bH te 0).2.2.1≠0
 ·rw[if_pos c1]at h3;exact absurd h3 c1
 rw[if_neg c1]at h3 h5;by_cases c2:(tk te (bH te 0).2.1.toNat).k≠5
 ·rw[if_pos c2]at h3;exact absurd h3 (show ¬(4:Int)=0 by decide)
 rw[if_neg c2]at h5;have c1:=tM.1 c1;have c2:=tM.1 c2;dsimp only at h5;have hp:bH te 0=(match nZ te 0 with
  | .error (c,p)=>(tG,0,c,p)
  | .ok (x,j)=>(x,(j:Int),0,0)):=by
  unfold bH;rw[if_pos ⟨ig 0,by omega,hep⟩];rfl
 have hM:Em te ts us.length s.i:=by
  refine⟨fun i hi=>?_,fun i hi=>?_,?_⟩
  ·unfold tk;rw[<-hte];rcases Nat.eq_or_lt_of_le hi with e | e
   ·rw[<-e,cQ (aK _),G3];rfl
   ·rw[cr (by rw[aD,aW];omega)];rfl
  ·have wj:i<(Ap x).length:=by omega
   have e1:=cy.left i _ (bA wj);have e2:k3 (tk te i)=(Ap x)[i]:=by
    have:(us.map k3)[i]? =some (Ap x)[i]:=by
     rw[g2];exact bA wj
    rw[cH,eM]at this;obtain⟨t,w1,w2⟩:=this;rw[<-w2];unfold tk;rw[<-hte,bF hi,w1];rfl
   have e3:=e1.trans e2.symm;unfold k3 at e3;simp only[cW]at e3;exact e3
  ·have:=cy.right.head;rw[<-YC]at this;rw[this.1,this.2.1];exact hq
 cases hr:nZ te 0 with
 | error e=>
  obtain⟨c,p⟩:=e;rw[hr]at hp;exfalso;rw[hp]at c1 c2;have hc:c=0:=c1;subst hc;exact lh _ _ _ _ hr rfl
 | ok y=>
  obtain⟨x0,j⟩:=y;rw[hr]at hp;dsimp only at hp;rw[hp]at c2 h5;dsimp only at c2 h5;have bJ:s.i+us.length<ts.length:=by
   refine T6 fun e=>?_;have:=cy.right.head.1;rw[<-YC]at this;rw[this,hq.1]at e;exact absurd e (by decide)
  obtain⟨x',k1,k2,KY⟩:=Rm.expr hM KO bJ (eS 0 0) 0 0 0 (aQ _) x0 j hr;have hj:j=us.length:=by
   rw[aM]at c2;have:=(hEt j (by omega)).1 c2;omega
  subst hj;have Ff:bH ts s.i=(x',((s.i+us.length:Nat):Int),0,0):=by
   unfold bH;rw[if_pos ⟨aO _,by omega,Ek hE (by omega)⟩,aM];unfold nZ;rw[gr]at k1;rw[k1]
  unfold lR;rw[if_neg (fun e=>e h0),Ff];dsimp only;rw[if_neg (fun e=>e rfl)];refine⟨(h5.trans k2).same,?_⟩;rw[aM,YC];unfold cV;simp
theorem Rn {s:Sx} (h0:s.fc=0) (ha:1<=s.a) (hb:s.a<=1000):qM ts s=cV s 0 1 0 0:=by
 unfold qM cV;rw[if_neg (by omega),ux ha hb];simp
theorem acb {s:Sx} (h0:s.fc=0) (ha:1<=s.a) (hb:s.a<=1000) {a:Ac} (h:fC a=true) (hn:Ai a) {A:List K3} (cy:At ts s.i (Fb a++A)):AcE false a (mR ts s).1/\(mR ts s).2=cV s (Fb a).length 1 0 0:=by
 unfold fC at h;simp only[aE]at h;obtain⟨⟨h1,h2⟩,h3⟩:=h;have h1:=aG h1;obtain⟨k,n,x,at_⟩:=a;dsimp only at h1 h2 h3;have aeK:∃w A',Fb ⟨k,n,x,at_⟩++A=(2,w,0)::(1,n,0)::A'/\(KN (2,w,0) [nA,ik,jz]:Nat)=k.toNat:=by
  unfold Fb;by_cases hk:k=2
  ·rw[if_pos hk];exact⟨_,_,rfl,by rw[hk];decide⟩
  ·rw[if_neg hk];by_cases jO:k=1
   ·rw[if_pos jO];exact⟨_,_,rfl,by rw[jO];decide⟩
   ·rw[if_neg jO];have:k=3:=by omega
    exact⟨_,_,rfl,by rw[this];decide⟩
 obtain⟨w,A',e1,e2⟩:=aeK;have KA:=cy;rw[e1]at KA;have hw:=dc h0 KA [nA,ik,jz];rw[e2]at hw;have P0:(k.toNat:Int)=k:=fM (by omega);unfold mR;rw[hw,if_neg (by omega),Rn (ts:=ts) hE h0 ha hb,if_neg (fun e=>e h0)];rw[gL,cB,rY (s:=cV s (0+1) (1+0) (0+0) (0+0)) h0 KA.tail];dsimp only;unfold FT;by_cases hk:k=2
 ·subst hk;rw[if_pos (show Int.toNat 2=2 from rfl)];have h3:lU x=true:=by simpa using h3
  have ea:Fb ⟨2,n,x,at_⟩=[(2,ik,0),(1,n,0),gv 59]:=rfl;rw[ea]at cy⊢;have h59:=cy.tail.tail;rw[ia (s:=cV (cV s (0+1) (1+0) (0+0) (0+0)) 1 0 0 0) h0 h59 (by decide),cB,cB];exact⟨⟨rfl,rfl,Aq h3,B0⟩,rfl⟩
 ·rw[if_neg (by omega)];rw[if_neg hk]at h3;have ea:Fb ⟨k,n,x,at_⟩=(2,if k=1 then nA else jz,0)::(1,n,0)::gv 61::(Ap x++[gv 59]):=by
   unfold Fb;rw[if_neg hk]
  rw[ea]at cy⊢;have I4:=cy.tail.tail;rw[ia (s:=cV (cV s (0+1) (1+0) (0+0) (0+0)) 1 0 0 0) h0 I4 (by decide),cB,cB];have hx:At ts (s.i+1+1+1) ((Ap x++[gv 59])++A):=I4.tail;rw[aV]at hx;obtain⟨r1,r2⟩:=Nf hE (s:=cV s (0+1+1+1) (1+0+0+0) (0+0+0+0) (0+0+0+0)) h0 h3 hn (q:=gv 59) (A:=A) hx ⟨rfl,.inl rfl⟩;rw[r2];have h59:=hx.right;rw[ia (s:=cV (cV s (0+1+1+1) (1+0+0+0) (0+0+0+0) (0+0+0+0)) (Ap x).length 0 0 0) h0 h59 (by decide),cB,cB];refine⟨⟨P0.symm,rfl,r1,B0⟩,?_⟩;simp only[aH,aD,aN];congr 1;omega
theorem T7:∀(l:List Ac) (f:Nat) (acc:List Ac) {s:Sx},s.fc=0->l.length<f->(l.length:Int)<=s.a->s.a<=1000->l.all fC=true->(∀a,a∈l->Ai a)->∀{A:List K3},At ts s.i (wA l++gv 125::A)->
  ∃r,nI ts f acc s=(acc++r,cV s ((wA l).length+1) l.length 0 0)/\iu (AcE false) l r
 | [],f,acc,s,h0,hf,ha,hb,h,hn,A,cy=>by
  obtain⟨f,rfl⟩:∃g,f=g+1:=⟨f-1,by rw[aN]at hf;omega⟩
  have cy:At ts s.i (gv 125::A):=cy;rw[nI,if_neg (fun e=>e h0),dc h0 cy,if_pos (by decide),gL];exact⟨[],by rw[br];rfl,yM⟩
 | a::l,f,acc,s,h0,hf,ha,hb,h,hn,A,cy=>by
  rw[aH]at hf ha;obtain⟨f,rfl⟩:∃g,f=g+1:=⟨f-1,by omega⟩
  rw[jh,aE]at h;have cy:At ts s.i ((Fb a++wA l)++gv 125::A):=cy;rw[aV]at cy;have hw:bU ts s [[125]]=0:=by
   have:∃w B,Fb a++(wA l++gv 125::A)=(2,w,0)::B/\KN (2,w,0) [[125]]=0:=by
    unfold Fb;split
    ·exact⟨_,_,rfl,by decide⟩
    ·split
     ·exact⟨_,_,rfl,by decide⟩
     ·exact⟨_,_,rfl,by decide⟩
   obtain⟨w,B,e1,e2⟩:=this;have KA:=cy;rw[e1]at KA;rw[dc h0 KA,e2]
  obtain⟨r1,r2⟩:=acb hE h0 (by omega) hb h.1 (hn a (by simp)) cy;rw[nI,if_neg (fun e=>e h0),hw,if_neg (fun e=>e rfl),r2];obtain⟨r,e1,e2⟩:=T7 l f (acc++[(mR ts s).1]) (s:=cV s (Fb a).length 1 0 0) h0 (by omega) (by unfold cV;dsimp only;omega) (by unfold cV;dsimp only;omega) h.2 (fun b hb=>hn b (by simp[hb])) cy.right;refine⟨(mR ts s).1::r,?_,Rl r1 e2⟩;rw[e1,cB,aV];simp only[wA,aD,aH,dL];congr 2<;>omega
theorem El:∀l:List Ac,l.length<=(wA l).length
 | []=>aK _
 | a::l=>by
  have h1:=El l;have h2:1<=(Fb a).length:=by
   unfold Fb;split<;>simp
  rw[wA,aD,aH];omega
theorem At.inr {s:Sx} {L:List K3} {q:K3} {A:List K3} (cy:At ts s.i (L++q::A)) (hq:q.1≠5):s.i+L.length<ts.length:=T6 (by rw[cy.right.head.1];exact hq)
theorem VR {s:Sx} (h0:s.fc=0) {l:List Ac} (ha:(l.length:Int)<=s.a) (hb:s.a<=1000) (h:l.all fC=true) (hn:∀a,a∈l->Ai a) {A:List K3} (cy:At ts s.i (uQ l++A)):
  ∃r,fV ts s=(r,cV s (uQ l).length l.length 0 0)/\iu (AcE false) l r:=by
 unfold fV;have cy:At ts s.i (gv 123::((wA l++[gv 125])++A)):=cy;rw[aV]at cy;have h1:=cy.tail;have bJ:=At.inr hE (s:=cV s 1 0 0 0) (L:=wA l) h1 (by decide);rw[ia h0 cy (by decide)];have:=El (ts:=ts) hE l;obtain⟨r,e1,e2⟩:=T7 hE l (ts.length+1) [] (s:=cV s 1 0 0 0) h0 (by omega) (by unfold cV;dsimp only;omega) (by unfold cV;dsimp only;omega) h hn h1;refine⟨r,?_,e2⟩;rw[e1,cB,cd];unfold uQ;simp only[aH,aD,aN];congr 2
 ·omega
 ·omega
theorem acd:∀(l:List (aB)) (f:Nat) (acc:List (aB)) {s:Sx},s.fc=0->l.length<f->∀{A:List K3},At ts s.i (Gb l++gv 59::A)->oO ts f [44] acc s=(acc++l,cV s (Gb l).length 0 0 0)
 | [],f,acc,s,h0,hf,A,cy=>by
  obtain⟨f,rfl⟩:∃g,f=g+1:=⟨f-1,by rw[aN]at hf;omega⟩
  have cy:At ts s.i (gv 59::A):=cy;rw[oO,dc h0 cy,if_pos (by decide),br];show(acc,s)=(acc,cV s 0 0 0 0)
  rw[VQ]
 | x::l,f,acc,s,h0,hf,A,cy=>by
  rw[aH]at hf;obtain⟨f,rfl⟩:∃g,f=g+1:=⟨f-1,by omega⟩
  have cy:At ts s.i (gv 44::(1,x,0)::(Gb l++gv 59::A)):=cy;rw[oO,dc h0 cy,if_neg (by decide),gL,rY (s:=cV s 1 0 0 0) h0 cy.tail];dsimp only;rw[cB,acd l f (acc++[x]) (s:=cV s (1+1) (0+0) (0+0) (0+0)) h0 (by omega) cy.tail.tail,cB,aV];simp only[Gb,aH,dL];congr 2;omega
theorem Ix:∀l:List (aB),l.length<=(Gb l).length
 | []=>aK _
 | x::l=>by
  have:=Ix l;rw[Gb,aH,aH,aH];omega
theorem Iy {s:Sx} (h0:s.fc=0) (m m0:Mv) {A:List K3} (cy:At ts s.i ((Gc m++[gv 59])++A)) (YE:m0.tg=[]):yq ts m0 s=({m0 with tg:=m.tg},cV s (Gc m++[gv 59]).length 0 0 0):=by
 unfold yq;rw[aV]at cy;have om:=cy;unfold Gc at cy⊢;cases hm:m.tg with
 | nil=>
  rw[hm]at cy;have cy:At ts s.i (gv 59::A):=cy;rw[oO,dc h0 cy,if_pos (by decide)];dsimp only;rw[ia h0 cy (by decide)];rfl
 | cons x l=>
  rw[hm]at cy;have cy:At ts s.i (VM::(1,x,0)::(Gb l++gv 59::A)):=cy;have bJ:=At.inr hE (s:=cV s 2 0 0 0) (L:=Gb l) cy.tail.tail (by decide);have:=Ix (ts:=ts) hE l;rw[oO,dc h0 cy,if_neg (by decide),gL,rY (s:=cV s 1 0 0 0) h0 cy.tail];dsimp only;rw[cB,acd hE l ts.length ([]++[x]) (s:=cV s (1+1) (0+0) (0+0) (0+0)) h0 (by omega) cy.tail.tail,cB];dsimp only;rw[ia (s:=cV s (1+1+(Gb l).length) (0+0+0) (0+0+0) (0+0+0)) h0 (q:=gv 59) (A:=A) (by
   have:=cy.tail.tail.right;have e:s.i+1+1+(Gb l).length=(cV s (1+1+(Gb l).length) (0+0+0) (0+0+0) (0+0+0)).i:=by unfold cV;dsimp only;omega
   rw[<-e];exact this) (by decide),cB]
  simp only[aH,aD,aN,cd,dL];congr 2;omega
theorem Iz {s:Sx} (h0:s.fc=0) (m m0:Mv) (ha:(m.acts.length:Int)<=s.a) (hb:s.a<=1000) (h:m.acts.all fC=true) (hn:∀x,x∈m.acts->Ai x) {A:List K3} (cy:At ts s.i (((if m.acts=[]then[]else uQ m.acts)++(Gc m++[gv 59]))++A)) (YE:m0.tg=[]) (h0a:m0.acts=[]):
  ∃r,vU ts m0 s=({m0 with acts:=r,tg:=m.tg},cV s ((if m.acts=[]then[]else uQ m.acts)++(Gc m++[gv 59])).length m.acts.length 0 0)/\iu (AcE false) m.acts r:=by
 obtain⟨k0,v0,t0,d0,x0,ac0,g0,p0⟩:=m0;dsimp only at YE h0a;subst YE h0a;unfold vU;by_cases he:m.acts=[]
 ·rw[if_pos he]at cy⊢;have hw:bU ts s [[123]]=0:=by
   have om:=cy;unfold Gc at om;cases hm:m.tg with
   | nil=>
    rw[hm]at om;rw[dc h0 (q:=gv 59) (A:=A) om];decide
   | cons x l=>
    rw[hm]at om;rw[dc h0 (q:=VM) (A:=_) om];decide
  rw[hw,if_pos rfl,Iy hE h0 m _ cy rfl];refine⟨[],?_,by rw[he];exact yM⟩;rw[he];rfl
 ·rw[if_neg he]at cy⊢;rw[aV]at cy;have hw:bU ts s [[123]]=1:=by
   rw[dc h0 (q:=gv 123) cy];decide
  obtain⟨r,e1,e2⟩:=VR hE h0 ha hb h hn cy;rw[hw,if_neg (by decide),e1];dsimp only;rw[Iy hE (s:=cV s (uQ m.acts).length m.acts.length 0 0) h0 m _ cy.right rfl,cB];refine⟨r,?_,e2⟩;simp only[aD,gr]
theorem B1 {s:Sx} (h0:s.fc=0) (m m0:Mv) (ha:(m.acts.length:Int)<=s.a) (hb:s.a<=1000) (h:jA m=true) (hn:KW m) {A:List K3} (cy:At ts s.i ((T3 m++((if m.acts=[]then[]else uQ m.acts)++(Gc m++[gv 59])))++A))
  (YE:m0.tg=[]) (h0a:m0.acts=[]) (h0g:m0.gd=false) (h0x:m0.g=tG):
  ∃g r,mS ts m0 s=({m0 with gd:=m.gd,g:=g,acts:=r,tg:=m.tg},cV s (T3 m++((if m.acts=[]then[]else uQ m.acts)++(Gc m++[gv 59]))).length m.acts.length 0 0)/\Pn false m.g g/\iu (AcE false) m.acts r:=by
 unfold jA at h;simp only[aE]at h;obtain⟨⟨⟨⟨⟨_,_⟩,h3⟩,h4⟩,_⟩,_⟩:=h;obtain⟨k0,v0,t0,d0,x0,ac0,g0,p0⟩:=m0;dsimp only at YE h0a h0g h0x;subst YE h0a h0g h0x;unfold mS;unfold T3 at cy⊢;cases hg:m.gd with
 | false=>
  rw[hg]at h3 cy;simp only[fm,iy,cd]at h3 cy⊢;have hw:bU ts s [[91]]=0:=by
   have om:=cy;by_cases he:m.acts=[]
   ·rw[if_pos he]at om;unfold Gc at om;cases hm:m.tg with
    | nil=>
     rw[hm]at om;rw[dc h0 (q:=gv 59) (A:=A) om];decide
    | cons x l=>
     rw[hm]at om;rw[dc h0 (q:=VM) (A:=_) om];decide
   ·rw[if_neg he]at om;rw[dc h0 (q:=gv 123) (A:=_) om];decide
  obtain⟨r,e1,e2⟩:=Iz hE h0 m ⟨k0,v0,t0,false,tG,[],[],p0⟩ ha hb h4 hn.a cy rfl rfl;rw[hw,if_pos rfl,e1];exact⟨tG,r,rfl,Aq h3,e2⟩
 | true=>
  rw[hg]at h3 cy;simp only[if_true]at h3 cy⊢;have cy:At ts s.i (gv 91::(Ap m.g++gv 93::(((if m.acts=[]then[]else uQ m.acts)++(Gc m++[gv 59]))++A))):=by simpa using cy
  have hw:bU ts s [[91]]=1:=by
   rw[dc h0 cy];decide
  obtain⟨r1,r2⟩:=Nf hE (s:=cV s 1 0 0 0) h0 h3 hn.g (q:=gv 93) cy.tail ⟨rfl,.inr rfl⟩;rw[hw,if_neg (by decide),gL,r2,cB,ia (s:=cV s (1+(Ap m.g).length) (0+0) (0+0) (0+0)) h0 (q:=gv 93) (by
   have:=cy.tail.right;have e:s.i+1+(Ap m.g).length=(cV s (1+(Ap m.g).length) (0+0) (0+0) (0+0)).i:=by unfold cV;dsimp only;omega
   rw[<-e];exact this) (by decide),cB]
  obtain⟨r,e1,e2⟩:=Iz hE (s:=cV s (1+(Ap m.g).length+1) (0+0+0) (0+0+0) (0+0+0)) h0 m ⟨k0,v0,t0,true,(lR ts (cV s 1 0 0 0)).1,[],[],p0⟩ (by unfold cV;dsimp only;omega) (by unfold cV;dsimp only;omega) h4 hn.a (by
   have:=cy.tail.right.tail;have e:s.i+1+(Ap m.g).length+1=(cV s (1+(Ap m.g).length+1) (0+0+0) (0+0+0) (0+0+0)).i:=by unfold cV;dsimp only;omega
   rw[<-e];exact this) rfl rfl
  rw[e1,cB];refine⟨_,r,?_,r1,e2⟩;congr 2<;>(try simp only[aH,aD,aN])<;>omega
theorem Ro {s:Sx} (h0:s.fc=0) (ha:1<=s.m) (hb:s.m<=1000):pK ts s=cV s 0 0 1 0:=by
 unfold pK cV;rw[if_neg (by omega),ux ha hb];simp
theorem ahQ {s:Sx} (h0:s.fc=0) {m:Mv} (ha:(m.acts.length:Int)<=s.a) (hb:s.a<=1000) (wB:1<=s.m) (sX:s.m<=1000) (h:jA m=true) (hn:KW m) {A:List K3} (cy:At ts s.i (Iv m++A)):
  bU ts s [wx,fA,fU]=m.k.toNat/\1<=m.k/\MvE false m (kL ts m.k s).1/\(kL ts m.k s).2=cV s (Iv m).length m.acts.length 1 0:=by
 have h':=h;unfold jA at h';simp only[aE]at h';obtain⟨⟨⟨⟨⟨h1,h2⟩,_⟩,_⟩,_⟩,h6⟩:=h';have h1:=aG h1;have h6:=aG h6;unfold Iv at cy⊢;rw[aV]at cy;unfold kL;rw[Ro (ts:=ts) hE h0 wB sX,if_neg (fun e=>e h0)];generalize hR:T3 m++((if m.acts=[]then[]else uQ m.acts)++(Gc m++[gv 59]))=R at*
 unfold hdK at cy⊢;by_cases k1:m.k=1
 ·rw[if_pos k1]at cy h2⊢;rw[if_pos k1];have cy:At ts s.i ((2,wx,0)::(1,m.ev,0)::(R++A)):=cy;refine⟨by rw[dc h0 cy,k1];decide,by omega,?_⟩;rw[gL,cB,rY (s:=cV s (0+1) (0+0) (1+0) (0+0)) h0 cy.tail];dsimp only;rw[cB];obtain⟨g,r,e1,e2,e3⟩:=B1 hE (s:=cV s (0+1+1) (0+0+0) (1+0+0) (0+0+0)) h0 m {Mf m.k (tk ts s.i).a with ev:=m.ev} (by unfold cV;dsimp only;omega) (by unfold cV;dsimp only;omega) h hn (by rw[hR];exact cy.tail.tail) rfl rfl rfl rfl;rw[e1,hR,cB];refine⟨⟨rfl,rfl,?_,rfl,e2,e3,rfl,B0⟩,?_⟩
  ·show m.wt=0;omega
  ·dsimp only;congr 1<;>(try simp only[aH,aD,aN])<;>omega
 ·rw[if_neg k1]at cy h2⊢;rw[if_neg k1];have h2:=aG h2;by_cases k3:m.k=3
  ·rw[if_pos k3]at cy⊢;rw[if_pos k3];have cy:At ts s.i ((2,fU,0)::(3,[],m.wt)::(R++A)):=cy;refine⟨by rw[dc h0 cy,k3];decide,by omega,?_⟩;obtain⟨c1,c2,c3⟩:=rX (s:=cV s (0+1) (0+0) (1+0) (0+0)) (k:=3) h0 cy.tail rfl;rw[gL,cB,c2,c3];dsimp only;rw[cB];obtain⟨g,r,e1,e2,e3⟩:=B1 hE (s:=cV s (0+1+1) (0+0+0) (1+0+0) (0+0+0)) h0 m {Mf m.k (tk ts s.i).a with wt:=m.wt} (by unfold cV;dsimp only;omega) (by unfold cV;dsimp only;omega) h hn (by rw[hR];exact cy.tail.tail) rfl rfl rfl rfl;rw[e1,hR,cB];refine⟨⟨rfl,h2,rfl,rfl,e2,e3,rfl,B0⟩,?_⟩;dsimp only;congr 1<;>(try simp only[aH,aD,aN])<;>omega
  ·rw[if_neg k3]at cy⊢;rw[if_neg k3];have cy:At ts s.i ((2,fA,0)::(R++A)):=cy;have k2:m.k=2:=by omega
   refine⟨by rw[dc h0 cy,k2];decide,by omega,?_⟩;rw[gL,cB];obtain⟨g,r,e1,e2,e3⟩:=B1 hE (s:=cV s (0+1) (0+0) (1+0) (0+0)) h0 m (Mf m.k (tk ts s.i).a) (by unfold cV;dsimp only;omega) (by unfold cV;dsimp only;omega) h hn (by rw[hR];exact cy.tail) rfl rfl rfl rfl;rw[e1,hR,cB];refine⟨⟨rfl,h2,?_,rfl,e2,e3,rfl,B0⟩,?_⟩
   ·show m.wt=0;omega
   ·dsimp only;congr 1<;>(try simp only[aH,aD,aN])<;>omega
end
def Ng (x y:Nd):Prop:=∀d,TD false d x y
theorem B3 {b b':Nb} {l l':List Nd} (h:NbE false b b') (k:iu Ng l l'):Ng (.mk b l) (.mk b' l'):=fun d=>by
 cases d with
 | zero=>trivial
 | succ d=>exact⟨h,k.1,fun i x y hx hy=>k.2 i x y hx hy d⟩
def wa (q:K3):Prop:=KN q [wx,fA,fU]=0/\KN q [dE,fD,fE]=0/\q.1≠5
def ra (l:List Mv):Nat:=(l.map fun m=>m.acts.length).sum
theorem VS (b:Nb):uO b=b.en.length+(b.lv.length+ra b.mv):=by unfold uO ra;omega
section
variable {ts:List Tk} (hE:nY ts)
include hE
theorem VT {s:Sx} (h0:s.fc=0) (n:Nb) {h:wK} (hi:h.i=false) {x:aB} {A:List K3} (cy:At ts s.i ((2,dE,0)::(1,x,0)::gv 59::A)):db ts n h s=(true,{n with ini:=x},{h with i:=true},cV s 3 0 0 0):=by
 unfold db;have w1:bU ts s [wx,fA,fU]=0:=by rw[dc h0 cy];decide
 have w2:bU ts s [dE,fD,fE]=1:=by rw[dc h0 cy];decide
 rw[w1,if_neg (fun e=>e rfl),w2];show(if h.i=true then(false,n,h,iY ts s)else(true,{n with ini:=(gx ts (cJ s)).1},{h with i:=true},dA ts (gx ts (cJ s)).2 [59]))=_;rw[hi,if_neg (by decide),gL,rY (s:=cV s 1 0 0 0) h0 cy.tail];dsimp only;rw[ia (s:=cV (cV s 1 0 0 0) 1 0 0 0) h0 cy.tail.tail (by decide),cB,cB]
theorem ace {s:Sx} (h0:s.fc=0) (n:Nb) {h:wK} (hi:h.e=false) {l:List Ac} (ha:(l.length:Int)<=s.a) (hb:s.a<=1000) (hl:l.all fC=true) (hn:∀a,a∈l->Ai a) {A:List K3} (cy:At ts s.i ((2,fD,0)::(uQ l++A))):
  ∃r,db ts n h s=(true,{n with en:=r},{h with e:=true},cV s ((uQ l).length+1) l.length 0 0)/\iu (AcE false) l r:=by
 unfold db;have w1:bU ts s [wx,fA,fU]=0:=by rw[dc h0 cy];decide
 have w2:bU ts s [dE,fD,fE]=2:=by rw[dc h0 cy];decide
 rw[w1,if_neg (fun e=>e rfl),w2];obtain⟨r,e1,e2⟩:=VR hE (s:=cV s 1 0 0 0) h0 (by unfold cV;dsimp only;omega) (by unfold cV;dsimp only;omega) hl hn cy.tail
 suffices hh:(if h.e=true then(false,n,h,iY ts s)else(true,{n with en:=(fV ts (cJ s)).1},{h with e:=true},(fV ts (cJ s)).2))=(true,{n with en:=r},{h with e:=true},cV s ((uQ l).length+1) l.length 0 0)from⟨r,hh,e2⟩
 rw[hi,if_neg (by decide),gL,e1];dsimp only;rw[cB];congr 4<;>omega
theorem acf {s:Sx} (h0:s.fc=0) (n:Nb) {h:wK} (hi:h.l=false) {l:List Ac} (ha:(l.length:Int)<=s.a) (hb:s.a<=1000) (hl:l.all fC=true) (hn:∀a,a∈l->Ai a) {A:List K3} (cy:At ts s.i ((2,fE,0)::(uQ l++A))):
  ∃r,db ts n h s=(true,{n with lv:=r},{h with l:=true},cV s ((uQ l).length+1) l.length 0 0)/\iu (AcE false) l r:=by
 unfold db;have w1:bU ts s [wx,fA,fU]=0:=by rw[dc h0 cy];decide
 have w2:bU ts s [dE,fD,fE]=3:=by rw[dc h0 cy];decide
 rw[w1,if_neg (fun e=>e rfl),w2];obtain⟨r,e1,e2⟩:=VR hE (s:=cV s 1 0 0 0) h0 (by unfold cV;dsimp only;omega) (by unfold cV;dsimp only;omega) hl hn cy.tail
 suffices hh:(if h.l=true then(false,n,h,iY ts s)else(true,{n with lv:=(fV ts (cJ s)).1},{h with l:=true},(fV ts (cJ s)).2))=(true,{n with lv:=r},{h with l:=true},cV s ((uQ l).length+1) l.length 0 0)from⟨r,hh,e2⟩
 rw[hi,if_neg (by decide),gL,e1];dsimp only;rw[cB];congr 4<;>omega
theorem acg {s:Sx} (h0:s.fc=0) (n:Nb) (h:wK) {m:Mv} (ha:(m.acts.length:Int)<=s.a) (hb:s.a<=1000) (wB:1<=s.m) (sX:s.m<=1000) (hm:jA m=true) (hn:KW m) {A:List K3} (cy:At ts s.i (Iv m++A)):
  ∃r,db ts n h s=(true,{n with mv:=n.mv++[r]},h,cV s (Iv m).length m.acts.length 1 0)/\MvE false m r:=by
 obtain⟨h1,h2,h3,h4⟩:=ahQ hE h0 ha hb wB sX hm hn cy;unfold db;rw[h1,if_pos (by omega),fM (by omega),h4];exact⟨_,rfl,h3⟩
theorem Rq {s:Sx} (h0:s.fc=0) (n:Nb) (h:wK) {q:K3} {A:List K3} (hq:wa q) (cy:At ts s.i (q::A)):db ts n h s=(false,n,h,s):=by
 unfold db;rw[dc h0 cy,dc h0 cy,hq.1,hq.2.1,if_neg (fun e=>e rfl)];rfl
theorem uy {s:Sx} (h0:s.fc=0) {f:Nat} {n n':Nb} {h h':wK} {s':Sx} (hc:db ts n h s=(true,n',h',s')):fi ts (f+1) n h s=fi ts f n' h' s':=by
 rw[fi,if_neg (fun e=>e h0),hc];rfl
theorem Nh:∀(l:List Mv) (f:Nat) (n:Nb) (h:wK) {s:Sx},s.fc=0->l.length<f->(ra l:Int)<=s.a->s.a<=1000->(l.length:Int)<=s.m->s.m<=1000->l.all jA=true->(∀m,m∈l->KW m)->∀{q:K3} {A:List K3},wa q->At ts s.i (tC l++q::A)->
  ∃r,fi ts f n h s=({n with mv:=n.mv++r},cV s (tC l).length (ra l) l.length 0)/\iu (MvE false) l r
 | [],f,n,h,s,h0,hf,ha,hb,wB,sX,hl,hn,q,A,hq,cy=>by
  obtain⟨f,rfl⟩:∃g,f=g+1:=⟨f-1,by rw[aN]at hf;omega⟩
  have cy:At ts s.i (q::A):=cy;rw[fi,if_neg (fun e=>e h0),Rq hE h0 n h hq cy];refine⟨[],?_,yM⟩;rw[br];show(n,s)=(n,cV s 0 0 0 0)
  rw[VQ]
 | m::l,f,n,h,s,h0,hf,ha,hb,wB,sX,hl,hn,q,A,hq,cy=>by
  rw[aH]at hf wB;obtain⟨f,rfl⟩:∃g,f=g+1:=⟨f-1,by omega⟩
  rw[jh,aE]at hl;have es:ra (m::l)=m.acts.length+ra l:=by unfold ra;rw[bg,bQ]
  rw[es]at ha;have cy:At ts s.i ((Iv m++tC l)++q::A):=cy;rw[aV]at cy;obtain⟨x,e1,e2⟩:=acg hE h0 n h (by omega) hb (by omega) sX hl.1 (hn m (by simp)) cy;rw[uy hE h0 e1];obtain⟨r,e3,e4⟩:=Nh l f {n with mv:=n.mv++[x]} h (s:=cV s (Iv m).length m.acts.length 1 0) h0 (by omega) (by unfold cV;dsimp only;omega) (by unfold cV;dsimp only;omega) (by unfold cV;dsimp only;omega) (by unfold cV;dsimp only;omega) hl.2 (fun y hy=>hn y (by simp[hy])) hq cy.right;refine⟨x::r,?_,Rl e2 e4⟩;rw[e3,cB,es];simp only[tC,aD,aH,aV,dL];congr 2;omega
theorem En:∀l:List Mv,l.length<=(tC l).length
 | []=>aK _
 | m::l=>by
  have h1:=En l;have h2:1<=(Iv m).length:=by
   unfold Iv hdK;rw[aD];split
   ·simp only[aH];omega
   ·split<;>(simp only[aH];omega)
  rw[tC,aD,aH];omega
theorem T8 {f:Nat} {n:Nb} {h:wK} {s:Sx} {b:Nb} (h0:s.fc=0) (hf:(JU b).length+b.mv.length<f) (ha:(b.lv.length+ra b.mv:Nat)<=s.a) (hb:s.a<=1000) (wB:(b.mv.length:Int)<=s.m) (sX:s.m<=1000) (hs:YD b) (hn:Un b) {q:K3} {A:List K3} (hq:wa q) (cy:At ts s.i (JU b++(tC b.mv++q::A))) (hl:h.l=false) (vM:n.lv=[]):
  ∃r1 r2,fi ts f n h s=({n with lv:=r1,mv:=n.mv++r2},cV s ((JU b).length+(tC b.mv).length) (b.lv.length+ra b.mv) b.mv.length 0)/\iu (AcE false) b.lv r1/\iu (MvE false) b.mv r2:=by
 obtain⟨nk,nn,ni,nd,ne,nl,nm,na⟩:=n;dsimp only at vM;subst vM;unfold JU at cy hf⊢;by_cases he:b.lv=[]
 ·rw[if_pos he]at cy hf⊢;rw[aN]at hf;obtain⟨r,e1,e2⟩:=Nh hE b.mv f _ h h0 (by omega) (by omega) hb wB sX hs.mv hn.mv hq cy;refine⟨[],r,?_,by rw[he];exact yM,e2⟩;rw[e1,he];simp only[aN,bm]
 ·rw[if_neg he]at cy hf⊢;simp only[aH]at hf;obtain⟨f,rfl⟩:∃g,f=g+1:=⟨f-1,by omega⟩
  obtain⟨r1,e1,e2⟩:=acf hE h0 _ hl (by omega) hb hs.lv hn.lv cy;rw[uy hE h0 e1];obtain⟨r2,e3,e4⟩:=Nh hE b.mv f _ _ (s:=cV s ((uQ b.lv).length+1) b.lv.length 0 0) h0 (by omega) (by unfold cV;dsimp only;omega) (by unfold cV;dsimp only;omega) (by unfold cV;dsimp only;omega) (by unfold cV;dsimp only;omega) hs.mv hn.mv hq (by
   have h5:=cy.tail.right;have e:s.i+1+(uQ b.lv).length=(cV s ((uQ b.lv).length+1) b.lv.length 0 0).i:=by unfold cV;dsimp only;omega
   rw[<-e];exact h5)
  refine⟨r1,r2,?_,e2,e4⟩;rw[e3,cB,aH];congr 2;omega
theorem T9 {f:Nat} {n:Nb} {h:wK} {s:Sx} {b:Nb} (h0:s.fc=0) (hf:(Pv b).length+((JU b).length+b.mv.length)<f) (ha:(b.en.length+(b.lv.length+ra b.mv):Nat)<=s.a) (hb:s.a<=1000) (wB:(b.mv.length:Int)<=s.m) (sX:s.m<=1000) (hs:YD b) (hn:Un b) {q:K3} {A:List K3} (hq:wa q) (cy:At ts s.i (Pv b++(JU b++(tC b.mv++q::A)))) (he0:h.e=false) (hl:h.l=false) (zJ:n.en=[]) (vM:n.lv=[]):
  ∃r0 r1 r2,fi ts f n h s=({n with en:=r0,lv:=r1,mv:=n.mv++r2},cV s ((Pv b).length+((JU b).length+(tC b.mv).length)) (b.en.length+(b.lv.length+ra b.mv)) b.mv.length 0)/\iu (AcE false) b.en r0/\iu (AcE false) b.lv r1/\iu (MvE false) b.mv r2:=by
 obtain⟨nk,nn,ni,nd,ne,nl,nm,na⟩:=n;dsimp only at vM zJ;subst vM zJ;unfold Pv at cy hf⊢;by_cases he:b.en=[]
 ·rw[if_pos he]at cy hf⊢;rw[aN]at hf;obtain⟨r1,r2,e1,e2,e3⟩:=T8 hE (f:=f) (h:=h) (n:=⟨nk,nn,ni,nd,[],[],nm,na⟩) h0 (by omega) (by omega) hb wB sX hs hn hq cy hl rfl;refine⟨[],r1,r2,?_,by rw[he];exact yM,e2,e3⟩;rw[e1,he];simp only[aN,bm]
 ·rw[if_neg he]at cy hf⊢;simp only[aH]at hf;obtain⟨f,rfl⟩:∃g,f=g+1:=⟨f-1,by omega⟩
  obtain⟨r0,e1,e2⟩:=ace hE h0 _ he0 (by omega) hb hs.en hn.en cy;rw[uy hE h0 e1];obtain⟨r1,r2,e3,e4,e5⟩:=T8 hE (n:=⟨nk,nn,ni,nd,r0,[],nm,na⟩) (h:={h with e:=true}) (s:=cV s ((uQ b.en).length+1) b.en.length 0 0) h0 (f:=f) (by omega) (by unfold cV;dsimp only;omega) (by unfold cV;dsimp only;omega) (by unfold cV;dsimp only;omega) (by unfold cV;dsimp only;omega) hs hn hq (by
   have h5:=cy.tail.right;have e:s.i+1+(uQ b.en).length=(cV s ((uQ b.en).length+1) b.en.length 0 0).i:=by unfold cV;dsimp only;omega
   rw[<-e];exact h5) hl rfl
  refine⟨r0,r1,r2,?_,e2,e4,e5⟩;rw[e3,cB,aH];congr 2<;>omega
theorem ahR {f:Nat} {n:Nb} {s:Sx} {b:Nb} (h0:s.fc=0) (hf:(Gd b).length+((Pv b).length+((JU b).length+b.mv.length))<f) (ha:(uO b:Int)<=s.a) (hb:s.a<=1000) (wB:(b.mv.length:Int)<=s.m) (sX:s.m<=1000) (hs:YD b) (hn:Un b) {q:K3} {A:List K3} (hq:wa q) (cy:At ts s.i (vw b++q::A)) (R8:n.ini=[]) (zJ:n.en=[]) (vM:n.lv=[]) (qn:n.mv=[]):
  ∃r0 r1 r2,fi ts f n ⟨false,false,false⟩ s=({n with ini:=b.ini,en:=r0,lv:=r1,mv:=r2},cV s (vw b).length (uO b) b.mv.length 0)/\iu (AcE false) b.en r0/\iu (AcE false) b.lv r1/\iu (MvE false) b.mv r2:=by
 rw[VS]at ha⊢;obtain⟨nk,nn,ni,nd,ne,nl,nm,na⟩:=n;dsimp only at R8 vM zJ qn;subst R8 vM zJ qn;unfold vw at cy⊢;have cy:At ts s.i (Gd b++(Pv b++(JU b++(tC b.mv++q::A)))):=by simpa[aV]using cy
 simp only[aD];unfold Gd at cy hf⊢;by_cases he:b.ini=[]
 ·rw[if_pos he]at cy hf⊢;rw[aN]at hf;obtain⟨r0,r1,r2,e1,e2⟩:=T9 hE (f:=f) (n:=⟨nk,nn,[],nd,[],[],[],na⟩) (h:=⟨false,false,false⟩) h0 (by omega) ha hb wB sX hs hn hq cy rfl rfl rfl rfl;refine⟨r0,r1,r2,?_,e2⟩;rw[e1,he];simp only[aN,bm,cd]
 ·rw[if_neg he]at cy hf⊢;simp only[aH]at hf;obtain⟨f,rfl⟩:∃g,f=g+1:=⟨f-1,by omega⟩
  have e1:=VT hE h0 ⟨nk,nn,[],nd,[],[],[],na⟩ (h:=⟨false,false,false⟩) rfl cy;rw[uy hE h0 e1];obtain⟨r0,r1,r2,e3,e4⟩:=T9 hE (n:=⟨nk,nn,b.ini,nd,[],[],[],na⟩) (h:=⟨true,false,false⟩) (s:=cV s 3 0 0 0) h0 (f:=f) (by omega) (by unfold cV;dsimp only;omega) (by unfold cV;dsimp only;omega) (by unfold cV;dsimp only;omega) (by unfold cV;dsimp only;omega) hs hn hq cy.tail.tail.tail rfl rfl rfl rfl;refine⟨r0,r1,r2,?_,e4⟩;rw[e3,cB];simp only[aH,aN,cd];congr 2<;>omega
theorem yN {s:Sx} (h0:s.fc=0) (k:Int) {nm:aB} {A:List K3} (cy:At ts s.i ((1,nm,0)::A)) (hn1:1<=s.n) (hn2:s.n<=1000) (hd:s.d≠0):∃a,dR ts k s=({TB with k:=k,nm:=nm,a:=a},cV s 1 0 0 1):=by
 have hu:zv ts s=cV s 0 0 0 1:=by
  unfold zv cV;rw[if_neg (by omega),ux hn1 hn2];simp
 have hr:nK ts s=cV s 0 0 0 1:=by
  unfold nK;rw[if_pos cy.head.1,hu,if_neg (show ¬(cV s 0 0 0 1).d=0 from hd)]
 obtain⟨c1,c2,c3⟩:=rX (s:=cV s 0 0 0 1) (k:=1) h0 (q:=(1,nm,0)) (A:=A) cy rfl;refine⟨(eW ts (cV s 0 0 0 1) 1).1.a,?_⟩;unfold dR;rw[hr,c1,c3,cB]
theorem VU {k:Int} (h1:1<=k) (h2:k<=4):KN (2,kW k,0) mT=k.toNat:=by
 have:k=1∨k=2∨k=3∨k=4:=by omega
 rcases this with rfl | rfl | rfl | rfl<;>decide
theorem B4 {d:Nat} {b:Nb} {l:List Nd} (h:jJ d (.mk b l)=true):1<=b.k/\b.k<=4:=by
 rw[jJ]at h;simp only[aE]at h;cases hh:j5 b.k with
 | true=>
  have:=aG hh;omega
 | false=>
  have:=(Na h.1.2 hh).1;omega
theorem uz (x:Nd):∃B,JV x=(2,kW x.b.k,0)::B:=by
 obtain⟨b,l⟩:=x;rw[JV];split
 ·exact⟨_,rfl⟩
 ·exact⟨_,rfl⟩
abbrev Ni (ts:List Tk) (f:Nat):Prop:=∀(x:Nd) (deep:Nat) {s:Sx} {A:List K3},jJ deep x=true->vX x->s.fc=0->s.d=12-(deep:Int)->13<=deep+f->(nQ x:Int)<=s.n->s.n<=1000->(rQ x:Int)<=s.a->s.a<=1000->(rP x:Int)<=s.m->s.m<=1000->At ts s.i ((JV x).tail++A)->
 ∃r,jf ts f x.b.k s=(r,cV s ((JV x).length-1) (rQ x) (rP x) (nQ x))/\Ng x r
theorem Nj {N:Nat} (hN:Ni ts N):∀(l:List Nd) (f:Nat) (acc:List Nd) (deep:Nat) {s:Sx},gK deep l=true->sE l->s.fc=0->s.d=12-(deep:Int)->13<=deep+N->l.length<f->(gy l:Int)<=s.n->s.n<=1000->(jB l:Int)<=s.a->s.a<=1000->(ku l:Int)<=s.m->s.m<=1000->∀{A:List K3},At ts s.i (jw l++gv 125::A)->
  ∃r,qd ts (jf ts N) f acc s=(acc++r,cV s (jw l).length (jB l) (ku l) (gy l))/\iu Ng l r
 | [],f,acc,deep,s,h,hn,h0,hd,N1,hf,n1,n2,a1,a2,m1,m2,A,cy=>by
  obtain⟨f,rfl⟩:∃g,f=g+1:=⟨f-1,by rw[aN]at hf;omega⟩
  rw[jw]at cy⊢;have cy:At ts s.i (gv 125::A):=cy;rw[qd,dc h0 cy,if_pos (by decide),jB,ku,gy];exact⟨[],by rw[br,aN,VQ],yM⟩
 | x::l,f,acc,deep,s,h,hn,h0,hd,N1,hf,n1,n2,a1,a2,m1,m2,A,cy=>by
  rw[aH]at hf;obtain⟨f,rfl⟩:∃g,f=g+1:=⟨f-1,by omega⟩
  rw[gK,aE]at h;rw[sE]at hn;rw[gy]at n1⊢;rw[jB]at a1⊢;rw[ku]at m1⊢;rw[jw]at cy⊢;rw[aV]at cy;obtain⟨B,hB⟩:=uz (ts:=ts) hE x;have hk:=B4 (ts:=ts) hE (d:=deep) (b:=x.b) (l:=x.kids) (by obtain⟨b,k⟩:=x;exact h.1);have hw:bU ts s mT=x.b.k.toNat:=by
   have om:=cy;rw[hB]at om;rw[dc h0 om];exact VU (ts:=ts) hE hk.1 hk.2
  have P0:(x.b.k.toNat:Int)=x.b.k:=fM (by omega);have h1:At ts (cV s 1 0 0 0).i ((JV x).tail++(jw l++gv 125::A)):=by
   have om:=cy;rw[hB]at om⊢;exact om.tail
  have dN:1<=(JV x).length:=by rw[hB,aH];omega
  obtain⟨r,e1,e2⟩:=hN x deep (s:=cV s 1 0 0 0) h.1 hn.1 h0 hd N1 (by unfold cV;dsimp only;omega) (by unfold cV;dsimp only;omega) (by unfold cV;dsimp only;omega) (by unfold cV;dsimp only;omega) (by unfold cV;dsimp only;omega) (by unfold cV;dsimp only;omega) h1;rw[qd,hw,if_neg (by omega),P0,gL,e1];dsimp only;rw[cB];obtain⟨r2,e3,e4⟩:=Nj hN l f (acc++[r]) deep (s:=cV s (1+((JV x).length-1)) (0+rQ x) (0+rP x) (0+nQ x)) h.2 hn.2 h0 hd N1 (by omega) (by unfold cV;dsimp only;omega) (by unfold cV;dsimp only;omega) (by unfold cV;dsimp only;omega) (by unfold cV;dsimp only;omega) (by unfold cV;dsimp only;omega) (by unfold cV;dsimp only;omega) (by
   have h5:=cy.right;have e:s.i+(JV x).length=(cV s (1+((JV x).length-1)) (0+rQ x) (0+rP x) (0+nQ x)).i:=by unfold cV;dsimp only;omega
   rw[<-e];exact h5)
  refine⟨r::r2,?_,Rl e2 e4⟩;rw[e3,cB,aV,aD];simp only[dL];congr 2<;>omega
theorem Eo:∀l:List Nd,l.length<=(jw l).length
 | []=>aQ _
 | x::l=>by
  have:=Eo l;obtain⟨B,hB⟩:=uz (ts:=ts) hE x;rw[jw,hB,aD,aH,aH];omega
theorem Ep (l:List Nd) (h:∀x,x∈l->1<=x.b.k/\x.b.k<=4) (A:List K3):∃q B,jw l++gv 125::A=q::B/\wa q:=by
 cases l with
 | nil=>
  rw[jw];exact⟨_,_,rfl,by unfold wa;decide⟩
 | cons x l=>
  obtain⟨B,hB⟩:=uz (ts:=ts) hE x;rw[jw,hB];refine⟨_,_,rfl,?_⟩;obtain⟨h1,h2⟩:=h x (by simp);have:x.b.k=1∨x.b.k=2∨x.b.k=3∨x.b.k=4:=by omega
  unfold wa;rcases this with e | e | e | e<;>rw[e]<;>decide
theorem uA {d:Nat}:∀{l:List Nd},gK d l=true->∀x,x∈l->1<=x.b.k/\x.b.k<=4
 | [],_,x,hx=>by simp at hx
 | y::l,h,x,hx=>by
  rw[gK,aE]at h;rcases aL.1 hx with rfl | hx
  ·obtain⟨b,k⟩:=x;exact B4 (ts:=ts) hE h.1
  ·exact uA h.2 x hx
theorem Nk {N:Nat} (hN:Ni ts N) {b:Nb} {l:List Nd} {deep:Nat} {s:Sx} {n:Nb} (hl:gK (deep+1) l=true) (XF:sE l) (hs:YD b) (hn:Un b) (h0:s.fc=0) (hd:s.d=12-(deep:Int)) (hdp:deep<12) (N1:13<=deep+1+N)
  (n1:(gy l:Int)<=s.n) (n2:s.n<=1000) (a1:(uO b+jB l:Nat)<=s.a) (a2:s.a<=1000) (m1:(b.mv.length+ku l:Nat)<=s.m) (m2:s.m<=1000) {A:List K3} (cy:At ts s.i ((vw b++(jw l++[gv 125]))++A)) (R8:n.ini=[]) (zJ:n.en=[]) (vM:n.lv=[]) (qn:n.mv=[]):
  ∃r0 r1 r2 r,nJ ts (jf ts N) n s=(.mk {n with ini:=b.ini,en:=r0,lv:=r1,mv:=r2} r,cV s (vw b++(jw l++[gv 125])).length (uO b+jB l) (b.mv.length+ku l) (gy l))/\iu (AcE false) b.en r0/\iu (AcE false) b.lv r1/\iu (MvE false) b.mv r2/\iu Ng l r:=by
 have cy:At ts s.i (vw b++(jw l++gv 125::A)):=by simpa[aV]using cy
 obtain⟨q,B,hq1,Wk⟩:=Ep hE l (uA hE hl) A;have KX:=At.inr hE (s:=s) (L:=vw b++jw l) (q:=gv 125) (A:=A) (by simpa[aV]using cy) (by decide);rw[aD]at KX;have OD:=En (ts:=ts) hE b.mv;have Oo:=Eo (ts:=ts) hE l;have aqx:(Gd b).length+((Pv b).length+((JU b).length+(tC b.mv).length))=(vw b).length:=by unfold vw;simp only[aD]
 have O3:uN s.d=s.d-1:=ux (by omega) (by omega);have hi1:Vi (s.d-1)=s.d:=by
  unfold Vi;rw[fy (by omega) (by omega)];omega
 have O4:=cy;rw[hq1]at O4;obtain⟨r0,r1,r2,e1,e2,e3,e4⟩:=ahR hE (f:=ts.length+1) (n:=n) (s:={s with d:=s.d-1}) h0 (by omega) (by dsimp only;omega) a2 (by dsimp only;omega) m2 hs hn Wk O4 R8 zJ vM qn;obtain⟨r,e5,e6⟩:=Nj hE hN l (ts.length+1) [] (deep+1) (s:=cV {s with d:=s.d-1} (vw b).length (uO b) b.mv.length 0) hl XF h0 (by unfold cV;dsimp only;omega) N1 (by omega) (by unfold cV;dsimp only;omega) (by unfold cV;dsimp only;omega) (by unfold cV;dsimp only;omega) (by unfold cV;dsimp only;omega) (by unfold cV;dsimp only;omega) (by unfold cV;dsimp only;omega) cy.right;refine⟨r0,r1,r2,r,?_,e2,e3,e4,e6⟩;unfold nJ;dsimp only;rw[O3,e1];dsimp only;rw[e5];dsimp only;have e7:({cV (cV {s with d:=s.d-1} (vw b).length (uO b) b.mv.length 0) (jw l).length (jB l) (ku l) (gy l)with d:=Vi (cV (cV {s with d:=s.d-1} (vw b).length (uO b) b.mv.length 0) (jw l).length (jB l) (ku l) (gy l)).d}:Sx)=cV s ((vw b).length+(jw l).length) (uO b+jB l) (b.mv.length+ku l) (0+gy l):=by
  rw[cB];unfold cV;dsimp only;rw[hi1]
 rw[e7,ia (s:=cV s ((vw b).length+(jw l).length) (uO b+jB l) (b.mv.length+ku l) (0+gy l)) h0 (q:=gv 125) (A:=A) (by
  have h5:=cy.right.right;rw[eH]at h5;exact h5) (by decide),cB,cd]
 simp only[aD,aH,aN];congr 2<;>omega
theorem Nl:∀f,Ni ts f
 | 0=>by
  intro x deep s A h hn h0 hd N1;obtain⟨b,l⟩:=x;rw[jJ]at h;simp only[aE]at h;have:=aG h.1.1;omega
 | f+1=>by
  intro x deep s A h hn h0 hd N1 n1 n2 a1 a2 m1 m2 cy;obtain⟨b,l⟩:=x;have hk:=B4 (ts:=ts) hE h;rw[jJ]at h;rw[vX]at hn;rw[nQ]at n1⊢;rw[rQ]at a1⊢;rw[rP]at m1⊢;simp only[aE]at h;obtain⟨⟨h1,h2⟩,h3⟩:=h;have h1:=aG h1;show ∃r,jf ts (f+1) b.k s=_/\_;rw[JV]at cy⊢;rw[jf];cases hh:j5 b.k with
  | true=>
   obtain⟨g1,g2,g3,g4,g5,g6,g7⟩:=ab8 h2 hh;have h34:=aG hh;have hl:l=[]:=bc g7;subst hl;rw[hh,if_pos rfl]at cy;have cy:At ts s.i ((1,b.nm,0)::VM::(1,b.dft,0)::gv 59::A):=cy;obtain⟨a,e1⟩:=yN hE h0 b.k cy (by omega) n2 (by omega);rw[if_pos (by omega),if_pos rfl,e1];dsimp only;rw[ia (s:=cV s 1 0 0 1) h0 cy.tail (by decide),cB,rY (s:=cV s (1+1) (0+0) (0+0) (1+0)) h0 cy.tail.tail];dsimp only;rw[ia (s:=cV (cV s (1+1) (0+0) (0+0) (1+0)) 1 0 0 0) h0 cy.tail.tail.tail (by decide),cB,cB];refine⟨_,?_,B3 (b':={TB with k:=b.k,nm:=b.nm,a:=a,dft:=b.dft}) ⟨rfl,rfl,g3,rfl,by rw[g4];exact yM,by rw[g5];exact yM,by rw[g6];exact yM,B0⟩ yM⟩;congr 1;rw[jB,ku,gy];have:uO b=0:=by unfold uO;rw[g4,g5,g6];rfl
   rw[this,g6];rfl
  | false=>
   obtain⟨g1,g2,hs⟩:=Na h2 hh;rw[hh,if_neg (by decide)]at cy;have cy:At ts s.i ((1,b.nm,0)::gv 123::((vw b++(jw l++[gv 125]))++A)):=cy;obtain⟨a,e1⟩:=yN hE h0 b.k cy (by omega) n2 (by omega);rw[if_neg (by omega),if_neg (by decide),e1];dsimp only;rw[ia (s:=cV s 1 0 0 1) h0 cy.tail (by decide),cB];obtain⟨r0,r1,r2,r,e2,e3,e4,e5,e6⟩:=Nk hE (Nl f) (deep:=deep) (s:=cV s (1+1) (0+0) (0+0) (1+0)) (n:={TB with k:=b.k,nm:=b.nm,a:=a}) h3 hn.2 hs hn.1 h0 hd h1 (by omega) (by unfold cV;dsimp only;omega) (by unfold cV;dsimp only;omega) (by unfold cV;dsimp only;omega) (by unfold cV;dsimp only;omega) (by unfold cV;dsimp only;omega) (by unfold cV;dsimp only;omega) cy.tail.tail rfl rfl rfl rfl;rw[e2,cB];refine⟨_,?_,B3 (b':={TB with k:=b.k,nm:=b.nm,a:=a,ini:=b.ini,en:=r0,lv:=r1,mv:=r2}) ⟨rfl,rfl,rfl,g2,e3,e4,e5,B0⟩ e6⟩;congr 2<;>(try simp only[aH])<;>omega
theorem ach {s:Sx} (h0:s.fc=0) {v:Int} (hv:vR v) (hm:v≠ -9223372036854775808) {q:K3} {A:List K3} (cy:At ts s.i (wz v++q::A)):
  ∃g:Nat,bU ts s [[45]]=g/\(if g=0 then(eW ts (if g=0 then s else cJ s) 3).1.n else ar U (-(eW ts (if g=0 then s else cJ s) 3).1.n))=v/\(eW ts (if g=0 then s else cJ s) 3).2=cV s (wz v).length 0 0 0:=by
 obtain⟨h1,h2⟩:=hv;unfold wz at cy⊢;by_cases hn:v<0
 ·rw[if_pos hn]at cy⊢;have cy:At ts s.i (gv 45::(3,[], -v)::q::A):=cy;obtain⟨c1,c2,c3⟩:=rX (s:=cV s 1 0 0 0) (k:=3) h0 cy.tail rfl;refine⟨1,by rw[dc h0 cy];decide,?_,?_⟩
  ·rw[if_neg (by decide),if_neg (by decide),gL,c2];dsimp only;rw[Int.neg_neg,fy h1 h2]
  ·rw[if_neg (by decide),gL,c3,cB];rfl
 ·rw[if_neg hn]at cy⊢;have cy:At ts s.i ((3,[],v)::q::A):=cy;obtain⟨c1,c2,c3⟩:=rX (s:=s) (k:=3) h0 cy rfl;exact⟨0,by rw[dc h0 cy];rfl,by rw[if_pos rfl,if_pos rfl,c2],by rw[if_pos rfl,c3];rfl⟩
theorem aci {s:Sx} (h0:s.fc=0) (v1:1<=s.v) (v2:s.v<=1000) {v:Vr} (hv:vR v.v) (hm:v.v≠ -9223372036854775808) {A:List K3} (cy:At ts s.i ((Nc v).tail++A)):
  ∃r,qO ts s=(r,cV {s with v:=s.v-1} (Nc v).tail.length 0 0 0)/\VrE false v r:=by
 have cy:At ts s.i ((1,v.n,0)::gv 61::((wz v.v++[gv 59])++A)):=cy;have hu:zw ts s={s with v:=s.v-1}:=by
  unfold zw;rw[if_neg (by omega),ux v1 v2]
 unfold qO;dsimp only;rw[if_pos cy.head.1,hu];generalize NY:({s with v:=s.v-1}:Sx)=s1;have e0:s1.fc=0:=by rw[<-NY];exact h0
 have cy:At ts s1.i ((1,v.n,0)::gv 61::((wz v.v++[gv 59])++A)):=by rw[<-NY];exact cy
 obtain⟨c1,c2,c3⟩:=rX (s:=s1) (k:=1) e0 cy rfl;rw[c1,c3,ia (s:=cV s1 1 0 0 0) e0 cy.tail (by decide),cB];have h2:At ts (cV s1 (1+1) (0+0) (0+0) (0+0)).i (wz v.v++gv 59::A):=by
  have:=cy.tail.tail;rw[aV]at this;exact this
 obtain⟨g,g1,g2,g3⟩:=ach hE (s:=cV s1 (1+1) (0+0) (0+0) (0+0)) e0 hv hm h2;rw[g1,g2,g3,cB,ia (s:=cV s1 (1+1+(wz v.v).length) (0+0+0) (0+0+0) (0+0+0)) e0 (q:=gv 59) (A:=A) (by
  have h5:=h2.right;have e:(cV s1 (1+1) (0+0) (0+0) (0+0)).i+(wz v.v).length=(cV s1 (1+1+(wz v.v).length) (0+0+0) (0+0+0) (0+0+0)).i:=by unfold cV;dsimp only;omega
  rw[<-e];exact h5) (by decide),cB]
 refine⟨⟨v.n,v.v,(eW ts s1 1).1.a⟩,?_,⟨rfl,rfl,B0⟩⟩;unfold Nc;simp only[List.tail_cons,aH,aD,aN];congr 2;omega
theorem Nn:∀(l:List Vr) (f:Nat) (acc:List Vr) {s:Sx},s.fc=0->l.length<f->(l.length:Int)<=s.v->s.v<=1000->(∀v,v∈l->vR v.v/\v.v≠ -9223372036854775808)->∀{q:K3} {A:List K3},KN q [sB]=0->At ts s.i (sH l++q::A)->
  ∃r,qQ ts f acc s=(acc++r,cV {s with v:=s.v-l.length} (sH l).length 0 0 0)/\iu (VrE false) l r
 | [],f,acc,s,h0,hf,v1,v2,hv,q,A,hq,cy=>by
  obtain⟨f,rfl⟩:∃g,f=g+1:=⟨f-1,by rw[aN]at hf;omega⟩
  have cy:At ts s.i (q::A):=cy;rw[qQ,dc h0 cy,if_pos hq];refine⟨[],?_,yM⟩;rw[br];unfold cV sH;simp
 | v::l,f,acc,s,h0,hf,v1,v2,hv,q,A,hq,cy=>by
  rw[aH]at hf v1;obtain⟨f,rfl⟩:∃g,f=g+1:=⟨f-1,by omega⟩
  have cy:At ts s.i ((Nc v++sH l)++q::A):=cy;rw[aV]at cy;have O4:At ts s.i ((2,sB,0)::((Nc v).tail++(sH l++q::A))):=cy;obtain⟨r,e1,e2⟩:=aci hE (s:=cV s 1 0 0 0) h0 (by unfold cV;dsimp only;omega) (by unfold cV;dsimp only;omega) (hv v (by simp)).1 (hv v (by simp)).2 O4.tail;rw[qQ,dc h0 O4,if_neg (by decide),gL,e1];dsimp only;have e3:cV {cV s 1 0 0 0 with v:=(cV s 1 0 0 0).v-1} (Nc v).tail.length 0 0 0=cV {s with v:=s.v-1} (Nc v).length 0 0 0:=by
   unfold cV Nc;simp only[List.tail_cons,aH,Sx.mk.injEq,true_and];refine⟨by omega,?_,?_,?_⟩<;>omega
  rw[e3];obtain⟨r2,e4,e5⟩:=Nn l f (acc++[r]) (s:=cV {s with v:=s.v-1} (Nc v).length 0 0 0) h0 (by omega) (by unfold cV;dsimp only;omega) (by unfold cV;dsimp only;omega) (fun x hx=>hv x (by simp[hx])) hq cy.right;refine⟨r::r2,?_,Rl e2 e5⟩;rw[e4,aV,aH];simp only[dL];congr 1;unfold cV;simp only[sH,aD,Sx.mk.injEq,true_and];refine⟨by omega,by omega,?_,?_,?_⟩<;>omega
theorem Es:∀l:List Vr,l.length<=(sH l).length
 | []=>aK _
 | v::l=>by
  have:=Es l;rw[sH,aD,aH];unfold Nc;rw[aH];omega
theorem Rs {c:Ch} (h:qk c=true) (hn:PV c) (cy:At ts 0 (XZ c++[(5,[],0)])):(qR ts).2.fc=0/\∀d,ChE false d c (qR ts).1:=by
 unfold qk at h;simp only[aE]at h;obtain⟨⟨h1,h2⟩,h3⟩:=h;replace h3:=aG h3;obtain⟨vars,⟨b,l⟩⟩:=c;have hv:=hn.v;have hr:=hn.r;rw[vX]at hr;rw[jJ]at h2;simp only[aE]at h2;obtain⟨⟨_,h4⟩,h5⟩:=h2;dsimp only at h1 h3 hv;obtain⟨q1,q2,q3,q4,q5⟩:=h3;have hk:b.k=1:=q1;rw[nQ]at q3;rw[rP]at q4;rw[rQ]at q5;have hh:j5 b.k=false:=by rw[hk];rfl
 obtain⟨_,g2,hs⟩:=Na h4 hh;have vI:∀v,v∈vars->vR v.v/\v.v≠ -9223372036854775808:=fun v hx=>by
  have:=(dB.1 h1) v hx;simp only[aE,bd]at this;exact⟨hv v hx,this.2⟩
 unfold XZ at cy;have cy:At ts sS.i ((2,dZ,0)::(1,b.nm,0)::gv 123::(sH vars++((vw b++(jw l++[gv 125]))++[(5,[],0)]))):=by
  have e:(2,dZ,0)::(1,b.nm,0)::gv 123::(sH vars++((vw b++(jw l++[gv 125]))++[(5,[],0)]))=(2,dZ,0)::(1,b.nm,0)::gv 123::(sH vars++(vw b++(jw l++[gv 125])))++[(5,[],0)]:=by simp[aV]
  rw[e];exact cy
 have z0:sS.fc=0:=rfl;unfold qR;dsimp only;rw[ia (s:=sS) z0 cy (by decide)];obtain⟨a,e1⟩:=yN hE (s:=cV sS 1 0 0 0) z0 1 cy.tail (by decide) (by decide) (by decide);rw[e1];dsimp only;rw[ia (s:=cV (cV sS 1 0 0 0) 1 0 0 1) z0 cy.tail.tail (by decide),cB,cB];have XG:At ts (cV sS (1+1+1) (0+0+0) (0+0+0) (0+1+0)).i (sH vars++((vw b++(jw l++[gv 125]))++[(5,[],0)])):=cy.tail.tail.tail;obtain⟨q,B,hq,hqv⟩:∃q B,(vw b++(jw l++[gv 125]))++[((5,[],0):K3)]=q::B/\KN q [sB]=0/\q.1≠5:=by
  obtain⟨q,B,j1,j2⟩:=Ep hE l (uA hE h5) [((5,[],0):K3)];have jv:KN q [sB]=0:=by
   cases l with
   | nil=>
    rw[jw]at j1;have:q=gv 125:=by injection j1 with j _;exact j.symm
    rw[this];decide
   | cons x l=>
    obtain⟨C,hC⟩:=uz (ts:=ts) hE x;rw[jw,hC]at j1;have:q=(2,kW x.b.k,0):=by injection j1 with j _;exact j.symm
    obtain⟨x1,x2⟩:=uA (ts:=ts) hE h5 x (by simp);have x3:x.b.k=1∨x.b.k=2∨x.b.k=3∨x.b.k=4:=by omega
    rw[this];rcases x3 with e | e | e | e<;>rw[e]<;>decide
  have e:(vw b++(jw l++[gv 125]))++[((5,[],0):K3)]=vw b++(jw l++gv 125::[(5,[],0)]):=by simp[aV]
  rw[e,j1];unfold vw Gd Pv JU;by_cases i1:b.ini=[]
  ·rw[if_pos i1];by_cases i2:b.en=[]
   ·rw[if_pos i2];by_cases i3:b.lv=[]
    ·rw[if_pos i3];cases qn:b.mv with
     | nil=>exact⟨q,B,rfl,jv,j2.2.2⟩
     | cons m ms=>
      have:∃w C,Iv m=(2,w,0)::C/\KN (2,w,0) [sB]=0:=by
       unfold Iv hdK;split
       ·exact⟨_,_,rfl,by decide⟩
       ·split
        ·exact⟨_,_,rfl,by decide⟩
        ·exact⟨_,_,rfl,by decide⟩
      obtain⟨w,C,u1,u2⟩:=this;rw[tC,u1];exact⟨_,_,rfl,u2,(by decide:(2:Int)≠5)⟩
    ·rw[if_neg i3];exact⟨_,_,rfl,by decide,(by decide:(2:Int)≠5)⟩
   ·rw[if_neg i2];exact⟨_,_,rfl,by decide,(by decide:(2:Int)≠5)⟩
  ·rw[if_neg i1];exact⟨_,_,rfl,by decide,(by decide:(2:Int)≠5)⟩
 have XH:=XG;rw[hq]at XH;have dN:=Es (ts:=ts) hE vars;have KX:=At.inr hE XH hqv.2;obtain⟨rv,e2,e3⟩:=Nn hE vars (ts.length+1) [] (s:=cV sS (1+1+1) (0+0+0) (0+0+0) (0+1+0)) z0 (by omega) (by unfold cV sS;dsimp only;omega) (by decide) vI hqv.1 XH;rw[e2];dsimp only;obtain⟨r0,r1,r2,r,e4,e5,e6,e7,e8⟩:=Nk hE (Nl hE 14) (deep:=0) (s:=cV {cV sS (1+1+1) (0+0+0) (0+0+0) (0+1+0)with v:=(cV sS (1+1+1) (0+0+0) (0+0+0) (0+1+0)).v-vars.length} (sH vars).length 0 0 0) (n:={TB with k:=1,nm:=b.nm,a:=a}) h5 hr.2 hs hr.1 z0 rfl (by decide) (by decide) (by unfold cV sS;dsimp only;omega) (by unfold cV sS;dsimp only;omega) (by unfold cV sS;dsimp only;omega) (by unfold cV sS;dsimp only;omega) (by unfold cV sS;dsimp only;omega) (by unfold cV sS;dsimp only;omega) XG.right rfl rfl rfl rfl;rw[e4];dsimp only;rw[cB];refine⟨?_,fun d=>⟨by rw[cd];exact e3,B3 (b':={TB with k:=1,nm:=b.nm,a:=a,ini:=b.ini,en:=r0,lv:=r1,mv:=r2}) ⟨hk,rfl,rfl,g2,e5,e6,e7,B0⟩ e8 d⟩⟩;unfold FU;rw[if_neg]
 ·exact z0
 ·rintro⟨_,gf⟩;refine gf ?_;have h6:=XG.right.right.head.1;rw[eH]at h6;exact h6
end
theorem JW {c:Ch} (h:qk c=true) (hn:PV c) (hl:(vW (xa c)).length<=16384):(iZ (vW (xa c))).2.1=0/\∀d,ChE false d c (iZ (vW (xa c))).1:=by
 have hq:=aca h hn;unfold Lq at hq;generalize vW (xa c)=L at*
 have O2:iX L (0+L.length)=.ok [⟨5,[],0,((L.length:Nat):Int)⟩]:=by
  have hd:L.drop L.length=[]:=cX (aK _);have h5:iL false []=0:=rfl;rw[bm,iR (aK _),hd,h5,if_pos (by omega)];rfl
 obtain⟨us,h1,h2⟩:=hq L 0 [] _ (aQ _) (by rw[fg,br]) trivial O2;generalize PZ:us++[(⟨5,[],0,((L.length:Nat):Int)⟩:Tk)]=ts at*
 have t1:ca L=(ts,0,0):=by rw[ca,if_neg (by omega),h1]
 have hE:nY ts:=by
  have:=(tw (l:=L) (by rw[t1])).1;rw[t1]at this;exact this
 have hm:ts.map k3=XZ c++[(5,[],0)]:=by rw[<-PZ,di,h2];rfl
 have cy:At ts 0 (XZ c++[(5,[],0)]):=fun j q hj=>by
  rw[<-hm,cH,eM]at hj;obtain⟨t,g1,rfl⟩:=hj;have:tk ts (0+j)=t:=by
   unfold tk;rw[bm,g1];rfl
  rw[this]
 obtain⟨c1,c2⟩:=Rs hE h hn cy;unfold iZ;rw[t1];dsimp only;rw[if_neg (by decide),if_neg (by rw[c1];decide)];exact⟨rfl,c2⟩
end Go.Proofs.YtmhoiicofhlgbaaGreatDoor.Con
namespace Go.Kt
open Go Go.RowKit Go.ChangeShapes Go.WideShapes
set_option linter.unusedSimpArgs false
set_option linter.unusedVariables false
def mg {α β:Type} (r:Rp α) (q:Rp β):Rp (α×β):=fun w F x cs=>∃c d,cs=c++d/\r w F x.1 c/\q w F x.2 d
def Np:Rp Unit:=fun _ _ _ cs=>cs=[]
def acj:Rp Bool:=fun _ _ b cs=>cs=[.bool b]
section
variable {H:Type} {enc:TypeId×Value->H} {P:Program}
theorem sV (hl:laidOutB P=true) {W W':World} {sp:Nat->Bool} (hb:Below W.heap.size W W'):∀{ts:List TypeId} {vs:List Value} {ds:List (DataW H)} {ps:List MemPlace},
  (∀t,t∈ts->P.readableRec t=true/\t<P.types.size)->DataW.TrodAll enc P W 0 (fun _=>true) true ts vs ds ps->(∀x,x∈ps->x.block<W.heap.size)->(∀x,x∈ps->sp x.block=true)->DataW.TrodAll enc P W' 0 sp true ts vs ds ps
 | [],vs,ds,ps,_,h,_,_=>by
  obtain⟨rfl,rfl,rfl⟩:=trodAll_nil h;exact trodAll_mk0
 | t::ts,vs,ds,ps,hr,h,bJ,Xp=>by
  obtain⟨v,I8,d,ds',p,q,rfl,rfl,rfl,h1,h2⟩:=trodAll_cons h;obtain⟨r1,r2⟩:=hr t (by simp);exact trodAll_cons_mk (WideElems.Trod_stays hl r1 r2 h1 (fun x hx=>hb.same (bJ x (by simp[hx]))) fun x hx=>Xp x (by simp[hx]))
   (sV hl hb (fun u hu=>hr u (by simp[hu])) h2 (fun x hx=>bJ x (by simp[hx])) fun x hx=>Xp x (by simp[hx]))
theorem law_post {f:Func} {s:ChangeSpec} {fresh handsOn again:Bool} {W W':World} {args:Array Value} {ds gs:List (DataW H)} {before:List MemPlace} {tb:TypeId}
  (hW:DataW.Whole enc P f.params.toList s.vars false W args.toList ds gs before) (hv:s.vars=[])
  (Xe:(s.fn H (ds++gs)).results=[.lit (.bool true)]) (hargs:(s.fn H (ds++gs)).args=ds) (vI:(s.fn H (ds++gs)).vars=[])
  (ht:f.resultTypes=#[tb]) (hu:P.underlying tb=some .bool) (hl:laidOutB P=true) (XI:(f.params.toList.all fun t=>P.readableRec t&&decide (t<P.types.size))=true) (hO:Only [] W W'):
  s.post enc P f false fresh handsOn again W args (.bool true) W':=by
 have hb:Below W.heap.size W W':=hO.below (aK _) (by simp);have aeM:∀t,t∈f.params.toList->P.readableRec t=true/\t<P.types.size:=fun t ht=>by simpa using dB.1 XI t ht
 have bJ:=fun p hp=>hW.lt p hp;obtain⟨p,q,hA,hV,rfl,hz,hn⟩:=id hW;rw[hv]at hV;obtain⟨rfl,rfl⟩:=trodVars_none hV;rw[br]at*
 have Yp:∀sp:Nat->Bool,(∀x∈p,sp x.block=true)->DataW.TrodAll enc P W' 0 sp true f.params.toList args.toList (s.fn H ds).args p:=fun sp Xp=>by
  rw[hargs];exact sV hl hb aeM hA (fun x hx=>by simpa using bJ x hx) Xp
 have hV':∀sp:Nat->Bool,DataW.TrodVars enc P W' sp s.vars (s.fn H ds).vars []:=fun sp=>by
  rw[hv,vI];simp[DataW.TrodVars]
 have Uy:∀(b:Nat) (sp:Nat->Bool) (hd:Bool),DataW.TrodAll enc P W' b sp hd f.resultTypes.toList ((Value.bool true).resultList f.resultTypes.size) (s.fn H ds).results []:=fun b sp hd=>by
  rw[Xe,ht];exact trodAll_cons_mk (shut_bool hu true) trodAll_mk0
 have hold:∀x∈p,(fun b=>decide (b<W.heap.size)) x.block=true:=fun x hx=>by simpa using bJ x hx
 refine⟨ds,[],p,[],p,[],hW,by simpa using Uy _ _ _,by simpa using Yp _ hold,by simpa using hV' _,World.keptBut_mono (fun x hx=>⟨hx,by simpa using hx⟩) (hb.frame (· ∈p)),fun _=>?_⟩;refine⟨ok_one ht rfl (okWide_bool_mk hu true),_,_,([]++p)++[],⟨[]++p,[],trodAll_append (Yp _ (fun _ _=>rfl)) (Uy _ _ _),hV' _,rfl,?_,?_⟩,?_⟩
 ·intro b off hp;have hp:MemPlace.cell b off∈p:=by simpa using hp
  rw[hb.frozen (p:=⟨b,off,none⟩) (bJ _ hp)];exact hz b off hp
 ·intro ha;cases ha
 ·intro x hp _;simpa using hp
variable {W:World} {base:Nat} {spare:Nat->Bool} {held:Bool} {α:Type}
def Ar (enc:TypeId×Value->H) (P:Program) (W:World) (base:Nat) (spare:Nat->Bool) (held:Bool) (t:TypeId) (r:Rp α):Prop:=
 ∀(eo:Nat) (cs:List Value) (x:DataW H×List MemPlace),DataW.trod enc P W base spare held eo t cs=some x->(∀n,n∈x.1.weights P t->n<=reachBytes)->∃a:α,r W (fun _=>True) a cs
theorem fX {t:TypeId} (ht:P.underlying t=some (.int .i64)):Ar enc P W base spare held t A4:=fun eo cs x h _=>by
 obtain⟨n,rfl,rfl,hw⟩:=DataW.trod_int ht h;refine⟨n,rfl,?_⟩;simpa[Lit.wf,IntKind.min,IntKind.max,IntKind.signed,IntKind.bits,vR]using hw
def X1 (r:Rp α) (size bytes:Nat):Rp (List α):=fun w F xs cs=>∃s:Sl,cs=[s.v]/\SliceF r size w F s xs/\xs.length*bytes<=140737488351232
theorem rc {e:TypeId}:∀{l:List (DataW H)} {d:DataW H},d∈l->∀n,n∈d.weights P e->n∈DataW.weightsAll P e l
 | d0::l,d,hd,n,hn=>by
  simp only[DataW.weightsAll,cq];rcases aL.1 hd with rfl | hd
  ·exact .inl hn
  ·exact .inr (rc hd n hn)
 | [],d,hd,_,_=>by simp at hd
theorem wb {β:Type} {p:Nat->β->Prop}:∀(n:Nat),(∀i,i<n->∃b,p i b)->∃l:List β,l.length=n/\∀i b,l[i]? =some b->p i b
 | 0,_=>⟨[],rfl,fun i b h=>by simp at h⟩
 | n+1,h=>by
  obtain⟨l,h1,h2⟩:=wb n fun i hi=>h i (by omega);obtain⟨b,hb⟩:=h n (by omega);refine⟨l++[b],by simp[h1],fun i c hc=>?_⟩;by_cases hi:i<l.length
  ·rw[bF hi]at hc;exact h2 i c hc
  ·rw[cQ (by omega)]at hc;have:i=n:=by
    have:=(aP.1 hc).1;simp at this;omega
   subst this;simp[h1]at hc;rw[<-hc];exact hb
theorem Ar.map {β:Type} {t:TypeId} {r:Rp α} {q:Rp β} (h:Ar enc P W base spare held t r) (f:α->β) (hf:∀a cs,r W (fun _=>True) a cs->q W (fun _=>True) (f a) cs):Ar enc P W base spare held t q:=fun eo cs x hx hw=>by
 obtain⟨a,ha⟩:=h eo cs x hx hw;exact⟨f a,hf a cs ha⟩
theorem Gh {t:TypeId} (ht:P.underlying t=some .bool):Ar enc P W base spare held t acj:=fun eo cs x h _=>by
 obtain⟨b,rfl,rfl⟩:=DataW.trod_bool ht h;exact⟨b,rfl⟩
theorem weights_of {ts:List TypeId} {ds:List (DataW H)} (h:(DataW.weightsEach P ts ds).all (· <=reachBytes)=true) (j:Nat) {t:TypeId} {d:DataW H} (ht:ts[j]? =some t) (hd:ds[j]? =some d):∀n,n∈d.weights P t->n<=reachBytes:=
 fun n hn=>by simpa using dB.1 h n (DataW.weights_mem_each ht hd n hn)
end
structure IsBulk {H:Type} (B:DataW H->Nat):Prop where
 one:∀d,1<=B d
 sl:∀e s,(e.map B).sum+1<=B (.slice e s)
 str:∀b,b.length+1<=B (.lit (.string b))
 agg:∀p,(p.map B).sum+1<=B (.agg p)
 ptr:∀d,B d+1<=B (.ptr d)
 iface:∀t d,B d+1<=B (.iface t d)
section
variable {H:Type} {enc:TypeId×Value->H} {P:Program} {W:World} {base:Nat} {spare:Nat->Bool} {held:Bool} {α β:Type} {B:DataW H->Nat}
def Nq:Rp ByteArray:=fun _ _ s cs=>cs=[.string s]/\s.size<=140737488351232
def iH (B:DataW H->Nat) (enc:TypeId×Value->H) (P:Program) (W:World) (base:Nat) (spare:Nat->Bool) (held:Bool) (t:TypeId) (r:Rp α) (m:α->Nat):Prop:=
 ∀(eo:Nat) (cs:List Value) (x:DataW H×List MemPlace),DataW.trod enc P W base spare held eo t cs=some x->(∀n,n∈x.1.weights P t->n<=reachBytes)->∃a:α,r W (fun _=>True) a cs/\m a<=B x.1
theorem fJ (hB:IsBulk B) {t:TypeId} {r:Rp α} (h:Ar enc P W base spare held t r):iH B enc P W base spare held t r fun _=>1:=fun eo cs x hx hw=>by
 obtain⟨a,ha⟩:=h eo cs x hx hw;exact⟨a,ha,hB.one _⟩
theorem jp (hB:IsBulk B) {t:TypeId} (ht:P.underlying t=some .string):iH B enc P W base spare held t Nq fun s=>s.size+1:=fun eo cs x h hw=>by
 obtain⟨s,rfl,rfl,hs⟩:=DataW.trod_string ht h;have h1:=hw _ (by simp only[DataW.weights];exact du);have e:s.data.toList.length=s.size:=by rw[lK];rfl
 simp only[e,reachBytes]at h1;refine⟨s,⟨rfl,?_⟩,?_⟩
 ·omega
 ·have:=hB.str s.data.toList;rw[e]at this;exact this
theorem Nr {p:α->Nat} {g:Nat->Nat}:∀{l:List α} {o:Nat},(∀i b,l[i]? =some b->p b<=g (o+i))->(l.map p).sum<=((List.range l.length).map fun i=>g (o+i)).sum
 | [],_,_=>by simp
 | a::l,o,h=>by
  rw[aH,List.range_succ_eq_map,bg,bg,bQ,bQ,gY];have h0:=h 0 a rfl;have ih:=Nr (p:=p) (g:=g) (l:=l) (o:=o+1) fun i b hb=>by
   have:=h (i+1) b hb;rw[show o+1+i=o+(i+1) by omega];exact this
  refine jx h0 (aX ih (G2 ?_));congr 1;refine qv fun i _=>?_;show g _=g _;congr 1;omega
theorem gM (hB:IsBulk B) {t e:TypeId} {r:Rp α} {m:α->Nat} {size:Nat} (ht:P.underlying t=some (.slice e)) (hs:P.cellsOf e=size) {bytes:Nat} (hb:P.bytesOf e=bytes) (he:iH B enc P W base spare held e r m):
  iH B enc P W base spare held t (X1 r size bytes) fun xs=>(xs.map m).sum+1:=fun eo cs x h hw=>by
 subst hs;rcases Deep.open_slice ht h with⟨rfl,rfl⟩ | ⟨a,len,cap,mm,n,D,Pl,rfl,_,hl,hm,Xg,rfl,YG⟩
 ·exact⟨[],⟨Sl.nil,rfl,SliceF.nil _ _ _ _,by simp⟩,hB.one _⟩
 ·have hlm:len<=mm:=by rw[Xg];split<;>omega
  have hex:∀i,i<len->∃b:α,(∃yV,yV.length=P.cellsOf e/\Cells W (a.add (i*P.cellsOf e)) yV/\r W (fun _=>True) b yV)/\m b<=B (D i):=fun i hi=>by
   obtain⟨yV,g1,g2⟩:=YG i (by omega);obtain⟨_,g3,g4⟩:=World.cells?_some g1;obtain⟨b,g5,g6⟩:=he n yV _ g2 fun k hk=>hw k (by
    simp only[DataW.weights,ht,aL,cq];exact .inr (.inl (rc (jQ.2 ⟨i,List.mem_range.2 hi,rfl⟩) k hk)))
   refine⟨b,⟨yV,g3,fun j v hj=>?_,g5⟩,g6⟩;rw[g4 j (by have:=(aP.1 hj).1;omega)];exact hj
  obtain⟨l,h1,h2⟩:=wb len hex;refine⟨l,⟨⟨some a,len,cap⟩,rfl,⟨h1.symm,hl,fun h=>(by cases h),hm,fun j x hj=>?_⟩,?_⟩,?_⟩
  ·obtain⟨⟨yV,g1,g2,g3⟩,_⟩:=h2 j x hj;exact⟨a,yV,rfl,trivial,g1,g2,g3⟩
  ·have:=hw _ (by simp only[DataW.weights,ht];exact du);rw[hb]at this;simp only[bL,List.length_range,reachBytes]at this;rw[h1];have h3:len*bytes<=(len+(mm-len))*bytes:=dW _ (by omega);omega
  ·have h3:=hB.sl ((List.range len).map D) ((List.range (mm-len)).map fun j=>D (len+j));refine aX (KF ?_) h3;have h4:=Nr (p:=m) (g:=fun i=>B (D i)) (l:=l) (o:=0) fun i b hb=>by
    rw[bm];exact(h2 i b hb).2
   rw[h1]at h4;rw[gY];simpa[Function.comp_def]using h4
def B5 (B:DataW H->Nat) (enc:TypeId×Value->H) (P:Program) (W:World) (base:Nat) (spare:Nat->Bool) (held:Bool) (T off:Nat) (fs:List Field) (r:Rp α) (m:α->Nat):Prop:=
 ∀(n:Nat) (cs:List Value) (xs:List (DataW H×List MemPlace)),cs.length=T->xs.length=fs.length->
  (∀(i:Nat) (f:Field),fs[i]? =some f->DataW.trod enc P W base spare held n f.type ((cs.drop f.offset).take (P.cellsOf f.type))=xs[i]?)->
  (∀(i:Nat) (f:Field) (x:DataW H×List MemPlace),fs[i]? =some f->xs[i]? =some x->∀k,k∈x.1.weights P f.type->k<=reachBytes)->∃a:α,r W (fun _=>True) a (cs.drop off)/\m a<=(xs.map fun x=>B x.1).sum
theorem rZ {T off:Nat} (h:T=off):B5 B enc P W base spare held T off [] Np fun _=>0:=fun n cs xs hl _ _ _=>⟨(),by
 show cs.drop off=[]
 exact List.drop_eq_nil_of_le (by omega),aQ _⟩
theorem de {T off s:Nat} {f:Field} {fs:List Field} {r:Rp α} {q:Rp β} {m:α->Nat} {m':β->Nat} (ho:f.offset=off) (hs:P.cellsOf f.type=s) (hr:iH B enc P W base spare held f.type r m) (hq:B5 B enc P W base spare held T (off+s) fs q m'):
  B5 B enc P W base spare held T off (f::fs) (mg r q) fun x=>m x.1+m' x.2:=fun n cs xs hl hx hf hw=>by
 cases xs with
 | nil=>simp at hx
 | cons x xs=>
  have h0:=hf 0 f rfl;rw[ho,hs]at h0;obtain⟨a,ha,EO⟩:=hr n _ x h0 (hw 0 f x rfl rfl);obtain⟨b,hb,ml⟩:=hq n cs xs hl (by simpa using hx) (fun i g hg=>hf (i+1) g hg) (fun i g y hg hy=>hw (i+1) g y hg hy);refine⟨(a,b),⟨_,_,by rw[<-iA,eE],ha,hb⟩,?_⟩;rw[bg,bQ];exact jx EO ml
theorem iT (hB:IsBulk B) {t:TypeId} {fs:Array Field} {T:Nat} {r:Rp α} {m:α->Nat} (ht:P.underlying t=some (.struct fs)) (hT:P.cellsOf t=T) (hF:B5 B enc P W base spare held T 0 fs.toList r m):iH B enc P W base spare held t r fun x=>m x+1:=fun eo cs x h hw=>by
 obtain⟨xs,n,rfl,rfl,hl,IZ,hf⟩:=DataW.trod_struct ht h;obtain⟨a,ha,EO⟩:=hF n cs xs (by omega) (by simpa using IZ) (fun i f hi=>hf i f (by simpa using hi)) (fun i f x hi hx k hk=>hw k (by
  simp only[DataW.weights,ht];refine DataW.weights_mem_each (j:=i) ?_ (by rw[cH,hx];rfl) k hk;simp only[Array.toList_map,cH,hi];rfl))
 refine⟨a,by simpa using ha,aX (KF EO) ?_⟩;have:=hB.agg (xs.map (·.1));rwa[gY]at this
theorem iH.map {t:TypeId} {r:Rp α} {q:Rp β} {m:α->Nat} {m':β->Nat} (h:iH B enc P W base spare held t r m) (f:α->β) (hf:∀a cs,r W (fun _=>True) a cs->q W (fun _=>True) (f a) cs/\m' (f a)<=m a):iH B enc P W base spare held t q m':=fun eo cs x hx hw=>by
 obtain⟨a,ha,EO⟩:=h eo cs x hx hw;obtain⟨h1,h2⟩:=hf a cs ha;exact⟨f a,h1,aX h2 EO⟩
theorem argB_struct {t:TypeId} {fs:Array Field} {r:Rp α} {m:α->Nat} {b0:Nat} {v:Value} {d:DataW H} {p:List MemPlace} (ht:P.underlying t=some (.struct fs)) (qx:Value.okWide P W .any b0 t v) (h:DataW.Trod enc P W base spare held t v d p)
  (nu:iH B enc P W base spare held t r m) (hw:∀n,n∈d.weights P t->n<=reachBytes):∃(a:α) (cs:List Value),v=.agg cs.toArray/\r W (fun _=>True) a cs/\m a<=B d:=by
 obtain⟨cs,rfl,_⟩:=okWide_struct ht qx;obtain⟨eo,hf⟩:=h;obtain⟨a,ha,EO⟩:=nu eo _ _ hf hw;exact⟨a,cs.toList,by simp,ha,EO⟩
theorem sum_one:∀l:List α,(l.map fun _=>1).sum=l.length
 | []=>rfl
 | _::l=>by rw[bg,bQ,sum_one l,aH];omega
end
end Go.Kt
namespace Go.Proofs.YtmhoiicofhlgbaaGreatDoor.Con
open Go.Value renaming int->O,string->ab,pointer->ae,agg->ah,tuple->ai,bool->aj
open Go.IntKind renaming i64->U,wrap->ar
open Go.Ending renaming returned->ak
open _root_.ByteArray renaming mk->ao
open _root_.Go.Proofs.Tryz renaming prog->aq
open Go.Instr renaming buildSlice->au
open Go renaming World->av,Value->aw,Calls->az
open Go.Kt renaming Only->ay
open Go Go.RowKit Go.Kt Go.Kt.V Go.Proofs.YtmhoiicofhlgbaaGreatDoor.Vc Go.ChangeShapes Go.WideShapes
set_option linter.unusedSimpArgs false
set_option linter.unusedVariables false
set_option maxHeartbeats 4000000
set_option maxRecDepth 100000
theorem Gi {D E:Type} {B:D->Nat} {sz:E->Nat} {Q:Nat->E->Prop}:∀(xs:List D) (o:Nat),(∀j y,xs[j]? =some y->∃e,Q (o+j) e/\sz e<=B y)->
  ∃l:List E,l.length=xs.length/\(∀j e,l[j]? =some e->Q (o+j) e)/\(l.map sz).sum<=(xs.map B).sum
 | [],o,_=>⟨[],rfl,fun j p h=>by simp at h,aK _⟩
 | x::xs,o,h=>by
  obtain⟨e,h1,h2⟩:=h 0 x rfl;obtain⟨l,h3,h4,h5⟩:=Gi (B:=B) (sz:=sz) (Q:=Q) xs (o+1) fun j y hj=>by
   have:=h (j+1) y hj;rwa[eH,jR 1 j]
  refine⟨e::l,by rw[aH,aH,h3],fun j p hj=>?_,?_⟩
  ·cases j with
   | zero=>
    simp only[cj,aJ]at hj;subst hj;exact h1
   | succ j=>
    have:=h4 j p hj;rwa[eH,jR 1 j]at this
  ·rw[bg,bQ,bg,bQ];exact jx h2 h5
theorem yO {n:Nat}:∀{l:List Nat},n∈l->n<=l.sum
 | [],h=>by simp at h
 | x::l,h=>by
  rw[bQ];rcases aL.1 h with rfl | h
  ·omega
  ·have:=yO h;omega
theorem Gj {E:Type} (f:E->Nat):∀(l:List E),∃m,∀p,p∈l->f p<=m
 | []=>⟨0,fun p h=>by simp at h⟩
 | x::l=>by
  obtain⟨m,h⟩:=Gj f l;refine⟨max (f x) m,fun p hp=>?_⟩;rcases aL.1 hp with rfl | hp
  ·exact xr _ _
  ·exact aX (h p hp) (vN _ _)
theorem IA {α β:Type} {r:Rp α} {q:Rp β} {size:Nat} {w:av} {F:Nat->Prop} {s:Sl} {xs:List α} (f:α->β) (h:SliceF r size w F s xs) (hf:∀x cs,x∈xs->r w F x cs->q w F (f x) cs):SliceF q size w F s (xs.map f):=by
 refine⟨by rw[bL];exact h.len,h.cap,h.nil0,h.big,fun j y hj=>?_⟩;rw[cH,eM]at hj;obtain⟨x,hx,rfl⟩:=hj;obtain⟨bs,cs,g1,g2,g3,g4,g5⟩:=h.at_ j x hx;exact⟨bs,cs,g1,g2,g3,g4,hf x cs (be hx) g5⟩
theorem Au {α:Type} {r:Rp α} {size:Nat} {w:av} {F:Nat->Prop} {s:Sl} {xs:List α} (h:SliceF r size w F s xs) {x:α} (hx:x∈xs):∃cs,r w F x cs:=h.mem hx
def rXU:Rp (Ex×Nat):=fun w F x cs=>rE false w F x.1 cs/\JJ x.1/\yB x.1<=x.2
def Rt:Rp (Ac×Nat):=fun w F x cs=>ot false w F x.1 cs/\Ai x.1/\BP x.1<=x.2
def VV:Rp (Mv×Nat):=fun w F x cs=>wV false w F x.1 cs/\KW x.1/\D9 x.1<=x.2
def ahS:Rp (Vr×Nat):=fun w F x cs=>wW w F x.1 cs/\vR x.1.v/\x.1.n.length+1<=x.2
theorem IB:∀l:List Ex,JI l=(l.map yB).sum
 | []=>rfl
 | x::l=>by rw[JI,bg,bQ,IB l]
theorem Et:∀l:List Ac,gX l=(l.map BP).sum
 | []=>rfl
 | x::l=>by rw[gX,bg,bQ,Et l]
theorem Eu:∀l:List Mv,vh l=(l.map D9).sum
 | []=>rfl
 | x::l=>by rw[vh,bg,bQ,Eu l]
theorem Ev:∀l:List Vr,nB l=(l.map fun v=>v.n.length+1).sum
 | []=>rfl
 | x::l=>by rw[nB,bg,bQ,Ev l]
theorem Ew:∀l:List Nd,iq l=(l.map mX).sum
 | []=>by rw[iq];rfl
 | x::l=>by rw[iq,bg,bQ,Ew l]
theorem xh {α:Type} {f:α->Nat}:∀{l:List (α×Nat)},(∀x,x∈l->f x.1<=x.2)->((l.map (·.1)).map f).sum<=(l.map fun x=>x.2).sum
 | [],_=>aK _
 | x::l,h=>by
  rw[bg,bg,bQ,bg,bQ];exact jx (h x (by simp)) (xh fun y hy=>h y (by simp[hy]))
theorem VW (s:asw):s.data.toList.length=s.size:=by rw[lK];rfl
section
variable {H:Type} {enc:TypeId×aw->H} {W:av} {base:Nat} {spare:Nat->Bool} {held:Bool} {B:DataW H->Nat}
def Ns (enc:TypeId×aw->H) (W:av) (base:Nat) (spare:Nat->Bool) (held:Bool) (t:TypeId):Rp (DataW H):=fun _ _ x cs=>∃eo p,DataW.trod enc aq W base spare held eo t cs=some (x,p)/\∀n,n∈x.weights aq t->n<=reachBytes
theorem Ey (hB:IsBulk B) (t:TypeId):iH B enc aq W base spare held t (Ns enc W base spare held t) B:=fun eo cs x h hw=>⟨x.1,⟨eo,x.2,h,hw⟩,aK _⟩
theorem JX (hB:IsBulk B):iH B enc aq W base spare held 51 (mg A4 (mg A4 (mg Nq (mg A4 (mg (X1 (Ns enc W base spare held 51) 6 72) (mg A4 Np))))))
  fun x=>(1+(1+((x.2.2.1.size+1)+(1+(((x.2.2.2.2.1.map B).sum+1)+(1+0))))))+1:=by
 have h:=iT (enc:=enc) (P:=aq) (W:=W) (base:=base) (spare:=spare) (held:=held) (T:=6) hB Tryz.underlying51 (by kernel_rfl)
  (de (s:=1) rfl (by kernel_rfl) (fJ hB (fX Tryz.underlying3)) (de (s:=1) rfl (by kernel_rfl) (fJ hB (fX Tryz.underlying3)) (de (s:=1) rfl (by kernel_rfl) (jp hB Tryz.underlying9) (de (s:=1) rfl (by kernel_rfl) (fJ hB (fX Tryz.underlying3)) (de (s:=1) rfl (by kernel_rfl) (gM (size:=6) (bytes:=72) hB Tryz.underlying49 (by kernel_rfl) (by kernel_rfl) (Ey hB _)) (de (s:=1) rfl (by kernel_rfl) (fJ hB (fX Tryz.underlying3)) (rZ rfl)))))))
 exact h
theorem Nt (hB:IsBulk B):∀(N:Nat) {x:DataW H} {cs:List aw} {F:Nat->Prop},B x<=N->Ns enc W base spare held 51 W F x cs->∃(e:Ex) (d:Nat),KK false d W (fun _=>True) e cs/\JJ e/\yB e<=B x
 | 0,x,cs,F,h,_=>by have:=hB.one x;omega
 | N+1,x,cs,F,h,⟨eo,p,ht,hw⟩=>by
  obtain⟨⟨k,n,s,op,xs,a,u⟩,hr,hm⟩:=JX (enc:=enc) (W:=W) (base:=base) (spare:=spare) (held:=held) hB eo cs (x,p) ht hw;obtain⟨c1,r1,rfl,⟨rfl,i1⟩,c2,r2,rfl,⟨rfl,i2⟩,c3,r3,rfl,⟨rfl,i3⟩,c4,r4,rfl,⟨rfl,i4⟩,c5,r5,rfl,⟨sl,rfl,rj,_⟩,c6,r6,rfl,⟨rfl,i6⟩,hu⟩:=hr;have hu:r6=[]:=hu;subst hu;dsimp only at hm rj i1 i2 i3;have Kz:∀y,y∈xs->B y<=(xs.map B).sum:=fun y hy=>yO (List.mem_map_of_mem hy);obtain⟨l,l1,l2,l3⟩:=Gi (B:=B) (sz:=fun e:Ex×Nat=>yB e.1) (Q:=fun j e=>∃base cs,sl.a=some base/\cs.length=6/\Cells W (base.add (j*6)) cs/\KK false e.2 W (fun _=>True) e.1 cs/\JJ e.1) xs 0 fun j y hj=>by
   rw[bm];obtain⟨bs,ds,g1,g2,g3,g4,g5⟩:=rj.at_ j y hj;obtain⟨e,d,t1,t2,t3⟩:=Nt hB N (x:=y) (by have:=Kz y (be hj);omega) g5;exact⟨(e,d),⟨bs,ds,g1,g3,g4,t1,t2⟩,t3⟩
  obtain⟨m,hmx⟩:=Gj (fun e:Ex×Nat=>e.2) l;refine⟨.mk k n s.data.toList op (l.map (·.1)) a,m+1,⟨sl,?_,?_,fun h=>(by cases h)⟩,fun d=>?_,?_⟩
  ·have e:jy k n s.data.toList op sl a=[O U k,O U n,ab s,O U op,sl.v,O U a]:=by
    show[_,_,Value.string (T s.data.toList),_,_,_]=_;rw[<-uX s]
   exact e.symm
  ·refine⟨by rw[Ex.cR,bL,l1];exact rj.len,rj.cap,rj.nil0,rj.big,fun j e hj=>?_⟩;rw[Ex.cR,cH,eM]at hj;obtain⟨q,q1,rfl⟩:=hj;obtain⟨bs,ds,g1,g2,g3,g4,g5⟩:=l2 j q q1;rw[bm]at g3;exact⟨bs,ds,g1,trivial,g2,g3,FV (hmx q (be q1)) g4⟩
  ·cases d with
   | zero=>trivial
   | succ d=>
    refine⟨i2,fun y hy=>?_⟩;obtain⟨q,q1,rfl⟩:=jQ.1 hy;obtain⟨j,hj⟩:=jd q1;obtain⟨bs,ds,g1,g2,g3,g4,g5⟩:=l2 j q hj;exact g5 d
  ·rw[BM];show JI (l.map (·.1))+(s.data.toList.length+1)<=_;rw[IB,gY,VW];have e:(l.map (yB∘fun x=>x.1)).sum=(l.map fun e:Ex×Nat=>yB e.1).sum:=rfl;omega
theorem Av (hB:IsBulk B):iH B enc aq W base spare held 51 rXU fun x=>x.2:=fun eo cs x h hw=>by
 obtain⟨e,d,h1,h2,h3⟩:=Nt hB (B x.1) (x:=x.1) (F:=fun _=>True) (aK _) ⟨eo,x.2,h,hw⟩;exact⟨(e,B x.1),⟨⟨d,h1⟩,h2,h3⟩,aK _⟩
theorem vA (hB:IsBulk B):iH B enc aq W base spare held 116 Rt fun x=>x.2:=by
 have h:=iT (enc:=enc) (P:=aq) (W:=W) (base:=base) (spare:=spare) (held:=held) (T:=9) hB Tryz.underlying116 (by kernel_rfl)
  (de (s:=1) rfl (by kernel_rfl) (fJ hB (fX Tryz.underlying3)) (de (s:=1) rfl (by kernel_rfl) (jp hB Tryz.underlying9) (de (s:=6) rfl (by kernel_rfl) (Av hB) (de (s:=1) rfl (by kernel_rfl) (fJ hB (fX Tryz.underlying3)) (rZ rfl)))))
 refine h.map (fun x=>((⟨x.1,x.2.1.data.toList,x.2.2.1.1,x.2.2.2.1⟩:Ac),x.2.2.1.2+(x.2.1.size+1))) ?_;rintro⟨k,n,⟨e,m⟩,a,u⟩ cs ⟨c1,r1,rfl,⟨rfl,i1⟩,c2,r2,rfl,⟨rfl,i2⟩,c3,r3,rfl,⟨he,hn,hz⟩,c4,r4,rfl,⟨rfl,i4⟩,hu⟩;have hu:r4=[]:=hu;subst hu;refine⟨⟨⟨c3,?_,he⟩,hn,?_⟩,by dsimp only;omega⟩
 ·show _=_::Value.string (T n.data.toList)::_;rw[<-uX n];simp
 ·show yB e+(n.data.toList.length+1)<=_;rw[VW];dsimp only at hz⊢;omega
theorem Gk {w:av} {F:Nat->Prop} {s:Sl} {xs:List (Ac×Nat)} (h:SliceF Rt 9 w F s xs):ja false (ot false) 9 116 w F s (xs.map (·.1))/\(∀a,a∈xs.map (·.1)->Ai a)/\gX (xs.map (·.1))<=(xs.map fun x=>x.2).sum:=by
 refine⟨⟨IA (·.1) h fun x cs _ hx=>hx.1,fun h=>(by cases h)⟩,fun a ha=>?_,?_⟩
 ·obtain⟨x,hx,rfl⟩:=jQ.1 ha;obtain⟨cs,hc⟩:=Au h hx;exact hc.2.1
 ·rw[Et];exact xh fun x hx=>by
   obtain⟨cs,hc⟩:=Au h hx;exact hc.2.2
theorem JY (hB:IsBulk B):iH B enc aq W base spare held 54 VV fun x=>x.2:=by
 have h:=iT (enc:=enc) (P:=aq) (W:=W) (base:=base) (spare:=spare) (held:=held) (T:=13) hB Tryz.underlying54 (by kernel_rfl)
  (de (s:=1) rfl (by kernel_rfl) (fJ hB (fX Tryz.underlying3)) (de (s:=1) rfl (by kernel_rfl) (jp hB Tryz.underlying9) (de (s:=1) rfl (by kernel_rfl) (fJ hB (fX Tryz.underlying3)) (de (s:=1) rfl (by kernel_rfl) (fJ hB (Gh Tryz.underlying4)) (de (s:=6) rfl (by kernel_rfl) (Av hB)
  (de (s:=1) rfl (by kernel_rfl) (gM (size:=9) (bytes:=104) hB Tryz.underlying23 (by kernel_rfl) (by kernel_rfl) (vA hB)) (de (s:=1) rfl (by kernel_rfl) (gM (size:=1) (bytes:=16) hB Tryz.underlying52 (by kernel_rfl) (by kernel_rfl) (jp hB Tryz.underlying9)) (de (s:=1) rfl (by kernel_rfl) (fJ hB (fX Tryz.underlying3)) (rZ rfl)))))))))
 refine h.map (fun x=>((⟨x.1,x.2.1.data.toList,x.2.2.1,x.2.2.2.1,x.2.2.2.2.1.1,x.2.2.2.2.2.1.map (·.1),x.2.2.2.2.2.2.1.map fun s=>s.data.toList,x.2.2.2.2.2.2.2.1⟩:Mv),(((x.2.2.2.2.2.1.map fun x=>x.2).sum+x.2.2.2.2.1.2)+((x.2.2.2.2.2.2.1.map fun s=>s.size+1).sum+(x.2.1.size+1))))) ?_;rintro⟨k,ev,wt,gd,⟨g,m⟩,ac,tg,a,u⟩ cs ⟨c1,r1,rfl,⟨rfl,i1⟩,c2,r2,rfl,⟨rfl,i2⟩,c3,r3,rfl,⟨rfl,i3⟩,c4,r4,rfl,h4,c5,r5,rfl,⟨he,hn,hz⟩,c6,r6,rfl,⟨pW,rfl,E5,_⟩,c7,r7,rfl,⟨tsl,rfl,za,_⟩,c8,r8,rfl,⟨rfl,i8⟩,hu⟩;have hu:r8=[]:=hu;have h4:c4=[aj gd]:=h4;subst hu h4;obtain⟨a1,a2,a3⟩:=Gk E5;have akD:SliceF iW 1 W (fun _=>True) tsl (tg.map fun s=>s.data.toList):=IA (fun s=>s.data.toList) za fun x cs _ hx=>by
  obtain⟨rfl,_⟩:=hx;show _=[Value.string (T x.data.toList)]
  rw[<-uX x]
 refine⟨⟨⟨c5,pW,tsl,?_,he,a1,⟨akD,fun h=>(by cases h)⟩⟩,⟨hn,a2,i3⟩,?_⟩,by dsimp only;omega⟩
 ·show _=_::Value.string (T ev.data.toList)::_;rw[<-uX ev];simp
 ·show(gX (ac.map (·.1))+yB g)+(CM (tg.map fun s=>s.data.toList)+(ev.data.toList.length+1))<=_;have e:CM (tg.map fun s=>s.data.toList)=(tg.map fun s=>s.size+1).sum:=by
   unfold CM;rw[gY];congr 1
  rw[e,VW];dsimp only at hz a3⊢;omega
theorem VX {w:av} {F:Nat->Prop} {s:Sl} {xs:List (Mv×Nat)} (h:SliceF VV 13 w F s xs):ja false (wV false) 13 54 w F s (xs.map (·.1))/\(∀a,a∈xs.map (·.1)->KW a)/\vh (xs.map (·.1))<=(xs.map fun x=>x.2).sum:=by
 refine⟨⟨IA (·.1) h fun x cs _ hx=>hx.1,fun h=>(by cases h)⟩,fun a ha=>?_,?_⟩
 ·obtain⟨x,hx,rfl⟩:=jQ.1 ha;obtain⟨cs,hc⟩:=Au h hx;exact hc.2.1
 ·rw[Eu];exact xh fun x hx=>by
   obtain⟨cs,hc⟩:=Au h hx;exact hc.2.2
theorem JZ (hB:IsBulk B):iH B enc aq W base spare held 79 ahS fun x=>x.2:=by
 have h:=iT (enc:=enc) (P:=aq) (W:=W) (base:=base) (spare:=spare) (held:=held) (T:=3) hB Tryz.underlying79 (by kernel_rfl)
  (de (s:=1) rfl (by kernel_rfl) (jp hB Tryz.underlying9) (de (s:=1) rfl (by kernel_rfl) (fJ hB (fX Tryz.underlying3)) (de (s:=1) rfl (by kernel_rfl) (fJ hB (fX Tryz.underlying3)) (rZ rfl))))
 refine h.map (fun x=>((⟨x.1.data.toList,x.2.1,x.2.2.1⟩:Vr),x.1.size+1)) ?_;rintro⟨n,v,a,u⟩ cs ⟨c1,r1,rfl,⟨rfl,i1⟩,c2,r2,rfl,⟨rfl,i2⟩,c3,r3,rfl,⟨rfl,i3⟩,hu⟩;have hu:r3=[]:=hu;subst hu;refine⟨⟨?_,i2,?_⟩,by dsimp only;omega⟩
 ·show _=[Value.string (T n.data.toList),_,_]
  rw[<-uX n];rfl
 ·show n.data.toList.length+1<=_;rw[VW];exact aK _
theorem J6 (hB:IsBulk B):iH B enc aq W base spare held 27 (mg A4 (mg Nq (mg Nq (mg Nq (mg (X1 Rt 9 104) (mg (X1 Rt 9 104) (mg (X1 VV 13 168) (mg (X1 (Ns enc W base spare held 27) 9 160) (mg A4 Np)))))))))
  fun x=>(1+((x.2.1.size+1)+((x.2.2.1.size+1)+((x.2.2.2.1.size+1)+(((x.2.2.2.2.1.map fun x=>x.2).sum+1)+(((x.2.2.2.2.2.1.map fun x=>x.2).sum+1)+(((x.2.2.2.2.2.2.1.map fun x=>x.2).sum+1)+(((x.2.2.2.2.2.2.2.1.map B).sum+1)+(1+0)))))))))+1:=by
 have h:=iT (enc:=enc) (P:=aq) (W:=W) (base:=base) (spare:=spare) (held:=held) (T:=9) hB Tryz.underlying27 (by kernel_rfl)
  (de (s:=1) rfl (by kernel_rfl) (fJ hB (fX Tryz.underlying3)) (de (s:=1) rfl (by kernel_rfl) (jp hB Tryz.underlying9) (de (s:=1) rfl (by kernel_rfl) (jp hB Tryz.underlying9) (de (s:=1) rfl (by kernel_rfl) (jp hB Tryz.underlying9)
  (de (s:=1) rfl (by kernel_rfl) (gM (size:=9) (bytes:=104) hB Tryz.underlying23 (by kernel_rfl) (by kernel_rfl) (vA hB)) (de (s:=1) rfl (by kernel_rfl) (gM (size:=9) (bytes:=104) hB Tryz.underlying23 (by kernel_rfl) (by kernel_rfl) (vA hB))
  (de (s:=1) rfl (by kernel_rfl) (gM (size:=13) (bytes:=168) hB Tryz.underlying24 (by kernel_rfl) (by kernel_rfl) (JY hB)) (de (s:=1) rfl (by kernel_rfl) (gM (size:=9) (bytes:=160) hB Tryz.underlying25 (by kernel_rfl) (by kernel_rfl) (Ey hB _)) (de (s:=1) rfl (by kernel_rfl) (fJ hB (fX Tryz.underlying3)) (rZ rfl))))))))))
 exact h
theorem IC:∀{l:List Nd},(∀x,x∈l->vX x)->sE l
 | [],_=>by rw[sE];trivial
 | x::l,h=>by
  rw[sE];exact⟨h x (by simp),IC fun y hy=>h y (by simp[hy])⟩
theorem Nu (hB:IsBulk B):∀(N:Nat) {x:DataW H} {cs:List aw} {F:Nat->Prop},B x<=N->Ns enc W base spare held 27 W F x cs->∃(e:Nd) (d:Nat),li false d W (fun _=>True) e cs/\vX e/\mX e<=B x
 | 0,x,cs,F,h,_=>by have:=hB.one x;omega
 | N+1,x,cs,F,h,⟨eo,p,ht,hw⟩=>by
  obtain⟨⟨k,nm,ini,dft,en,lv,mv,xs,a,u⟩,hr,hm⟩:=J6 (enc:=enc) (W:=W) (base:=base) (spare:=spare) (held:=held) hB eo cs (x,p) ht hw;obtain⟨c1,r1,rfl,⟨rfl,i1⟩,c2,r2,rfl,⟨rfl,i2⟩,c3,r3,rfl,⟨rfl,i3⟩,c4,r4,rfl,⟨rfl,i4⟩,c5,r5,rfl,⟨ens,rfl,zJ,_⟩,c6,r6,rfl,⟨lvs,rfl,vM,_⟩,c7,r7,rfl,⟨mvs,rfl,qn,_⟩,c8,r8,rfl,⟨sl,rfl,rj,_⟩,c9,r9,rfl,⟨rfl,i9⟩,hu⟩:=hr;have hu:r9=[]:=hu;subst hu;dsimp only at hm rj zJ vM qn;have Kz:∀y,y∈xs->B y<=(xs.map B).sum:=fun y hy=>yO (List.mem_map_of_mem hy);obtain⟨l,l1,l2,l3⟩:=Gi (B:=B) (sz:=fun e:Nd×Nat=>mX e.1) (Q:=fun j e=>∃base cs,sl.a=some base/\cs.length=9/\Cells W (base.add (j*9)) cs/\li false e.2 W (fun _=>True) e.1 cs/\vX e.1) xs 0 fun j y hj=>by
   rw[bm];obtain⟨bs,ds,g1,g2,g3,g4,g5⟩:=rj.at_ j y hj;obtain⟨e,d,t1,t2,t3⟩:=Nu hB N (x:=y) (by have:=Kz y (be hj);omega) g5;exact⟨(e,d),⟨bs,ds,g1,g3,g4,t1,t2⟩,t3⟩
  obtain⟨m,hmx⟩:=Gj (fun e:Nd×Nat=>e.2) l;obtain⟨a1,a2,a3⟩:=Gk zJ;obtain⟨b1,b2,b3⟩:=Gk vM;obtain⟨d1,d2,d3⟩:=VX qn;refine⟨.mk ⟨k,nm.data.toList,ini.data.toList,dft.data.toList,en.map (·.1),lv.map (·.1),mv.map (·.1),a⟩ (l.map (·.1)),m+1,⟨ens,lvs,mvs,sl,?_,⟨a1,b1,d1⟩,?_,fun h=>(by cases h)⟩,?_,?_⟩
  ·show _=[_,Value.string (T nm.data.toList),Value.string (T ini.data.toList),Value.string (T dft.data.toList),_,_,_,_,_]
   rw[<-uX nm,<-uX ini,<-uX dft];rfl
  ·refine⟨by rw[Nd.kids,bL,l1];exact rj.len,rj.cap,rj.nil0,rj.big,fun j e hj=>?_⟩;rw[Nd.kids,cH,eM]at hj;obtain⟨q,q1,rfl⟩:=hj;obtain⟨bs,ds,g1,g2,g3,g4,g5⟩:=l2 j q q1;rw[bm]at g3;exact⟨bs,ds,g1,trivial,g2,g3,Vm (hmx q (be q1)) g4⟩
  ·rw[vX];refine⟨⟨a2,b2,d2⟩,IC fun y hy=>?_⟩;obtain⟨q,q1,rfl⟩:=jQ.1 hy;obtain⟨j,hj⟩:=jd q1;obtain⟨bs,ds,g1,g2,g3,g4,g5⟩:=l2 j q hj;exact g5
  ·rw[mX,Ew,gY];unfold An;dsimp only;rw[VW,VW,VW];have e:(l.map (mX∘fun x=>x.1)).sum=(l.map fun e:Nd×Nat=>mX e.1).sum:=rfl;omega
def ahT:Rp (Nd×Nat):=fun w F x cs=>∃d,li false d w F x.1 cs/\vX x.1/\mX x.1<=x.2
theorem J7 (hB:IsBulk B):iH B enc aq W base spare held 27 ahT fun x=>x.2:=fun eo cs x h hw=>by
 obtain⟨e,d,h1,h2,h3⟩:=Nu hB (B x.1) (x:=x.1) (F:=fun _=>True) (aK _) ⟨eo,x.2,h,hw⟩;exact⟨(e,B x.1),⟨d,h1,h2,h3⟩,aK _⟩
def rChU:Rp (Ch×Nat):=fun w F x cs=>∃(D:Nat) (vs:Sl) (yV:List aw),cs=vs.v::yV/\ChR false D w F x.1 vs yV/\PV x.1/\nB x.1.vars+mX x.1.root<=x.2
theorem opensB_ch (hB:IsBulk B):iH B enc aq W base spare held 29 rChU fun x=>x.2:=by
 have h:=iT (enc:=enc) (P:=aq) (W:=W) (base:=base) (spare:=spare) (held:=held) (T:=10) hB Tryz.underlying29 (by kernel_rfl)
  (de (s:=1) rfl (by kernel_rfl) (gM (size:=3) (bytes:=32) hB Tryz.underlying22 (by kernel_rfl) (by kernel_rfl) (JZ hB)) (de (s:=9) rfl (by kernel_rfl) (J7 hB) (rZ rfl)))
 refine h.map (fun x=>((⟨x.1.map (·.1),x.2.1.1⟩:Ch),(x.1.map fun x=>x.2).sum+x.2.1.2)) ?_;rintro⟨vs,⟨nd,m⟩,u⟩ cs ⟨c1,r1,rfl,⟨vsl,rfl,vI,_⟩,c2,r2,rfl,⟨d,hnd,hn,hz⟩,hu⟩;have hu:r2=[]:=hu;subst hu;rw[br];refine⟨⟨d,vsl,c2,rfl,⟨⟨IA (·.1) vI fun x cs _ hx=>hx.1,fun h=>(by cases h)⟩,hnd⟩,⟨fun v hv=>?_,hn⟩,?_⟩,by dsimp only;omega⟩
 ·obtain⟨x,hx,rfl⟩:=jQ.1 hv;obtain⟨cs,hc⟩:=Au vI hx;exact hc.2.1
 ·show nB (vs.map (·.1))+mX nd<=_;rw[Ev];have:=xh (f:=fun v:Vr=>v.n.length+1) (l:=vs) fun x hx=>by
   obtain⟨cs,hc⟩:=Au vI hx;exact hc.2.2
  dsimp only at hz⊢;omega
end
end Go.Proofs.YtmhoiicofhlgbaaGreatDoor.Con
namespace Go.Proofs.YtmhoiicofhlgbaaGreatDoor.Con
open Go.Value renaming int->O,string->ab,pointer->ae,agg->ah,tuple->ai,bool->aj
open Go.IntKind renaming i64->U,wrap->ar
open Go.Ending renaming returned->ak
open _root_.ByteArray renaming mk->ao
open _root_.Go.Proofs.Tryz renaming prog->aq
open Go.Instr renaming buildSlice->au
open Go renaming World->av,Value->aw,Calls->az
open Go.Kt renaming Only->ay
open Go Go.RowKit Go.Kt Go.Kt.V Go.Proofs.YtmhoiicofhlgbaaGreatDoor.Vc
set_option linter.unusedSimpArgs false
set_option linter.unusedVariables false
set_option maxHeartbeats 800000
set_option maxRecDepth 100000
theorem J8 {c:Ch} (hn:PV c):pO c=mW c:=by
 unfold pO mW;by_cases h1:qk c=true
 ·rw[if_pos h1,if_pos h1];by_cases h2:16384<(cT [] (xa c)).length
  ·rw[if_pos h2,if_pos h2]
  ·rw[if_neg h2,if_neg h2];have e:=Mz (xa c) [] (by omega);rw[cd]at e;have hl:=JW h1 hn (by rw[<-e];omega);rw[e,if_neg (by rw[hl.1];decide)]
 ·rw[if_neg h1,if_neg h1]
end Go.Proofs.YtmhoiicofhlgbaaGreatDoor.Con
namespace Go.Proofs.YtmhoiicofhlgbaaGreatDoor.Con
open Go.Value renaming int->O,string->ab,pointer->ae,agg->ah,tuple->ai,bool->aj
open Go.IntKind renaming i64->U,wrap->ar
open Go.Ending renaming returned->ak
open _root_.ByteArray renaming mk->ao
open _root_.Go.Proofs.Tryz renaming prog->aq
open Go.Instr renaming buildSlice->au
open Go renaming World->av,Value->aw,Calls->az
open Go.Kt renaming Only->ay
open Go Go.RowKit Go.Kt Go.Kt.V Go.Proofs.YtmhoiicofhlgbaaGreatDoor.Vc
set_option linter.unusedSimpArgs false
set_option linter.unusedVariables false
set_option maxHeartbeats 4000000
structure Rr (F:Nat->Prop) (ts:List Tk) (w:av) (b:Nat) (l:Sl) (i:Nat) (fc fa d:Int):Prop where
 blk:Blk w b 320 [l.v,O U (i:Int),O U d,O U fc,O U fa]
 tok:SliceF zW 4 w F l ts
 hF:∀k,F k->k<b
 en:nY ts
 lt:i<ts.length
section
variable {F:Nat->Prop} {ts:List Tk} {w w':av} {b:Nat} {l:Sl} {i:Nat} {fc fa d:Int}
theorem Rr.only (h:Rr F ts w b l i fc fa d) (hO:ay [] w w'):Rr F ts w' b l i fc fa d:=
 ⟨hO.blk h.blk (by simp),SliceF.only fT (by decide) h.tok hO (by simp),h.hF,h.en,h.lt⟩
theorem Rr.jM (h:Rr F ts w b l i fc fa d) (hO:ay [b] w w') {i':Nat} {fc' fa' d':Int} (hB:Blk w' b 320 [l.v,O U (i':Int),O U d',O U fc',O U fa']) (hi:i'<ts.length):Rr F ts w' b l i' fc' fa' d':=
 ⟨hB,SliceF.only fT (by decide) h.tok hO fun k hk _ hm=>by have:=h.hF k hk;simp only[aF]at hm;omega,h.hF,h.en,hi⟩
theorem Rr.own (h:Rr F ts w b l i fc fa d) {bs:List Nat} (hO:ay bs w w') (hb:∀x,x∈bs->b<x):Rr F ts w' b l i fc fa d:=
 ⟨hO.blk h.blk fun hm=>by have:=hb b hm;omega,SliceF.only fT (by decide) h.tok hO fun k hk _ hm=>(by have:=h.hF k hk;have:=hb k hm;omega),h.hF,h.en,h.lt⟩
theorem Rr.lb (h:Rr F ts w b l i fc fa d):b<w.heap.size:=h.blk.lt
theorem Rr.big (h:Rr F ts w b l i fc fa d):ts.length<=9223372036854775807:=by
 have h1:=h.tok.len;have h2:=h.tok.cap;have h3:=h.tok.big;omega
theorem Rr.now (h:Rr F ts w b l i fc fa d):∃ad,ck l (i:Int) 4 ad/\Cells w ad [O U (tk ts i).k,ab (T (tk ts i).t),O U (tk ts i).n,O U (tk ts i).a]:=by
 have hl:=h.tok.len;have bJ:=h.lt;obtain⟨ad,x,cs,g1,g2,g3,g4,g5,g6⟩:=h.tok.get (aO i) (by omega);rw[aM,x9 h.lt]at g2;injection g2 with g2;subst g2;unfold zW at g6;subst g6;exact⟨ad,g1,g5⟩
theorem B6 (h:Rr F ts w b l i fc fa d) (c:Int):az aq 335 #[ae (some ⟨b,0,none⟩),O U c] w fun e w'=>e=ak (ai #[])/\ay [b] w w'/\
  Rr F ts w' b l i (if fc=0 then c else fc) (if fc=0 then(tk ts i).a else fa) d:=by
 refine ret (ahl _ _ _ _ ?_);unfold abu;refine⟨fc,Blk.dI h.blk 3 rfl,fun hc w0 bT=>?_,fun hc=>?_⟩
 ·have hc:fc=0:=by simpa using hc
  subst hc;have h0:=h.only bT;obtain⟨ad,g1,g2⟩:=h0.now;refine⟨l,Blk.dI h0.blk 0 rfl,_,Blk.dI h0.blk 1 rfl,ad,g1,_,g2.dI 3 _ rfl,b,3,_,_,rfl,h0.blk,by simp,fun w2 cp kC=>⟨rfl,bT.weaken (fun _ h=>(by cases h)) |>.trans cp (fun x hx=>.inl hx),?_⟩⟩;rw[if_pos rfl,if_pos rfl];exact h0.jM cp kC h.lt
 ·have hc:fc≠0:=by simpa using hc
  rw[if_neg hc,if_neg hc];exact⟨rfl,Only.refl _ _,h⟩
theorem yP (h:Rr F ts w b l i fc fa d):az aq 324 #[ae (some ⟨b,0,none⟩)] w fun e w'=>e=ak (ai #[])/\ay [b] w w'/\
  Rr F ts w' b l i (if fc=0 then(eF ts i).1 else fc) (if fc=0 then(eF ts i).2 else fa) d:=by
 refine ret (ahn _ _ _ ?_);unfold abw;obtain⟨ad,g1,g2⟩:=h.now;refine⟨l,Blk.dI h.blk 0 rfl,_,Blk.dI h.blk 1 rfl,ad,g1,_,g2.dI 0 _ rfl,fun hc w0 bT=>(B6 (h.only bT) 3).mono ?_,fun hc w2 cp=>(B6 (h.only cp) 4).mono ?_⟩
 ·have hc:(tk ts i).k=5:=by simpa using hc
  rintro _ w1 ⟨rfl,bZ,hR⟩;unfold eF;rw[if_pos hc];exact⟨rfl,rfl,bT.weaken (fun _ h=>(by cases h)) |>.trans bZ (fun x hx=>.inl hx),hR⟩
 ·have hc:(tk ts i).k≠5:=by simpa using hc
  rintro _ w1 ⟨rfl,bZ,hR⟩;unfold eF;rw[if_neg hc];exact⟨rfl,rfl,cp.weaken (fun _ h=>(by cases h)) |>.trans bZ (fun x hx=>.inl hx),hR⟩
theorem uB (h:Rr F ts w b l i fc fa d) (s:aB):az aq 320 #[ae (some ⟨b,0,none⟩),ab (T s)] w fun e w'=>e=ak (aj (fc==0&&sg ts i s))/\ay [] w w':=by
 refine ret (ahj _ _ _ _ ?_);unfold abr;intro w0 bT;have h0:=h.only bT;obtain⟨ad,g1,g2⟩:=h0.now;refine⟨fun _=>True,trivial,l,Blk.dI h0.blk 0 rfl,trivial,_,Blk.dI h0.blk 1 rfl,ad,g1,trivial,_,_,_,_,g2,fun k0 w1 hk wI bZ=>⟨fc,Blk.dI (h0.only bZ).blk 3 rfl,?_,bT.bP bZ⟩⟩;rw[gV,sO];rfl
theorem xi (h:Rr F ts w b l i fc fa d) (s:aB):az aq 322 #[ae (some ⟨b,0,none⟩),ab (T s)] w fun e w'=>e=ak (ai #[])/\ay [b] w w'/\
  (if fc==0&&sg ts i s then Rr F ts w' b l (i+1) fc fa d else Rr F ts w' b l i (if fc=0 then(eF ts i).1 else fc) (if fc=0 then(eF ts i).2 else fa) d):=by
 refine ret (ahm _ _ _ _ ?_);unfold abv;refine(uB h s).mono ?_;rintro _ w1 ⟨rfl,bZ⟩;have h1:=h.only bZ;have fb:ay [b] w w1:=bZ.weaken fun _ h=>(by cases h)
 refine⟨_,rfl,fun hc=>(yP h1).mono ?_,fun hc=>?_⟩
 ·rintro _ w2 ⟨rfl,cp,hR⟩;have hc:(fc==0&&sg ts i s)=false:=by rwa[bX]at hc
  rw[hc];exact⟨rfl,rfl,fb.trans cp (fun x hx=>.inl hx),hR⟩
 ·have hc:(fc==0&&sg ts i s)=true:=by rwa[ga]at hc
  rw[hc];simp only[aE]at hc;have hn:=h.en.next h.lt (sw hc.2);have hb:=h.big;refine⟨(i:Int),Blk.dI h1.blk 1 rfl,b,1,_,_,rfl,h1.blk,by simp,fun w3 cO sK=>⟨rfl,fb.trans cO (fun x hx=>.inl hx),h1.jM cO ?_ hn⟩⟩;rw[fy (by omega) (by omega)]at sK;exact sK
theorem IE {d:Nat} (hd:d<=20) (h:Rr F ts w b l i 0 0 (d:Int)) (hn:i+1<ts.length):az aq 321 #[ae (some ⟨b,0,none⟩)] w fun e w'=>e=ak (aj (!decide (d=20)))/\ay [b] w w'/\
  (if d=20 then Rr F ts w' b l i 21 (tk ts i).a (d:Int)else Rr F ts w' b l (i+1) 0 0 ((d+1:Nat):Int)):=by
 refine ret (ahk _ _ _ ?_);unfold abt;have hb:=h.big;refine⟨(d:Int),Blk.dI h.blk 2 rfl,fun hc=>(B6 h 21).mono ?_,fun hc=>?_⟩
 ·have hc:d=20:=by
   have:(d:Int)=20:=by simpa using hc
   omega
  rintro _ w1 ⟨rfl,bZ,hR⟩;rw[if_pos rfl,if_pos rfl]at hR;refine⟨rfl,by rw[bh hc];rfl,bZ,?_⟩;rw[if_pos hc];exact hR
 ·have hc:d≠20:=fun e=>by subst e;simp at hc
  refine⟨(d:Int),Blk.dI h.blk 2 rfl,b,2,_,_,rfl,h.blk,by simp,fun w1 bZ pi=>?_⟩;rw[fy (by omega) (by omega)]at pi;have h1:Rr F ts w1 b l i 0 0 ((d+1:Nat):Int):=h.jM bZ pi h.lt;refine⟨(i:Int),Blk.dI h1.blk 1 rfl,b,1,_,_,rfl,h1.blk,by simp,fun w2 cp kC=>?_⟩;rw[fy (by omega) (by omega)]at kC;refine⟨by rw[aZ hc];rfl,bZ.trans cp fun x hx=>.inl hx,?_⟩;rw[if_neg hc];exact h1.jM cp kC hn
end
def mh:List (List (aB)):=[[[124,124]],[[38,38]],[[61,61],[33,61]],[[60],[60,61],[62],[62,61]],[[43],[45]],[[42],[47],[37]]]
def dM:List (List Int):=[[13],[12],[10,11],[6,7,8,9],[1,2],[3,4,5]]
def vB:Rp Int:=fun _ _ x cs=>cs=[O U x]
theorem ky:vB.Ok where
 keep h _:=h
 inHeap h:=h
 mono h _:=h
 one:=by
  rintro w F x cs rfl v hv;simp only[aF]at hv;subst hv;rfl
def yQ {α:Type} (r:Rp α):Rp (List α):=fun w F xs cs=>∃s:Sl,cs=[s.v]/\SliceF r 1 w F s xs
theorem sd {α:Type} {r:Rp α} (hr:r.Ok):(yQ r).Ok where
 keep:=fun⟨s,h1,h2⟩ hk=>⟨s,h1,SliceF.keep hr h2 (by decide) hk⟩
 inHeap:=fun⟨s,h1,h2⟩=>⟨s,h1,SliceF.inHeap hr h2 (by decide)⟩
 mono:=fun⟨s,h1,h2⟩ hk=>⟨s,h1,SliceF.mono hr h2 hk⟩
 one:=by
  rintro w F x cs ⟨s,rfl,_⟩ v hv;simp only[aF]at hv;subst hv;rfl
theorem vC (w:av) (l:List Int) {n:Nat} {parts:Array (Nat×aw)} (hp:parts=(((l.map fun x=>Value.int U x).zipIdx 0).map fun x=>(x.2,x.1)).toArray) (hn:l.length=n) (h0:0<n) (sI:n*1<=16777216):
  ∃s w',(au 106 n parts).run aq w=.ok (Sl.v s) w'/\Own vB 1 3 w.heap.size w' (fun _=>True) s l/\ay [] w w':=by
 have hE:ny vB 1 w (fun _=>True) l ((l.map fun x=>Value.int U x).map fun v=>v.cells.toList):=by
  clear hp hn
  induction l with
  | nil=>trivial
  | cons x l ih=>exact⟨⟨rfl,rfl⟩,ih⟩
 obtain⟨s,w',h1,h2,h3,_⟩:=kR (P:=aq) (t:=106) (e:=3) (i:=Tryz.t3) (r:=vB) (size:=1) (by kernel_rfl) (by kernel_rfl) rfl rfl (by decide) hp (by rw[bL];exact hn) h0 sI ky hE;exact⟨s,w',h1,h2,h3⟩
theorem Nv {α:Type} {r:Rp α} (hr:r.Ok) {t e:TypeId} {ti:TypeInfo} (ht:Tryz.prog.underlying t=some (.slice e)) (hi:Tryz.prog.info? e=some ti) {z:aw} (hz:ti.zero=some z) (hs:ti.size=1) {w:av} {F:Nat->Prop} {xs:List (List α)} (ss:List Sl) {n:Nat} {parts:Array (Nat×aw)} (hp:parts=(((ss.map fun s=>s.v).zipIdx 0).map fun x=>(x.2,x.1)).toArray) (hn:ss.length=n) (h0:0<n) (sI:n*1<=16777216)
  (hE:fG (fun x (s:List aw)=>s.length=1/\yQ r w F x s) xs (ss.map fun s=>[s.v])):
  ∃s w',(au t n parts).run aq w=.ok (Sl.v s) w'/\SliceF (yQ r) 1 w' (fun k=>F k∨w.heap.size<=k) s xs/\ay [] w w':=by
 have Ue:ny (yQ r) 1 w F xs ((ss.map fun s=>s.v).map fun v=>v.cells.toList):=by
  have:((ss.map fun s=>s.v).map fun v=>v.cells.toList)=ss.map fun s=>[s.v]:=by
   rw[gY];rfl
  rw[this];exact hE
 obtain⟨s,w',h1,h2,h3,_⟩:=kR (P:=aq) (t:=t) (e:=e) (i:=ti) (r:=yQ r) (size:=1) ht hi hz hs (by decide) hp (by rw[bL];exact hn) h0 sI (sd hr) Ue;exact⟨s,w',h1,SliceF.mono (sd hr) (h2.slice (sd hr)) (fun k hk=>hk.imp id fun h=>h.1),h3⟩
theorem Nw (w:av):az aq 276 #[] w fun e w'=>∃s:Sl,e=ak s.v/\SliceF (yQ iW) 1 w' (fun k=>w.heap.size<=k) s mh/\ay [] w w':=by
 refine(aha (fun v w'=>∃s:Sl,v=s.v/\SliceF (yQ iW) 1 w' (fun k=>w.heap.size<=k) s mh/\ay [] w w') w ?_).mono (by
  rintro e w' ⟨v,rfl,s,rfl,h⟩;exact⟨s,rfl,h⟩)
 unfold abh;obtain⟨s0,w0,a0,b0,c0⟩:=iB w [[124,124]] (n:=1) (parts:=#[(0,ab (T [124,124]))]) rfl rfl (by decide) (by decide);obtain⟨s1,w1,a1,b1,c1⟩:=iB w0 [[38,38]] (n:=1) (parts:=#[(0,ab (T [38,38]))]) rfl rfl (by decide) (by decide);obtain⟨s2,w2,a2,b2,c2⟩:=iB w1 [[61,61],[33,61]] (n:=2) (parts:=#[(0,ab (T [61,61])),(1,ab (T [33,61]))]) rfl rfl (by decide) (by decide);obtain⟨s3,w3,a3,b3,c3⟩:=iB w2 [[60],[60,61],[62],[62,61]] (n:=4) (parts:=#[(0,ab (T [60])),(1,ab (T [60,61])),(2,ab (T [62])),(3,ab (T [62,61]))]) rfl rfl (by decide) (by decide);obtain⟨s4,w4,a4,b4,c4⟩:=iB w3 [[43],[45]] (n:=2) (parts:=#[(0,ab (T [43])),(1,ab (T [45]))]) rfl rfl (by decide) (by decide);obtain⟨s5,w5,a5,b5,c5⟩:=iB w4 [[42],[47],[37]] (n:=3) (parts:=#[(0,ab (T [42])),(1,ab (T [47])),(2,ab (T [37]))]) rfl rfl (by decide) (by decide);have z0:=c0.size;have z1:=c1.size;have z2:=c2.size;have z3:=c3.size;have z4:=c4.size;have mk:∀{u u':av} {s:Sl} {l:List (aB)},w.heap.size<=u.heap.size->∀{v:av},Own iW 1 9 u.heap.size v (fun _=>True) s l->ay [] v u'->[s.v].length=1/\yQ iW u' (fun k=>w.heap.size<=k) l [s.v]:=fun hu v hB hO=>⟨rfl,_,rfl,SliceF.only cG (by decide) (SliceF.mono cG (qc hB) fun k hk=>by have:=hk.1;omega) hO (by simp)⟩
 obtain⟨s6,w6,a6,b6,c6⟩:=Nv (r:=iW) cG (t:=300) (e:=52) (ti:=Tryz.t52) (by kernel_rfl) (by kernel_rfl) rfl rfl (w:=w5) (F:=fun k=>w.heap.size<=k) (xs:=mh) [s0,s1,s2,s3,s4,s5] (n:=6) (parts:=#[(0,s0.v),(1,s1.v),(2,s2.v),(3,s3.v),(4,s4.v),(5,s5.v)]) rfl rfl (by decide) (by decide)
  ⟨mk (aK _) b0 (((((c1.bP c2).bP c3).bP c4).bP c5)),mk (by omega) b1 ((((c2.bP c3).bP c4).bP c5)),mk (by omega) b2 ((c3.bP c4).bP c5),mk (by omega) b3 (c4.bP c5),mk (by omega) b4 c5,mk (by omega) b5 (Only.refl _ _),trivial⟩
 have z5:=c5.size;exact⟨s0,w0,a0,s1,w1,a1,s2,w2,a2,s3,w3,a3,s4,w4,a4,s5,w5,a5,s6,w6,a6,s6,rfl,SliceF.mono (sd cG) b6 (fun k hk=>by rcases hk with hk | hk<;>omega),(((((c0.bP c1).bP c2).bP c3).bP c4).bP c5).bP c6⟩
theorem Gl (w:av):az aq 275 #[] w fun e w'=>∃s:Sl,e=ak s.v/\SliceF (yQ vB) 1 w' (fun k=>w.heap.size<=k) s dM/\ay [] w w':=by
 refine(ag5 (fun v w'=>∃s:Sl,v=s.v/\SliceF (yQ vB) 1 w' (fun k=>w.heap.size<=k) s dM/\ay [] w w') w ?_).mono (by
  rintro e w' ⟨v,rfl,s,rfl,h⟩;exact⟨s,rfl,h⟩)
 unfold aba;obtain⟨s0,w0,a0,b0,c0⟩:=vC w [13] (n:=1) (parts:=#[(0,O U 13)]) rfl rfl (by decide) (by decide);obtain⟨s1,w1,a1,b1,c1⟩:=vC w0 [12] (n:=1) (parts:=#[(0,O U 12)]) rfl rfl (by decide) (by decide);obtain⟨s2,w2,a2,b2,c2⟩:=vC w1 [10,11] (n:=2) (parts:=#[(0,O U 10),(1,O U 11)]) rfl rfl (by decide) (by decide);obtain⟨s3,w3,a3,b3,c3⟩:=vC w2 [6,7,8,9] (n:=4) (parts:=#[(0,O U 6),(1,O U 7),(2,O U 8),(3,O U 9)]) rfl rfl (by decide) (by decide);obtain⟨s4,w4,a4,b4,c4⟩:=vC w3 [1,2] (n:=2) (parts:=#[(0,O U 1),(1,O U 2)]) rfl rfl (by decide) (by decide);obtain⟨s5,w5,a5,b5,c5⟩:=vC w4 [3,4,5] (n:=3) (parts:=#[(0,O U 3),(1,O U 4),(2,O U 5)]) rfl rfl (by decide) (by decide);have z0:=c0.size;have z1:=c1.size;have z2:=c2.size;have z3:=c3.size;have z4:=c4.size;have mk:∀{u u':av} {s:Sl} {l:List Int},w.heap.size<=u.heap.size->∀{v:av},Own vB 1 3 u.heap.size v (fun _=>True) s l->ay [] v u'->[s.v].length=1/\yQ vB u' (fun k=>w.heap.size<=k) l [s.v]:=fun hu v hB hO=>⟨rfl,_,rfl,SliceF.only ky (by decide) (SliceF.mono ky (Hv ky (fun _ _ _ _ _ h=>h) hB) fun k hk=>by have:=hk.1;omega) hO (by simp)⟩
 obtain⟨s6,w6,a6,b6,c6⟩:=Nv (r:=vB) ky (t:=298) (e:=106) (ti:=Tryz.t106) (by kernel_rfl) (by kernel_rfl) rfl rfl (w:=w5) (F:=fun k=>w.heap.size<=k) (xs:=dM) [s0,s1,s2,s3,s4,s5] (n:=6) (parts:=#[(0,s0.v),(1,s1.v),(2,s2.v),(3,s3.v),(4,s4.v),(5,s5.v)]) rfl rfl (by decide) (by decide)
  ⟨mk (aK _) b0 (((((c1.bP c2).bP c3).bP c4).bP c5)),mk (by omega) b1 ((((c2.bP c3).bP c4).bP c5)),mk (by omega) b2 ((c3.bP c4).bP c5),mk (by omega) b3 (c4.bP c5),mk (by omega) b4 c5,mk (by omega) b5 (Only.refl _ _),trivial⟩
 have z5:=c5.size;exact⟨s0,w0,a0,s1,w1,a1,s2,w2,a2,s3,w3,a3,s4,w4,a4,s5,w5,a5,s6,w6,a6,s6,rfl,SliceF.mono (sd ky) b6 (fun k hk=>by rcases hk with hk | hk<;>omega),(((((c0.bP c1).bP c2).bP c3).bP c4).bP c5).bP c6⟩
def lr (ts:List Tk) (i:Nat):List (aB)->List Int->Int
 | s::ss,n::ns=>if sg ts i s=true then n else lr ts i ss ns
 | _,_=>0
theorem Nx (ts:List Tk) (i k:Nat) (hk:k<6):lr ts i ((mh[k]?).getD []) ((dM[k]?).getD [])=iE ts (k:Int) i:=by
 match k,hk with
 | 0,_=>simp[iE,ij,dY,lr,mh,dM,dh,sA]
 | 1,_=>simp[iE,ij,dY,lr,mh,dM,dh,sA]
 | 2,_=>simp[iE,ij,dY,lr,mh,dM,dh,sA]
 | 3,_=>simp[iE,ij,dY,lr,mh,dM,dh,sA]
 | 4,_=>simp[iE,ij,dY,lr,mh,dM,dh,sA]
 | 5,_=>simp[iE,ij,dY,lr,mh,dM,dh,sA]
theorem Gm {ts:List Tk} {i:Nat} {ss:List (aB)} {ns:List Int} {n:Nat} {s:aB} {m:Int} (h1:ss[n]? =some s) (h2:ns[n]? =some m):lr ts i (ss.drop n) (ns.drop n)=if sg ts i s=true then m else lr ts i (ss.drop (n+1)) (ns.drop (n+1)):=by
 rw[fR (aP.1 h1).1,(aP.1 h1).2,fR (aP.1 h2).1,(aP.1 h2).2,lr]
theorem Ny (k:Nat):((mh[k]?).getD []).length=((dM[k]?).getD []).length:=by
 rcases jP k 6 with h | h
 ·match k,h with
  | 0,_=>rfl
  | 1,_=>rfl
  | 2,_=>rfl
  | 3,_=>rfl
  | 4,_=>rfl
  | 5,_=>rfl
 ·rw[cr (by exact h),cr (by exact h)];rfl
section
variable {F:Nat->Prop} {ts:List Tk} {w w':av} {b:Nat} {l:Sl} {i:Nat} {fc fa d:Int}
theorem Nz (h:Rr F ts w b l i fc fa d) {k:Nat} (hk:k<6):az aq 312 #[ae (some ⟨b,0,none⟩),O U (k:Int)] w fun e w'=>e=ak (O U (if fc=0 then iE ts (k:Int) i else 0))/\ay [] w w':=by
 refine ret (ahp _ _ _ _ ?_);unfold aby;refine(Nw w).mono ?_;rintro _ w0 ⟨l0,rfl,hR,bT⟩;have n0:=hR.len;have n6:mh.length=6:=rfl;obtain⟨p0,x0,cs0,g1,g2,g3,g4,g5,s1,rfl,hS⟩:=hR.get (aO k) (by omega);rw[aM]at g2;refine⟨l0,rfl,p0,g1,s1,g5,(Gl w0).mono ?_⟩;rintro _ w1 ⟨l2,rfl,hN,bZ⟩;have m0:=hN.len;have m6:dM.length=6:=rfl;obtain⟨p1,x1,cs1,e1,e2,e3,e4,e5,s3,rfl,hM⟩:=hN.get (aO k) (by omega);rw[aM]at e2;have hfo:=Nx ts i k hk;have hrl:=Ny k;rw[g2,e2,fZ,fZ]at hfo hrl;have t1:=hS.len;have t2:=hM.len;have t3:=hS.cap;have t4:=hS.big;refine⟨l2,rfl,p1,e1,s3,e5,fun nv j w'=>∃n:Nat,n<=x0.length/\j=(n:Int)/\nv=x0.length-n/\(fc=0->lr ts i x0 x1=lr ts i (x0.drop n) (x1.drop n))/\ay [] w1 w',x0.length,⟨0,aQ _,rfl,rfl,fun _=>rfl,Only.refl _ _⟩,?_⟩;rintro nv _ w2 ⟨n,hn,rfl,rfl,hf,cp⟩;have iO:=(bT.bP bZ).bP cp;refine⟨fun bJ=>?_,fun kO=>?_⟩
 ·have bJ:(n:Int)<(s1.n:Int):=aG bJ;obtain⟨p2,sg0,cs2,q1,q2,q3,q4,q5,q6⟩:=(SliceF.only cG (by decide) hS (bZ.bP cp) (by simp)).get (aO n) bJ;unfold iW at q6;subst q6;rw[aM]at q2;refine⟨p2,q1,_,q5,(uB (h.only iO) sg0).mono ?_⟩;rintro _ w3 ⟨rfl,cO⟩;obtain⟨p3,m,cs3,r1,r2,r3,r4,r5,r6⟩:=(SliceF.only ky (by decide) hM (cp.bP cO) (by simp)).get (i:=(n:Int)) (aO n) (by omega);unfold vB at r6;subst r6;rw[aM]at r2;have kb:=Gm (ts:=ts) (i:=i) q2 r2;refine⟨_,rfl,fun hb=>⟨p3,r1,m,r5,?_,iO.bP cO⟩,fun hb=>⟨x0.length-(n+1),by omega,n+1,by omega,by rw[fy (by omega) (by omega)];rfl,rfl,fun h0=>?_,cp.bP cO⟩⟩
  ·simp only[aE,cZ]at hb;rw[if_pos hb.1,<-hfo,hf hb.1,kb,if_pos hb.2]
  ·rw[hf h0,kb,if_neg];intro hs;rw[h0,hs]at hb;exact absurd hb (by decide)
 ·have kO:¬(n:Int)<(s1.n:Int):=aI kO;refine⟨?_,iO⟩;by_cases h0:fc=0
  ·rw[if_pos h0,<-hfo,hf h0,cX (by omega)];rfl
  ·rw[if_neg h0]
end
def nC (F:Nat->Prop) (ts:List Tk) (w w':av) (b:Nat) (l:Sl) (d:Nat) (r:Pr) (v:aw):Prop:=ay [b] w w'/\match r with
 | .ok (x,j)=>∃cs,v=ah cs.toArray/\RX w' w.heap.size w'.heap.size x cs/\Rr F ts w' b l j 0 0 (d:Int)
 | .error e=>e.1≠0/\exT v/\∃j,Rr F ts w' b l j e.1 e.2 (d:Int)
section
variable {F:Nat->Prop} {ts:List Tk} {w w':av} {b:Nat} {l:Sl} {i:Nat} {fc fa:Int}
theorem nC.nj {d:Nat} {r:Pr} {v:aw} (h:nC F ts w w' b l d r v):exT v:=by
 obtain⟨_,h⟩:=h;cases r with
 | error e=>exact h.2.1
 | ok q=>
  obtain⟨cs,rfl,hx,_⟩:=h;obtain⟨sl,rfl,_⟩:=hx.cells;exact⟨_,_,_,_,_,_,rfl⟩
theorem nC.yU {w0 w1 w2 w3:av} {d:Nat} {r:Pr} {v:aw} (h:nC F ts w1 w2 b l d r v) (bT:ay [b] w0 w1) {bs:List Nat} (cp:ay bs w2 w3) (hb:∀x,x∈bs->b<x/\w0.heap.size<=x/\x<w1.heap.size):nC F ts w0 w3 b l d r v:=by
 obtain⟨hO,h⟩:=h;have z0:=bT.size;have z1:=hO.size;have z2:=cp.size;refine⟨(bT.trans hO fun x hx=>.inl hx).trans cp fun x hx=>.inr (hb x hx).2.1,?_⟩;cases r with
 | error e=>
  obtain⟨h1,h2,j,h3⟩:=h;exact⟨h1,h2,j,h3.own cp fun x hx=>(hb x hx).1⟩
 | ok q=>
  obtain⟨cs,h1,h2,h3⟩:=h;exact⟨cs,h1,(h2.only cp fun x hx=>.inl (hb x hx).2.2).wide z0 z2,h3.own cp fun x hx=>(hb x hx).1⟩
theorem VY:exT (ah #[O U 0,O U 0,ab (ao #[]),O U 0,Sl.nil.v,O U 0]):=⟨0,0,[],0,Sl.nil,0,rfl⟩
theorem ack {d:Nat} (h:Rr F ts w b l i 0 0 (d:Int)) (hn:i+1<ts.length):az aq 323 #[ae (some ⟨b,0,none⟩)] w fun e w'=>∃v,e=ak v/\nC F ts w w' b l d (yf ts i) v:=by
 refine aho ⟨b,0,none⟩ (fun v w'=>nC F ts w w' b l d (yf ts i) v) w ?_;unfold abx;intro k0 w0 gN dJ bT;have hb:=h.lb;have Om:=h.big;have z0:=bT.size;have h0:=h.only bT;obtain⟨ad,g1,g2⟩:=h0.now;refine⟨fun _=>True,trivial,l,Blk.dI h0.blk 0 rfl,trivial,_,Blk.dI h0.blk 1 rfl,ad,g1,trivial,_,g2.dI 3 _ rfl,fun k1 w1 jO jb bZ=>?_⟩;have z1:=bZ.size;have h1:=h0.only bZ;have fb:=bT.bP bZ;have sm:∀{u u':av},w1.heap.size<=u.heap.size->ay [b] u u'->aR [k0,k1] u u':=fun hu hO=>hO.same (by intro x hx;simp only[aL,aU,bM]at hx⊢;omega);refine⟨(i:Int),Blk.dI h1.blk 1 rfl,b,1,_,_,rfl,h1.blk,by simp,by omega,by omega,fun w2 cp kC=>?_⟩;rw[fy (by omega) (by omega)]at kC;have h2:Rr F ts w2 b l (i+1) 0 0 (d:Int):=h1.jM cp kC hn;have z2:=cp.size;have iO:ay [b] w w2:=(fb.weaken fun _ h=>(by cases h)).trans cp fun x hx=>.inl hx;refine(xi h2 [40]).mono ?_;rintro _ w3 ⟨rfl,cO,AI⟩;have z3:=cO.size;have lu:=iO.trans cO fun x hx=>.inl hx;refine⟨rfl,sm (by omega) cO,?_⟩;rw[show((0:Int)==0)=true from rfl,bK,if_pos rfl,if_pos rfl]at AI;have wM:∀{u u':av},ay [b] w u->ay [k0] u u'->ay [b] w u':=fun h1 h2=>h1.new h2 gN;by_cases hs:sg ts (i+1) [40]=true
 ·rw[if_pos hs]at AI;refine⟨0,Blk.dI AI.blk 3 rfl,fun hc=>(by simp at hc),fun _=>?_⟩;obtain⟨ad3,u1,u2⟩:=AI.now;refine⟨l,Blk.dI AI.blk 0 rfl,_,Blk.dI AI.blk 1 rfl,ad3,u1,_,u2.dI 0 _ rfl,fun hc w5 dS=>(yP (AI.only dS)).mono ?_,fun hc w8 fh=>?_⟩
  ·have hc:(tk ts (i+2)).k≠1:=by simpa using hc
   rintro _ w6 ⟨rfl,dG,XJ⟩;rw[if_pos rfl,if_pos rfl]at XJ;have z5:=dS.size;refine⟨rfl,sm (by omega) dG,fun w7 fz=>⟨wM ((lu.bP dS).trans dG fun x hx=>.inl hx) fz,?_⟩⟩;rw[yf,if_pos hs,if_neg hc];exact⟨eJ,⟨_,_,[],_,_,_,rfl⟩,i+2,XJ.own fz (by simp;omega)⟩
  ·have hc:(tk ts (i+2)).k=1:=by simpa using hc
   have z8:=fh.size;have h8:=AI.only fh;obtain⟨ad8,v1,v2⟩:=h8.now;refine⟨l,Blk.dI h8.blk 0 rfl,_,Blk.dI h8.blk 1 rfl,ad8,v1,_,v2.dI 1 _ rfl,fun w9 fK=>?_⟩;have z9:=fK.size;have h9:=h8.own fK (by simp;omega);have Oq:ay [b] w w9:=(lu.bP fh).new fK (by omega);have hn3:=h.en.next AI.lt (by show(tk ts (i+2)).k≠5;rw[hc];decide);refine⟨_,Blk.dI h9.blk 1 rfl,b,1,_,_,rfl,h9.blk,by simp,by omega,by omega,fun cK dy nt=>?_⟩;rw[fy (by omega) (by omega)]at nt;have tK:Rr F ts cK b l (i+1+1+1) 0 0 (d:Int):=h9.jM dy nt hn3;have GI:=dy.size;refine(xi tK [41]).mono ?_;rintro _ cY ⟨rfl,dP,O5⟩;have E1:=dP.size;refine⟨rfl,sm (by omega) dP,fun dz ey=>⟨wM ((Oq.trans dy fun x hx=>.inl hx).trans dP fun x hx=>.inl hx) ey,?_⟩⟩;rw[show((0:Int)==0)=true from rfl,bK,if_pos rfl,if_pos rfl]at O5;rw[yf,if_pos hs,if_pos hc];by_cases Kr:sg ts (i+3) [41]=true
   ·rw[if_pos Kr];rw[if_pos (show sg ts (i+1+1+1) [41]=true from Kr)]at O5;exact⟨_,rfl,.leaf ..,O5.own ey (by simp;omega)⟩
   ·rw[if_neg Kr];rw[if_neg (show ¬sg ts (i+1+1+1) [41]=true from Kr)]at O5;exact⟨eJ,⟨_,_,_,_,_,_,rfl⟩,i+1+1+1,O5.own ey (by simp;omega)⟩
 ·rw[if_neg hs]at AI;refine⟨_,Blk.dI AI.blk 3 rfl,fun hc w4 dm=>⟨wM lu dm,?_⟩,fun hc=>absurd (by simpa using hc) (eJ (ts:=ts) (i:=i+1))⟩;rw[yf,if_neg hs];exact⟨eJ,⟨_,_,[],_,_,_,rfl⟩,i+1,AI.own dm (by simp;omega)⟩
theorem VZ {f d:Nat} (hd:d<=20) (h:Rr F ts w b l i 0 0 (d:Int))
  (hE:d≠20->∀w i,Rr F ts w b l i 0 0 ((d+1:Nat):Int)->az aq 300 #[ae (some ⟨b,0,none⟩),O U 0] w fun e w'=>∃v,e=ak v/\nC F ts w w' b l (d+1) (cx ts f 0 (d+1) i) v)
  (WB:d≠20->∀w i,Rr F ts w b l i 0 0 ((d+1:Nat):Int)->az aq 311 #[ae (some ⟨b,0,none⟩)] w fun e w'=>∃v,e=ak v/\nC F ts w w' b l (d+1) (cx ts f 6 (d+1) i) v):
  az aq 311 #[ae (some ⟨b,0,none⟩)] w fun e w'=>∃v,e=ak v/\nC F ts w w' b l d (cx ts (f+1) 6 d i) v:=by
 have eR:cx ts (f+1) 6 d i=mz ts (cx ts f 0 (d+1)) (cx ts f 6 (d+1)) d i:=by rw[cx,if_pos rfl]
 rw[eR];generalize hgE:cx ts f 0 (d+1)=E0 at*
 generalize hgO:cx ts f 6 (d+1)=One at*
 generalize hR:mz ts E0 One d i=R;rw[mz]at hR;refine ahi ⟨b,0,none⟩ (fun v w'=>nC F ts w w' b l d R v) w ?_;unfold abq;intro k0 w0 gN dJ bT;have hb:=h.lb;have Om:=h.big;have z0:=bT.size;have h0:=h.only bT;obtain⟨ad,g1,g2⟩:=h0.now;refine⟨fun _=>True,trivial,l,Blk.dI h0.blk 0 rfl,trivial,_,Blk.dI h0.blk 1 rfl,ad,g1,trivial,_,_,_,_,g2,fun k1 w1 jO jb bZ=>?_⟩;have z1:=bZ.size;have h1:=h0.only bZ;have sm:∀{u u':av},w1.heap.size<=u.heap.size->ay [b] u u'->aR [k0,k1] u u':=fun hu hO=>hO.same (by intro x hx;simp only[aL,aU,bM]at hx⊢;omega);have PQ:∀{u u':av},w1.heap.size<=u.heap.size->ay [] u u'->aR [k0,k1] u u':=fun hu hO=>hO.same (by intro x hx;simp only[aL,aU,bM]at hx;exact⟨by omega,by simp⟩);refine(uB h1 [45]).mono ?_;rintro _ w2 ⟨rfl,cp⟩;have z2:=cp.size;have h2:=h1.only cp;refine⟨_,rfl,PQ (by omega) cp,(uB h2 [33]).mono ?_⟩;rintro _ w3 ⟨rfl,cO⟩;have z3:=cO.size;have h3:=h2.only cO;refine⟨_,rfl,PQ (by omega) cO,(uB h3 [40]).mono ?_⟩;rintro _ w4 ⟨rfl,dm⟩;have z4:=dm.size;have h4:=h3.only dm;have oh:ay [] w w4:=(((bT.bP bZ).bP cp).bP cO).bP dm;have AP:ay [b] w w4:=oh.weaken fun _ h=>(by cases h)
 have wM:∀{u u':av},ay [b] w u->ay [k0] u u'->ay [b] w u':=fun h1 h2=>h1.new h2 gN;rw[show((0:Int)==0)=true from rfl,bK,bK,bK];refine⟨_,rfl,PQ (by omega) dm,0,Blk.dI h4.blk 3 rfl,fun hc=>(by simp at hc),fun _=>⟨fun hs=>?_,fun hs=>⟨fun hp=>?_,fun hp=>⟨fun hi=>?_,fun hi=>⟨fun hv=>?_,fun hv=>?_⟩⟩⟩⟩⟩
 ·rw[if_pos hs]at hR;have gf:(tk ts i).k≠5:=by
   rcases bS _ _▸hs with e | e<;>exact sw e
  have hn:=h.en.next h.lt gf;refine(IE hd h4 hn).mono ?_;rintro _ w6 ⟨rfl,dG,XJ⟩;have z6:=dG.size;have zG:=AP.trans dG fun x hx=>.inl hx;refine⟨_,rfl,sm (by omega) dG,fun hc w7 fz=>⟨wM zG fz,?_⟩,fun hc=>?_⟩
  ·have hc:d=20:=by simpa using hc
   rw[if_pos hc]at XJ;rw[<-hR,gU,if_pos hc];exact⟨(by decide:(21:Int)≠0),VY,i,XJ.own fz (by simp;omega)⟩
  ·have hc:d≠20:=by simpa using hc
   rw[if_neg hc]at XJ;rw[gU,if_neg hc]at hR;refine(WB hc w6 (i+1) XJ).mono ?_;rintro _ w8 ⟨v,rfl,hD⟩;obtain⟨vk,vn,vs,vo,vl,va,rfl⟩:=hD.nj;have z8:=hD.1.size;refine⟨_,_,_,_,_,_,rfl,sm (by omega) hD.1,fun k2 w9 nW nD fK=>?_⟩;have z9:=fK.size;have hOD:=zG.trans hD.1 fun x hx=>.inl hx;have key:∀{j:Nat} {c a:Int},Rr F ts w8 b l j c a ((d+1:Nat):Int)->∃i9:Int,Cells w9 (Addr.add ⟨b,0,none⟩ 2) [O U i9]/\∃k3 k4:Nat,∃z0:List aw,∃k5:Nat,(Addr.add ⟨b,0,none⟩ 2)=⟨k3,k4,none⟩/\Blk w9 k3 k5 z0/\(k4+1)<=z0.length/\k0≠k3/\k1≠k3/\k2≠k3/\
     ∀cK:av,ay [k3] w9 cK->Blk cK k3 k5 (bO z0 k4 [O U (ar U (i9-1))])->ay [b] w8 cK/\Rr F ts cK b l j c a (d:Int):=fun{j c a} h8=>by
    have h9:=h8.only fK;refine⟨((d+1:Nat):Int),Blk.dI h9.blk 2 rfl,b,2,_,_,rfl,h9.blk,by simp,by omega,by omega,by omega,fun cK dy nt=>?_⟩;have ed:((d+1:Nat):Int)-1=d:=by omega
    rw[ed,fy (by omega) (by omega)]at nt;exact⟨(fK.weaken (bs':=[b]) fun _ h=>(by cases h)).trans dy fun x hx=>.inl hx,h9.jM dy nt h9.lt⟩
   have fin:∀{j:Nat} {c a:Int} {cK:av},ay [b] w8 cK->Rr F ts cK b l j c a (d:Int)->w9.heap.size<=cK.heap.size->(∀op sl dz,ay [] cK dz->Blk dz cK.heap.size 51 (jy vk vn vs vo vl va)->op=(if(tk ts i).t=[33]then(15:Int)else 14)->sl=(⟨some ⟨cK.heap.size,0,none⟩,1,1⟩:Sl)->∀dF,ay [k0] dz dF->nC F ts w dF b l d R (ah #[O U 4,O U 0,ab (ao #[]),O U op,sl.v,O U (tk ts i).a]))->
     ∃J1:Int->av->Prop,(∀i10:Int,∀cY:av,J1 i10 cY->∃l2:Sl,∃dz:av,((au 49 1 #[.mk 0 (ah #[O U vk,O U vn,ab (T vs),O U vo,vl.v,O U va])]).run aq cY)=(.ok l2.v dz)/\
      aR [k0,k1,k2] cY dz/\∀dF:av,ay [k0] dz dF->nC F ts w dF b l d R (ah #[O U 4,O U 0,ab (ao #[]),O U i10,l2.v,O U (tk ts i).a]))/\
     (sg ts i [33]=true->J1 15 cK)/\(sg ts i [33]=false->J1 14 cK):=fun{j c a cK} dy tK GI O6=>by
    refine⟨fun op cY=>op=(if(tk ts i).t=[33]then(15:Int)else 14)/\cY=cK,?_,fun e=>⟨?_,rfl⟩,fun e=>⟨?_,rfl⟩⟩
    ·rintro op cY ⟨nu,rfl⟩;obtain⟨dz,ER,CF,ey⟩:=yj cY [jy vk vn vs vo vl va] (by simp) (by simp) (by simp) (parts:=#[(0,ah (jy vk vn vs vo vl va).toArray)]) rfl;rw[cE,KE,br]at CF;exact⟨_,dz,ER,ey.same (by simp;omega),fun dF dq=>O6 op _ dz ey CF nu rfl dF dq⟩
    ·have:(tk ts i).t=[33]:=by
      simp only[sg,aE,bd]at e;exact e.2
     rw[if_pos this]
    ·have:(tk ts i).t≠[33]:=fun ht=>by
      rcases bS _ _▸hs with e' | e'
      ·simp only[sg,aE,bd]at e';rw[e'.2]at ht;exact absurd ht (by decide)
      ·rw[e]at e';cases e'
     rw[if_neg this]
   cases hN:One (i+1)with
   | error e=>
    rw[hN]at hD hR;obtain⟨fh,a1,a2,j,a3⟩:=hD;obtain⟨i9,q1,k3,k4,zz,k5,q2,q3,q4,q5,q6,q7,q8⟩:=key a3;refine⟨i9,q1,k3,k4,zz,k5,q2,q3,q4,q5,q6,q7,fun cK dy nt=>?_⟩;obtain⟨r1,r2⟩:=q8 cK dy nt;refine fin r1 r2 dy.size fun op sl dz ey CF nu rj dF dq=>⟨wM ((hOD.trans r1 fun x hx=>.inl hx).bP ey) dq,?_⟩
    rw[<-hR];exact⟨a1,⟨_,_,[],_,_,_,rfl⟩,j,(r2.only ey).own dq (by simp;omega)⟩
   | ok q=>
    obtain⟨x,j⟩:=q;rw[hN]at hD hR;obtain⟨fh,cs,a1,a2,a3⟩:=hD;have kH:(jy vk vn vs vo vl va)=cs:=bp Array.toList (Value.agg.inj a1);obtain⟨i9,q1,k3,k4,zz,k5,q2,q3,q4,q5,q6,q7,q8⟩:=key a3;refine⟨i9,q1,k3,k4,zz,k5,q2,q3,q4,q5,q6,q7,fun cK dy nt=>?_⟩;obtain⟨r1,r2⟩:=q8 cK dy nt;have GI:=dy.size;refine fin r1 r2 GI fun op sl dz ey CF nu rj dF dq=>⟨wM ((hOD.trans r1 fun x hx=>.inl hx).bP ey) dq,?_⟩
    have z12:=ey.size;have KT:=dq.size;rw[<-hR,nu,rj];refine⟨_,rfl,?_,(r2.only ey).own dq (by simp;omega)⟩;have Oz:RX dF w6.heap.size w8.heap.size x cs:=((a2.only r1 fun k hk=>.inl (by simp only[aF]at hk;omega)).only ey (by simp)).only dq fun k hk=>.inl (by simp only[aF]at hk;omega);have ry:Blk dF cK.heap.size 51 cs:=by
     rw[<-kH];exact dq.blk CF fun hm=>by simp only[aF]at hm;omega
    exact .one w.heap.size w8.heap.size cK.heap.size _ _ _ _ _ _ x cs (Oz.wide (by omega) (aK _)) (by omega) (by omega) (by have:=ry.lt;omega) id ry
 ·rw[if_neg (by rw[hs];decide),if_pos hp]at hR;have hn:=h.en.next h.lt (sw hp);refine(IE hd h4 hn).mono ?_;rintro _ eI ⟨rfl,eh,R9⟩;have WE:=eh.size;have Uz:=AP.trans eh fun x hx=>.inl hx;refine⟨_,rfl,sm (by omega) eh,fun hc fQ jN=>⟨wM Uz jN,?_⟩,fun hc=>?_⟩
  ·have hc:d=20:=by simpa using hc
   rw[if_pos hc]at R9;rw[<-hR,gU,if_pos hc];exact⟨(by decide:(21:Int)≠0),VY,i,R9.own jN (by simp;omega)⟩
  ·have hc:d≠20:=by simpa using hc
   rw[if_neg hc]at R9;rw[gU,if_neg hc]at hR;refine(hE hc eI (i+1) R9).mono ?_;rintro _ gP ⟨v,rfl,hD⟩;obtain⟨vk,vn,vs,vo,vl,va,rfl⟩:=hD.nj;have z16:=hD.1.size;have aeN:=Uz.trans hD.1 fun x hx=>.inl hx;refine⟨_,_,_,_,_,_,rfl,sm (by omega) hD.1,fun k6 fY WG aqG iP=>?_⟩;have z17:=iP.size;have after:∀{j:Nat} {c a:Int} {iv:av},ay [b] fY iv->Rr F ts iv b l j c a ((d+1:Nat):Int)->(∀iw,ay [b,k0] iv iw->ay [b] w iw->Rr F ts iw b l j c a (d:Int)->nC F ts w iw b l d R (ah (jy vk vn vs vo vl va).toArray))->
     ∃i15:Int,Cells iv (Addr.add ⟨b,0,none⟩ 2) [O U i15]/\∃k7 k8:Nat,∃z1:List aw,∃k9:Nat,(Addr.add ⟨b,0,none⟩ 2)=⟨k7,k8,none⟩/\Blk iv k7 k9 z1/\(k8+1)<=z1.length/\k0≠k7/\k1≠k7/\k6≠k7/\
     ∀ji:av,ay [k7] iv ji->Blk ji k7 k9 (bO z1 k8 [O U (ar U (i15-1))])->∀iw:av,ay [k0] ji iw->nC F ts w iw b l d R (ah #[O U vk,O U vn,ab (T vs),O U vo,vl.v,O U va]):=fun{j c a iv} jC RV O6=>by
    refine⟨((d+1:Nat):Int),Blk.dI RV.blk 2 rfl,b,2,_,_,rfl,RV.blk,by simp,by omega,by omega,by omega,fun ji kJ OX iw kB=>?_⟩;have ed:((d+1:Nat):Int)-1=d:=by omega
    rw[ed,fy (by omega) (by omega)]at OX;have h19:Rr F ts ji b l j c a (d:Int):=RV.jM kJ OX RV.lt;exact O6 iw ((kJ.weaken (bs':=[b,k0]) fun x hx=>.inl (by simp only[aF]at hx;simp[hx])).trans kB fun x hx=>.inl (by simp only[aF]at hx;simp[hx])) (wM (((aeN.bP iP).trans jC fun x hx=>.inl hx).trans kJ fun x hx=>.inl hx) kB) (h19.own kB (by simp;omega))
   obtain⟨jD,hD⟩:=hD;cases hN:E0 (i+1)with
   | error e=>
    rw[hN]at hD hR;obtain⟨a1,a2,j,a3⟩:=hD;refine(xi (a3.only iP) [41]).mono ?_;rintro _ iv ⟨rfl,jC,E6⟩;rw[if_neg (by simp[a1]),if_neg a1,if_neg a1]at E6;refine⟨rfl,jC.same (by simp;omega),after jC E6 fun iw kB hOw xp=>⟨hOw,?_⟩⟩;rw[<-hR];exact⟨a1,⟨_,_,_,_,_,_,rfl⟩,j,xp⟩
   | ok q=>
    obtain⟨x,j⟩:=q;rw[hN]at hD hR;obtain⟨cs,a1,a2,a3⟩:=hD;refine(xi (a3.only iP) [41]).mono ?_;rintro _ iv ⟨rfl,jC,E6⟩;rw[show((0:Int)==0)=true from rfl,bK,if_pos rfl,if_pos rfl]at E6;refine⟨rfl,jC.same (by simp;omega),?_⟩;have z18:=jC.size;by_cases Sa:sg ts j [41]=true
    ·rw[if_pos Sa]at E6;refine after jC E6 fun iw kB hOw xp=>⟨hOw,?_⟩
     rw[<-hR];simp only[pJ,Sa,if_true];have z20:=kB.size;exact⟨cs,a1,(((a2.only iP (by simp)).only jC fun k hk=>.inl (by simp only[aF]at hk;omega)).only kB fun k hk=>.inl (by simp only[aL,aU,bM]at hk;omega)).wide (by omega) (by omega),xp⟩
    ·rw[if_neg Sa]at E6;refine after jC E6 fun iw kB hOw xp=>⟨hOw,?_⟩
     rw[<-hR];simp only[pJ,Sa,iy];exact⟨eJ,⟨_,_,_,_,_,_,rfl⟩,j,xp⟩
 ·have hi:(tk ts i).k=3:=by simpa using hi
  rw[if_neg (by rw[hs];decide),if_neg (by rw[hp];decide),if_pos hi]at hR;have hn:=h.en.next h.lt (by rw[hi];decide);refine⟨(i:Int),Blk.dI h4.blk 1 rfl,b,1,_,_,rfl,h4.blk,by simp,by omega,by omega,fun j9 ix O7 nU qp=>⟨wM (AP.trans ix fun x hx=>.inl hx) qp,?_⟩⟩;rw[fy (by omega) (by omega)]at O7;have Xd:Rr F ts j9 b l (i+1) 0 0 (d:Int):=h4.jM ix O7 hn;rw[<-hR];exact⟨_,rfl,.leaf ..,Xd.own qp (by simp;omega)⟩
 ·have hi:¬(tk ts i).k=3:=by simpa using hi
  have hv:(tk ts i).k=1:=by simpa using hv
  rw[if_neg (by rw[hs];decide),if_neg (by rw[hp];decide),if_neg hi,if_pos hv]at hR;have hn:=h.en.next h.lt (by rw[hv];decide);refine⟨(i:Int),Blk.dI h4.blk 1 rfl,b,1,_,_,rfl,h4.blk,by simp,by omega,by omega,fun j9 ix O7 nU qp=>⟨wM (AP.trans ix fun x hx=>.inl hx) qp,?_⟩⟩;rw[fy (by omega) (by omega)]at O7;have Xd:Rr F ts j9 b l (i+1) 0 0 (d:Int):=h4.jM ix O7 hn;rw[<-hR];exact⟨_,rfl,.leaf ..,Xd.own qp (by simp;omega)⟩
 ·have hi:¬(tk ts i).k=3:=by simpa using hi
  have hv:¬(tk ts i).k=1:=by simpa using hv
  rw[show(ao #[105,110])=T [105,110]from rfl,gV];rw[if_neg (by rw[hs];decide),if_neg (by rw[hp];decide),if_neg hi,if_neg hv]at hR;refine⟨fun hw=>?_,fun hw=>(yP h4).mono ?_⟩
  ·have hw:(tk ts i).k=2/\(tk ts i).t=[105,110]:=by simpa using hw
   rw[if_pos hw]at hR;have hn:=h.en.next h.lt (by rw[hw.1];decide);refine(ack h4 hn).mono ?_;rintro _ mL ⟨v,rfl,hD⟩;obtain⟨vk,vn,vs,vo,vl,va,rfl⟩:=hD.nj;refine⟨_,_,_,_,_,_,rfl,sm (by omega) hD.1,fun oe jc=>?_⟩;rw[<-hR];exact hD.yU AP jc (by simp;omega)
  ·rw[if_neg (fun hh=>by rw[hh.1,hh.2]at hw;simp at hw)]at hR;rintro _ pT ⟨rfl,pe,aeP⟩;rw[if_pos rfl,if_pos rfl]at aeP;refine⟨rfl,sm (by omega) pe,fun tI sL=>⟨wM (AP.trans pe fun x hx=>.inl hx) sL,?_⟩⟩;rw[<-hR];exact⟨eJ,VY,i,aeP.own sL (by simp;omega)⟩
def At6 (F:Nat->Prop) (ts:List Tk) (w:av) (b:Nat) (l:Sl) (d:Nat) (N:Nat->Prop) (E:Nat->Pr) (k:Int) (R:Pr) (nv:Nat) (op:Int) (cs:List aw) (w':av):Prop:=ay [b] w w'/\
 ((∃(c a:Int) (j:Nat),op=0/\c≠0/\R=.error (c,a)/\Rr F ts w' b l j c a (d:Int))∨
  (∃(x:Ex) (j:Nat),op=iE ts k j/\RXN w' N w.heap.size w'.heap.size x cs/\Rr F ts w' b l j 0 0 (d:Int)/\R=gI ts E k nv x j/\ts.length-j<=nv))
theorem J9 {f k d:Nat} (WG:k<6) (h:Rr F ts w b l i 0 0 (d:Int))
  (hE:∀w i,Rr F ts w b l i 0 0 (d:Int)->az aq 300 #[ae (some ⟨b,0,none⟩),O U ((k+1:Nat):Int)] w fun e w'=>∃v,e=ak v/\nC F ts w w' b l d (cx ts f (k+1) d i) v):
  az aq 300 #[ae (some ⟨b,0,none⟩),O U (k:Int)] w fun e w'=>∃v,e=ak v/\nC F ts w w' b l d (cx ts (f+1) k d i) v:=by
 have eR:cx ts (f+1) k d i=yd (cx ts f (k+1) d i) fun x j=>gI ts (cx ts f (k+1) d) (k:Int) (ts.length-j) x j:=by rw[cx,if_neg (by omega)]
 rw[eR];have Ov:∀i x j,cx ts f (k+1) d i=.ok (x,j)->i<j:=fun i x j h=>jk f _ _ i h;generalize hgE:cx ts f (k+1) d=E at*
 generalize hR:(yd (E i) fun x j=>gI ts E (k:Int) (ts.length-j) x j)=R;refine abp ⟨b,0,none⟩ _ (fun v w'=>nC F ts w w' b l d R v) w ?_;unfold Vb;have ek:ar U ((k:Int)+1)=((k+1:Nat):Int):=by rw[fy (by omega) (by omega)];rfl
 refine⟨fun hc=>absurd (by simpa using hc) (by omega:¬(k:Int)=6),fun _ k1 w3 jO jb cO=>?_⟩;have hb:=h.lb;rw[ek];refine(hE w3 i (h.only cO)).mono ?_;rintro _ w4 ⟨v,rfl,hD⟩;obtain⟨vk,vn,vs,vo,vl,va,rfl⟩:=hD.nj;have z3:=cO.size;have z4:=hD.1.size;refine⟨_,_,_,_,_,_,rfl,hD.1.same (by simp;omega),fun k2 w5 nW nD dS=>?_⟩;have z5:=dS.size;have yZ:ay [b] w w5:=((cO.weaken (bs':=[b]) fun _ h=>(by cases h)).trans hD.1 fun x hx=>.inl hx).bP dS;have sm:∀{u u':av},w5.heap.size<=u.heap.size->ay [b] u u'->aR [k1,k2] u u':=fun hu hO=>hO.same (by intro x hx;simp only[aL,aU,bM]at hx⊢;omega);have Om:=h.big;have kb:∃(j:Nat) (c a:Int),Rr F ts w4 b l j c a (d:Int)/\∀w6,ay [] w4 w6->∃nv,At6 F ts w b l d (fun q=>q=k1∨q=k2) E (k:Int) R nv (if c=0 then iE ts (k:Int) j else 0) (jy vk vn vs vo vl va) w6:=by
  obtain⟨dm,Cx⟩:=hD;have oh:ay [b] w w4:=(cO.weaken (bs':=[b]) fun _ h=>(by cases h)).trans dm fun x hx=>.inl hx;cases AH:E i with
  | error e=>
   rw[AH]at Cx hR;obtain⟨c,a⟩:=e;obtain⟨a1,a2,j,a3⟩:=Cx;exact⟨j,c,a,a3,fun w6 dG=>⟨0,oh.bP dG,.inl ⟨c,a,j,if_neg a1,a1,hR.symm,a3.only dG⟩⟩⟩
  | ok q=>
   obtain⟨x,j⟩:=q;rw[AH]at Cx hR;obtain⟨cs,a1,a2,a3⟩:=Cx;have kH:(jy vk vn vs vo vl va)=cs:=bp Array.toList (Value.agg.inj a1);rw[kH];exact⟨j,0,0,a3,fun w6 dG=>⟨ts.length-j,oh.bP dG,.inr ⟨x,j,if_pos rfl,((a2.only dG (by simp)).AG fun q h1 h2 _=>(by omega)).wide z3 dG.size,a3.only dG,hR.symm,aK _⟩⟩⟩
 obtain⟨j0,c0,a0,hR4,kb⟩:=kb;refine(Nz (hR4.only dS) WG).mono ?_;rintro _ w6 ⟨rfl,dG⟩;have z6:=dG.size;obtain⟨nv0,hA0⟩:=kb w6 (dS.bP dG);refine⟨_,rfl,dG.same (by simp;omega),fun nv op i10 i11 s2 i12 l2 i13 w'=>w5.heap.size<=w'.heap.size/\At6 F ts w b l d (fun q=>q=k1∨q=k2) E (k:Int) R nv op [O U i10,O U i11,ab s2,O U i12,l2.v,O U i13] w',nv0,⟨z6,hA0⟩,?_⟩;rintro nv op i10 i11 s2 i12 l2 i13 w7 ⟨z7,fz,hA⟩;refine⟨fun nu=>?_,fun nu eI eh=>?_⟩
 ·have nu:op≠0:=by simpa using nu
  rcases hA with⟨_,_,_,e,_⟩ | ⟨x,j,rfl,hX,zA,yY,hnv⟩
  ·exact absurd e nu
  have hn:=zA.en.next zA.lt (mH _ _ nu);obtain⟨g,rfl⟩:∃g,nv=g+1:=⟨nv-1,by omega⟩
  rw[gI,if_neg nu]at yY;refine⟨(j:Int),Blk.dI zA.blk 1 rfl,b,1,_,_,rfl,zA.blk,by simp,by omega,by omega,fun w8 fh wm=>?_⟩;rw[fy (by omega) (by omega)]at wm;have h8:Rr F ts w8 b l (j+1) 0 0 (d:Int):=zA.jM fh wm hn;have z8:=fh.size;refine(hE w8 (j+1) h8).mono ?_;rintro _ w9 ⟨v,rfl,Ow⟩;obtain⟨yk,yn,ys,yo,yl,ya,rfl⟩:=Ow.nj;have z9:=Ow.1.size;refine⟨_,_,_,_,_,_,rfl,sm (by omega) Ow.1,fun k8 cK hk8 RR dy=>?_⟩;have GI:=dy.size;obtain⟨cY,ou,zF,dP⟩:=yj cK [[O U i10,O U i11,ab s2,O U i12,l2.v,O U i13],jy yk yn ys yo yl ya] (by simp) (by simp) (by simp) (parts:=#[(0,ah #[O U i10,O U i11,ab s2,O U i12,l2.v,O U i13]),(1,ah (jy yk yn ys yo yl ya).toArray)]) rfl;have E1:=dP.size;refine⟨⟨some ⟨cK.heap.size,0,none⟩,2,2⟩,cY,ou,dP.same (by simp;omega),fun dz ey=>?_⟩;have z12:=ey.size;have E2:ay [b] w dz:=((((fz.trans fh fun x hx=>.inl hx).trans Ow.1 fun x hx=>.inl hx).bP dy).bP dP).new ey (by omega);have rA:ay [k2] w9 dz:=((dy.bP dP).weaken (bs':=[k2]) fun _ h=>(by cases h)).trans ey fun x hx=>.inl hx;have GN:∃(j':Nat) (c a:Int),Rr F ts w9 b l j' c a (d:Int)/\∀dF,ay [] dz dF->∃nv,nv<g+1/\At6 F ts w b l d (fun q=>q=k1∨q=k2) E (k:Int) R nv (if c=0 then iE ts (k:Int) j' else 0) (jy 5 0 [] (iE ts (k:Int) j) ⟨some ⟨cK.heap.size,0,none⟩,2,2⟩ i13) dF:=by
   obtain⟨fK,Cx⟩:=Ow;cases AH:E (j+1)with
   | error e=>
    rw[AH]at Cx yY;obtain⟨c,a⟩:=e;obtain⟨a1,a2,j',a3⟩:=Cx;exact⟨j',c,a,a3,fun dF dq=>⟨0,by omega,E2.bP dq,.inl ⟨c,a,j',if_neg a1,a1,yY,(a3.own rA (by simp;omega)).only dq⟩⟩⟩
   | ok q=>
    obtain⟨y,j'⟩:=q;rw[AH]at Cx yY;obtain⟨cs,a1,a2,a3⟩:=Cx;have kH:(jy yk yn ys yo yl ya)=cs:=bp Array.toList (Value.agg.inj a1);have Yo:=Ov _ _ _ AH;obtain⟨xl,IZ,_⟩:=hX.cells;have hxa:i13=x.a:=by
     simp only[jy,qu,Value.int.injEq]at IZ;exact IZ.2.2.2.2.2.1.2
    refine⟨j',0,0,a3,fun dF dq=>⟨g,by omega,E2.bP dq,.inr ⟨.mk 5 0 [] (iE ts (k:Int) j) [x,y] x.a,j',if_pos rfl,?_,(a3.own rA (by simp;omega)).only dq,yY,?_⟩⟩⟩
    ·have KT:=dq.size;have Ox:ay [b,k2] w7 dF:=(((((fh.weaken (bs':=[b,k2]) fun x hx=>.inl (by simp only[aF]at hx;simp[hx])).trans fK fun x hx=>.inl (by simp only[aF]at hx;simp[hx])).trans rA fun x hx=>.inl (by simp only[aF]at hx;simp[hx])).bP dq))
     have Oy:ay [k2] w9 dF:=rA.bP dq;have ry:Blk dF cK.heap.size 51 ([O U i10,O U i11,ab s2,O U i12,l2.v,O U i13]++cs):=by
      have:=dq.blk (ey.blk zF (by simp;omega)) (by simp);rw[<-kH];simpa using this
     have Oz:RXN dF (fun q=>q=k1∨q=k2) w.heap.size w7.heap.size x [O U i10,O U i11,ab s2,O U i12,l2.v,O U i13]:=by
      exact hX.only Ox fun q hq=>by
       simp only[aL,aU,bM]at hq;rcases hq with rfl | rfl
       ·exact .inl hb
       ·exact .inr (.inr (.inr rfl))
     have WH:RXN dF (fun q=>q=k1∨q=k2) w8.heap.size w9.heap.size y cs:=(a2.only Oy fun q hq=>.inl (by simp only[aF]at hq;omega)).AG fun q h1 h2 _=>(by omega)
     rw[hxa];exact .two w.heap.size w7.heap.size w8.heap.size w9.heap.size cK.heap.size _ _ _ _ _ _ x y _ cs Oz z8 WH (by omega) (by omega) (by omega) (by omega) (by have:=ry.lt;omega) (by omega) ry
    ·omega
  obtain⟨j',c',a',hR9,GN⟩:=GN;refine(Nz (hR9.own rA (by simp;omega)) WG).mono ?_;rintro _ dF ⟨rfl,dq⟩;obtain⟨nv',WI,Yp⟩:=GN dF dq;exact⟨_,rfl,dq.same (by simp;omega),nv',WI,by have:=dq.size;omega,Yp⟩
 ·have nu:op=0:=by simpa using nu
  refine⟨fz.new eh (by omega),?_⟩;rcases hA with⟨c,a,j,_,hc,yY,zA⟩ | ⟨x,j,PB,hX,zA,yY,hnv⟩
  ·rw[yY];exact⟨hc,⟨i10,i11,s2.data.toList,i12,l2,i13,by unfold jy;rw[<-uX]⟩,j,zA.own eh (by simp;omega)⟩
  ·rw[yY,zY (by rw[<-PB,nu])];exact⟨_,rfl,((hX.only eh fun q hq=>.inr (.inr (.inl (by simpa using hq)))).AG fun _ _ _ _ h=>h).wide (aK _) eh.size,zA.own eh (by simp;omega)⟩
theorem Aw : ∀ f : Nat, (∀ (k d i : Nat) (w : av), k <= 6 -> d <= 20 -> eS k d <= f -> Rr F ts w b l i 0 0 (d : Int) ->
      az aq 300 #[ae (some ⟨b, 0, none⟩), O U (k : Int)] w fun e w' => ∃ v, e = ak v /\ nC F ts w w' b l d (cx ts f k d i) v) /\
    (∀ (d i : Nat) (w : av), d <= 20 -> eS 6 d <= f -> Rr F ts w b l i 0 0 (d : Int) ->
      az aq 311 #[ae (some ⟨b, 0, none⟩)] w fun e w' => ∃ v, e = ak v /\ nC F ts w w' b l d (cx ts f 6 d i) v)
  | 0 => ⟨fun k d i w hk hd hn => by unfold eS at hn; omega, fun d i w hd hn => by unfold eS at hn; omega⟩
  | f + 1 => by
    obtain ⟨zD, CS⟩ := Aw f
    have one : ∀ (d i : Nat) (w : av), d <= 20 -> eS 6 d <= f + 1 -> Rr F ts w b l i 0 0 (d : Int) ->
      az aq 311 #[ae (some ⟨b, 0, none⟩)] w fun e w' => ∃ v, e = ak v /\ nC F ts w w' b l d (cx ts (f + 1) 6 d i) v := fun d i w hd hn h => by
      unfold eS at hn
      exact VZ hd h (fun xp w i h => zD 0 (d + 1) i w (by omega) (by omega) (by unfold eS; omega) h) (fun xp w i h => CS (d + 1) i w (by omega) (by unfold eS; omega) h)
    refine ⟨fun k d i w hk hd hn h => ?_, one⟩
    by_cases h6 : k = 6
    · subst h6
      refine abp ⟨b, 0, none⟩ _ (fun v w' => nC F ts w w' b l d (cx ts (f + 1) 6 d i) v) w ?_
      unfold Vb
      refine ⟨fun _ k0 w0 gN dJ bT => ?_, fun hc => absurd hc (by decide)⟩
      refine (one d i w0 hd hn (h.only bT)).mono ?_
      rintro _ w1 ⟨v, rfl, hD⟩
      obtain ⟨vk, vn, vs, vo, vl, va, rfl⟩ := hD.nj
      have hb := h.lb
      exact ⟨_, _, _, _, _, _, rfl, hD.1.same (by simp; omega), fun w2 cp => hD.yU (bT.weaken fun _ h => (by cases h)) cp (by simp; omega)⟩
    · unfold eS at hn
      exact J9 (by omega) h fun w i h => zD (k + 1) d i w (by omega) hd (by unfold eS; omega) h
end
theorem NA {w:av} {F:Nat->Prop} {l:Sl} {ts:List Tk} (h:SliceF zW 4 w F l ts) (a:Int) (ha:vR a):az aq 277 #[l.v,O U a] w fun e w'=>
  ∃cs,e=ak (ai #[ah cs.toArray,O U (bH ts a).2.1,ah #[O U (bH ts a).2.2.1,O U (bH ts a).2.2.2]])/\RX w' w.heap.size w'.heap.size (bH ts a).1 cs/\((bH ts a).2.2.1=0->0<=(bH ts a).2.1/\(bH ts a).2.1<ts.length)/\ay [] w w':=by
 refine(ahh l a (fun v w'=>∃cs,v=(ai #[ah cs.toArray,O U (bH ts a).2.1,ah #[O U (bH ts a).2.2.1,O U (bH ts a).2.2.2]])/\RX w' w.heap.size w'.heap.size (bH ts a).1 cs/\((bH ts a).2.2.1=0->0<=(bH ts a).2.1/\(bH ts a).2.1<ts.length)/\ay [] w w') w ?_).mono (by
  rintro e w' ⟨v,rfl,cs,rfl,h⟩;exact⟨cs,rfl,h⟩)
 unfold abo;have dN:=h.len;have mD:=h.cap;have og:=h.big;have bad:¬(0<=a/\a<ts.length/\jl ts+1=ts.length)->∀w0,ay [] w w0->∃cs,(Value.tuple #[ah #[O U 0,O U 0,ab (ao #[]),O U 0,Sl.nil.v,O U 0],O U 0,ah #[O U 1,O U (-1)]])=(ai #[ah cs.toArray,O U (bH ts a).2.1,ah #[O U (bH ts a).2.2.1,O U (bH ts a).2.2.2]])/\RX w0 w.heap.size w0.heap.size (bH ts a).1 cs/\((bH ts a).2.2.1=0->0<=(bH ts a).2.1/\(bH ts a).2.1<ts.length)/\ay [] w w0:=fun hc w0 hO=>by
  rw[bH,if_neg hc];exact⟨_,rfl,QM _ _ _,fun h=>(by cases h),hO⟩
 refine⟨fun hc k0 k1 w0 _ _ _ _ bT=>bad (fun hh=>?_) w0 bT,fun hc k2 k3 w1 nW nD I5 yX bZ=>?_⟩
 ·simp only[bS,bd]at hc;omega
 have hc:0<=a/\a<ts.length:=by
  simp only[dX,ft]at hc;omega
 have z1:=bZ.size;have own:∀{u u':av},ay [] w u->ay [k3,k2] u u'->ay [] w u':=fun h1 h2=>h1.trans h2 fun x hx=>.inr (by simp only[aL,aU,bM]at hx;omega);refine⟨fun nv i _ _ _ _ _ _ _ _ w'=>∃n:Nat,n<=ts.length/\i=(n:Int)/\nv=ts.length-n/\(∀j,j<n->((tk ts j).k=5↔j+1=ts.length))/\ay [] w w'/\w1.heap.size<=w'.heap.size,ts.length,⟨0,aQ _,rfl,rfl,fun j hj=>absurd hj (Ph j),bZ,aK _⟩,?_⟩;rintro nv _ _ _ _ _ _ _ _ _ w2 ⟨n,hn,rfl,rfl,hE,cp,z2⟩;have h2:=SliceF.only fT (by decide) h cp (by simp);refine⟨fun bJ=>?_,fun kO k7 w4 hk7 aex dm qj=>?_⟩
 ·have bJ:(n:Int)<(l.n:Int):=aG bJ;obtain⟨ad,x,cs,g1,g2,g3,g4,g5,g6⟩:=h2.get (aO n) bJ;rw[aM,x9 (by omega)]at g2;injection g2 with g2;subst g2;unfold zW at g6;subst g6;have e:((tk ts n).k==5)=decide ((tk ts n).k=5):=by rw[bq];simp
  have e2:((n:Int)==ar U ((l.n:Int)-1))=decide (n+1=ts.length):=by
   rw[fy (by omega) (by omega),bq];simp only[cZ,bd];omega
  refine⟨ad,g1,_,g5.dI 0 _ rfl,?_⟩;rw[e,e2];refine⟨fun hm w3 cO=>bad (fun hh=>?_) w3 (own cp cO),fun hm=>⟨ts.length-(n+1),by omega,n+1,by omega,by rw[fy (by omega) (by omega)];rfl,rfl,fun j hj=>?_,cp,z2⟩⟩
  ·have:=DQ hh.2.2 n (by omega);rw[KD.2 this,beq_self_eq_true]at hm;cases hm
  ·rcases jP j n with hjn | hjn
   ·exact hE j hjn
   ·have:j=n:=by omega
    subst this;have hm:decide ((tk ts j).k=5)=decide (j+1=ts.length):=by simpa using hm
    exact KD.1 hm
 ·have kO:¬(n:Int)<(l.n:Int):=aI kO;have:n=ts.length:=by omega
  subst this;have RY:nY ts:=hE;have hcc:0<=a/\a<ts.length/\jl ts+1=ts.length:=⟨hc.1,hc.2,Md RY (by omega)⟩
  rw[bH,if_pos hcc];obtain⟨i,rfl⟩:∃i:Nat,a=(i:Int):=⟨a.toNat,by omega⟩
  have z4:=dm.size;have oh:=cp.bP dm;have hR:Rr (fun k=>F k/\k<w.heap.size) ts w4 k7 l i 0 0 ((0:Nat):Int):=⟨qj,SliceF.only fT (by decide) (h.inHeap fT (by decide)) oh (by simp),fun k hk=>by have:=hk.2;have:=cp.size;omega,RY,by omega⟩
  refine((Aw (eS 0 0)).1 0 0 i w4 (by decide) (by decide) (aK _) hR).mono ?_;rintro _ w5 ⟨v,rfl,hD⟩;obtain⟨vk,vn,vs,vo,vl,va,rfl⟩:=hD.nj;have z5:=hD.1.size;obtain⟨dS,hD⟩:=hD;rw[aM];have Wj:nZ ts i=cx ts (eS 0 0) 0 0 i:=rfl;rw[Wj];have z02:=cp.size;have yZ:ay [] w w5:=oh.trans dS fun x hx=>.inr (by simp only[aF]at hx;omega);refine⟨_,_,_,_,_,_,rfl,dS.same (by simp;omega),?_⟩;cases hEx:cx ts (eS 0 0) 0 0 i with
  | error e=>
   rw[hEx]at hD;obtain⟨c,p⟩:=e;obtain⟨a1,a2,j,a3⟩:=hD;refine⟨_,_,_,_,_,a3.blk,fun _ k8 w6 _ _ dG KU n1 n2 n3 n4 n5 n6=>⟨fun k=>k=k7,rfl,fun e=>n2 e,fun e=>n4 e,fun w7 fz _=>⟨_,rfl,QM _ _ _,fun h=>absurd h a1,own (yZ.bP dG) fz⟩⟩,fun hcz=>absurd (by simpa using hcz) a1⟩
  | ok q=>
   rw[hEx]at hD;obtain⟨x,j⟩:=q;obtain⟨cs,a1,a2,a3⟩:=hD;have kH:(jy vk vn vs vo vl va)=cs:=bp Array.toList (Value.agg.inj a1);refine⟨_,_,_,_,_,a3.blk,fun hcz=>(by simp at hcz),fun _ k9 w8 hk9 aeD fh wm n1 n2 n3 n4 n5 n6=>⟨fun k=>k=k7,rfl,fun e=>n2 e,fun e=>n4 e,fun w9 fK _=>?_⟩⟩;have z8:=fh.size;have z9:=fK.size;refine⟨jy vk vn vs vo vl va,rfl,?_,fun _=>⟨aO j,by have:=a3.lt;dsimp only;omega⟩,own (yZ.bP fh) fK⟩;rw[kH];exact((a2.only fh (by simp)).only fK fun q hq=>.inl (by simp only[aL,aU,bM]at hq;omega)).wide (by omega) (by omega)
theorem vD (w:av) (c:UInt8):az aq 160 #[.int .u8 (c.toNat:Int)] w fun e w'=>e=ak (aj (dT c))/\ay [] w w':=by
 refine ret (agT _ _ _ ?_);unfold aaY;refine⟨?_,Only.refl _ _⟩;congr 1;rw[bq];simp only[dT,aE,bS,bd,cZ];omega
theorem Ez (w:av) (c:UInt8):az aq 220 #[.int .u8 (c.toNat:Int)] w fun e w'=>e=ak (aj (cw c))/\ay [] w w':=by
 refine ret (agY _ _ _ ?_);unfold aa3;refine⟨?_,Only.refl _ _⟩;congr 1;rw[bq];simp only[cw,aE,bd];omega
theorem NB (w:av):az aq 219 #[] w fun e w'=>∃s:Sl,e=ak s.v/\Own iW 1 9 w.heap.size w' (fun _=>True) s gQ/\ay [] w w':=by
 refine(agW (fun v w'=>∃s:Sl,v=s.v/\Own iW 1 9 w.heap.size w' (fun _=>True) s gQ/\ay [] w w') w ?_).mono (by
  rintro e w' ⟨v,rfl,s,rfl,h⟩;exact⟨s,rfl,h⟩)
 unfold aa1;obtain⟨s,w',h1,h2,h3⟩:=iB w gQ (n:=16) rfl rfl (by decide) (by decide);exact⟨s,w',h1,s,rfl,h2,h3⟩
theorem IG (w:av) (m:aB):az aq 161 #[ab (T m)] w fun e w'=>e=ak (aj (gQ.contains m))/\ay [] w w':=by
 refine ret (agV _ _ _ ?_);unfold aa0;refine(NB w).mono ?_;rintro _ w0 ⟨s,rfl,hs,bT⟩;have h:=qc hs;generalize gQ=l at*
 have dN:=h.len;have og:=h.big;have mD:=h.cap;refine⟨s,rfl,fun nv i w'=>∃n:Nat,n<=l.length/\i=(n:Int)/\nv=l.length-n/\(∀x,x∈l.take n->x≠m)/\w'=w0,l.length,⟨0,aQ _,rfl,rfl,by simp,rfl⟩,?_⟩;rintro nv _ _ ⟨n,hn,rfl,rfl,hp,rfl⟩;refine⟨fun hc=>?_,fun hc=>?_⟩
 ·have bJ:(n:Int)<s.n:=aG hc;obtain⟨ad,x,cs,g1,g2,g3,g4,g5,g6⟩:=h.get (aO n) bJ;rw[aM]at g2;unfold iW at g6;subst g6;refine⟨ad,g1,_,g5,?_⟩;rw[gV];refine⟨fun he=>⟨?_,bT⟩,fun he=>⟨l.length-(n+1),by omega,n+1,by omega,by rw[fy (by omega) (by omega)];rfl,rfl,?_,rfl⟩⟩
  ·have he:x=m:=aG he;congr 1;symm;rw[dK,<-he];exact be g2
  ·intro y hy;rw[bn,g2]at hy;simp only[eG,cq,aF]at hy;rcases hy with hy | rfl
   ·exact hp y hy
   ·exact aI he
 ·have kO:¬((n:Int)<s.n):=aI hc;rw[bB (by omega)]at hp;refine⟨?_,bT⟩;congr 1;symm;rw[fH];intro hh;exact hp m (dK.1 hh) rfl
theorem Gn (w:av) (l:aB) (i:Nat) (hi:i<=l.length) (hl:l.length<4611686018427387903):
  az aq 162 #[ab (T l),O U (i:Int)] w fun e w'=>e=ak (O U (((l.drop i).takeWhile dC).length:Int))/\ay [] w w':=by
 refine ret (agX _ _ _ _ ?_);unfold aa2;rw[bI];have uR:(l.drop i).length=l.length-i:=bN;refine⟨fun k w'=>k=(((l.drop i).takeWhile dC).length:Int)/\ay [] w w',fun k w' h=>⟨by rw[h.1],h.2⟩,fun nv k w'=>∃n:Nat,i+n<=l.length/\k=(n:Int)/\nv=l.length-(i+n)/\(∀x,x∈(l.drop i).take n->dC x=true)/\ay [] w w',l.length-i,⟨0,hi,rfl,rfl,by simp,Only.refl _ _⟩,?_⟩;rintro nv _ w1 ⟨n,hn,rfl,rfl,hp,bZ⟩;rw[fy (x:=(i:Int)+n) (by omega) (by omega)];have ein:(i:Int)+n=((i+n:Nat):Int):=by omega
 rw[ein];refine⟨fun hc=>?_,fun hc=>⟨?_,bZ⟩⟩
 ·have bJ:i+n<l.length:=by have:=aG hc;omega
  have hx:l[i+n]? =some l[i+n]:=bA bJ;generalize l[i+n]=x at hx;have Cz:(l.drop i)[n]? =some x:=by rw[iz,hx]
  have hg:(T l)[Int.toNat ((i+n:Nat):Int)]? =some x:=by rw[ke,aM,hx]
  refine⟨x,⟨aO _,hg⟩,(vD w1 x).mono ?_⟩;rintro _ w2 ⟨rfl,cp⟩;refine⟨_,rfl,x,⟨aO _,hg⟩,(Ez w2 x).mono ?_⟩;rintro _ w3 ⟨rfl,cO⟩;have hO:=bZ.bP (cp.bP cO);have e:((!dT x)&&(!cw x))=!dC x:=by unfold dC;rw[Bool.not_or]
  refine⟨_,rfl,?_⟩;rw[e];refine⟨fun hw=>⟨?_,hO⟩,fun hw=>⟨l.length-(i+(n+1)),by omega,n+1,by omega,by rw[fy (by omega) (by omega)];rfl,rfl,fun y hy=>?_,hO⟩⟩
  ·rw[jX (by omega) hp fun y hy=>by
    rw[Cz]at hy;injection hy with hy;subst hy;simpa using hw]
   rw[cM];omega
  ·rw[bn,Cz]at hy;simp only[eG,cq,aF]at hy;rcases hy with hy | rfl
   ·exact hp y hy
   ·simpa using hw
 ·have kO:l.length<=i+n:=by have:=aI hc;omega
  rw[jX (by omega) hp fun y hy=>by
   have:=(aP.1 hy).1;omega]
  rw[cM];omega
theorem NC (c:UInt8):(((((c.toNat:Int)==9)||((c.toNat:Int)==10))||((c.toNat:Int)==13))||((c.toNat:Int)==32))=lY c:=by
 have h9:((c.toNat:Int)==9)=(c==9):=Hy (d:=9);have tK:((c.toNat:Int)==10)=(c==10):=Hy (d:=10);have vL:((c.toNat:Int)==13)=(c==13):=Hy (d:=13);have h32:((c.toNat:Int)==32)=(c==32):=Hy (d:=32);rw[h9,tK,vL,h32,bq];simp[lY,or_assoc]
theorem Ax (w:av) (l:aB) (i:Nat) (hi:i<=l.length) (hl:l.length<4611686018427387903):
  az aq 184 #[ab (T l),O U (i:Int)] w fun e w'=>e=ak (O U ((i+iL false (l.drop i):Nat):Int))/\ay [] w w':=by
 refine ret (ahd _ _ _ _ ?_);unfold abk;rw[bI];refine⟨fun k w'=>k=((i+iL false (l.drop i):Nat):Int)/\w'=w,fun k w' h=>⟨by rw[h.1],by rw[h.2];exact Only.refl _ _⟩,fun nv k w'=>∃j:Nat,j<=l.length/\k=(j:Int)/\nv=l.length-j/\i+iL false (l.drop i)=j+iL false (l.drop j)/\w'=w,l.length-i,⟨i,hi,rfl,rfl,rfl,rfl⟩,?_⟩;rintro nv _ u ⟨j,hj,rfl,rfl,RN,hu⟩;subst hu;refine⟨fun hc=>?_,fun hc=>⟨?_,rfl⟩⟩
 ·have bJ:j<l.length:=by have:=aG hc;omega
  have hx:l[j]? =some l[j]:=bA bJ;generalize l[j]=x at hx;have hd:=lf hx;have e47:((x.toNat:Int)==47)=(x==47):=Hy (d:=47);rw[fy (x:=(j:Int)+1) (by omega) (by omega)];obtain⟨y,hy⟩:∃y:UInt8,j+1<l.length->l[j+1]? =some y:=by
   by_cases h:j+1<l.length
   ·exact⟨l[j+1],fun _=>bA h⟩
   ·exact⟨0,fun h'=>absurd h' h⟩
  have e2:((y.toNat:Int)==47)=(y==47):=Hy (d:=47);refine⟨x,⟨aO j,by rw[ke,aM,hx]⟩,y,fun h=>⟨by omega,?_⟩,?_⟩
  ·rw[aE]at h;have:=aG h.2;rw[show(j:Int)+1=((j+1:Nat):Int) by omega,ke,aM];exact hy (by omega)
  rw[e47,e2,NC];refine⟨fun hs=>?_,fun hs=>⟨fun hb=>⟨l.length-(j+1),by omega,j+1,by omega,rfl,rfl,?_,rfl⟩,fun hb=>⟨?_,rfl⟩⟩⟩
  ·simp only[aE,bd,cZ]at hs;obtain⟨⟨rfl,h1⟩,rfl⟩:=hs;have h1:j+1<l.length:=by omega
   have Yn:=lf (hy h1);have ht:(l.drop j).take 2=[47,47]:=by rw[hd,Yn];rfl
   have hk:=zV ht;have uR:(l.drop j).length=l.length-j:=bN;refine⟨fun nv k w'=>∃n:Nat,j+n<=l.length/\k=((j+n:Nat):Int)/\nv=l.length-(j+n)/\(∀x,x∈(l.drop j).take n->(x !=10)=true)/\w'=u,l.length-j,⟨0,hj,rfl,rfl,by simp,rfl⟩,?_⟩;rintro nv _ _ ⟨n,hn,rfl,rfl,hp,rfl⟩;obtain⟨z,hz⟩:∃z:UInt8,j+n<l.length->l[j+n]? =some z:=by
    by_cases h:j+n<l.length
    ·exact⟨l[j+n],fun _=>bA h⟩
    ·exact⟨0,fun h'=>absurd h' h⟩
   have Cs:((z.toNat:Int) !=10)=(z !=10):=by
    have:((z.toNat:Int)==10)=(z==10):=Hy (d:=10);unfold bne;rw[this]
   refine⟨z,fun h=>⟨aO _,by rw[ke,aM];exact hz (by have:=aG h;omega)⟩,?_⟩;rw[Cs];refine⟨fun h=>?_,fun h=>?_⟩
   ·rw[aE]at h;have h1:=aG h.1;have hzz:(l.drop j)[n]? =some z:=by rw[iz];exact hz (by omega)
    refine⟨l.length-(j+(n+1)),by omega,n+1,by omega,by rw[fy (by omega) (by omega)];omega,rfl,fun q hq=>?_,rfl⟩;rw[bn,hzz]at hq;simp only[eG,cq,aF]at hq;rcases hq with hq | rfl
    ·exact hp q hq
    ·exact h.2
   ·have hw:(l.drop j).takeWhile (· !=10)=(l.drop j).take n:=jX (by omega) hp fun q hq=>by
     have h1:=(aP.1 hq).1;rw[iz,hz (by omega)]at hq;injection hq with hq;subst hq;rw[bh (by omega),bK]at h;exact h
    have Yi:((l.drop j).takeWhile (· !=10)).length=n:=by rw[hw,cM];omega
    have RO:0<n:=by
     rw[<-Yi,hd,cI,if_pos (by decide),aH];omega
    rw[Yi,iA]at hk;exact⟨l.length-(j+n),by omega,j+n,hn,rfl,rfl,by rw[RN,hk];omega,rfl⟩
  ·rw[RN,hd,iL,if_pos hb];omega
  ·have hz:iL false (l.drop j)=0:=by
    rw[hd,iL,if_neg (by rw[hb];decide),if_neg];intro hh;simp only[aE,cZ]at hh;obtain⟨rfl,hh⟩:=hh;have h1:j+1<l.length:=by
     cases hr:l.drop (j+1)with
     | nil=>rw[hr]at hh;simp at hh
     | cons a b=>
      have:=bp List.length hr;rw[bN,aH]at this;omega
    rw[lf (hy h1)]at hh;simp only[fN,aJ]at hh;subst hh;rw[bh (by omega)]at hs;simp at hs
   rw[RN,hz];rfl
 ·have kO:l.length<=j:=by have:=aI hc;omega
  rw[RN,cX kO];rfl
def uC:List (aB):=[[45,62],[60,61],[62,61],[61,61],[33,61],[38,38],[124,124]]
theorem yR {c d:UInt8} {r:aB}:oJ (c::d::r)=uC.contains [c,d]:=by
 rw[bq];simp[oJ,uC];constructor
 ·rintro((⟨rfl,h⟩ | ⟨rfl,h⟩) | ⟨rfl,rfl⟩)
  ·rcases h with rfl | rfl | rfl | rfl<;>simp
  ·rcases h with rfl | rfl<;>simp
  ·simp
 ·rintro(⟨rfl,rfl⟩ | ⟨rfl,rfl⟩ | ⟨rfl,rfl⟩ | ⟨rfl,rfl⟩ | ⟨rfl,rfl⟩ | ⟨rfl,rfl⟩ | ⟨rfl,rfl⟩)<;>simp
theorem Ka {m:aB} (h:oJ m=true):gH m=2:=by unfold gH;rw[if_pos h]
theorem Kb {c:UInt8} {r:aB} (h:oJ (c::r)=false):gH (c::r)=if lZ.contains c then 1 else 0:=by
 unfold gH;rw[if_neg (by rw[h];decide)]
theorem Ru (w:av) (l:aB) (i:Nat) (hi:i<l.length) (hl:l.length<4611686018427387903):
  az aq 235 #[ab (T l),O U (i:Int)] w fun e w'=>e=ak (O U (gH (l.drop i):Int))/\ay [] w w':=by
 refine ret (ahg _ _ _ _ ?_);unfold abn;rw[bI];obtain⟨s,w0,k1,k2,bT⟩:=iB w uC (n:=7) (parts:=#[(0,ab (ao #[45,62])),(1,ab (ao #[60,61])),(2,ab (ao #[62,61])),(3,ab (ao #[61,61])),(4,ab (ao #[33,61])),(5,ab (ao #[38,38])),(6,ab (ao #[124,124]))]) rfl rfl (by decide) (by decide);have hs:=qc k2;have hx:l[i]? =some l[i]:=bA hi;generalize l[i]=c at hx;have hd:=lf hx;have uR:(l.drop i).length=l.length-i:=bN;have dN:=hs.len;rw[fy (x:=(i:Int)+2) (by omega) (by omega)];refine⟨s,w0,k1,fun nv k w'=>∃n:Nat,n<=uC.length/\k=(n:Int)/\nv=uC.length-n/\(2<=(l.drop i).length->∀x,x∈uC.take n->x≠(l.drop i).take 2)/\ay [] w0 w',uC.length,⟨0,aQ _,rfl,rfl,by simp,Only.refl _ _⟩,?_⟩;rintro nv _ w1 ⟨n,hn,rfl,rfl,hp,bZ⟩;refine⟨fun hc=>?_,fun hc=>?_⟩
 ·have bJ:(n:Int)<s.n:=aG hc;obtain⟨ad,x,cs,g1,g2,g3,g4,g5,g6⟩:=(SliceF.only cG (by decide) hs bZ (by simp)).get (aO n) bJ;rw[aM]at g2;unfold iW at g6;subst g6;have hn7:uC.length=7:=rfl;refine⟨i,i+2,fun h=>⟨rfl,by omega,by omega,by have:=aG h;omega⟩,ad,fun _=>g1,_,fun _=>g5,?_⟩;have ex:(T l).extract i (i+2)=T ((l.drop i).take 2):=by rw[qA,show i+2-i=2 by omega]
  rw[ex,gV];refine⟨fun h w2 cp=>⟨?_,bT.bP (bZ.bP cp)⟩,fun h w3 cO=>⟨uC.length-(n+1),by omega,n+1,by omega,by rw[fy (by omega) (by omega)];rfl,rfl,fun h2 y hy=>?_,bZ.bP cO⟩⟩
  ·rw[aE]at h;have h1:=aG h.1;have h2:=aG h.2;have Kr:oJ (l.drop i)=true:=by
    cases hr:l.drop (i+1)with
    | nil=>
     have:=bp List.length hr;rw[bN,aN]at this;omega
    | cons d r=>
     rw[hd,hr]at h2⊢;rw[yR,dK];have:(c::d::r).take 2=[c,d]:=rfl;rw[<-this,h2];exact be g2
   rw[Ka Kr];rfl
  ·rw[bn,g2]at hy;simp only[eG,cq,aF]at hy;rcases hy with hy | rfl
   ·exact hp h2 y hy
   ·rw[bh (by omega),bK]at h;exact fun e=>aI h e.symm
 ·have kO:¬((n:Int)<s.n):=aI hc;rw[bB (by omega)]at hp;have Kr:oJ (l.drop i)=false:=by
   cases hr:l.drop (i+1)with
   | nil=>rw[hd,hr];rfl
   | cons d r=>
    rw[hd,hr,yR,fH];intro h;rw[dK]at h;have h2:2<=(l.drop i).length:=by rw[hd,hr];simp
    exact hp h2 _ h (by rw[hd,hr];rfl)
  have Wc:gH (l.drop i)=if lZ.contains c then 1 else 0:=by
   rw[hd]at Kr⊢;exact Kb Kr
  rw[Wc];refine⟨fun nv k w'=>∃n:Nat,n<=17/\k=(n:Int)/\nv=17-n/\(∀x,x∈lZ.take n->x≠c)/\ay [] w w',17,⟨0,aQ _,rfl,rfl,by simp,bT.bP bZ⟩,?_⟩;rintro nv _ w4 ⟨n,hn,rfl,rfl,hp,dm⟩;refine⟨fun hc=>?_,fun hc=>⟨?_,dm⟩⟩
  ·have bJ:n<17:=by have:=aG hc;omega
   obtain⟨y,hy⟩:∃y,lZ[n]? =some y:=⟨_,bA bJ⟩
   refine⟨c,⟨aO i,by rw[ke,aM,hx]⟩,y,⟨aO n,by
    have e:(ao #[123,125,40,41,91,93,59,44,61,43,45,42,47,37,60,62,33])=T lZ:=rfl;rw[e,ke,aM,hy]⟩,?_⟩
   rw[Hy];refine⟨fun h w5 dS=>⟨?_,dm.bP dS⟩,fun h w6 dG=>⟨17-(n+1),by omega,n+1,by omega,by rw[fy (by omega) (by omega)];rfl,rfl,fun q hq=>?_,dm.bP dG⟩⟩
   ·have h:c=y:=by simpa using h
    rw[if_pos]
    ·rfl
    ·rw[dK,h];exact be hy
   ·rw[bn,hy]at hq;simp only[eG,cq,aF]at hq;rcases hq with hq | rfl
    ·exact hp q hq
    ·rintro rfl;simp at h
  ·have kO:n=17:=by have:=aI hc;omega
   subst kO;rw[if_neg]
   ·rfl
   ·intro h;rw[dK]at h;exact hp c (by rw[bB (by decide)];exact h) rfl
theorem Kc {ds:aB} {x:UInt8}:js 0 (ds++[x])=js 0 ds*10+(x.toNat-48):=by
 unfold js;rw[tN];rfl
theorem Ke {ds:aB} {n:Nat}:js 0 (ds.take n)<=js 0 ds:=by
 have:js 0 ds=js (js 0 (ds.take n)) (ds.drop n):=by
  unfold js;rw[<-tN,eE]
 rw[this];exact Bx _ _
theorem ND (w:av) (l:aB) (hl:l.length<4611686018427387903):
  az aq 234 #[ab (T l)] w fun e w'=>e=ak (ai #[O U (eu l).1,O U (eu l).2.1,O U (eu l).2.2])/\ay [] w w':=by
 refine ret (ahf _ _ _ ?_);unfold abm;rw[bI];refine⟨fun h0=>⟨?_,Only.refl _ _⟩,fun h0=>?_⟩
 ·have h0:l=[]:=bc (by have:(l.length:Int)=0:=(by simpa using h0);omega);rw[eu,if_pos h0];rfl
 have h0:¬l=[]:=by
  rintro rfl;simp at h0
 refine⟨fun nv j w'=>∃n:Nat,n<=l.length/\j=(n:Int)/\nv=l.length-n/\(∀x,x∈l.take n->cw x=true)/\w'=w,l.length,⟨0,aQ _,rfl,rfl,by simp,rfl⟩,?_⟩;rintro nv _ u ⟨n,hn,rfl,rfl,hp,hu⟩;subst hu;obtain⟨z,hz⟩:∃z:UInt8,n<l.length->l[n]? =some z:=by
  by_cases h:n<l.length
  ·exact⟨l[n],fun _=>bA h⟩
  ·exact⟨0,fun h'=>absurd h' h⟩
 have hg:n<l.length->0<=(n:Int)/\(T l)[Int.toNat (n:Int)]? =some z:=fun h=>⟨aO n,by rw[ke,aM];exact hz h⟩
 refine⟨z,fun h=>hg (by have:=aG h;omega),z,fun h=>hg (by
  rw[aE]at h;have:=aG h.1;omega),?_⟩
 have ed:((((decide ((n:Int)<(l.length:Int)))&&(decide ((z.toNat:Int)>=48)))&&(decide ((z.toNat:Int)<=57))))=(decide (n<l.length)&&cw z):=by
  rw[bq];simp only[cw,aE,bd];omega
 rw[ed];refine⟨fun h=>?_,fun h=>?_⟩
 ·rw[aE]at h;have h1:n<l.length:=aG h.1;refine⟨l.length-(n+1),by omega,n+1,by omega,by rw[fy (by omega) (by omega)];rfl,rfl,fun y hy=>?_,rfl⟩;rw[bn,hz h1]at hy;simp only[eG,cq,aF]at hy;rcases hy with hy | rfl
  ·exact hp y hy
  ·exact h.2
 have Kp:l.takeWhile cw=l.take n:=jX hn hp fun y hy=>by
  have h1:=(aP.1 hy).1;rw[hz h1]at hy;injection hy with hy;subst hy;rw[bh h1,bK]at h;exact h
 have uR:(l.takeWhile cw).length=n:=by rw[Kp,cM];omega
 obtain⟨x,r,rfl⟩:∃x r,l=x::r:=by
  cases l with
  | nil=>exact absurd rfl h0
  | cons x r=>exact⟨x,r,rfl⟩
 refine⟨x,fun _ _=>⟨ig _,by rw[ke];rfl⟩,?_⟩;have e48:((x.toNat:Int)==48)=(x==48):=Hy (d:=48);have eb:(((n:Int)==0)||((decide ((n:Int)>1))&&((x.toNat:Int)==48)))=decide ((x::r).takeWhile cw=[]∨(1<((x::r).takeWhile cw).length/\(x::r).head? =some 48)):=by
  rw[e48,uR,bq];simp only[aE,bS,bd,cZ,fN,aJ];have:(x::r).takeWhile cw=[]↔n=0:=by
   constructor
   ·intro e;rw[e]at uR;exact uR.symm
   ·intro e;rw[e]at uR;exact bc uR
  rw[this];by_cases hx:x=48
  ·simp only[hx,and_true];omega
  ·simp only[hx,and_false,bM];omega
 rw[eb];refine⟨fun hb=>⟨?_,Only.refl _ _⟩,fun hb=>?_⟩
 ·rw[eu,if_neg h0,if_pos (aG hb)];rfl
 have hb:=aI hb;refine⟨fun nv v j w'=>∃q:Nat,q<=n/\j=(q:Int)/\nv=n-q/\v=(js 0 ((x::r).take q):Int)/\js 0 ((x::r).take q)<9223372036854775808/\ay [] u w',n,⟨0,aQ _,rfl,rfl,rfl,by rw[dr];decide,Only.refl _ _⟩,?_⟩;rintro nv _ _ w1 ⟨q,hq,rfl,rfl,rfl,hv,bZ⟩;refine⟨fun hc=>?_,fun hc=>⟨?_,bZ⟩⟩
 ·have bJ:q<n:=by have:=aG hc;omega
  have hy:(x::r)[q]? =some ((x::r)[q]'(by omega)):=bA (by omega);generalize (x::r)[q]'(by omega)=y at hy;have hyd:cw y=true:=hp y (by
   rw[List.mem_iff_getElem?];exact⟨q,by rw[sN,if_pos bJ,hy]⟩)
  simp only[cw,aE,bd]at hyd;have e1:ar .u8 ((y.toNat:Int)-48)=(y.toNat:Int)-48:=by
   have h:∀n:Fin 256,48<=n.val->ar .u8 ((n.val:Int)-48)=(n.val:Int)-48:=by decide+kernel
   exact h ⟨y.toNat,y.toNat_lt⟩ hyd.1
  have et:(9223372036854775807-((y.toNat:Int)-48)).tdiv 10=(9223372036854775807-((y.toNat:Int)-48))/10:=Int.tdiv_eq_ediv_of_nonneg (by omega);have es:(x::r).take (q+1)=(x::r).take q++[y]:=by rw[bn,hy];rfl
  have ev:js 0 ((x::r).take (q+1))=js 0 ((x::r).take q)*10+(y.toNat-48):=by rw[es,Kc]
  refine⟨y,⟨aO q,by rw[ke,aM,hy]⟩,?_⟩;rw[e1,fy (x:=(y.toNat:Int)-48) (by omega) (by omega),fy (x:=9223372036854775807-((y.toNat:Int)-48)) (by omega) (by omega),et,fy (x:=(9223372036854775807-((y.toNat:Int)-48))/10) (by omega) (by omega)];refine⟨fun XK=>⟨?_,bZ⟩,fun XK=>⟨n-(q+1),by omega,q+1,by omega,by rw[fy (by omega) (by omega)];rfl,rfl,?_,?_,bZ⟩⟩
  ·have XK:=aG XK;have h1:js 0 ((x::r).take (q+1))<=js 0 ((x::r).take n):=by
    have:=Ke (ds:=(x::r).take n) (n:=q+1);rw[List.take_take,Nat.min_eq_left (by omega)]at this;exact this
   rw[eu,if_neg h0,if_neg hb,if_neg (by rw[Kp];omega)];rfl
  ·have XK:=aI XK;rw[ev,fy (x:=10*(js 0 ((x::r).take q):Int)) (by omega) (by omega),fy (by omega) (by omega)];omega
  ·have XK:=aI XK;rw[ev];omega
 ·have hqn:q=n:=by have:=aI hc;omega
  subst hqn;rw[eu,if_neg h0,if_neg hb,if_pos (by rw[Kp];exact hv),uR,Kp]
def V0 (i:Nat) (r:Except Int Tq) (v:aw):Prop:=match r with
 | .error e=>v=ai #[ah #[O U 0,ab (T []),O U 0,O U 0],O U 0,O U e]
 | .ok q=>v=ai #[ah #[O U q.1,ab (T q.2.1),O U q.2.2.1,O U (i:Int)],O U (q.2.2.2:Int),O U 0]
theorem NE (w:av) (l:aB) (i:Nat) (hi:i<l.length) (hl:l.length<=16384):
  az aq 185 #[ab (T l),O U (i:Int)] w fun e w'=>∃v,e=ak v/\V0 i (jZ (l.drop i)) v/\ay [] w w':=by
 refine ahe (T l) i (fun v w'=>V0 i (jZ (l.drop i)) v/\ay [] w w') w ?_;unfold abl;have hx:l[i]? =some l[i]:=bA hi;generalize l[i]=x at hx;have uR:(l.drop i).length=l.length-i:=bN;have ht:jZ (l.drop i)=if dT x then kl (l.drop i)else if cw x then pI (l.drop i)else lQ (l.drop i):=by
  rw[lf hx];rfl
 rw[ht];have hg:0<=(i:Int)/\(T l)[Int.toNat (i:Int)]? =some x:=⟨aO i,by rw[ke,aM,hx]⟩
 refine⟨x,hg,fun k1 w0 jO jb bT=>(vD w0 x).mono ?_⟩;rintro _ w1 ⟨rfl,bZ⟩;have new:∀{u u':av},ay [] w u->ay [k1] u u'->ay [] w u':=fun h k=>h.trans k fun y hy=>.inr (by simp only[aF]at hy;omega);have sm:∀{u u':av},ay [] w0 u->ay [] u u'->aR [k1] u u':=fun h0 h=>h.same (by have:=h0.size;simp;omega);refine⟨_,rfl,sm (Only.refl _ _) bZ,x,hg,(Ez w1 x).mono ?_⟩;rintro _ w2 ⟨rfl,cp⟩;have XM:=bZ.bP cp;refine⟨_,rfl,sm bZ cp,fun hb=>?_,fun hb=>⟨fun hd=>⟨i,⟨rfl,by rw[bI];omega⟩,?_⟩,fun hd=>?_⟩⟩
 ·rw[if_pos hb];refine(Gn w2 l i (by omega) (by omega)).mono ?_;rintro _ w3 ⟨rfl,cO⟩;have Yi:((l.drop i).takeWhile dC).length<=l.length-i:=by
   have:=oK (p:=dC) (l:=l.drop i);rwa[uR]at this
  have ex:(T l).extract i (i+((l.drop i).takeWhile dC).length)=T ((l.drop i).takeWhile dC):=by
   rw[qA,dw,<-ld]
  refine⟨_,rfl,sm XM cO,i,i+((l.drop i).takeWhile dC).length,⟨rfl,by rw[fy (by omega) (by omega)];omega,by omega,by rw[bI];omega⟩,fun k5 w4 ol GX dm=>?_⟩;have h04:=XM.bP (cO.bP dm);rw[ex];refine(IG w4 _).mono ?_;rintro _ w5 ⟨rfl,dS⟩;have h05:=h04.bP dS;have z4:=h04.size;unfold kl;generalize hm:(l.drop i).takeWhile dC=m at*
  refine⟨_,rfl,dS.same (by simp;omega),fun k s n a w'=>k=(if gQ.contains m then 2 else 1:Int)/\s=T m/\n=0/\a=(i:Int)/\ay [] w w',?_,fun hc w9 fK=>⟨by rw[if_pos hc],rfl,rfl,rfl,(bT.bP h05).trans fK fun y hy=>.inr (by simp only[aF]at hy;have:=bT.size;have:=cO.size;have:=XM.size;omega)⟩,fun hc=>⟨by rw[hc];rfl,rfl,rfl,rfl,bT.bP h05⟩⟩;rintro _ _ _ _ w6 ⟨rfl,rfl,rfl,rfl,dG⟩;refine⟨fun hc w7 fz=>⟨?_,new dG fz⟩,fun hc w8 fh=>⟨?_,new dG fh⟩⟩
  ·rw[if_pos (by have:=aG hc;omega)];rfl
  ·rw[if_neg (by have:=aI hc;omega)];rfl
 ·rw[if_neg (by rw[hb];decide),if_pos hd];have ex:(T l).extract i (T l).size=T (l.drop i):=by rw[qA,bI,bB (by omega)]
  rw[ex];refine(ND w2 (l.drop i) (by omega)).mono ?_;rintro _ cK ⟨rfl,dy⟩;have tK:=XM.bP dy;unfold pI;refine⟨_,_,_,rfl,sm XM dy,fun he cY dP=>⟨?_,new (bT.bP tK) dP⟩,fun he=>(Gn cK l i (by omega) (by omega)).mono ?_⟩
  ·rw[if_pos (by simpa using he)];rfl
  rintro _ dz ⟨rfl,ey⟩;have Jb:=tK.bP ey;rw[if_neg (by simpa using he)];refine⟨_,rfl,sm tK ey,fun hc dF dq=>⟨?_,new (bT.bP Jb) dq⟩,fun hc eI eh=>⟨?_,new (bT.bP Jb) eh⟩⟩
  ·rw[if_pos (by have:=aG hc;omega)];rfl
  ·rw[if_neg (by have:=aI hc;omega)];rfl
 ·rw[if_neg (by rw[hb];decide),if_neg (by rw[hd];decide)];refine(Ru w2 l i hi (by omega)).mono ?_;rintro _ fQ ⟨rfl,jN⟩;have CA:=XM.bP jN;have hn:=ud (m:=l.drop i);have ex:(T l).extract i (i+gH (l.drop i))=T ((l.drop i).take (gH (l.drop i))):=by rw[qA,dw]
  unfold lQ;refine⟨_,rfl,sm XM jN,fun hz gP jD=>⟨?_,new (bT.bP CA) jD⟩,fun hz=>⟨i,i+gH (l.drop i),⟨rfl,by rw[fy (by omega) (by omega)];omega,by omega,by rw[bI];omega⟩,fun fY iP=>⟨?_,new (bT.bP CA) iP⟩⟩⟩
  ·rw[if_pos (by have:(gH (l.drop i):Int)=0:=(by simpa using hz);omega)];rfl
  ·rw[if_neg (by rintro e;rw[e]at hz;simp at hz),ex];rfl
theorem Kf (w:av) (l:aB):
  az aq 119 #[ab (T l)] w fun e w'=>∃rs:Sl,e=ak (ai #[rs.v,ah #[O U (ca l).2.1,O U (ca l).2.2]])/\jY w.heap.size w' rs (ca l).1/\ay [] w w':=by
 refine(ahc (T l) (fun v w'=>∃rs:Sl,v=(ai #[rs.v,ah #[O U (ca l).2.1,O U (ca l).2.2]])/\jY w.heap.size w' rs (ca l).1/\ay [] w w') w ?_).mono (by
  rintro e w' ⟨v,rfl,rs,rfl,h⟩;exact⟨rs,rfl,h⟩)
 unfold abj;rw[bI];refine⟨fun hc k0 w0 _ _ hO=>⟨Sl.nil,?_,?_,hO⟩,fun hc k1 w1 jO jb bZ=>?_⟩
 ·rw[ca,if_pos (by have:=aG hc;omega)]
 ·rw[ca,if_pos (by have:=aG hc;omega)];exact Own.nil _ _ _ _ _ _
 have CR:l.length<=16384:=by have:=aI hc;omega
 have Wy:ca l=match iX l 0 with
  | .error x=>([],x.1,(x.2:Nat))
  | .ok r=>(r,0,0):=by
   rw[ca,if_neg (by omega)]<;>rfl
 refine(Ax w1 l 0 (aQ _) (by omega)).mono ?_;rintro _ w2 ⟨rfl,cp⟩;have z1:=bZ.size;refine⟨_,rfl,cp.same (by simp;omega),fun nv s i e1 e2 w'=>e1=0/\e2=0/\∃(j:Nat) (acc:List Tk),i=(j:Int)/\j<=l.length/\acc.length<=j/\iL false (l.drop j)=0/\iX l 0=iC acc (iX l j)/\nv=l.length-j/\jY w1.heap.size w' s acc/\ay [] w1 w',l.length-(0+iL false (l.drop 0)),?_,?_⟩
 ·refine⟨rfl,rfl,_,[],rfl,DI (aQ _),aQ _,?_,?_,rfl,Own.nil _ _ _ _ _ _,cp⟩
  ·rw[<-iA];exact nH false (l.drop 0)
  ·rw[<-lg (aQ _)];cases iX l 0<;>rfl
 rintro nv s _ _ _ w3 ⟨rfl,rfl,j,acc,rfl,hj,hal,Yj,od,rfl,ho3,cO⟩;have z3:=cO.size;have kb:=iR hj;rw[Yj,gr]at kb;have app:∀{u:av} {r:Sl} (t:Tk),ay [] w1 u->jY w1.heap.size u r acc->
   ∃y w4,(au 124 1 #[(0,t.v)]).run aq u=.ok (Sl.v y) w4/\ay [] u w4/\∃s' w5,(Builtin.append_ #[124,124] 124 #[Sl.v r,Sl.v y]).run aq w4=.ok (Sl.v s') w5/\jY w1.heap.size w5 s' (acc++[t])/\OnlyP (fun k=>w1.heap.size<=k/\r.a=some ⟨k,0,none⟩) w4 w5/\ay [] w1 w5:=by
  intro u r t hu hr;obtain⟨y,w4,c1,c2,s',w5,c3,c4,c5⟩:=Ma t hr hu.size (aX (dW 40 (show acc.length+1<=16385 by omega)) (by decide));exact⟨y,w4,c1,c2,s',w5,c3,c4,c5,((hu.bP c2).p0 (F:=fun k=>w1.heap.size<=k) |>.trans c5 fun k hk=>.inl hk.1).only fun k hk=>hk⟩
 refine⟨fun hc=>?_,fun hc=>?_⟩
 ·have bJ:j<l.length:=by have:=aG hc;omega
  rw[if_neg (by omega)]at kb;refine(NE w3 l j bJ CR).mono ?_;rintro _ w4 ⟨v,rfl,hv,dm⟩;have h14:=cO.bP dm;have sm1:aR [k1] w3 w4:=dm.same (by simp;omega);have z4:=dm.size;unfold V0 at hv;cases hq:jZ (l.drop j)with
  | error e=>
   rw[hq]at hv kb;dsimp only at hv;subst hv;refine⟨0,T [],0,0,0,e,rfl,sm1,fun _ k4 w5 sM E3 dS=>⟨Sl.nil,?_,?_,?_⟩,fun he=>absurd (Bz hq) (by simpa using he)⟩
   ·rw[Wy,od,kb];rfl
   ·rw[Wy,od,kb];exact Own.nil _ _ _ _ _ _
   ·exact(bZ.bP h14).trans dS fun y hy=>.inr (by simp only[aF]at hy;omega)
  | ok q=>
   rw[hq]at hv kb;dsimp only at hv;subst hv;have hq1:=rN hq;have Wk:=xZ hq;rw[bN]at Wk;refine⟨q.1,T q.2.1,q.2.2.1,(j:Int),(q.2.2.2:Int),0,rfl,sm1,fun he=>(by simp at he),fun _ k5 w6 ol GX dG=>?_⟩;have h16:=h14.bP dG;have z6:=dG.size;obtain⟨y,w7,c1,c2,s',w8,c3,c4,c5,c6⟩:=app (u:=w6) ⟨q.1,q.2.1,q.2.2.1,(j:Nat)⟩ h16 (ho3.only (dm.bP dG));have z7:=c2.size;have z8:=c5.size;have hk:∀k,s.a=some ⟨k,0,none⟩->w1.heap.size<=k/\k<w3.heap.size:=fun k hk=>ho3.blk hk;refine⟨y,w7,c1,c2.same (by simp;omega),s',w8,c3,c5.same (by
    intro x hx;simp only[aL,aU,bM]at hx;refine⟨by omega,fun e=>?_⟩;have:=hk x e.2;omega),?_⟩
   rw[fy (x:=(j:Int)+(q.2.2.2:Int)) (by omega) (by omega),show(j:Int)+(q.2.2.2:Int)=((j+q.2.2.2:Nat):Int) by omega];refine(Ax w8 l (j+q.2.2.2) (by omega) (by omega)).mono ?_;rintro _ w9 ⟨rfl,fK⟩;have KX:=DI (l:=l) (i:=j+q.2.2.2) (by omega);refine⟨_,rfl,fK.same (by simp;omega),l.length-(j+q.2.2.2+iL false (l.drop (j+q.2.2.2))),by omega,rfl,rfl,_,_,rfl,KX,?_,?_,?_,rfl,c4.only fK,c6.bP fK⟩
   ·rw[aD,aW];omega
   ·rw[<-iA];exact nH false _
   ·rw[od,kb,<-lg (by omega),<-Hz];dsimp only;cases iX l (j+q.2.2.2)<;>rfl
 ·have rB:l.length<=j:=by have:=aI hc;omega
  rw[if_pos rB]at kb;have xq:j=l.length:=by omega
  obtain⟨y,cK,c1,c2,s',cY,c3,c4,c5,c6⟩:=app (u:=w3) ⟨5,[],0,(j:Nat)⟩ cO ho3;have GI:=c2.size;have hk:∀k,s.a=some ⟨k,0,none⟩->w1.heap.size<=k/\k<w3.heap.size:=fun k hk=>ho3.blk hk;have htt:ca l=(acc++[⟨5,[],0,(j:Nat)⟩],0,0):=by
   rw[Wy,od,kb];rfl
  have e:(l.length:Int)=(j:Int):=by omega
  rw[e];refine⟨y,cK,c1,c2.same (by simp;omega),s',cY,c3,c5.same (by
   intro x hx;simp only[aF]at hx;refine⟨by omega,fun e=>?_⟩;have:=hk x e.2;omega),fun dz ey=>⟨s',by rw[htt],?_,?_⟩⟩
  ·rw[htt];have:jY w1.heap.size dz s' _:=c4.keep fun k hk bJ=>ey.block k bJ (by simp only[aF];have:=hk.1;omega);exact Own.low this z1
  ·exact(bZ.bP c6).trans ey fun y hy=>.inr (by simp only[aF]at hy;omega)
theorem nS (w:av) (l:aB) (hl:l.length<4611686018427387903):
  az aq 94 #[ab (T l)] w fun e w'=>e=ak (aj (cF l))/\ay [] w w':=by
 refine ret (agU _ _ _ ?_);unfold aaZ;have e0:(ao #[])=T []:=rfl;rw[bI,e0,gV];refine⟨fun hc=>⟨?_,Only.refl _ _⟩,fun hc=>?_⟩
 ·unfold cF;rw[aZ]
  ·rfl
  ·rintro⟨h1,h2⟩;rw[aZ h1,aZ (by omega)]at hc;cases hc
 simp only[dX,ft]at hc;obtain⟨h1,h2⟩:=hc;have h2:l.length<=24:=by omega
 obtain⟨c,r,rfl⟩:∃c r,l=c::r:=by
  cases l with
  | nil=>exact absurd rfl h1
  | cons c r=>exact⟨c,r,rfl⟩
 have hn:cF (c::r)=(dT c&&decide ((c::r).takeWhile dC=c::r)&&!gQ.contains (c::r)):=by
  unfold cF;rw[bh ⟨h1,h2⟩,bK]
 refine⟨c,⟨ig _,by rw[ke];rfl⟩,(vD w c).mono ?_⟩;rintro _ w0 ⟨rfl,bT⟩;refine⟨_,rfl,(IG w0 _).mono ?_⟩;rintro _ w1 ⟨rfl,bZ⟩;refine⟨_,rfl,fun b w'=>b=cF (c::r)/\ay [] w w',fun b w' h=>⟨by rw[h.1],h.2⟩,fun hb=>?_,fun hb=>⟨?_,bT.bP bZ⟩⟩
 ·refine(Gn w1 (c::r) 0 (aQ _) hl).mono ?_;rintro _ w3 ⟨rfl,cO⟩;rw[fg];refine⟨_,rfl,?_,bT.bP (bZ.bP cO)⟩;rw[hn];simp only[aE,bX]at hb;rw[hb.1,hb.2,bK,zK,cA,bq];simp only[cZ,bd];constructor
  ·intro h;have h:((c::r).takeWhile dC).length=(c::r).length:=by omega
   have h2:=ld (p:=dC) (l:=c::r);rw[h,bB (aK _)]at h2;exact h2
  ·intro h;rw[h]
 ·rw[hn];cases h1:dT c<;>cases h2:gQ.contains (c::r)<;>rw[h1,h2]at hb<;>simp at hb⊢
theorem Rv (w:av) (l:aB):az aq 233 #[ab (T l)] w fun e w'=>
  ∃cs,e=ak (ai #[ah cs.toArray,ah #[O U (eV l).2.1,O U (eV l).2.2]])/\RX w' w.heap.size w'.heap.size (eV l).1 cs/\ay [] w w':=by
 refine(ahb (T l) (fun v w'=>∃cs,v=(ai #[ah cs.toArray,ah #[O U (eV l).2.1,O U (eV l).2.2]])/\RX w' w.heap.size w'.heap.size (eV l).1 cs/\ay [] w w') w ?_).mono (by
  rintro e w' ⟨v,rfl,cs,rfl,h⟩;exact⟨cs,rfl,h⟩)
 unfold abi;intro k0 k1 w0 gN dJ jO jb bT;have z0:=bT.size;have own:∀{u u':av},ay [] w u->ay [k1,k0] u u'->ay [] w u':=fun h1 h2=>h1.trans h2 fun x hx=>.inr (by simp only[aL,aU,bM]at hx;omega);refine(Kf w0 l).mono ?_;rintro _ w1 ⟨l0,rfl,hT,bZ⟩;have z1:=bZ.size;have fb:=bT.bP bZ;generalize od:ca l=tm at*
 obtain⟨ts,c,p⟩:=tm;dsimp only at hT⊢;have I7:eV l=if c≠0 then(tG,c,p)else if(bH ts 0).2.2.1≠0 then(tG,(bH ts 0).2.2.1,(bH ts 0).2.2.2)else if(tk ts (bH ts 0).2.1.toNat).k≠5 then(tG,4,(tk ts (bH ts 0).2.1.toNat).a)else((bH ts 0).1,0,(bH ts 0).2.2.2):=by
  unfold eV;rw[od]
 refine⟨l0,_,_,rfl,bZ.same (by simp;omega),fun hc k2 w2 nW nD cp n1 n2 n3=>⟨fun k=>k=k2,rfl,fun e=>n2 e,fun e=>n3 e,fun w3 cO=>?_⟩,fun hc k3 w4 I5 yX dm=>?_⟩
 ·have hc:c≠0:=by simpa using hc
  rw[I7,if_pos hc];exact⟨_,rfl,QM _ _ _,own (fb.bP cp) cO⟩
 ·have hc:c=0:=by simpa using hc
  rw[if_neg (by simp[hc])]at I7;have z4:=dm.size;refine(NA (hT.only dm).sl 0 ⟨by decide,by decide⟩).mono ?_;rintro _ w5 ⟨cs,rfl,hX,hj,dS⟩;have z5:=dS.size;have hp0:(bH ts 0).2.2.1=0->(bH ts 0).2.2.2=0:=by
   unfold bH;split
   ·cases hp:nZ ts (0:Int).toNat with
    | error e=>
     obtain⟨c,p⟩:=e;intro h;exact absurd h (lh _ _ _ _ hp)
    | ok q=>intro _;rfl
   ·intro h;exact absurd h (show ¬(1:Int)=0 by decide)
  generalize RQ:bH ts 0=pa at*
  obtain⟨x,j,c',p'⟩:=pa;dsimp only at hX hj I7 hp0⊢;obtain⟨xl,rfl,_⟩:=hX.cells;have yZ:ay [] w w5:=(fb.bP dm).bP dS;have hF5:∀{u:av},ay [k3] w5 u->SliceF zW 4 u (fun k=>w0.heap.size<=k/\l0.a=some ⟨k,0,none⟩) l0 ts:=fun hO=>SliceF.only fT (by decide) (hT.only (dm.bP dS)).sl hO fun k hk bJ hm=>by
   have:=hT.blk hk.2;simp only[aF]at hm;dsimp only at this;omega
  refine⟨_,_,_,_,_,_,_,_,_,rfl,dS.same (by simp;omega),fun xn k4 w6 sM E3 dG n1 n2 n3 n4 n5 n6=>⟨fun k=>k=k3,rfl,fun e=>n2 e,fun e=>n4 e,fun w7 fz=>?_⟩,fun xn=>?_⟩
  ·have xn:c'≠0:=by simpa using xn
   rw[I7,if_pos xn];exact⟨_,rfl,QM _ _ _,own (yZ.new dG (by omega)) fz⟩
  ·have xn:c'=0:=by simpa using xn
   rw[if_neg (by simp[xn])]at I7;obtain⟨KV,Fe⟩:=hj xn;obtain⟨n,rfl⟩:∃n:Nat,j=(n:Int):=⟨j.toNat,by omega⟩
   have hl:=(hF5 (Only.refl _ _)).len;obtain⟨ad,t,cs,g1,g2,g3,g4,g5,g6⟩:=(hF5 (Only.refl _ _)).get KV (by omega);rw[aM]at I7;refine⟨ad,g1,fun k5 w8 ol GX fh=>?_⟩;obtain⟨Gz,t',yV,e1,e2,e3,e4,e5,e6⟩:=(hF5 fh).get KV (by omega);have akI:=ck.Ci e1 g1;subst akI;rw[aM,x9 (by omega)]at e2;injection e2 with e2;subst e2;unfold zW at e6;subst e6;have z8:=fh.size;refine⟨_,e5.dI 0 _ rfl,fun hk w9 fK n1 n2 n3 n4 n5 n6=>⟨fun k=>k=Gz.block,Gz,g1,?_,_,(e5.keep (fK.block _ e5.lt (by simp))).dI 3 _ rfl,?_,?_,fun cK dy=>?_⟩,fun hk cY dP=>?_⟩
   ·exact mM Gz 3
   ·intro e;have:=e3.1;rw[<-e]at this;omega
   ·intro e;have:=e3.1;rw[<-e]at this;omega
   ·have hk:(tk ts n).k≠5:=by simpa using hk
    rw[I7,if_pos hk];exact⟨_,rfl,QM _ _ _,own ((yZ.new fh (by omega)).bP fK) dy⟩
   ·have hk:(tk ts n).k=5:=by simpa using hk
    rw[I7,if_neg (by simp[hk]),hp0 xn];have E1:=dP.size;exact⟨_,rfl,((hX.only fh fun q hq=>.inl (by simp only[aF]at hq;omega)).only dP fun q hq=>.inl (by simp only[aL,aU,bM]at hq;omega)).wide (by omega) (by omega),own (yZ.new fh (by omega)) dP⟩
theorem V1 {k:Nat} {op:Int} (hk:k<6) (h:op∈(dM[k]?).getD []):dY op=(k:Int):=by
 match k,hk with
 | 0,_=>simp[dM]at h;subst h;rfl
 | 1,_=>simp[dM]at h;subst h;rfl
 | 2,_=>simp[dM]at h;rcases h with rfl | rfl<;>rfl
 | 3,_=>simp[dM]at h;rcases h with rfl | rfl | rfl | rfl<;>rfl
 | 4,_=>simp[dM]at h;rcases h with rfl | rfl<;>rfl
 | 5,_=>simp[dM]at h;rcases h with rfl | rfl | rfl<;>rfl
theorem Rw {op:Int} (h:∀k,k<6->op∉(dM[k]?).getD []):dY op=6:=by
 have h0:=h 0 (by decide);have h1:=h 1 (by decide);have h2:=h 2 (by decide);have h3:=h 3 (by decide);have h4:=h 4 (by decide);have h5:=h 5 (by decide);simp[dM]at h0 h1 h2 h3 h4 h5;unfold dY;rw[if_neg (by omega),if_neg (by omega),if_neg (by omega),if_neg (by omega),if_neg (by omega),if_neg (by omega)]
theorem uD {w:av} {F:Nat->Prop} {x:Ex} {cs:List aw} {d:Nat} (h:mA d w F x cs):az aq 272 #[ah cs.toArray] w fun e w'=>e=ak (O U (bD x))/\ay [] w w':=by
 obtain⟨sl,rfl⟩:=jt h;refine ret (ag4 _ _ _ _ _ _ _ _ ?_);unfold aa9;intro k0 w0 gN dJ bT;refine(Gl w0).mono ?_;rintro _ w1 ⟨l0,rfl,hN,bZ⟩;have m0:=hN.len;have m6:dM.length=6:=rfl;refine⟨l0,rfl,bZ.same (by simp;omega),fun nv i w'=>∃n:Nat,n<=6/\i=(n:Int)/\nv=6-n/\(∀k,k<n->x.op∉(dM[k]?).getD [])/\ay [] w1 w',6,⟨0,by decide,rfl,rfl,fun k hk=>absurd hk (Ph k),Only.refl _ _⟩,?_⟩;rintro nv _ w2 ⟨n,hn,rfl,rfl,X5,cp⟩;have iO:ay [] w w2:=(bT.bP bZ).bP cp;refine⟨fun hc=>?_,fun hc=>⟨?_,iO⟩⟩
 ·simp only[aE,bd,cZ]at hc;obtain⟨wL,ol⟩:=hc;have bJ:n<6:=by omega
  obtain⟨p0,x0,cs0,g1,g2,g3,g4,g5,s1,rfl,hS⟩:=hN.get (aO n) (by omega);rw[aM]at g2;have R7:(dM[n]?).getD []=x0:=by rw[g2];rfl
  have t1:=hS.len;have t2:=hS.cap;have t3:=hS.big;refine⟨fun nv i w'=>∃j:Nat,j<=x0.length/\i=(j:Int)/\nv=x0.length-j/\(∀q y,q<j->x0[q]? =some y->y≠x.op)/\ay [] w1 w',x0.length,⟨0,aQ _,rfl,rfl,fun q y hq=>absurd hq (Ph q),cp⟩,?_⟩;rintro nv _ w3 ⟨j,hj,rfl,rfl,gf,cO⟩;refine⟨p0,g1,s1,g5.keep (cO.block _ g5.lt (by simp)),fun Sb=>?_,fun kO=>?_⟩
  ·have Sb:(j:Int)<(s1.n:Int):=aG Sb;obtain⟨p3,m,cs3,r1,r2,r3,r4,r5,r6⟩:=(SliceF.only ky (by decide) hS cO (by simp)).get (aO j) Sb;unfold vB at r6;subst r6;rw[aM]at r2;refine⟨p0,g1,s1,g5.keep (cO.block _ g5.lt (by simp)),p3,r1,m,r5,fun he w4 dm=>⟨?_,((bT.bP bZ).bP cO).bP dm⟩,fun he w5 dS=>⟨x0.length-(j+1),by omega,j+1,by omega,by rw[fy (by omega) (by omega)];rfl,rfl,fun q y hq hy=>?_,cO.bP dS⟩⟩
   ·have he:m=x.op:=by simpa using he
    subst he;have:=V1 bJ (by rw[R7];exact be r2);rw[bD,if_pos ol,this]
   ·rcases jP q j with hqj | hqj
    ·exact gf q y hqj hy
    ·have:q=j:=by omega
     subst this;rw[r2]at hy;injection hy with hy;subst hy;simpa using he
  ·have kO:¬(j:Int)<(s1.n:Int):=aI kO;refine⟨6-(n+1),by omega,n+1,by omega,by rw[fy (by omega) (by omega)];rfl,rfl,fun k hk=>?_,cO⟩;rcases jP k n with P0 | P0
   ·exact X5 k P0
   ·have:k=n:=by omega
    subst this;rw[R7];intro hm;obtain⟨q,hq⟩:=jd hm;exact gf q _ (by have:=(aP.1 hq).1;omega) hq rfl
 ·rw[bD];by_cases ol:x.k=5
  ·rw[if_pos ol];have:n=6:=by
    rw[ol]at hc;simp at hc;omega
   subst this;rw[Rw X5]
  ·rw[if_neg ol]
theorem EA:∀(d:Nat) {w:av} {F:Nat->Prop} {x:Ex} {cs:List aw},(∀e,sT e x)->mA d w F x cs->az aq 231 #[ah cs.toArray] w fun e w'=>e=ak (aj (bW d x))/\ay [] w w'
 | 0,_,_,_,_,_,h=>h.elim
 | d+1,w,F,x,cs,hl,⟨sl,h1,h2⟩=>by
  subst h1;refine ret (ag3 _ _ _ _ _ _ _ _ ?_);unfold aa8;intro k0 w0 gN dJ bT;have hn:=h2.len;have mD:=h2.cap;have og:=h2.big;have hl0:x.s.length<4611686018427387903:=(hl 1).1;have hls:∀y,y∈x.cR->∀e,sT e y:=fun y hy e=>(hl (e+1)).2 y hy;have sI:∀{b:Bool},fF x=b->bW (d+1) x=(b&&im (bW d) x.cR):=fun e=>by rw[bW,e]
  refine⟨fun nv i w'=>∃n:Nat,n<=x.cR.length/\i=(n:Int)/\nv=x.cR.length-n/\im (bW d) x.cR=im (bW d) (x.cR.drop n)/\ay [] w w'/\w0.heap.size<=w'.heap.size,x.cR.length,⟨0,aQ _,rfl,rfl,rfl,bT,aK _⟩,?_⟩;rintro nv _ w1 ⟨n,XF,rfl,rfl,eU,bZ,z1⟩;refine⟨fun bJ=>?_,fun kO=>?_⟩
  ·have bJ:(n:Int)<(sl.n:Int):=aG bJ;obtain⟨p,y,ds,g1,g2,g3,g4,g5,g6⟩:=(SliceF.only (dD d) (by decide) h2 bZ (by simp)).get (aO n) bJ;rw[aM]at g2;obtain⟨sy,rfl⟩:=jt g6;refine⟨p,g1,_,_,_,_,_,_,g5,(EA d (hls y (be g2)) g6).mono ?_⟩;rintro _ w2 ⟨rfl,cp⟩;have z2:=cp.size;have kb:=Ag (f:=bW d) g2;refine⟨_,rfl,cp.same (by simp;omega),fun hb=>⟨?_,bZ.bP cp⟩,fun hb=>⟨x.cR.length-(n+1),by omega,n+1,by omega,by rw[fy (by omega) (by omega)];rfl,rfl,?_,bZ.bP cp,by omega⟩⟩
   ·have hb:bW d y=false:=by simpa using hb
    rw[bW,eU,kb,hb,da,fI]
   ·have hb:bW d y=true:=by simpa using hb
    rw[eU,kb,hb,bK]
  ·have kO:¬(n:Int)<(sl.n:Int):=aI kO;have:n=x.cR.length:=by omega
   subst this;rw[cX (aK _)]at eU;have qi:bW (d+1) x=fF x:=by
    rw[bW,eU];simp[im]
   refine(nS w1 x.s hl0).mono ?_;rintro _ w3 ⟨rfl,cO⟩;have lu:=bZ.bP cO;have z3:=cO.size;have e0:((T x.s).toList==(ao #[]).toList)=decide (x.s=[]):=gV x.s [];rw[e0,hn];refine⟨_,rfl,cO.same (by simp;omega),fun hk=>⟨?_,lu⟩,fun hk=>⟨fun b w'=>b=decide (x.k=2∨x.k=3)/\w'=w3,?_,fun nW=>⟨?_,rfl⟩,fun nW=>⟨?_,rfl⟩⟩⟩
   ·have hk:x.k=1:=by simpa using hk
    rw[qi,fF,if_pos hk,JH];congr 4;rw[bq];simp only[bd,cZ];split<;>omega
   ·have jO:x.k≠1:=by simpa using hk
    rintro _ _ ⟨rfl,rfl⟩;refine⟨fun hb=>⟨?_,lu⟩,fun hb=>⟨fun sM=>⟨?_,lu⟩,fun sM=>⟨fun ol=>?_,fun ol=>⟨?_,lu⟩⟩⟩⟩
    ·have hb:=aG hb;rw[qi,fF,if_neg jO,if_pos hb,JH];have:decide (x.s=x.s)=true:=bh rfl;rw[this,cA];cases(x.n==0)<;>cases cF x.s<;>simp
    ·have hb:=aI hb;have sM:x.k=4:=by simpa using sM
     rw[qi,fF,if_neg jO,if_neg hb,if_pos sM,JH];congr 3;rw[bq];simp only[bS,cZ];split<;>omega
    ·have hb:=aI hb;have sM:x.k≠4:=by simpa using sM
     have ol:x.k=5:=by simpa using ol
     have hh5:fF x=(!(dY x.op==6)&&JH 0 [] x.op 2 x):=by rw[fF,if_neg jO,if_neg hb,if_neg sM,if_pos ol]
     have eop:(x.op==x.op)=true:=beq_self_eq_true _;refine⟨fun b w'=>b=fF x/\ay [] w w',?_,fun hc=>(uD (d:=d+1) (F:=F) (x:=x) ⟨sl,rfl,SliceF.only (dD d) (by decide) h2 lu (by simp)⟩).mono ?_,fun hc=>⟨?_,lu⟩⟩
     ·rintro _ _ ⟨rfl,h⟩;exact⟨qi.symm▸rfl,h⟩
     ·rintro _ w6 ⟨rfl,dG⟩;refine⟨_,rfl,dG.same (by simp;omega),?_,lu.bP dG⟩;rw[hh5,JH,hc,eop,cA,bK,bD,if_pos ol];congr 1;rw[bq];simp only[bd,bX,CK];have:dY x.op<=6:=by
       unfold dY;split
       ·omega
       split
       ·omega
       split
       ·omega
       split
       ·omega
       split
       ·omega
       split
       ·omega
       ·omega
      omega
     ·rw[hh5,JH,hc,da,da,fI]
    ·have hb:=aI hb;have sM:x.k≠4:=by simpa using sM
     have ol:x.k≠5:=by simpa using ol
     rw[qi,fF,if_neg jO,if_neg hb,if_neg sM,if_neg ol]
   ·have nW:x.k=2:=by simpa using nW
    rw[nW];rfl
   ·have nW:x.k≠2:=by simpa using nW
    rw[bq];simp[nW]
end Go.Proofs.YtmhoiicofhlgbaaGreatDoor.Con
namespace Go.Proofs.YtmhoiicofhlgbaaGreatDoor.Con
open Go.Value renaming int->O,string->ab,pointer->ae,agg->ah,tuple->ai,bool->aj
open Go.IntKind renaming i64->U,wrap->ar
open Go.Ending renaming returned->ak
open _root_.ByteArray renaming mk->ao
open _root_.Go.Proofs.Tryz renaming prog->aq
open Go.Instr renaming buildSlice->au
open Go renaming World->av,Value->aw,Calls->az
open Go.Kt renaming Only->ay
open Go Go.RowKit Go.Kt Go.Kt.V Go.Proofs.YtmhoiicofhlgbaaGreatDoor.Vc Go.ChangeShapes Go.WideShapes
set_option linter.unusedSimpArgs false
set_option linter.unusedVariables false
set_option maxHeartbeats 4000000
set_option maxRecDepth 100000
end Go.Proofs.YtmhoiicofhlgbaaGreatDoor.Con
namespace Go.Proofs.YtmhoiicofhlgbaaGreatDoor.Con
open Go.Value renaming int->O,string->ab,pointer->ae,agg->ah,tuple->ai,bool->aj
open Go.IntKind renaming i64->U,wrap->ar
open Go.Ending renaming returned->ak
open _root_.ByteArray renaming mk->ao
open _root_.Go.Proofs.Tryz renaming prog->aq
open Go.Instr renaming buildSlice->au
open Go renaming World->av,Value->aw,Calls->az
open Go.Kt renaming Only->ay
open Go Go.RowKit Go.Kt Go.Kt.V Go.Proofs.YtmhoiicofhlgbaaGreatDoor.Vc
set_option linter.unusedSimpArgs false
set_option linter.unusedVariables false
set_option maxHeartbeats 4000000
def vE (d:Nat) (x:Ex):Bool:=decide (lS d x≠[])
theorem acm (l m:aB):T l++T m=T (l++m):=by
 apply ByteArray.ext;simp[T]
theorem Rx (w:av) {n:Int} (h0:0<=n) (h1:n<=9223372036854775807):az aq 97 #[O U n] w fun e w'=>e=ak (.int .u64 n)/\w'=w:=by
 refine ret (abd _ _ _ ?_);unfold Va;refine⟨fun hc=>absurd (aG hc) (by omega),fun _=>⟨?_,rfl⟩⟩;have:ar .u64 n=n:=by
  have e:ar .u64 n=n % 18446744073709551616:=rfl;rw[e];omega
 rw[this]
theorem pQ (u:Nat) (h:u<=18446744073709551615):(Lib.decDigits u).length<=40:=by
 have key:∀(k u:Nat),u<10 ^ (k+1)->(Lib.decDigits u).length<=k+1:=by
  intro k
  induction k with
  | zero=>intro u hu;rw[mC (by simpa using hu)];simp
  | succ k ih=>
   intro u hu;by_cases tK:u<10
   ·rw[mC tK];simp
   ·rw[oW tK,aD,aW];have:=ih (u/10) (by rw[Nat.div_lt_iff_lt_mul (by decide)];rw[Nat.pow_succ]at hu;exact hu);omega
 have:=key 19 u (by have:(10:Nat) ^ (19+1)=100000000000000000000:=(by decide);omega);omega
theorem Ay:∀(u:Nat) (w:av),u<=18446744073709551615->az aq 96 #[.int .u64 (u:Int)] w fun e w'=>e=ak (ab (T (if u=0 then[]else Lib.decDigits u)))/\ay [] w w':=by
 intro u
 induction u using Nat.strongRecOn with
 | _ u ih=>
  intro w hu;refine ret (ag7 _ _ _ ?_);unfold abe;refine⟨fun hc=>?_,fun hc=>⟨fun s w'=>s=T (Lib.decDigits u)/\ay [] w w',fun s w' h=>?_,fun w1 bZ=>⟨fun k=>w1.heap.size<=k,?_,?_⟩⟩⟩
  ·have hc:u=0:=by
    have:(u:Int)=0:=by simpa using hc
    omega
   rw[if_pos hc];exact⟨rfl,Only.refl _ _⟩
  ·have hc:u≠0:=fun e=>by subst e;simp at hc
   rw[if_neg hc,h.1];exact⟨rfl,h.2⟩
  all_goals
   have hc:u≠0:=fun e=>by subst e;simp at hc
   have wu:∀m:Nat,m<=18446744073709551615->ar .u64 (m:Int)=(m:Int):=fun m hm=>by
    have e:ar .u64 (m:Int)=(m:Int) % 18446744073709551616:=rfl;rw[e];omega
   have e1:ar .u64 ((u:Int).tdiv 10)=((u/10:Nat):Int):=by
    have:(u:Int).tdiv 10=((u/10:Nat):Int):=by
     rw[Int.tdiv_eq_ediv_of_nonneg (aO u)];rfl
    rw[this,wu _ (by omega)]
   have hm:(UInt8.ofNat (48+u % 10)).toNat=48+u % 10:=uw (Nat.mod_lt _ (by decide));have e2:ar .u8 (ar .u64 (48+((u:Int).tmod 10)))=((UInt8.ofNat (48+u % 10)).toNat:Int):=by
    have h1:(48+((u:Int).tmod 10))=((48+u % 10:Nat):Int):=by
     rw[Int.tmod_eq_emod_of_nonneg (aO u)];omega
    rw[h1,wu _ (by omega),hm];have e:ar .u8 ((48+u % 10:Nat):Int)=((48+u % 10:Nat):Int) % 256:=rfl;rw[e];omega
   have e3:T (if u/10=0 then[]else Lib.decDigits (u/10))++T [UInt8.ofNat (48+u % 10)]=T (Lib.decDigits u):=by
    rw[acm];by_cases tK:u<10
    ·rw[if_pos (by omega),mC tK,cd];congr 3;omega
    ·rw[if_neg (by omega),<-oW tK]
   have dN:(if u/10=0 then[]else Lib.decDigits (u/10)).length<=100:=by
    split
    ·simp
    ·have:=pQ (u/10) (by omega);omega
   rw[e1,e2]
  ·refine(ih (u/10) (by omega) w1 (by omega)).mono ?_;rintro _ w2 ⟨rfl,cp⟩;obtain⟨y,w3,k1,k2,k3,_⟩:=pH w2 [UInt8.ofNat (48+u % 10)] (n:=1) (parts:=#[(0,.int .u8 ((UInt8.ofNat (48+u % 10)).toNat:Int))]) rfl rfl (by decide) (by decide);refine⟨_,rfl,bE.only cp,y,w3,k1,bE.only k3,[UInt8.ofNat (48+u % 10)],(SliceF.bytes (uc k2)).rd,?_,e3,(bZ.bP cp).bP k3⟩;have:(ao [UInt8.ofNat (48+u % 10)].toArray).size=1:=rfl;rw[bI];omega
  ·obtain⟨y,w4,k1,k2,k3,ka⟩:=pH w1 [UInt8.ofNat (48+u % 10)] (n:=1) (parts:=#[(0,.int .u8 ((UInt8.ofNat (48+u % 10)).toNat:Int))]) rfl rfl (by decide) (by decide);refine⟨y,w4,k1,bE.only k3,[UInt8.ofNat (48+u % 10)],fun p hp=>?_,(SliceF.bytes (uc k2)).rd,(ih (u/10) (by omega) w4 (by omega)).mono ?_⟩
   ·rw[ka]at hp;injection hp with hp;subst hp;exact aK _
   ·rintro _ w5 ⟨rfl,dS⟩;refine⟨_,rfl,bE.only dS,?_,e3,(bZ.bP k3).bP dS⟩;have:(ao [UInt8.ofNat (48+u % 10)].toArray).size=1:=rfl;rw[bI];omega
theorem NF (w:av) {n:Int} (h0:0<=n) (h1:n<=9223372036854775807):az aq 47 #[O U n] w fun e w'=>e=ak (ab (T (Lib.itoa n)))/\ay [] w w':=by
 refine ret (abc _ _ _ ?_);unfold U9;refine⟨fun hc=>?_,fun hc=>⟨fun aeQ=>absurd (aG aeQ) (by omega),fun _=>(Rx w h0 h1).mono ?_⟩⟩
 ·have hc:n=0:=by simpa using hc
  subst hc;rw[mZ (ig _),Int.toNat_zero,mC (by decide)];exact⟨rfl,Only.refl _ _⟩
 ·have hc:n≠0:=by simpa using hc
  rintro _ w2 ⟨rfl,rfl⟩;obtain⟨u,rfl⟩:∃u:Nat,n=(u:Int):=⟨n.toNat,by omega⟩
  refine⟨_,rfl,(Ay u _ (by omega)).mono ?_⟩;rintro _ w3 ⟨rfl,cO⟩;refine⟨_,rfl,?_,cO⟩;rw[if_neg (by omega),mZ h0,aM]
end Go.Proofs.YtmhoiicofhlgbaaGreatDoor.Con
