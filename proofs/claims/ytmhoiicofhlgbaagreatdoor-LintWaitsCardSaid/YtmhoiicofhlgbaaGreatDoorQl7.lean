import Derived.Test.YtmhoiicofhlgbaaGreatDoorQl6
set_option linter.unusedSectionVars false
namespace Go.Proofs.YtmhoiicofhlgbaaGreatDoor.Con
open Go Go.RowKit Go.Kt Go.Kt.V
set_option linter.unusedSimpArgs false
set_option linter.unusedVariables false
set_option maxHeartbeats 4000000
def sh (t:Tk):Tk:=⟨t.k,t.t,t.n,t.a+1⟩
inductive Sim:Ex->Ex->Prop
 | leaf (k n:Int) (s:List UInt8) (op a b:Int):Sim (.mk k n s op [] a) (.mk k n s op [] b)
 | one (k n:Int) (s:List UInt8) (op a b:Int) (x y:Ex):Sim x y->Sim (.mk k n s op [x] a) (.mk k n s op [y] b)
 | two (k n:Int) (s:List UInt8) (op a b:Int) (x y x' y':Ex):Sim x x'->Sim y y'->Sim (.mk k n s op [x,y] a) (.mk k n s op [x',y'] b)
structure Wr (ts iE:List Tk) (n:Nat):Prop where
 e:∀i,n<=i->(tk ts i).k=5
 s:∀i,i<n->(tk iE (i+1)).k=(tk ts i).k/\(tk iE (i+1)).t=(tk ts i).t/\(tk iE (i+1)).n=(tk ts i).n
 c:(tk iE (n+1)).k=4/\(tk iE (n+1)).t=[41]
def j6 (n:Nat) (r r':Pr):Prop:=∀x j,r=.ok (x,j)->(∃x',r'=.ok (x',j+1)/\Sim x x'/\j<=n)∨∃a,r'=.error (21,a)
section
variable {ts iE:List Tk} {n:Nat}
theorem Wr.lt (h:Wr ts iE n) {i:Nat} (hk:(tk ts i).k≠5):i<n:=by
 refine aP fun hn=>hk (h.e i (by omega))
theorem Wr.FI (h:Wr ts iE n) {i:Nat} (hi:i<n) (s:List UInt8):sg iE (i+1) s=sg ts i s:=by
 unfold sg;obtain⟨h1,h2,_⟩:=h.s i hi;rw[h1,h2]
theorem Wr.sgn (h:Wr ts iE n) {i:Nat} (hi:i<=n) {s:List UInt8} (hs:s≠[41]):sg iE (i+1) s=sg ts i s:=by
 rcases me i n with hl | hl
 ·exact h.FI hl s
 ·have:i=n:=by omega
  subst this;unfold sg;rw[h.c.1,h.c.2,h.e i (aq _)];have:decide ([41]=s)=false:=aK fun e=>hs e.symm;rw[this,re];rfl
theorem Qv (op:Nat):de op≠[41]:=by
 rcases me op 16 with h | h
 ·have:∀q,q<16->de q≠[41]:=by decide
  exact this op h
 ·unfold de;rw[bZ (by exact h)];decide
theorem Wr.opf (h:Wr ts iE n) {i:Nat} (hi:i<=n) (k:Int):∀(f op:Nat),gD iE k (i+1) f op=gD ts k i f op
 | 0,_=>rfl
 | f+1,op=>by
  rw[gD,gD,h.sgn hi (Qv op),h.opf hi k f]
theorem Wr.op (h:Wr ts iE n) {i:Nat} (hi:i<=n) (k:Int):jy iE k (i+1)=jy ts k i:=h.opf hi k 13 1
theorem j6.map {r r':Pr} (h:j6 n r r') {g g':Ex->Ex} (hg:∀x x',Sim x x'->Sim (g x) (g' x')):j6 n (CH g r) (CH g' r'):=by
 intro x j hx;obtain⟨y,h1,rfl⟩:=vT hx;rcases h y j h1 with⟨x',h2,h3,h4⟩ | ⟨a,h2⟩
 ·exact .inl ⟨g' x',by rw[h2];rfl,hg _ _ h3,h4⟩
 ·exact .inr ⟨a,by rw[h2];rfl⟩
theorem j6.and {r r':Pr} {f f':Ex->Nat->Pr} (h:j6 n r r') (hf:∀x x' j,r=.ok (x,j)->j<=n->Sim x x'->j6 n (f x j) (f' x' (j+1))):j6 n (vq r f) (vq r' f'):=by
 intro x j hx;obtain⟨y,m,h1,h5⟩:=qA hx;rcases h y m h1 with⟨x',h2,h3,h4⟩ | ⟨a,h2⟩
 ·rw[h2];exact hf y x' m h1 h4 h3 x j h5
 ·exact .inr ⟨a,by rw[h2];rfl⟩
theorem j6.nest {r r':Pr} {d:Nat} {a a':Int} (h:d+1≠20->j6 n r r'):j6 n (fL d a r) (fL (d+1) a' r'):=by
 intro x j hx;obtain⟨h1,h2⟩:=nE hx;by_cases h3:d+1=20
 ·exact .inr ⟨a',by rw[fL,if_pos h3]⟩
 ·rw[fL,if_neg h3];exact h h3 x j h1
theorem j6.QP (hw:Wr ts iE n) {r r':Pr} (h:j6 n r r'):j6 n (oO ts r) (oO iE r'):=by
 intro x j hx;obtain⟨j',h1,h2,rfl⟩:=vU hx;rcases h x j' h1 with⟨x',h3,h4,h5⟩ | ⟨a,h3⟩
 ·have hl:=hw.lt (ug h2);exact .inl ⟨x',by rw[h3];simp only[oO];rw[if_pos (by rw[hw.FI hl];exact h2)],h4,hl⟩
 ·exact .inr ⟨a,by rw[h3];rfl⟩
theorem j6.err {e:Int×Int} {r':Pr}:j6 n (.error e) r':=fun x j hx=>by cases hx
theorem j6.in_ (hw:Wr ts iE n) (i:Nat):j6 n (BF ts i) (BF iE (i+1)):=by
 intro x j hx;have Tg:=hx;obtain⟨rfl,rfl⟩:=EX Tg;unfold BF at hx;split at hx
 ·rename_i h1;split at hx
  ·rename_i h2;split at hx
   ·rename_i h3;have hl:=hw.lt (ug h3);refine .inl ⟨.mk 3 0 (tk iE (i+1+2)).t 0 [] (tk iE (i+1)).a,?_,?_,hl⟩
    ·unfold BF;rw[if_pos (by rw[hw.FI (by omega:i+1<n)];exact h1),if_pos (by rw[(hw.s (i+2) (by omega)).1];exact h2),if_pos (by rw[hw.FI hl];exact h3)]
    ·have e:(tk iE (i+1+2)).t=(tk ts (i+2)).t:=(hw.s (i+2) (by omega)).2.1;rw[e];exact .leaf ..
   ·cases hx
  ·cases hx
 ·cases hx
theorem j6.one (hw:Wr ts iE n) {E0 One E0' Oe:Nat->Pr} {d i:Nat} (hE:d+1≠20->∀i,i<=n->j6 n (E0 i) (E0' (i+1))) (hO:d+1≠20->∀i,i<=n->j6 n (One i) (Oe (i+1))) (hi:i<=n):j6 n (lh ts E0 One d i) (lh iE E0' Oe (d+1) (i+1)):=by
 by_cases Ts:i=n
 ·subst Ts;have h5:=hw.e i (aq _);have hs:∀s,sg ts i s=false:=fun s=>by
   unfold sg;rw[h5];rfl
  have:lh ts E0 One d i=.error (fj ts i):=by
   unfold lh;rw[hs,hs,hs,if_neg (by decide),if_neg (by decide),if_neg (by rw[h5];decide),if_neg (by rw[h5];decide),if_neg (by rw[h5];rintro⟨h,_⟩;exact absurd h (by decide))]
  rw[this];exact j6.err
 ·have hl:i<n:=by omega
  obtain⟨k1,k2,k3⟩:=hw.s i hl;unfold lh;rw[hw.FI hl,hw.FI hl,hw.FI hl,k1,k2,k3];split
  ·exact j6.map (j6.nest fun h=>hO h (i+1) hl) fun x x' hx=>.one _ _ _ _ _ _ _ _ hx
  ·split
   ·exact j6.nest fun h=>j6.QP hw (hE h (i+1) hl)
   ·split
    ·intro x j hx;simp only[cB,cr]at hx;obtain⟨rfl,rfl⟩:=hx;exact .inl ⟨_,rfl,.leaf ..,hl⟩
    ·split
     ·intro x j hx;simp only[cB,cr]at hx;obtain⟨rfl,rfl⟩:=hx;exact .inl ⟨_,rfl,.leaf ..,hl⟩
     ·split
      ·exact j6.in_ hw i
      ·exact j6.err
theorem j6.loop (hw:Wr ts iE n) {E E':Nat->Pr} {k:Int} (hm:∀i x j,E i=.ok (x,j)->i<j) (hE:∀i,i<=n->j6 n (E i) (E' (i+1))):∀(g g':Nat) (x x':Ex) (j:Nat),j<=n->n-j<g->n-j<g'->Sim x x'->j6 n (fC ts E k g x j) (fC iE E' k g' x' (j+1))
 | 0,_,_,_,j,_,h,_,_=>by omega
 | _,0,_,_,j,_,_,h,_=>by omega
 | g+1,g'+1,x,x',j,hj,h1,h2,hs=>by
  rw[fC,fC,hw.op hj];split
  ·intro y m hy;simp only[cB,cr]at hy;obtain⟨rfl,rfl⟩:=hy;exact .inl ⟨_,rfl,hs,hj⟩
  ·rename_i h0;have hl:=hw.lt (lu _ _ h0);refine j6.and (hE (j+1) hl) fun y y' m hy hmn zL=>?_;have:=hm _ _ _ hy;exact j6.loop hw hm hE g g' _ _ m hmn (by omega) (by omega) (.two _ _ _ _ _ _ _ _ _ _ hs zL)
theorem j6.expr (hw:Wr ts iE n) (hl:ts.length=n+1) (Wy:iE.length=n+3):∀(f' f k d i:Nat),k<=6->d+1<=20->dL k (d+1)<=f'->i<=n->j6 n (bX ts f k d i) (bX iE f' k (d+1) (i+1))
 | 0,f,k,d,i,hk,hd,h,_=>by unfold dL at h;omega
 | f'+1,0,k,d,i,hk,hd,h,_=>j6.err
 | f'+1,f+1,k,d,i,hk,hd,h,hi=>by
  rw[bX,bX];unfold dL at h;split
  ·rename_i h6;subst h6;exact j6.one hw (fun hn i hi=>j6.expr hw hl Wy f' f 0 (d+1) i (by omega) (by omega) (by unfold dL;omega) hi) (fun hn i hi=>j6.expr hw hl Wy f' f 6 (d+1) i (by omega) (by omega) (by unfold dL;omega) hi) hi
  ·have hR:∀i,i<=n->j6 n (bX ts f (k+1) d i) (bX iE f' (k+1) (d+1) (i+1)):=fun i hi=>j6.expr hw hl Wy f' f (k+1) d i (by omega) hd (by unfold dL;omega) hi;refine j6.and (hR i hi) fun x x' j hx hj hs=>?_;exact j6.loop hw (fun i x j h=>ia _ _ _ _ h) hR _ _ _ _ _ hj (by omega) (by omega) hs
end
theorem MP {ts:List Tk} {E:Nat->Pr} {k:Int} {x:Ex} {j:Nat} (h:jy ts k j=0):∀g,fC ts E k g x j=.ok (x,j)
 | 0=>rfl
 | g+1=>by rw[fC,if_pos h]
theorem MQ {ts:List Tk} {f d i:Nat} {e:Int×Int} (h:bX ts f 6 d i=.error e):∀(m k:Nat),k+m=6->bX ts (f+m) k d i=.error e
 | 0,k,hk=>by
  have:k=6:=by omega
  subst this;exact h
 | m+1,k,hk=>by
  rw[<-cb,bX,if_neg (by omega),MQ h m (k+1) (by omega)];rfl
theorem Sw {ts:List Tk} {f d i:Nat} {x:Ex} {j:Nat} (h:bX ts f 6 d i=.ok (x,j)) (h0:∀k:Int,jy ts k j=0):∀(m k:Nat),k+m=6->bX ts (f+m) k d i=.ok (x,j)
 | 0,k,hk=>by
  have:k=6:=by omega
  subst this;exact h
 | m+1,k,hk=>by
  rw[<-cb,bX,if_neg (by omega),Sw h h0 m (k+1) (by omega)];simp only[vq];exact MP (h0 _) _
theorem MR {ts:List Tk} {j:Nat} (h:(tk ts j).k=5) (k:Int):jy ts k j=0:=by
 refine aP fun hn=>?_;exact lu _ _ hn h
theorem Sy {ts:List Tk} {j:Nat} {t:List UInt8} (h:(tk ts j).t=t) (hn:∀op,op<16->de op≠t∨op=0∨14<=op) (k:Int):jy ts k j=0:=by
 have:∀(f op:Nat),1<=op->op+f<=14->gD ts k j f op=0:=by
  intro f
  induction f with
  | zero=>intro op _ _;rfl
  | succ f ih=>
   intro op h1 h2;rw[gD,if_neg,ih (op+1) (by omega) (by omega)];rintro⟨_,hs⟩;simp only[sg,ab,bB]at hs;rcases hn op (by omega)with e | e | e
   ·exact e (by rw[<-h,hs.2])
   ·omega
   ·omega
 exact this 13 1 (by omega) (by omega)
end Go.Proofs.YtmhoiicofhlgbaaGreatDoor.Con
namespace Go.Proofs.YtmhoiicofhlgbaaGreatDoor.Con
open Go Go.RowKit Go.Kt Go.Kt.V Go.Proofs.YtmhoiicofhlgbaaGreatDoor.Vc
set_option linter.unusedSimpArgs false
set_option linter.unusedVariables false
set_option maxHeartbeats 4000000
theorem Sim.same {x y:Ex} (h:Sim x y):∀d,sL false d x y=true:=by
 have hd:∀{k n:Int} {s:List UInt8} {op:Int} {xs ys:List Ex} {a b:Int},xs.length=ys.length->CM false (.mk k n s op xs a) (.mk k n s op ys b)=false:=fun h=>by
  simp[CM,Ex.k,Ex.n,Ex.s,Ex.op,Ex.cX,Ex.a,h]
 induction h with
 | leaf k n s op a b=>
  intro d;cases d with
  | zero=>rfl
  | succ d=>rw[sL,if_neg (by rw[hd rfl];decide)];rfl
 | one k n s op a b x y h ih=>
  intro d;cases d with
  | zero=>rfl
  | succ d=>
   rw[sL,if_neg (by rw[hd (xs:=[x]) (ys:=[y]) rfl];decide)];simp only[Ex.cX,IY,ih d,dk]
 | two k n s op a b x y x' y' h1 h2 BM En=>
  intro d;cases d with
  | zero=>rfl
  | succ d=>
   rw[sL,if_neg (by rw[hd (xs:=[x,y]) (ys:=[x',y']) rfl];decide)];simp only[Ex.cX,IY,BM d,En d,dk]
def kt (t:Tk):Int×List UInt8:=(t.k,t.t)
theorem Ei {c:UInt8} {r:List UInt8} (h1:mJ c=false) (h2:(c==47)=false):iG false (c::r)=0:=by
 rw[iG,if_neg (by rw[h1];decide),if_neg (by rw[h2,dI];decide)]
theorem jF {c:UInt8} {r:List UInt8} (h1:eu c=false) (h2:cy c=false) (h3:rF.contains c=true) (h4:xb (c::r)=false):j8 (c::r)=.ok (4,[c],0,1):=by
 have e:j8 (c::r)=if eu c then kE (c::r)else if cy c then pz (c::r)else lJ (c::r):=rfl
 have hn:jS (c::r)=1:=by
  unfold jS;rw[h4];dsimp only;rw[if_neg (by decide),if_pos h3]
 rw[e,h1,h2,if_neg (by decide),if_neg (by decide),lJ,hn];rfl
def soft (r:List UInt8):Prop:=∀d,r.head? =some d->d≠61/\d≠62
theorem ii {c:UInt8} {r:List UInt8} (hc:[38,124].contains c=false) (h:soft r):xb (c::r)=false:=by
 cases r with
 | nil=>rfl
 | cons d r=>
  obtain⟨h1,h2⟩:=h d rfl;have e1:(d==61)=false:=by simpa using h1
  have e2:(d==62)=false:=by simpa using h2
  show((d==61&&[60,62,61,33].contains c)||(d==c&&[38,124].contains c)||(c==45&&d==62))=false;rw[e1,e2,hc,dI,re,re];rfl
structure De (ts:List Tk) (n m:Nat) (s:List UInt8):Prop where
 a:∀i,i<n->(tk ts i).k=4/\(tk ts i).t=s
 b:∀i,n<=i->i<n+m->(tk ts i).k=4/\(tk ts i).t=[40]
 c:(tk ts (n+m)).k=1/\(tk ts (n+m)).t=[120]
 e:∀i,n+m<i->i<=n+m+m->(tk ts i).k=4/\(tk ts i).t=[41]
 z:(tk ts (n+m+m+1)).k=5
 l:ts.length=n+m+m+2
def DnX:Nat->Ex->Prop
 | 0,x=>x.k=2/\x.s=[120]/\x.cX=[]
 | q+1,x=>x.k=4/\∃y,x.cX=[y]/\DnX q y
section
variable {ts:List Tk} {n m:Nat} {s:List UInt8}
theorem yK {ts:List Tk} {i:Nat} {t s:List UInt8} (h:(tk ts i).t=t) (eI:t≠s):sg ts i s=false:=by
 unfold sg;rw[h,aK eI,re]
theorem xT {ts:List Tk} {i:Nat} {t:List UInt8} (h:(tk ts i).k=4/\(tk ts i).t=t):sg ts i t=true:=by
 unfold sg;rw[h.1,h.2,aZ rfl];rfl
theorem De.op (h:De ts n m s) {j:Nat} (hj:n+m<j) (OC:j<=n+m+m+1) (k:Int):jy ts k j=0:=by
 rcases me (n+m+m) j with h1 | h1
 ·have:j=n+m+m+1:=by omega
  subst this;exact MR h.z k
 ·exact Sy (h.e j hj h1).2 (by decide) k
theorem De.QP (h:De ts n m s):∀(q p f:Nat),p+q=m->n+p<=20->dL 6 (n+p)<=f->
  (n+m<=20/\∃x,bX ts f 6 (n+p) (n+p)=.ok (x,n+m+1+q)/\DnX 0 x)∨(20<n+m/\∃a,bX ts f 6 (n+p) (n+p)=.error (21,a))
 | _,_,0,_,_,hf=>by unfold dL at hf;omega
 | 0,p,f+1,hp,hd,hf=>by
  have:p=m:=by omega
  subst this;refine .inl ⟨hd,.mk 2 0 (tk ts (n+p)).t 0 [] (tk ts (n+p)).a,?_,rfl,h.c.2,rfl⟩;rw[bX,if_pos rfl];unfold lh;rw[yK h.c.2 (by decide),yK h.c.2 (by decide),yK h.c.2 (by decide),if_neg (by decide),if_neg (by decide),if_neg (by rw[h.c.1];decide),if_pos h.c.1]
 | q+1,p,f+1,hp,hd,hf=>by
  have hb:=h.b (n+p) (by omega) (by omega);rw[bX,if_pos rfl];unfold lh;rw[yK hb.2 (by decide),yK hb.2 (by decide),xT hb,if_neg (by decide),if_pos rfl];by_cases Bx:n+p=20
  ·exact .inr ⟨by omega,(tk ts (n+p)).a,by rw[fL,if_pos Bx]⟩
  ·rw[fL,if_neg Bx];unfold dL at hf;obtain⟨g,rfl⟩:∃g,f=g+6:=⟨f-6,by omega⟩
   rcases De.QP h q (p+1) g (by omega) (by omega) (by unfold dL;omega)with⟨h1,x,h2,h3⟩ | ⟨h1,a,h2⟩
   ·refine .inl ⟨h1,x,?_,h3⟩;have hup:=Sw h2 (h.op (by omega) (by omega)) 6 0 rfl;rw[<-cb]at hup;rw[hup];simp only[oO];rw[if_pos (xT (h.e _ (by omega) (by omega))),cb (n+m+1)]
   ·refine .inr ⟨h1,a,?_⟩;have hup:=MQ h2 6 0 rfl;rw[<-cb]at hup;rw[hup];rfl
theorem De.sgn (h:De ts n m s) (hs:s=[45]∨s=[33]):∀(q p f:Nat),p+q=n->p<=20->dL 6 p<=f->
  (n+m<=20/\∃x,bX ts f 6 p p=.ok (x,n+m+m+1)/\DnX q x)∨(20<n+m/\∃a,bX ts f 6 p p=.error (21,a))
 | _,_,0,_,_,hf=>by unfold dL at hf;omega
 | 0,p,f+1,hp,hd,hf=>by
  have:p=n:=by omega
  subst this;have:=De.QP h m 0 (f+1) (by omega) (by omega) hf;simp only[db]at this;rcases this with⟨h1,x,h2,h3⟩ | h1
  ·exact .inl ⟨h1,x,by rw[h2];congr 2;omega,h3⟩
  ·exact .inr h1
 | q+1,p,f+1,hp,hd,hf=>by
  have ha:=h.a p (by omega);rw[bX,if_pos rfl];unfold lh;have hor:(sg ts p [45]||sg ts p [33])=true:=by
   rcases hs with rfl | rfl
   ·rw[xT ha,Bool.true_or]
   ·rw[xT ha,mh]
  rw[if_pos hor];by_cases Bx:p=20
  ·exact .inr ⟨by omega,(tk ts p).a,by rw[fL,if_pos Bx];rfl⟩
  ·rw[fL,if_neg Bx];unfold dL at hf;rcases De.sgn h hs q (p+1) f (by omega) (by omega) (by unfold dL;omega)with⟨h1,x,h2,h3⟩ | ⟨h1,a,h2⟩
   ·refine .inl ⟨h1,.mk 4 0 [] (if(tk ts p).t=[33]then 15 else 14) [x] (tk ts p).a,?_,rfl,x,rfl,h3⟩;rw[h2];rfl
   ·exact .inr ⟨h1,a,by rw[h2];rfl⟩
end
end Go.Proofs.YtmhoiicofhlgbaaGreatDoor.Con
namespace Go.Proofs.YtmhoiicofhlgbaaGreatDoor.Con
open Go Go.RowKit Go.Kt Go.Kt.V
set_option linter.unusedSimpArgs false
set_option linter.unusedVariables false
set_option maxHeartbeats 4000000
abbrev K3:=Int×List UInt8×Int
def k3 (t:Tk):K3:=(t.k,t.t,t.n)
theorem MS {p:UInt8->Prop} (h:∀n:Fin 256,p (UInt8.ofNat n.val)) (c:UInt8):p c:=by
 have:=h ⟨c.toNat,c.toNat_lt⟩;simpa using this
theorem uw {p:UInt8->Bool} {r:List UInt8} (hr:∀c,r.head? =some c->p c=false):∀(l:List UInt8),(∀c,c∈l->p c=true)->(l++r).takeWhile p=l
 | [],_=>by
  cases r with
  | nil=>rfl
  | cons c r=>rw[aV,cn,if_neg (by rw[hr c rfl];decide)]
 | c::l,hl=>by rw[bc,cn,if_pos (hl c (by simp)),uw hr l fun x hx=>hl x (by simp[hx])]
theorem Dw {a b:List UInt8} (h:a≠[]):(a++b).head? =a.head? :=by
 cases a with
 | nil=>exact absurd rfl h
 | cons c a=>rfl
theorem tn {u:Nat} (h:u<10):Lib.decDigits u=[UInt8.ofNat (48+u)]:=by rw[Lib.decDigits,dif_pos h]
theorem tq {u:Nat} (h:¬u<10):Lib.decDigits u=Lib.decDigits (u/10)++[UInt8.ofNat (48+u % 10)]:=by rw[Lib.decDigits,dif_neg h]
theorem we {u:Nat} (h:u<10):(UInt8.ofNat (48+u)).toNat=48+u:=by
 rw[UInt8.toNat_ofNat'];omega
theorem Sz {u:Nat} (h:u<10):cy (UInt8.ofNat (48+u))=true:=by
 unfold cy;rw[we h];simp;omega
theorem wg (u:Nat):∀c,c∈Lib.decDigits u->cy c=true:=by
 induction u using Nat.strongRecOn with
 | _ u ih=>
  intro c hc;by_cases h:u<10
  ·rw[tn h,ae]at hc;subst hc;exact Sz h
  ·rw[tq h,bJ,ae]at hc;rcases hc with hc | rfl
   ·exact ih (u/10) (by omega) c hc
   ·exact Sz (Nat.mod_lt _ (by decide))
theorem ux (u:Nat):Lib.decDigits u≠[]:=by
 by_cases h:u<10
 ·rw[tn h];simp
 ·rw[tq h];simp
theorem Fx (a:Nat) (l:List UInt8) (c:UInt8):oL a (l++[c])=oL a l*10+(c.toNat-48):=by
 simp[oL,Gb]
theorem Qw (u:Nat):oL 0 (Lib.decDigits u)=u:=by
 induction u using Nat.strongRecOn with
 | _ u ih=>
  by_cases h:u<10
  ·rw[tn h];have:=we h;simp only[oL,List.foldl_cons,List.foldl_nil];omega
  ·rw[tq h,Fx,ih (u/10) (by omega),we (Nat.mod_lt _ (by decide))];omega
theorem MT (u:Nat) (h0:0<u):(Lib.decDigits u).head? ≠some 48:=by
 induction u using Nat.strongRecOn with
 | _ u ih=>
  by_cases h:u<10
  ·rw[tn h,gA];intro e;injection e with e;have:=aU UInt8.toNat e;rw[we h]at this;have h48:(48:UInt8).toNat=48:=rfl;omega
  ·rw[tq h,Dw (ux _)];exact ih (u/10) (by omega) (by omega)
theorem MU (u:Nat) (h:1<(Lib.decDigits u).length):0<u:=by
 refine aP fun hn=>?_;have:u=0:=by omega
 subst this;rw[tn (by decide)]at h;simp at h
theorem Fy {c:UInt8} (h:cy c=true):dU c=true:=by unfold dU;rw[h,mh]
theorem MV {c:UInt8} (h:cy c=true):eu c=false:=by
 unfold cy at h;unfold eu;simp only[ab,bB]at h;simp;omega
theorem pV {n:Int} (h:0<=n):Lib.itoa n=Lib.decDigits n.toNat:=by
 unfold Lib.itoa;rw[if_neg (by omega)]
theorem MW {n:Int} (h0:0<=n) (h1:n<=9223372036854775807) {r:List UInt8} (hr:∀c,r.head? =some c->dU c=false):j8 (Lib.itoa n++r)=.ok (3,[],n,(Lib.itoa n).length):=by
 rw[pV h0];generalize hu:n.toNat=u;have hn:n=(u:Int):=by omega
 have ij:=wg u;have eI:=ux u;have hw:=uw (p:=dU) hr (Lib.decDigits u) fun c hc=>Fy (ij c hc);have hd:=uw (p:=cy) (fun c h=>by
  have:=hr c h;unfold dU at this;exact(gK.1 this).2) (Lib.decDigits u) ij
 have hp:eX (Lib.decDigits u++r)=(u,(Lib.decDigits u).length,0):=by
  unfold eX;rw[hd,Qw];rw[if_neg (by simp[eI]),if_neg,if_pos (by omega)];rintro(h | ⟨h2,h3⟩)
  ·exact eI h
  ·rw[Dw eI]at h3;exact MT u (MU u h2) h3
 have ajg:pz (Lib.decDigits u++r)=.ok (3,[],n,(Lib.decDigits u).length):=by
  unfold pz;rw[hp,hw,if_neg (by simp),if_neg (by simp),hn]
 generalize hm:Lib.decDigits u=m at*
 cases m with
 | nil=>exact absurd rfl eI
 | cons c m=>
  have hc:=ij c (by simp);have e:j8 (c::m++r)=if eu c then kE (c::m++r)else if cy c then pz (c::m++r)else lJ (c::m++r):=rfl
  rw[e,MV hc,hc,if_neg (by decide),if_pos rfl,ajg]
theorem pW {l:List UInt8} {i:Nat} {p r:List UInt8} {k:Int} {t:List UInt8} {n:Int} {ts:List Tk} (h:l.drop i=p++r) (hp:p≠[]) (hb:iG false (p++r)=0) (ht:j8 (p++r)=.ok (k,t,n,p.length)) (hr:iL l (i+p.length)=.ok ts):iL l i=.ok (⟨k,t,n,(i:Nat)⟩::ts):=by
 have VN:=o8.2 hp;have hi:i<l.length:=by
  have:=aU List.length h;rw[bK,ah]at this;omega
 rw[ir (by omega),h,hb,db,if_neg (by omega),h,ht];dsimp only;rw[hr]
theorem gx {l:List UInt8} {i:Nat} {p r:List UInt8} (h:l.drop i=p++r):l.drop (i+p.length)=r:=by
 rw[<-mj,h,List.drop_left]
theorem uY {l:List UInt8} {i:Nat} {p r:List UInt8} (hi:i<=l.length) (h:l.drop i=p++r):i+p.length<=l.length:=by
 have:=aU List.length h;rw[bK,ah]at this;omega
def mQ:Nat->Ex->Bool->List UInt8
 | 0,_,_=>[]
 | d+1,x,wr=>EZ wr (nt wr []++(
  if x.k=1 then Lib.itoa x.n
  else if x.k=2 then x.s
  else if x.k=3 then[105,110,40]++x.s++[41]
  else if x.k=4 then(match x.cX with
   | [y]=>de x.op.toNat++mQ d y (decide (bE y<6))
   | _=>[])
  else(match x.cX with
   | [y,z]=>mQ d y (decide (bE y<bE x))++([32]++de x.op.toNat++[32])++mQ d z (decide (bE z<=bE x))
   | _=>[])))
theorem xU (wr:Bool) (l:List UInt8):nt wr l=l++nt wr []:=by cases wr<;>simp[nt]
theorem UK (wr:Bool) (l m:List UInt8):EZ wr (l++m)=l++EZ wr m:=by cases wr<;>simp[EZ]
theorem MX (wr:Bool) (l:List UInt8):l.length<=(EZ wr l).length:=by cases wr<;>simp[EZ]
theorem UL (wr:Bool) (l:List UInt8):l.length<=(nt wr l).length:=by cases wr<;>simp[nt]
theorem Dx:∀(d:Nat) (x:Ex) (wr:Bool) (l:List UInt8),l.length<=(mX d x wr l).length
 | 0,_,_,_=>aq _
 | d+1,x,wr,l=>by
  rw[mX];split
  ·exact aq _
  refine ay ?_ (MX _ _);have h1:=UL wr l;split
  ·rw[ah];omega
  ·split
   ·rw[ah];omega
   ·split
    ·rw[ah];omega
    ·split
     ·split
      ·rename_i y _;have:=Dx d y (decide (bE y<6)) (nt wr l++de x.op.toNat);rw[ah]at this;omega
      ·exact aq _
     ·split
      ·rename_i y z _;have a1:=Dx d y (decide (bE y<bE x)) (nt wr l);have a2:=Dx d z (decide (bE z<=bE x)) (mX d y (decide (bE y<bE x)) (nt wr l)++([32]++de x.op.toNat++[32]));rw[ah]at a2;omega
      ·exact aq _
theorem Dy:∀(d:Nat) {x:Ex} (wr:Bool) (l:List UInt8),cE d x=true->(mX d x wr l).length<=16384->mX d x wr l=l++mQ d x wr
 | 0,x,wr,l,h,_=>by cases h
 | d+1,x,wr,l,h,hl=>by
  rw[cE,ab]at h;obtain⟨hh,ha⟩:=h;have h0:=Dx (d+1) x wr l;have hc:¬16384<l.length:=by omega
  rw[mX,if_neg hc]at hl⊢;rw[mQ,<-UK];have BL:=ay (MX wr _) hl;congr 1;by_cases k1:x.k=1
  ·rw[if_pos k1,if_pos k1,xU wr l,av]
  by_cases k2:x.k=2
  ·rw[if_neg k1,if_neg k1,if_pos k2,if_pos k2,xU wr l,av]
  by_cases k3:x.k=3
  ·rw[if_neg k1,if_neg k1,if_neg k2,if_neg k2,if_pos k3,if_pos k3,xU wr l,av]
  by_cases k4:x.k=4
  ·obtain⟨y,hy,_⟩:=xp hh k4;rw[if_neg k1,if_neg k2,if_neg k3,if_pos k4,hy]at BL;rw[if_neg k1,if_neg k1,if_neg k2,if_neg k2,if_neg k3,if_neg k3,if_pos k4,if_pos k4,hy];rw[hy]at ha;dsimp only at BL⊢;simp only[jA,dk]at ha;rw[Dy d _ _ ha BL,xU wr l];simp only[av]
  ·obtain⟨_,y,z,hy,_⟩:=sP hh k1 k2 k3 k4;rw[if_neg k1,if_neg k2,if_neg k3,if_neg k4,hy]at BL;rw[if_neg k1,if_neg k1,if_neg k2,if_neg k2,if_neg k3,if_neg k3,if_neg k4,if_neg k4,hy];rw[hy]at ha;dsimp only at BL⊢;simp only[jA,dk,ab]at ha;have h1:=Dx d z (decide (bE z<=bE x)) (mX d y (decide (bE y<bE x)) (nt wr l)++([32]++de x.op.toNat++[32]));rw[ah]at h1;rw[Dy d _ _ ha.2 BL,Dy d _ _ ha.1 (by omega),xU wr l];simp only[av]
def opk (wr:Bool):List K3:=if wr then[(4,[40],0)]else[]
def clk (wr:Bool):List K3:=if wr then[(4,[41],0)]else[]
def kG:Nat->Ex->Bool->List K3
 | 0,_,_=>[]
 | d+1,x,wr=>opk wr++(
  if x.k=1 then[(3,[],x.n)]
  else if x.k=2 then[(1,x.s,0)]
  else if x.k=3 then[(2,[105,110],0),(4,[40],0),(1,x.s,0),(4,[41],0)]
  else if x.k=4 then(match x.cX with
   | [y]=>(4,de x.op.toNat,0)::kG d y (decide (bE y<6))
   | _=>[])
  else(match x.cX with
   | [y,z]=>kG d y (decide (bE y<bE x))++(4,de x.op.toNat,0)::kG d z (decide (bE z<=bE x))
   | _=>[]))++clk wr
def jd (c:UInt8):Bool:=eu c||cy c||c==40||c==45||c==33
theorem Jm:∀n:Fin 256,jd (UInt8.ofNat n.val)=true->mJ (UInt8.ofNat n.val)=false/\(UInt8.ofNat n.val==47)=false/\UInt8.ofNat n.val≠61/\UInt8.ofNat n.val≠62:=by decide+kernel
theorem iQ {c:UInt8} (h:jd c=true):mJ c=false/\(c==47)=false/\c≠61/\c≠62:=MS (p:=fun c=>jd c=true->mJ c=false/\(c==47)=false/\c≠61/\c≠62) Jm c h
def MY (c:UInt8):Bool:=[32,41,59,93,44,10].contains c
def oS (r:List UInt8):Prop:=∀c,r.head? =some c->MY c=true
theorem Qx:∀n:Fin 256,MY (UInt8.ofNat n.val)=true->dU (UInt8.ofNat n.val)=false/\cy (UInt8.ofNat n.val)=false/\UInt8.ofNat n.val≠61/\UInt8.ofNat n.val≠62:=by decide+kernel
theorem FA {c:UInt8} (h:MY c=true):dU c=false/\cy c=false/\c≠61/\c≠62:=MS (p:=fun c=>MY c=true->dU c=false/\cy c=false/\c≠61/\c≠62) Qx c h
theorem oS.word {r:List UInt8} (h:oS r):∀(l:List UInt8),(∀c,c∈l->dU c=true)->(l++r).takeWhile dU=l
 | [],_=>by
  cases r with
  | nil=>rfl
  | cons c r=>
   rw[aV,cn,if_neg (by rw[(FA (h c rfl)).1];decide)]
 | c::l,hl=>by
  rw[bc,cn,if_pos (hl c (by simp)),h.word l fun x hx=>hl x (by simp[hx])]
theorem HX {n:Int} (h0:0<=n) (h1:n<=9223372036854775807) {r:List UInt8} (hr:oS r):j8 (Lib.itoa n++r)=.ok (3,[],n,(Lib.itoa n).length):=MW h0 h1 fun c h=>(FA (hr c h)).1
theorem Dz {s r:List UInt8} (hn:cN s=true) (hr:oS r):j8 (s++r)=.ok (1,s,0,s.length):=by
 unfold cN at hn;simp only[ab]at hn;obtain⟨⟨⟨h1,h2⟩,h3⟩,h4⟩:=hn;obtain⟨h1,h5⟩:=aj h1;have h3:=aj h3;have h4:kP.contains s=false:=by simpa using h4
 have hw:=hr.word s fun c hc=>by rw[<-h3]at hc;exact uf c hc
 have hwr:kE (s++r)=.ok (1,s,0,s.length):=by
  unfold kE;rw[hw,if_neg (by omega),h4];rfl
 cases s with
 | nil=>exact absurd rfl h1
 | cons c s=>
  have e:j8 (c::s++r)=if eu c then kE (c::s++r)else if cy c then pz (c::s++r)else lJ (c::s++r):=rfl
  have h2:eu c=true:=h2;rw[e,h2,if_pos rfl,hwr]
theorem UM {op:Nat} (h1:1<=op) (h2:op<=13) (r:List UInt8):j8 (de op++32::r)=.ok (4,de op,0,(de op).length)/\iG false (de op++32::r)=0:=by
 match op,h1,h2 with
 | 1,_,_=>exact⟨rfl,rfl⟩
 | 2,_,_=>exact⟨rfl,rfl⟩
 | 3,_,_=>exact⟨rfl,rfl⟩
 | 4,_,_=>exact⟨rfl,rfl⟩
 | 5,_,_=>exact⟨rfl,rfl⟩
 | 6,_,_=>exact⟨rfl,rfl⟩
 | 7,_,_=>exact⟨rfl,rfl⟩
 | 8,_,_=>exact⟨rfl,rfl⟩
 | 9,_,_=>exact⟨rfl,rfl⟩
 | 10,_,_=>exact⟨rfl,rfl⟩
 | 11,_,_=>exact⟨rfl,rfl⟩
 | 12,_,_=>exact⟨rfl,rfl⟩
 | 13,_,_=>exact⟨rfl,rfl⟩
theorem tt:∀(d:Nat) {x:Ex} (wr:Bool),cE d x=true->lM d x->∃c t,mQ d x wr=c::t/\jd c=true
 | 0,x,wr,h,_=>by cases h
 | d+1,x,true,h,_=>⟨40,_,rfl,by decide⟩
 | d+1,x,false,h,⟨hn,hs⟩=>by
  rw[cE,ab]at h;obtain⟨hh,ha⟩:=h;have e:mQ (d+1) x false=(
  if x.k=1 then Lib.itoa x.n
  else if x.k=2 then x.s
  else if x.k=3 then[105,110,40]++x.s++[41]
  else if x.k=4 then(match x.cX with
   | [y]=>de x.op.toNat++mQ d y (decide (bE y<6))
   | _=>[])
  else(match x.cX with
   | [y,z]=>mQ d y (decide (bE y<bE x))++([32]++de x.op.toNat++[32])++mQ d z (decide (bE z<=bE x))
   | _=>[])):=rfl
  rw[e];by_cases k1:x.k=1
  ·rw[if_pos k1];have h0:0<=x.n:=by
    rw[gu,if_pos k1]at hh;have:=(sO hh).1;split at this<;>omega
   rw[pV h0];cases hm:Lib.decDigits x.n.toNat with
   | nil=>exact absurd hm (ux _)
   | cons c m=>
    have:=wg x.n.toNat c (by rw[hm];simp);exact⟨c,m,rfl,by unfold jd;rw[this];simp⟩
  have name:cN x.s=true->∃c t,x.s=c::t/\jd c=true:=fun hn=>by
   unfold cN at hn;simp only[ab]at hn;obtain⟨⟨⟨h1,h2⟩,h3⟩,h4⟩:=hn;cases hs:x.s with
   | nil=>rw[hs]at h2;cases h2
   | cons c t=>
    rw[hs]at h2;have h2:eu c=true:=h2;exact⟨c,t,rfl,by unfold jd;rw[h2];simp⟩
  by_cases k2:x.k=2
  ·rw[if_neg k1,if_pos k2];exact name (ka hh (.inl k2))
  by_cases k3:x.k=3
  ·rw[if_neg k1,if_neg k2,if_pos k3];exact⟨105,_,rfl,by decide⟩
  by_cases k4:x.k=4
  ·obtain⟨y,hy,ho⟩:=xp hh k4;rw[if_neg k1,if_neg k2,if_neg k3,if_pos k4,hy];rcases ho with ho | ho
   ·rw[ho];exact⟨45,_,rfl,by decide⟩
   ·rw[ho];exact⟨33,_,rfl,by decide⟩
  ·obtain⟨_,y,z,hy,_⟩:=sP hh k1 k2 k3 k4;rw[if_neg k1,if_neg k2,if_neg k3,if_neg k4,hy];rw[hy]at ha hs;simp only[jA,dk,ab]at ha;obtain⟨c,t,h1,h2⟩:=tt d (decide (bE y<bE x)) ha.1 (hs y (by simp));dsimp only;rw[h1];exact⟨c,_,rfl,h2⟩
theorem lV {r:List UInt8} (h:∃c t,r=c::t/\jd c=true):soft r:=by
 obtain⟨c,t,rfl,hs⟩:=h;intro d hd;simp only[gA,ai]at hd;subst hd;exact⟨(iQ hs).2.2.1,(iQ hs).2.2.2⟩
theorem oS.soft {r:List UInt8} (h:oS r):soft r:=fun d hd=>(FA (h d hd)).2.2
theorem qH {a b:List UInt8} (h:∃c t,a=c::t/\jd c=true):∃c t,a++b=c::t/\jd c=true:=by
 obtain⟨c,t,rfl,hs⟩:=h;exact⟨c,t++b,rfl,hs⟩
theorem SA {l:List UInt8} {i:Nat} {r:List UInt8} (h:l.drop i=32::r) (hr:iG false r=0):iL l i=iL l (i+1):=by
 have hi:i<=l.length:=by
  refine aP fun hn=>?_;rw[du (by omega)]at h;cases h
 rw[nD hi,h,iG,if_pos (by decide),hr]
theorem qI {l:List UInt8}:∀(d:Nat) {x:Ex} (wr:Bool) (i:Nat) {r:List UInt8} {ts:List Tk},cE d x=true->lM d x->i<=l.length->l.drop i=mQ d x wr++r->oS r->iL l (i+(mQ d x wr).length)=.ok ts->∃us,iL l i=.ok (us++ts)/\us.map k3=kG d x wr
 | 0,x,wr,i,r,ts,h,_,_,_,_,_=>by cases h
 | d+1,x,wr,i,r,ts,h,⟨hn,hs⟩,hi,hl,hr,ht=>by
  have tJ:=h;rw[cE,ab]at h;obtain⟨hh,ha⟩:=h;have core:∀(i:Nat) {r:List UInt8} {ts:List Tk},i<=l.length->l.drop i=mQ (d+1) x false++r->oS r->iL l (i+(mQ (d+1) x false).length)=.ok ts->∃us,iL l i=.ok (us++ts)/\us.map k3=kG (d+1) x false:=by
   intro i r ts hi hl hr ht;have e:mQ (d+1) x false=(
   if x.k=1 then Lib.itoa x.n
   else if x.k=2 then x.s
   else if x.k=3 then[105,110,40]++x.s++[41]
   else if x.k=4 then(match x.cX with
    | [y]=>de x.op.toNat++mQ d y (decide (bE y<6))
    | _=>[])
   else(match x.cX with
    | [y,z]=>mQ d y (decide (bE y<bE x))++([32]++de x.op.toNat++[32])++mQ d z (decide (bE z<=bE x))
    | _=>[])):=rfl
   have e2:kG (d+1) x false=(
   if x.k=1 then[(3,[],x.n)]
   else if x.k=2 then[(1,x.s,0)]
   else if x.k=3 then[(2,[105,110],0),(4,[40],0),(1,x.s,0),(4,[41],0)]
   else if x.k=4 then(match x.cX with
    | [y]=>(4,de x.op.toNat,0)::kG d y (decide (bE y<6))
    | _=>[])
   else(match x.cX with
    | [y,z]=>kG d y (decide (bE y<bE x))++(4,de x.op.toNat,0)::kG d z (decide (bE z<=bE x))
    | _=>[]))++[]:=rfl
   rw[aN]at e2;obtain⟨c0,t0,Kb,ade⟩:=tt (d+1) false tJ ⟨hn,hs⟩;have hsk:iG false (mQ (d+1) x false++r)=0:=by
    rw[Kb,bc];exact Ei (iQ ade).1 (iQ ade).2.1
   have eI:mQ (d+1) x false≠[]:=by rw[Kb];simp
   by_cases k1:x.k=1
   ·rw[if_pos k1]at e e2;have h0:0<=x.n:=by
     rw[gu,if_pos k1]at hh;have:=(sO hh).1;split at this<;>omega
    rw[e2];exact⟨[⟨3,[],x.n,(i:Nat)⟩],pW hl eI hsk (by rw[e];exact HX h0 hn.2 hr) ht,rfl⟩
   by_cases k2:x.k=2
   ·rw[if_neg k1,if_pos k2]at e e2;rw[e2];exact⟨[⟨1,x.s,0,(i:Nat)⟩],pW hl eI hsk (by rw[e];exact Dz (ka hh (.inl k2)) hr) ht,rfl⟩
   by_cases Kf:x.k=3
   ·rw[if_neg k1,if_neg k2,if_pos Kf]at e e2;have hnm:=ka hh (.inr Kf);obtain⟨cs,tss,kK,Wz⟩:∃c t,x.s=c::t/\jd c=true:=by
     have WA:=hnm;unfold cN at WA;simp only[ab]at WA;obtain⟨⟨⟨_,h2⟩,_⟩,_⟩:=WA;cases hs:x.s with
     | nil=>rw[hs]at h2;cases h2
     | cons c t=>
      rw[hs]at h2;have h2:eu c=true:=h2;exact⟨c,t,rfl,by unfold jd;rw[h2];simp⟩
    have a0:l.drop i=[105,110]++([40]++(x.s++([41]++r))):=by rw[hl,e];simp
    have a1:=gx a0;have a2:=gx a1;have a3:=gx a2;have len:(mQ (d+1) x false).length=2+1+x.s.length+1:=by rw[e];simp;omega
    have ht:iL l (i+([105,110]:List UInt8).length+([40]:List UInt8).length+x.s.length+([41]:List UInt8).length)=.ok ts:=by
     rw[<-ht,len];congr 1;simp only[ao,aM];omega
    have b3:=pW (n:=0) a3 (by simp) (Ei (by decide) (by decide)) (jF (by decide) (by decide) (by decide) (ii (by decide) hr.soft)) ht;have b2:=pW (n:=0) (k:=1) (t:=x.s) a2 (by rw[kK];simp) (by rw[kK,bc];exact Ei (iQ Wz).1 (iQ Wz).2.1) (Dz hnm fun c hc=>by simp only[da,gA,ai]at hc;exact hc▸rfl) b3;have b1:=pW (n:=0) a1 (by simp) (Ei (by decide) (by decide)) (jF (by decide) (by decide) (by decide) (ii (by decide) (lV (qH (a:=x.s) (b:=[41]++r) ⟨cs,tss,kK,Wz⟩)))) b2;have b0:=pW (n:=0) (k:=2) (t:=[105,110]) a0 (by simp) (Ei (by decide) (by decide)) rfl b1;rw[e2];exact⟨[_,_,_,_],b0,rfl⟩
   by_cases k4:x.k=4
   ·obtain⟨y,hy,ho⟩:=xp hh k4;rw[if_neg k1,if_neg k2,if_neg Kf,if_pos k4,hy]at e e2;dsimp only at e e2;rw[hy]at ha hs;simp only[jA,dk]at ha;have Ep:=hs y (by simp);have oJ:=tt d (decide (bE y<6)) ha Ep;have a0:l.drop i=de x.op.toNat++(mQ d y (decide (bE y<6))++r):=by rw[hl,e,av]
    have a1:=gx a0;have ht:iL l (i+(de x.op.toNat).length+(mQ d y (decide (bE y<6))).length)=.ok ts:=by
     rw[<-ht,e,ah,cb]
    obtain⟨us,u1,u2⟩:=qI d (decide (bE y<6)) _ ha Ep (uY hi a0) a1 hr ht;have rV:j8 (de x.op.toNat++(mQ d y (decide (bE y<6))++r))=.ok (4,de x.op.toNat,0,(de x.op.toNat).length)/\de x.op.toNat≠[]/\iG false (de x.op.toNat++(mQ d y (decide (bE y<6))++r))=0:=by
     rcases ho with ho | ho
     ·rw[ho];exact⟨jF (c:=45) (by decide) (by decide) (by decide) (ii (by decide) (lV (qH (a:=mQ d y (decide (bE y<6))) (b:=r) oJ))),by decide,Ei (by decide) (by decide)⟩
     ·rw[ho];exact⟨jF (c:=33) (by decide) (by decide) (by decide) (ii (by decide) (lV (qH (a:=mQ d y (decide (bE y<6))) (b:=r) oJ))),by decide,Ei (by decide) (by decide)⟩
    rw[e2];exact⟨⟨4,de x.op.toNat,0,(i:Nat)⟩::us,pW a0 rV.2.1 rV.2.2 rV.1 u1,by rw[aI,u2];rfl⟩
   ·obtain⟨_,y,z,hy,S0,Jy⟩:=sP hh k1 k2 Kf k4;rw[if_neg k1,if_neg k2,if_neg Kf,if_neg k4,hy]at e e2;dsimp only at e e2;rw[hy]at ha hs;simp only[jA,dk,ab]at ha;have Ep:=hs y (by simp);have OT:=hs z (by simp);obtain⟨cz,tz,hz1,Bz⟩:=tt d (decide (bE z<=bE x)) ha.2 OT;have FK:iG false (mQ d z (decide (bE z<=bE x))++r)=0:=by
     rw[hz1,bc];exact Ei (iQ Bz).1 (iQ Bz).2.1
    have rV:=UM (op:=x.op.toNat) (by omega) (by omega) (mQ d z (decide (bE z<=bE x))++r);have NU:de x.op.toNat≠[]:=by
     have:∀q,q<14->1<=q->de q≠[]:=by decide
     exact this _ (by omega) (by omega)
    have a0:l.drop i=mQ d y (decide (bE y<bE x))++([32]++(de x.op.toNat++([32]++(mQ d z (decide (bE z<=bE x))++r)))):=by rw[hl,e];simp only[av]
    have a1:=gx a0;have a2:=gx a1;have a3:=gx a2;have a4:=gx a3;have i1:=uY hi a0;have i2:=uY i1 a1;have i3:=uY i2 a2;have i4:=uY i3 a3;have ht:iL l (i+(mQ d y (decide (bE y<bE x))).length+([32]:List UInt8).length+(de x.op.toNat).length+([32]:List UInt8).length+(mQ d z (decide (bE z<=bE x))).length)=.ok ts:=by
     rw[<-ht,e];congr 1;simp only[ah,ao,aM];omega
    obtain⟨vs,v1,v2⟩:=qI d (decide (bE z<=bE x)) _ ha.2 OT i4 a4 hr ht;have b3:iL l (i+(mQ d y (decide (bE y<bE x))).length+([32]:List UInt8).length+(de x.op.toNat).length)=.ok (vs++ts):=by
     exact(SA a3 FK).trans v1
    have b2:=pW a2 NU rV.2 rV.1 b3;have b1:=(SA a1 rV.2).trans b2;obtain⟨us,u1,u2⟩:=qI d (decide (bE y<bE x)) i ha.1 Ep hi a0 (fun c hc=>by simp only[da,gA,ai]at hc;exact hc▸rfl) b1;rw[e2];exact⟨us++⟨4,de x.op.toNat,0,_⟩::vs,by rw[u1,av];rfl,by rw[cq,aI,u2,v2];rfl⟩
  cases wr with
  | false=>exact core i hi hl hr ht
  | true=>
   have e:mQ (d+1) x true=[40]++(mQ (d+1) x false++[41]):=by
    unfold mQ;simp[EZ,nt]
   have e2:kG (d+1) x true=(4,[40],0)::(kG (d+1) x false++[(4,[41],0)]):=by
    unfold kG;simp[opk,clk]
   have oJ:=tt (d+1) false tJ ⟨hn,hs⟩;have a0:l.drop i=[40]++(mQ (d+1) x false++([41]++r)):=by rw[hl,e];simp only[av]
   have a1:=gx a0;have a2:=gx a1;have ht:iL l (i+([40]:List UInt8).length+(mQ (d+1) x false).length+([41]:List UInt8).length)=.ok ts:=by
    rw[<-ht,e];congr 1;simp only[ah,ao,aM];omega
   have b2:=pW (n:=0) a2 (by simp) (Ei (by decide) (by decide)) (jF (by decide) (by decide) (by decide) (ii (by decide) hr.soft)) ht;obtain⟨us,u1,u2⟩:=core _ (uY hi a0) a1 (fun c hc=>by simp only[da,gA,ai]at hc;exact hc▸rfl) b2;have b0:=pW (n:=0) a0 (by simp) (Ei (by decide) (by decide)) (jF (by decide) (by decide) (by decide) (ii (by decide) (lV (qH (a:=mQ (d+1) x false) (b:=[41]++r) oJ)))) u1;rw[e2];refine⟨⟨4,[40],0,(i:Nat)⟩::(us++[⟨4,[41],0,((i+([40]:List UInt8).length+(mQ (d+1) x false).length:Nat):Int)⟩]),by rw[b0];simp only[bc,av,aV,da],?_⟩;rw[aI,cq,u2];rfl
def At (ts:List Tk) (i:Nat) (L:List K3):Prop:=∀j q,L[j]? =some q->k3 (tk ts (i+j))=q
section
variable {ts:List Tk} {i:Nat} {A B:List K3}
theorem At.left (h:At ts i (A++B)):At ts i A:=fun j q hj=>h j q (by rw[aR (au.1 hj).1];exact hj)
theorem At.right (h:At ts i (A++B)):At ts (i+A.length) B:=fun j q hj=>by
 have:=h (A.length+j) q (by rw[bh (by omega),cT];exact hj);rwa[<-cb]at this
theorem At.head {q:K3} (h:At ts i (q::A)):(tk ts i).k=q.1/\(tk ts i).t=q.2.1/\(tk ts i).n=q.2.2:=by
 have:=h 0 q rfl;rw[db]at this;rw[<-this];exact⟨rfl,rfl,rfl⟩
theorem At.tail {q:K3} (h:At ts i (q::A)):At ts (i+1) A:=fun j p hj=>by
 have:=h (j+1) p hj;rwa[cb,iU 1 j]
theorem MZ {p q:Nat} (hp:1<=p) (hp2:p<=13) (hq:1<=q) (hq2:q<=13) (h:de p=de q):p=q:=by
 have:∀p,p<14->∀q,q<14->1<=p->1<=q->de p=de q->p=q:=by decide
 exact this p (by omega) q (by omega) hp hq h
theorem aax {op:Nat} (h1:1<=op) (h2:op<=13) (hk:(tk ts i).k=4) (ht:(tk ts i).t=de op) (k:Int):jy ts k i=if eW (op:Int)=k then(op:Int)else 0:=by
 have:∀(f q:Nat),1<=q->q+f<=14->gD ts k i f q=if q<=op/\op<q+f/\eW (op:Int)=k then(op:Int)else 0:=by
  intro f
  induction f with
  | zero=>intro q _ _;rw[if_neg (by omega)];rfl
  | succ f ih=>
   intro q hq hf;rw[gD,ih (q+1) (by omega) (by omega)];by_cases he:q=op
   ·subst he;have hs:sg ts i (de q)=true:=xT ⟨hk,ht⟩;by_cases hr:eW (q:Int)=k
    ·rw[if_pos ⟨hr,hs⟩,if_pos ⟨aq _,by omega,hr⟩]
    ·rw[if_neg (fun h=>hr h.1),if_neg (by omega),if_neg (fun h=>hr h.2.2)]
   ·have hs:¬sg ts i (de q)=true:=fun hs=>he (by
     simp only[sg,ab,bB]at hs;exact MZ hq (by omega) h1 h2 (by rw[<-ht,hs.2]))
    rw[if_neg (fun h=>hs h.2)];by_cases hc:q+1<=op/\op<q+1+f/\eW (op:Int)=k
    ·rw[if_pos hc,if_pos ⟨by omega,by omega,hc.2.2⟩]
    ·rw[if_neg hc,if_neg (fun h=>hc ⟨by omega,by omega,h.2.2⟩)]
 rw[jy,this 13 1 (by omega) (by omega)];by_cases hr:eW (op:Int)=k
 ·rw[if_pos hr,if_pos ⟨h1,by omega,hr⟩]
 ·rw[if_neg hr,if_neg (fun h=>hr h.2.2)]
theorem HY {op:Int} (h1:1<=op) (h2:op<=13):0<=eW op/\eW op<=5:=by
 unfold eW;split
 ·omega
 split
 ·omega
 split
 ·omega
 split
 ·omega
 split
 ·omega
 split
 ·omega
 ·omega
theorem HZ {f d k0:Nat} {x:Ex} {j:Nat} (h:bX ts f k0 d i=.ok (x,j)) (h6:k0<=6):∀(m k:Nat),k+m=k0->(∀q:Int,(k:Int)<=q->q<(k0:Int)->jy ts q j=0)->bX ts (f+m) k d i=.ok (x,j)
 | 0,k,hk,_=>by
  have:k=k0:=by omega
  subst this;exact h
 | m+1,k,hk,h0=>by
  rw[<-cb,bX,if_neg (by omega),HZ h h6 m (k+1) (by omega) fun q h1 h2=>h0 q (by omega) h2];simp only[vq];exact MP (h0 _ (jQ _) (by omega)) _
theorem DA {f d k0:Nat} {e:Int×Int} (h:bX ts f k0 d i=.error e) (h6:k0<=6):∀(m k:Nat),k+m=k0->bX ts (f+m) k d i=.error e
 | 0,k,hk=>by
  have:k=k0:=by omega
  subst this;exact h
 | m+1,k,hk=>by
  rw[<-cb,bX,if_neg (by omega),DA h h6 m (k+1) (by omega)];rfl
end
def SB (x:Ex) (j:Nat) (r:Pr):Prop:=(∃x',r=.ok (x',j)/\Sim x x')∨∃a,r=.error (21,a)
theorem SB.down {ts:List Tk} {i f d k0 k:Nat} {x:Ex} {j:Nat} (h:SB x j (bX ts (f-(k0-k)) k0 d i)) (hf:k0-k<=f) (h6:k0<=6) (hk:k<=k0) (h0:∀q:Int,(k:Int)<=q->q<(k0:Int)->jy ts q j=0):SB x j (bX ts f k d i):=by
 have e:f=(f-(k0-k))+(k0-k):=by omega
 rcases h with⟨x',h1,h2⟩ | ⟨a,h1⟩
 ·exact .inl ⟨x',by rw[e];exact HZ h1 h6 _ k (by omega) h0,h2⟩
 ·exact .inr ⟨a,by rw[e];exact DA h1 h6 _ k (by omega)⟩
abbrev PP (ts:List Tk) (d:Nat):Prop:=∀{x:Ex} (wr:Bool) (k dd i f:Nat),cE d x=true->At ts i (kG d x wr)->k<=6->(wr=false->(k:Int)<=bE x)->dd<=20->dL k dd<=f->i+(kG d x wr).length<ts.length->(∀q:Int,(k:Int)<=q->q<=5->jy ts q (i+(kG d x wr).length)=0)->SB x (i+(kG d x wr).length) (bX ts f k dd i)
abbrev QQ (ts:List Tk) (d:Nat):Prop:=∀{x:Ex} (k dd i f:Nat),cE d x=true->x.k=5->(k:Int)=bE x->At ts i (kG d x false)->dd<=20->dL k dd<=f+1->i+(kG d x false).length<ts.length->(∀q:Int,(k:Int)<q->q<=5->jy ts q (i+(kG d x false).length)=0)->
 (∃x' g,ts.length-(i+(kG d x false).length)<=g/\bX ts (f+1) k dd i=fC ts (bX ts f (k+1) dd) k g x' (i+(kG d x false).length)/\Sim x x')∨∃a,bX ts (f+1) k dd i=.error (21,a)
theorem xV (x:Ex):x=.mk x.k x.n x.s x.op x.cX x.a:=by cases x;rfl
section
variable {ts:List Tk} {d:Nat}
theorem H0 (hP:PP ts d) (hQ:QQ ts d):QQ ts (d+1):=by
 intro x k dd i f tJ uG FV bN NI hf bp h0;rw[cE,ab]at tJ;obtain⟨hh,ha⟩:=tJ;obtain⟨_,y,z,hy,S0,Jy⟩:=sP hh (by omega) (by omega) (by omega) (by omega);have hnx:x.n=0/\x.s=[]:=by
  rw[gu,if_neg (by omega),if_neg (by omega),if_neg (by omega),if_pos uG,ab]at hh;have:=sO hh.2;exact⟨this.1,this.2.1⟩
 have hlx:bE x=eW x.op:=by rw[bE,if_pos uG]
 obtain⟨r0,r5⟩:=HY S0 Jy;have e2:kG (d+1) x false=(kG d y (decide (bE y<bE x))++(4,de x.op.toNat,0)::kG d z (decide (bE z<=bE x))):=by
  rw[kG,if_neg (by omega),if_neg (by omega),if_neg (by omega),if_neg (by omega),hy];simp[opk,clk]
 rw[e2]at bN bp h0⊢;rw[hy]at ha;simp only[jA,dk,ab]at ha;have WB:=bN.left;have adf:=bN.right;have ajh:=adf.tail;obtain⟨t1,t2,_⟩:=adf.head;rw[ah,ao]at bp h0⊢;generalize FL:i+(kG d y (decide (bE y<bE x))).length=j1 at*
 have hjz:i+((kG d y (decide (bE y<bE x))).length+((kG d z (decide (bE z<=bE x))).length+1))=j1+1+(kG d z (decide (bE z<=bE x))).length:=by omega
 rw[hjz]at bp h0⊢;generalize OC:j1+1+(kG d z (decide (bE z<=bE x))).length=j2 at*
 have rV:∀q:Int,jy ts q j1=if eW x.op=q then x.op else 0:=fun q=>by
  have:=aax (ts:=ts) (i:=j1) (op:=x.op.toNat) (by omega) (by omega) t1 t2 q;rwa[dT (by omega)]at this
 have hex:x=.mk 5 0 [] x.op [y,z] x.a:=by
  have:=xV x;rw[uG,hnx.1,hnx.2,hy]at this;exact this
 have Iv:dL (k+1) dd<=f:=by unfold dL at hf⊢;omega
 have adg:(∃y' g,ts.length-j1<=g/\bX ts (f+1) k dd i=fC ts (bX ts f (k+1) dd) k g y' j1/\Sim y y')∨∃a,bX ts (f+1) k dd i=.error (21,a):=by
  by_cases hB:bE y=bE x
  ·have hwr:decide (bE y<bE x)=false:=aK (by omega);have hy5:y.k=5:=by
    refine aP fun hn=>?_;have:bE y=6:=by rw[bE,if_neg hn]
    omega
   rw[hwr]at WB FL;have:=hQ (x:=y) k dd i f ha.1 hy5 (by rw[hB];exact FV) WB NI hf (by omega) (fun q h1 h2=>by rw[FL,rV,if_neg (by omega)]);rw[FL]at this;exact this
  ·have:=hP (x:=y) (decide (bE y<bE x)) (k+1) dd i f ha.1 WB (by omega) (fun hw=>by have:=ar hw;omega) NI Iv (by omega) (fun q h1 h2=>by rw[FL,rV,if_neg (by omega)]);rw[FL]at this;rw[bX,if_neg (by omega)];rcases this with⟨y',h1,h2⟩ | ⟨a,h1⟩
   ·exact .inl ⟨y',ts.length-j1,aq _,by rw[h1];rfl,h2⟩
   ·exact .inr ⟨a,by rw[h1];rfl⟩
 refine adg.elim (fun⟨y',g,hg,h1,h2⟩=>?_) .inr;obtain⟨g,rfl⟩:∃m,g=m+1:=⟨g-1,by omega⟩
 have oB:jy ts (k:Int) j1=x.op:=by rw[rV,if_pos (by omega)]
 have hz:=hP (x:=z) (decide (bE z<=bE x)) (k+1) dd (j1+1) f ha.2 ajh (by omega) (fun hw=>by have:=ar hw;omega) NI Iv (by omega) (fun q h1 h2=>by rw[OC];exact h0 q (by omega) h2);rw[OC]at hz;rw[h1,fC,oB,if_neg (by omega)];rcases hz with⟨z',h3,h4⟩ | ⟨a,h3⟩
 ·refine .inl ⟨.mk 5 0 [] x.op [y',z'] y'.a,g,by omega,by rw[h3];rfl,?_⟩;rw[hex];exact .two _ _ _ _ _ _ _ _ _ _ h2 h4
 ·exact .inr ⟨a,by rw[h3];rfl⟩
theorem Qy (hP:PP ts d) (hQ:QQ ts d):PP ts (d+1):=by
 have plain:∀{x:Ex} (k dd i f:Nat),cE (d+1) x=true->At ts i (kG (d+1) x false)->k<=6->(k:Int)<=bE x->dd<=20->dL k dd<=f->i+(kG (d+1) x false).length<ts.length->(∀q:Int,(k:Int)<=q->q<=5->jy ts q (i+(kG (d+1) x false).length)=0)->SB x (i+(kG (d+1) x false).length) (bX ts f k dd i):=by
  intro x k dd i f tJ bN hk6 FV NI hf bp h0;have aji:=tJ;rw[cE,ab]at tJ;obtain⟨hh,ha⟩:=tJ;by_cases uG:x.k=5
  ·obtain⟨_,y,z,hy,S0,Jy⟩:=sP hh (by omega) (by omega) (by omega) (by omega);have hlx:bE x=eW x.op:=by rw[bE,if_pos uG]
   obtain⟨r0,r5⟩:=HY S0 Jy;obtain⟨k0,fQ⟩:∃k0:Nat,(k0:Int)=bE x:=⟨(bE x).toNat,by omega⟩
   refine SB.down (k0:=k0) ?_ (by unfold dL at hf;omega) (by omega) (by omega) fun q h1 h2=>h0 q h1 (by omega);obtain⟨f',hf'⟩:∃m,f-(k0-k)=m+1:=⟨f-(k0-k)-1,by unfold dL at hf;omega⟩
   rw[hf'];rcases H0 hP hQ k0 dd i f' aji uG fQ bN NI (by unfold dL at hf⊢;omega) bp (fun q h1 h2=>h0 q (by omega) h2)with⟨x',g,hg,h1,h2⟩ | h
   ·exact .inl ⟨x',by rw[h1];exact MP (h0 _ (by omega) (by omega)) _,h2⟩
   ·exact .inr h
  ·have hlx:bE x=6:=by rw[bE,if_neg uG]
   refine SB.down (k0:=6) ?_ (by unfold dL at hf;omega) (by omega) (by omega) fun q h1 h2=>h0 q h1 (by omega);obtain⟨f',hf'⟩:∃m,f-(6-k)=m+1:=⟨f-(6-k)-1,by unfold dL at hf;omega⟩
   have Iv:(20-dd)*8<=f':=by unfold dL at hf;omega
   rw[hf',bX,if_pos rfl];unfold lh;by_cases k1:x.k=1
   ·have e2:kG (d+1) x false=[(3,[],x.n)]:=by rw[kG,if_pos k1];rfl
    rw[e2]at bN⊢;obtain⟨t1,t2,t3⟩:=bN.head;dsimp only at t1 t2 t3;rw[yK t2 (by decide),yK t2 (by decide),yK t2 (by decide),if_neg (by decide),if_neg (by decide),if_pos t1,t3];refine .inl ⟨_,rfl,?_⟩;rw[gu,if_pos k1]at hh;obtain⟨_,b2,b3,b4⟩:=sO hh;have hs:x.cX=[]:=aW (by omega);have:=xV x;rw[k1,b2,b3,hs]at this;rw[this];exact .leaf ..
   by_cases k2:x.k=2
   ·have e2:kG (d+1) x false=[(1,x.s,0)]:=by rw[kG,if_neg k1,if_pos k2];rfl
    rw[e2]at bN⊢;obtain⟨t1,t2,t3⟩:=bN.head;dsimp only at t1 t2 t3;have OZ:∀s,sg ts i s=false:=fun s=>by unfold sg;rw[t1];rfl
    rw[OZ,OZ,OZ,if_neg (by decide),if_neg (by decide),if_neg (by rw[t1];decide),if_pos t1,t2];refine .inl ⟨_,rfl,?_⟩;rw[gu,if_neg k1,if_pos (.inl k2),ab]at hh;obtain⟨b1,b2,b3,b4⟩:=sO hh.2;have hs:x.cX=[]:=aW (by omega);have:=xV x;rw[k2,b1,b3,hs]at this;rw[this];exact .leaf ..
   by_cases Kf:x.k=3
   ·have e2:kG (d+1) x false=[(2,[105,110],0),(4,[40],0),(1,x.s,0),(4,[41],0)]:=by rw[kG,if_neg k1,if_neg k2,if_pos Kf];rfl
    rw[e2]at bN⊢;obtain⟨t1,t2,t3⟩:=bN.head;obtain⟨u1,u2,u3⟩:=bN.tail.head;obtain⟨v1,v2,v3⟩:=bN.tail.tail.head;obtain⟨p1,p2,p3⟩:=bN.tail.tail.tail.head;dsimp only at t1 t2 t3 u1 u2 u3 v1 v2 v3 p1 p2 p3;have OZ:∀s,sg ts i s=false:=fun s=>by unfold sg;rw[t1];rfl
    rw[OZ,OZ,OZ,if_neg (by decide),if_neg (by decide),if_neg (by rw[t1];decide),if_neg (by rw[t1];decide),if_pos ⟨t1,t2⟩];unfold BF;rw[if_pos (xT ⟨u1,u2⟩),if_pos v1,if_pos (xT ⟨p1,p2⟩)];refine .inl ⟨_,rfl,?_⟩;rw[gu,if_neg k1,if_pos (.inr Kf),ab]at hh;obtain⟨b1,b2,b3,b4⟩:=sO hh.2;have hs:x.cX=[]:=aW (by omega);have:=xV x;rw[Kf,b1,b3,hs]at this;have v2:(tk ts (i+2)).t=x.s:=v2;rw[v2,this];exact .leaf ..
   have k4:x.k=4:=aP fun k4=>uG (sP hh k1 k2 Kf k4).1;obtain⟨y,hy,ho⟩:=xp hh k4;have e2:kG (d+1) x false=(4,de x.op.toNat,0)::kG d y (decide (bE y<6)):=by
    rw[kG,if_neg k1,if_neg k2,if_neg Kf,if_pos k4,hy];simp[opk,clk]
   rw[e2]at bN bp⊢;rw[hy]at ha;simp only[jA,dk]at ha;obtain⟨t1,t2,t3⟩:=bN.head;dsimp only at t1 t2 t3;have hor:(sg ts i [45]||sg ts i [33])=true:=by
    rcases ho with ho | ho
    ·have:sg ts i [45]=true:=xT ⟨t1,by rw[t2,ho];rfl⟩;rw[this,Bool.true_or]
    ·have:sg ts i [33]=true:=xT ⟨t1,by rw[t2,ho];rfl⟩;rw[this,mh]
   rw[if_pos hor];by_cases Bx:dd=20
   ·exact .inr ⟨(tk ts i).a,by rw[fL,if_pos Bx];rfl⟩
   rw[fL,if_neg Bx];rw[ao]at bp⊢;have hj:i+((kG d y (decide (bE y<6))).length+1)=i+1+(kG d y (decide (bE y<6))).length:=by omega
   rw[hj]at bp⊢;have hy6:bE y<=6:=by
    unfold bE eW;split
    ·split
     ·omega
     split
     ·omega
     split
     ·omega
     split
     ·omega
     split
     ·omega
     split
     ·omega
     ·omega
    ·omega
   rcases hP (x:=y) (decide (bE y<6)) 6 (dd+1) (i+1) f' ha bN.tail (aq _) (fun hw=>by have:=ar hw;omega) (by omega) (by unfold dL;omega) bp (fun q h1 h2=>by omega)with⟨y',h1,h2⟩ | ⟨a,h1⟩
   ·refine .inl ⟨_,by rw[h1];rfl,?_⟩;rw[gu,if_neg k1,if_neg (by omega),if_pos k4]at hh;obtain⟨b1,b2,b3,b4⟩:=sO hh;have rV:(if(tk ts i).t=[33]then(15:Int)else 14)=x.op:=by
     rcases ho with ho | ho
     ·rw[t2,ho];rfl
     ·rw[t2,ho];rfl
    have:=xV x;rw[k4,b1,b2,hy]at this;rw[rV,this];exact .one _ _ _ _ _ _ _ _ h2
   ·exact .inr ⟨a,by rw[h1];rfl⟩
 intro x wr k dd i f tJ bN hk6 FV NI hf bp h0;cases wr with
 | false=>exact plain k dd i f tJ bN hk6 (FV rfl) NI hf bp h0
 | true=>
  have e2:kG (d+1) x true=(4,[40],0)::(kG (d+1) x false++[(4,[41],0)]):=by
   unfold kG;simp[opk,clk]
  refine SB.down (k0:=6) ?_ (by unfold dL at hf;omega) (by omega) (by omega) fun q h1 h2=>h0 q h1 (by omega);rw[e2]at bN bp⊢;obtain⟨f',hf'⟩:∃m,f-(6-k)=m+1:=⟨f-(6-k)-1,by unfold dL at hf;omega⟩
  have Iv:(20-dd)*8<=f':=by unfold dL at hf;omega
  obtain⟨t1,t2,t3⟩:=bN.head;have Ts:=bN.tail.left;obtain⟨p1,p2,p3⟩:=bN.tail.right.head;dsimp only at t1 t2 t3 p1 p2 p3;rw[hf',bX,if_pos rfl];unfold lh;rw[yK t2 (by decide),yK t2 (by decide),xT ⟨t1,t2⟩,if_neg (by decide),if_pos rfl];by_cases Bx:dd=20
  ·exact .inr ⟨(tk ts i).a,by rw[fL,if_pos Bx]⟩
  rw[fL,if_neg Bx];rw[ao,ah,aL]at bp⊢;have hj:i+((kG (d+1) x false).length+1+1)=i+1+(kG (d+1) x false).length+1:=by omega
  rw[hj]at bp⊢;have ajj:0<=bE x:=by
   unfold bE eW;split
   ·split
    ·omega
    split
    ·omega
    split
    ·omega
    split
    ·omega
    split
    ·omega
    split
    ·omega
    ·omega
   ·omega
  rcases plain 0 (dd+1) (i+1) f' tJ Ts (by omega) (by omega) (by omega) (by unfold dL;omega) (by omega) (fun q h1 h2=>Sy p2 (by decide) q)with⟨x',h1,h2⟩ | ⟨a,h1⟩
  ·refine .inl ⟨x',?_,h2⟩;rw[h1];simp only[oO];rw[if_pos (xT ⟨p1,p2⟩)]
  ·exact .inr ⟨a,by rw[h1];rfl⟩
theorem DB (ts:List Tk):∀d,PP ts d/\QQ ts d
 | 0=>⟨(by intro x wr k dd i f h;cases h),(by intro x k dd i f h;cases h)⟩
 | d+1=>⟨Qy (DB ts d).1 (DB ts d).2,H0 (DB ts d).1 (DB ts d).2⟩
end
theorem M0 {d:Nat} {x:Ex} (hs:cE d x=true) (hn:lM d x) (hr:(iA (mX d x false [])).2.1=0):(mX d x false []).length<=16384/\Sim x (iA (mX d x false [])).1:=by
 have dN:(mX d x false []).length<=16384:=by
  refine aP fun hc=>?_;unfold iA at hr;have:bU (mX d x false [])=([],2, -1):=by rw[bU,if_pos (by omega)]
  rw[this,if_pos (by decide)]at hr;exact absurd hr (show ¬(2:Int)=0 by decide)
 refine⟨dN,?_⟩;have S9:=Dy d false [] hs dN;rw[aV]at S9;rw[S9]at hr dN⊢;generalize hL:mQ d x false=L at*
 have Og:iL L (0+L.length)=.ok [⟨5,[],0,((L.length:Nat):Int)⟩]:=by
  have hd:L.drop L.length=[]:=du (aq _);have h5:iG false []=0:=rfl;rw[aJ,ir (aq _),hd,h5,if_pos (by omega)];rfl
 obtain⟨us,h1,h2⟩:=qI (l:=L) d (x:=x) false 0 (r:=[]) hs hn (aF _) (by rw[eL,aN,hL]) (fun c hc=>by cases hc) (by rw[hL];exact Og);generalize hts:us++[(⟨5,[],0,((L.length:Nat):Int)⟩:Tk)]=ts at*
 have t1:bU L=(ts,0,0):=by
  rw[bU,if_neg (by omega),h1]
 have Xp:us.length=(kG d x false).length:=by rw[<-h2,aQ]
 have Ih:ts.length=us.length+1:=by rw[<-hts,ah,aL]
 have bN:At ts 0 (kG d x false):=fun j q hj=>by
  rw[<-h2,bD,cY]at hj;obtain⟨t,g1,rfl⟩:=hj;have:tk ts (0+j)=t:=by
   unfold tk;rw[<-hts,aJ,aR (au.1 g1).1,g1];rfl
  rw[this]
 have hke:(tk ts us.length).k=5:=by
  unfold tk;rw[<-hts,bh (aq _),qn];rfl
 have ajj:0<=bE x:=by
  unfold bE eW;split
  ·split
   ·omega
   split
   ·omega
   split
   ·omega
   split
   ·omega
   split
   ·omega
   split
   ·omega
   ·omega
  ·omega
 have hP:=(DB ts d).1 (x:=x) false 0 0 0 (dL 0 0) hs bN (by decide) (fun _=>by omega) (by decide) (aq _) (by omega) (fun q _ _=>MR (by rw[aJ,<-Xp];exact hke) q);have hpr:pC ts 0=bX ts (dL 0 0) 0 0 0:=rfl;rw[<-hpr]at hP;have hrd:iA L=if(bM ts 0).2.2.1≠0 then(rG,(bM ts 0).2.2.1,(bM ts 0).2.2.2)else if(tk ts (bM ts 0).2.1.toNat).k≠5 then(rG,4,(tk ts (bM ts 0).2.1.toNat).a)else((bM ts 0).1,0,(bM ts 0).2.2.2):=by
  unfold iA;rw[t1];rfl
 rw[hrd]at hr⊢;have S1:bM ts 0=if 0<ts.length/\ja ts+1=ts.length then(match pC ts 0 with
  | .error (c,p)=>(rG,0,c,p)
  | .ok (x,j)=>(x,(j:Int),0,0))else(rG,0,1, -1):=by
  unfold bM;by_cases hc:0<ts.length/\ja ts+1=ts.length
  ·rw[if_pos hc,if_pos ⟨jQ _,by omega,hc.2⟩];rfl
  ·rw[if_neg hc,if_neg (fun hh=>hc ⟨by omega,hh.2.2⟩)]
 rw[S1]at hr⊢;have hc:0<ts.length/\ja ts+1=ts.length:=aP fun hc=>by
  rw[if_neg hc,if_pos (by decide)]at hr;exact absurd hr (show ¬(1:Int)=0 by decide)
 rw[if_pos hc]at hr⊢;rcases hP with⟨x',g1,g2⟩ | ⟨a,g1⟩
 ·rw[g1]at hr⊢;dsimp only at hr⊢;rw[if_neg (by decide),az,aJ,<-Xp,hke,if_neg (by decide)];exact g2
 ·rw[g1]at hr;dsimp only at hr;rw[if_pos (by decide)]at hr;exact absurd hr (show ¬(21:Int)=0 by decide)
structure Em (ts iE:List Tk) (n o:Nat):Prop where
 e:∀i,n<=i->(tk ts i).k=5
 s:∀i,i<n->(tk iE (o+i)).k=(tk ts i).k/\(tk iE (o+i)).t=(tk ts i).t/\(tk iE (o+i)).n=(tk ts i).n
 c:(tk iE (o+n)).k=4/\((tk iE (o+n)).t=[59]∨(tk iE (o+n)).t=[93])
def Rm (n o:Nat) (r r':Pr):Prop:=∀x j,r=.ok (x,j)->∃x',r'=.ok (x',o+j)/\Sim x x'/\j<=n
theorem DC (op:Nat):de op≠[59]/\de op≠[93]:=by
 rcases me op 16 with h | h
 ·have:∀q,q<16->de q≠[59]/\de q≠[93]:=by decide
  exact this op h
 ·unfold de;rw[bZ (by exact h)];decide
section
variable {ts iE:List Tk} {n o:Nat}
theorem Em.lt (h:Em ts iE n o) {i:Nat} (hk:(tk ts i).k≠5):i<n:=aP fun hn=>hk (h.e i (by omega))
theorem Em.FI (h:Em ts iE n o) {i:Nat} (hi:i<n) (s:List UInt8):sg iE (o+i) s=sg ts i s:=by
 unfold sg;obtain⟨h1,h2,_⟩:=h.s i hi;rw[h1,h2]
theorem Em.sgn (h:Em ts iE n o) {i:Nat} (hi:i<=n) {s:List UInt8} (h1:s≠[59]) (h2:s≠[93]):sg iE (o+i) s=sg ts i s:=by
 rcases me i n with hl | hl
 ·exact h.FI hl s
 ·have:i=n:=by omega
  subst this;unfold sg;rw[h.e i (aq _)];have:decide ((tk iE (o+i)).t=s)=false:=aK fun e=>by
   rcases h.c.2 with c | c
   ·exact h1 (by rw[<-e,c])
   ·exact h2 (by rw[<-e,c])
  rw[this,re];rfl
theorem Em.opf (h:Em ts iE n o) {i:Nat} (hi:i<=n) (k:Int):∀(f op:Nat),gD iE k (o+i) f op=gD ts k i f op
 | 0,_=>rfl
 | f+1,op=>by rw[gD,gD,h.sgn hi (DC op).1 (DC op).2,h.opf hi k f]
theorem Em.op (h:Em ts iE n o) {i:Nat} (hi:i<=n) (k:Int):jy iE k (o+i)=jy ts k i:=h.opf hi k 13 1
theorem Rm.map {r r':Pr} (h:Rm n o r r') {g g':Ex->Ex} (hg:∀x x',Sim x x'->Sim (g x) (g' x')):Rm n o (CH g r) (CH g' r'):=by
 intro x j hx;obtain⟨y,h1,rfl⟩:=vT hx;obtain⟨x',h2,h3,h4⟩:=h y j h1;exact⟨g' x',by rw[h2];rfl,hg _ _ h3,h4⟩
theorem Rm.and {r r':Pr} {f f':Ex->Nat->Pr} (h:Rm n o r r') (hf:∀x x' j,r=.ok (x,j)->j<=n->Sim x x'->Rm n o (f x j) (f' x' (o+j))):Rm n o (vq r f) (vq r' f'):=by
 intro x j hx;obtain⟨y,m,h1,h5⟩:=qA hx;obtain⟨x',h2,h3,h4⟩:=h y m h1;rw[h2];exact hf y x' m h1 h4 h3 x j h5
theorem Rm.nest {r r':Pr} {d:Nat} {a a':Int} (h:Rm n o r r'):Rm n o (fL d a r) (fL d a' r'):=by
 intro x j hx;obtain⟨h1,h2⟩:=nE hx;have:d≠20:=fun e=>by rw[fL,if_pos e]at hx;cases hx
 rw[fL,if_neg this];exact h x j h1
theorem Rm.QP (hw:Em ts iE n o) {r r':Pr} (h:Rm n o r r'):Rm n o (oO ts r) (oO iE r'):=by
 intro x j hx;obtain⟨j',h1,h2,rfl⟩:=vU hx;obtain⟨x',h3,h4,h5⟩:=h x j' h1;have hl:=hw.lt (ug h2);exact⟨x',by rw[h3];simp only[oO];rw[if_pos (by rw[hw.FI hl];exact h2)];rfl,h4,hl⟩
theorem Rm.err {e:Int×Int} {r':Pr}:Rm n o (.error e) r':=fun x j hx=>by cases hx
theorem Rm.in_ (hw:Em ts iE n o) (i:Nat):Rm n o (BF ts i) (BF iE (o+i)):=by
 intro x j hx;have Tg:=hx;obtain⟨rfl,rfl⟩:=EX Tg;unfold BF at hx;split at hx
 ·rename_i h1;split at hx
  ·rename_i h2;split at hx
   ·rename_i h3;have hl:=hw.lt (ug h3);have e1:(tk iE (o+i+2)).k=(tk ts (i+2)).k/\(tk iE (o+i+2)).t=(tk ts (i+2)).t/\(tk iE (o+i+2)).n=(tk ts (i+2)).n:=hw.s (i+2) (by omega);refine⟨.mk 3 0 (tk iE (o+i+2)).t 0 [] (tk iE (o+i)).a,?_,?_,hl⟩
    ·unfold BF;rw[if_pos (show sg iE (o+i+1) [40]=true from(hw.FI (i:=i+1) (by omega) _).trans h1),if_pos (by rw[e1.1];exact h2),if_pos (show sg iE (o+i+3) [41]=true from(hw.FI (i:=i+3) hl _).trans h3)];rfl
    ·rw[e1.2.1];exact .leaf ..
   ·cases hx
  ·cases hx
 ·cases hx
theorem Rm.one (hw:Em ts iE n o) {E0 One E0' Oe:Nat->Pr} {d i:Nat} (hE:∀i,i<=n->Rm n o (E0 i) (E0' (o+i))) (hO:∀i,i<=n->Rm n o (One i) (Oe (o+i))) (hi:i<=n):Rm n o (lh ts E0 One d i) (lh iE E0' Oe d (o+i)):=by
 by_cases Ts:i=n
 ·subst Ts;have h5:=hw.e i (aq _);have hs:∀s,sg ts i s=false:=fun s=>by
   unfold sg;rw[h5];rfl
  have:lh ts E0 One d i=.error (fj ts i):=by
   unfold lh;rw[hs,hs,hs,if_neg (by decide),if_neg (by decide),if_neg (by rw[h5];decide),if_neg (by rw[h5];decide),if_neg (by rw[h5];rintro⟨h,_⟩;exact absurd h (by decide))]
  rw[this];exact Rm.err
 ·have hl:i<n:=by omega
  obtain⟨k1,k2,k3⟩:=hw.s i hl;unfold lh;rw[hw.FI hl,hw.FI hl,hw.FI hl,k1,k2,k3];split
  ·exact Rm.map (Rm.nest (hO (i+1) hl)) fun x x' hx=>.one _ _ _ _ _ _ _ _ hx
  ·split
   ·exact Rm.nest (Rm.QP hw (hE (i+1) hl))
   ·split
    ·intro x j hx;simp only[cB,cr]at hx;obtain⟨rfl,rfl⟩:=hx;exact⟨_,rfl,.leaf ..,hl⟩
    ·split
     ·intro x j hx;simp only[cB,cr]at hx;obtain⟨rfl,rfl⟩:=hx;exact⟨_,rfl,.leaf ..,hl⟩
     ·split
      ·exact Rm.in_ hw i
      ·exact Rm.err
theorem Rm.loop (hw:Em ts iE n o) {E E':Nat->Pr} {k:Int} (hm:∀i x j,E i=.ok (x,j)->i<j) (hE:∀i,i<=n->Rm n o (E i) (E' (o+i))):∀(g g':Nat) (x x':Ex) (j:Nat),j<=n->n-j<g->n-j<g'->Sim x x'->Rm n o (fC ts E k g x j) (fC iE E' k g' x' (o+j))
 | 0,_,_,_,j,_,h,_,_=>by omega
 | _,0,_,_,j,_,_,h,_=>by omega
 | g+1,g'+1,x,x',j,hj,h1,h2,hs=>by
  rw[fC,fC,hw.op hj];split
  ·intro y m hy;simp only[cB,cr]at hy;obtain⟨rfl,rfl⟩:=hy;exact⟨_,rfl,hs,hj⟩
  ·rename_i h0;have hl:=hw.lt (lu _ _ h0);refine Rm.and (hE (j+1) hl) fun y y' m hy hmn zL=>?_;have:=hm _ _ _ hy;exact Rm.loop hw hm hE g g' _ _ m hmn (by omega) (by omega) (.two _ _ _ _ _ _ _ _ _ _ hs zL)
theorem Rm.expr (hw:Em ts iE n o) (hl:ts.length=n+1) (Wy:o+n<iE.length):∀(f k d i:Nat),i<=n->Rm n o (bX ts f k d i) (bX iE f k d (o+i))
 | 0,k,d,i,_=>Rm.err
 | f+1,k,d,i,hi=>by
  rw[bX,bX];split
  ·exact Rm.one hw (fun i hi=>Rm.expr hw hl Wy f 0 (d+1) i hi) (fun i hi=>Rm.expr hw hl Wy f 6 (d+1) i hi) hi
  ·have hR:∀i,i<=n->Rm n o (bX ts f (k+1) d i) (bX iE f (k+1) d (o+i)):=fun i hi=>Rm.expr hw hl Wy f (k+1) d i hi;refine Rm.and (hR i hi) fun x x' j hx hj hs=>?_;exact Rm.loop hw (fun i x j h=>ia _ _ _ _ h) hR _ _ _ _ _ hj (by omega) (by omega) hs
end
theorem Sim.trans {x y:Ex} (h:Sim x y):∀{z:Ex},Sim y z->Sim x z:=by
 induction h with
 | leaf k n s op a b=>intro z hz;cases hz;exact .leaf ..
 | one k n s op a b x y h ih=>intro z hz;cases hz with | one _ _ _ _ _ c _ z h2=>exact .one _ _ _ _ _ _ _ _ (ih h2)
 | two k n s op a b x y x' y' h1 h2 i1 i2=>intro z hz;cases hz with | two _ _ _ _ _ c _ _ z1 z2 k1 k2=>exact .two _ _ _ _ _ _ _ _ _ _ (i1 k1) (i2 k2)
def Pk (E:List UInt8->Prop) (p:List UInt8) (ks:List K3):Prop:=∀(l:List UInt8) (i:Nat) (r:List UInt8) (ts:List Tk),i<=l.length->l.drop i=p++r->E r->iL l (i+p.length)=.ok ts->∃us,iL l i=.ok (us++ts)/\us.map k3=ks
abbrev Tr:List UInt8->Prop:=fun _=>True
def JV (q:List UInt8):Prop:=∃c t,q=c::t/\MY c=true
section
variable {E E':List UInt8->Prop} {p q:List UInt8} {a b:List K3}
theorem Pk.nil (E:List UInt8->Prop):Pk E [] []:=fun _ _ _ ts _ _ _ h=>⟨[],h,rfl⟩
theorem Pk.glue (h:Pk E p a) (k:Pk E' q b) (he:∀r,E' r->E (q++r)):Pk E' (p++q) (a++b):=by
 intro l i r ts hi hd hr ht;rw[av]at hd;obtain⟨us,h1,h2⟩:=k _ _ _ _ (uY hi hd) (gx hd) hr (by rw[cb,<-ah];exact ht);obtain⟨vs,h3,h4⟩:=h _ _ _ _ hi hd (he r hr) h1;exact⟨vs++us,by rw[av];exact h3,by rw[cq,h2,h4]⟩
theorem Pk.t (h:Pk Tr p a) (k:Pk E q b):Pk E (p++q) (a++b):=h.glue k fun _ _=>trivial
theorem JV.oT (h:JV q) (r:List UInt8):oS (q++r):=by
 obtain⟨c,t,rfl,hc⟩:=h;intro d hd;rw[bc,gA,ai]at hd;subst hd;exact hc
theorem Pk.e (h:Pk oS p a) (k:Pk E q b) (hq:JV q):Pk E (p++q) (a++b):=h.glue k fun r _=>hq.oT r
theorem Pk.up (h:Pk Tr p a):Pk E p a:=fun l i r ts hi hd _ ht=>h l i r ts hi hd trivial ht
theorem M1 {c:UInt8} (hc:mJ c=true):Pk Tr [c] []:=by
 intro l i r ts hi hd _ ht;refine⟨[],?_,rfl⟩;have Xi:l.drop i=c::r:=hd;have i1:i+1<=l.length:=uY hi hd;have d1:l.drop (i+1)=r:=gx hd;have e:iG false (c::r)=1+iG false r:=by rw[iG,if_pos hc]
 rw[nD hi,Xi,e,<-cb];rw[aL,nD i1,d1]at ht;exact ht
theorem Pk.sp (h:Pk E q b):Pk E (32::q) b:=(M1 (c:=32) (by decide)).t h
theorem Pk.nl (h:Pk Tr p a):Pk Tr (p++[10]) a:=by
 have:=h.t (M1 (c:=10) (by decide));rwa[aN]at this
theorem uy {k:Int} {t:List UInt8} {n:Int} (hp:p≠[]) (h:∀r,E r->iG false (p++r)=0/\j8 (p++r)=.ok (k,t,n,p.length)):Pk E p [(k,t,n)]:=fun l i r ts hi hd hr ht=>
 ⟨[⟨k,t,n,(i:Nat)⟩],pW hd hp (h r hr).1 (h r hr).2 ht,rfl⟩
theorem agw {c:UInt8} (h0:eu c=false) (h1:cy c=false) (h2:[60,62,61,33].contains c=false) (h3:[38,124].contains c=false) (h4:(c==45)=false) (h5:rF.contains c=true) (r:List UInt8):j8 (c::r)=.ok (4,[c],0,1):=by
 have hs:xb (c::r)=false:=by
  cases r with
  | nil=>rfl
  | cons d r=>
   show((d==61&&[60,62,61,33].contains c)||(d==c&&[38,124].contains c)||(c==45&&d==62))=false;rw[h2,h3,h4];simp
 exact jF h0 h1 h5 hs
def fk (c:UInt8):K3:=(4,[c],0)
def UN:K3:=(4,[45,62],0)
theorem Pk.one (c:UInt8) (h0:eu c=false) (h1:cy c=false) (h2:[60,62,61,33].contains c=false) (h3:[38,124].contains c=false) (h4:(c==45)=false) (h5:rF.contains c=true) (h6:mJ c=false) (h7:(c==47)=false) (h:Pk E q b):Pk E (c::q) (fk c::b):=
 (uy (p:=[c]) (E:=Tr) (by simp) fun r _=>⟨Ei h6 h7,agw h0 h1 h2 h3 h4 h5 r⟩).t h
theorem Pk.lb (h:Pk E q b):Pk E (123::q) (fk 123::b):=h.one 123 (by decide) (by decide) (by decide) (by decide) (by decide) (by decide) (by decide) (by decide)
theorem Pk.rb (h:Pk E q b):Pk E (125::q) (fk 125::b):=h.one 125 (by decide) (by decide) (by decide) (by decide) (by decide) (by decide) (by decide) (by decide)
theorem Pk.lk (h:Pk E q b):Pk E (91::q) (fk 91::b):=h.one 91 (by decide) (by decide) (by decide) (by decide) (by decide) (by decide) (by decide) (by decide)
theorem Pk.rk (h:Pk E q b):Pk E (93::q) (fk 93::b):=h.one 93 (by decide) (by decide) (by decide) (by decide) (by decide) (by decide) (by decide) (by decide)
theorem Pk.sc (h:Pk E q b):Pk E (59::q) (fk 59::b):=h.one 59 (by decide) (by decide) (by decide) (by decide) (by decide) (by decide) (by decide) (by decide)
theorem Pk.cm (h:Pk E q b):Pk E (44::q) (fk 44::b):=h.one 44 (by decide) (by decide) (by decide) (by decide) (by decide) (by decide) (by decide) (by decide)
theorem Pk.eq (h:Pk E q b) (hq:JV q):Pk E (61::q) (fk 61::b):=
 (uy (p:=[61]) (E:=oS) (by simp) fun r hr=>⟨Ei (by decide) (by decide),jF (by decide) (by decide) (by decide) (ii (by decide) hr.soft)⟩).e h hq
theorem Pk.to (h:Pk E q b):Pk E (45::62::q) (UN::b):=
 (uy (p:=[45,62]) (E:=Tr) (by simp) fun r _=>⟨Ei (by decide) (by decide),rfl⟩).t h
theorem rO:JV (59::q):=⟨59,q,rfl,rfl⟩
theorem fu:JV (32::q):=⟨32,q,rfl,rfl⟩
theorem UO:JV (93::q):=⟨93,q,rfl,rfl⟩
theorem UQ:JV (44::q):=⟨44,q,rfl,rfl⟩
theorem H2 {s:List UInt8} (h1:s≠[]) (h2:s.length<=24) (h3:∃c t,s=c::t/\eu c=true) (h4:∀c,c∈s->dU c=true):Pk oS s [(if kP.contains s then 2 else 1,s,0)]:=by
 obtain⟨c,t,rfl,hc⟩:=h3;refine uy h1 fun r hr=>⟨?_,?_⟩
 ·have:=iQ (c:=c) (by unfold jd;rw[hc];simp);exact Ei this.1 this.2.1
 ·have e:j8 (c::t++r)=if eu c then kE (c::t++r)else if cy c then pz (c::t++r)else lJ (c::t++r):=rfl
  rw[e,hc,if_pos rfl];unfold kE;rw[hr.word _ h4,if_neg (by omega)]
theorem jG {s:List UInt8} (hn:cN s=true):Pk oS s [(1,s,0)]:=by
 unfold cN at hn;simp only[ab]at hn;obtain⟨⟨⟨h1,h2⟩,h3⟩,h4⟩:=hn;obtain⟨h1,h5⟩:=aj h1;have h3:=aj h3;have h4:kP.contains s=false:=by simpa using h4
 have:=H2 h1 h5 (by
  cases s with
  | nil=>exact absurd rfl h1
  | cons c t=>exact⟨c,t,rfl,h2⟩) (fun c hc=>by rw[<-h3]at hc;exact uf c hc)
 rw[h4]at this;exact this
theorem lW {s:List UInt8} (h:(decide (s≠[]/\s.length<=24)&&(match s with | c::_=>eu c | []=>false)&&s.all dU&&kP.contains s)=true):Pk oS s [(2,s,0)]:=by
 simp only[ab]at h;obtain⟨⟨⟨h1,h2⟩,h3⟩,h4⟩:=h;obtain⟨h1,h5⟩:=aj h1;have:=H2 h1 h5 (by
  cases s with
  | nil=>exact absurd rfl h1
  | cons c t=>exact⟨c,t,rfl,h2⟩) (fun c hc=>(cJ.1 h3) c hc)
 rw[h4]at this;exact this
theorem FB {n:Int} (h0:0<=n) (h1:n<=9223372036854775807):Pk oS (Lib.itoa n) [(3,[],n)]:=by
 have eI:Lib.itoa n≠[]:=by rw[pV h0];exact ux _
 refine uy eI fun r hr=>⟨?_,HX h0 h1 hr⟩
 rw[pV h0];cases hm:Lib.decDigits n.toNat with
 | nil=>exact absurd hm (ux _)
 | cons c m=>
  have hd:=wg n.toNat c (by rw[hm];simp);have:=iQ (c:=c) (by unfold jd;rw[hd];simp);exact Ei this.1 this.2.1
def vD (v:Int):List K3:=if v<0 then[fk 45,(3,[], -v)]else[(3,[],v)]
theorem UR {v:Int} (hv:InI v) (hm:v≠ -9223372036854775808):Pk oS (Lib.itoa v) (vD v):=by
 obtain⟨h1,h2⟩:=hv;unfold vD;by_cases h:v<0
 ·rw[if_pos h];have e:Lib.itoa v=45::Lib.itoa (-v):=by
   unfold Lib.itoa;rw[if_pos h,if_neg (by omega),show v.natAbs=(-v).toNat by omega]
  rw[e];have hp:=FB (n:= -v) (by omega) (by omega);refine(uy (p:=[45]) (E:=fun r=>soft r) (k:=4) (t:=[45]) (n:=0) (by simp) fun r hr=>⟨Ei (by decide) (by decide),jF (by decide) (by decide) (by decide) (ii (by decide) hr)⟩).glue hp fun r hr=>?_;show soft (Lib.itoa (-v)++r);rw[pV (n:= -v) (by omega)];cases hm:Lib.decDigits (-v).toNat with
  | nil=>exact absurd hm (ux _)
  | cons c m=>
   have hd:=wg (-v).toNat c (by rw[hm];simp);exact lV ⟨c,m++r,rfl,by unfold jd;rw[hd];simp⟩
 ·rw[if_neg h];exact FB (by omega) (by omega)
end
def zE (x:Ex):List K3:=kG (xv x) x false
theorem SC {x:Ex} (h:sS x=true) (hn:Hc x):cE (xv x) x=true/\ui x=mQ (xv x) x false/\(iA (ui x)).2.1=0/\(ui x).length<=16384/\Sim x (iA (ui x)).1:=by
 have h:=aj h;obtain⟨h1,h2,h3⟩:=CX h;obtain⟨h4,h5⟩:=M0 h1 (hn _) h3;have h6:=Dy _ false [] h1 h4;unfold ui;rw[h2];exact⟨h1,h6,h3,h4,h5⟩
theorem SD {x:Ex} (h:sS x=true) (hn:Hc x):Pk oS (ui x) (zE x):=by
 obtain⟨h1,h2,_⟩:=SC h hn;rw[h2];exact fun l i r ts hi hd hr ht=>qI (xv x) false i h1 (hn _) hi hd hr ht
def Ej (a:Ac):List K3:=
 if a.k=2 then(2,ga,0)::(1,a.n,0)::[fk 59]else(2,if a.k=1 then mN else iO,0)::(1,a.n,0)::fk 61::(zE a.x++[fk 59])
def vE:List Ac->List K3
 | []=>[]
 | a::l=>Ej a++vE l
def tR (l:List Ac):List K3:=fk 123::(vE l++[fk 125])
theorem aay {a:Ac} (h:gw a=true) (hn:C0 a):Pk Tr (Hd a) (Ej a):=by
 unfold gw at h;simp only[ab]at h;obtain⟨⟨h1,h2⟩,h3⟩:=h;unfold Hd Ej;by_cases hk:a.k=2
 ·rw[if_pos hk,if_pos hk];exact(lW (s:=ga) (by decide)).e (Pk.sp ((jG h2).e (Pk.sc (Pk.nil _)) rO)) fu
 ·rw[if_neg hk]at h3⊢;rw[if_neg hk];have tail:=Pk.sp ((jG h2).e (Pk.sp (Pk.eq (Pk.sp ((SD h3 hn).e (Pk.sc (Pk.nil Tr)) rO)) fu)) fu);by_cases h1k:a.k=1
  ·simp only[if_pos h1k];exact(lW (s:=mN) (by decide)).e tail fu
  ·simp only[if_neg h1k];exact(lW (s:=iO) (by decide)).e tail fu
theorem M2:∀{l:List Ac},l.all gw=true->(∀a,a∈l->C0 a)->Pk Tr (LS l) (vE l)
 | [],_,_=>Pk.nil _
 | a::l,h,hn=>by
  rw[gY,ab]at h;exact Pk.sp ((aay h.1 (hn a (by simp))).t (M2 h.2 fun b hb=>hn b (by simp[hb])))
theorem M3 {l:List Ac} (h:l.all gw=true) (hn:∀a,a∈l->C0 a):Pk Tr (yC l) (tR l):=
 Pk.lb ((M2 h hn).t (Pk.sp (Pk.rb (Pk.nil _))))
def FC:List (List UInt8)->List K3
 | []=>[]
 | s::l=>fk 44::(1,s,0)::FC l
def hdK (m:Mv):List K3:=if m.k=1 then[(2,xq,0),(1,m.ev,0)]else if m.k=3 then[(2,eY,0),(3,[],m.wt)]else[(2,eO,0)]
def SE (m:Mv):List K3:=if m.gd then fk 91::(zE m.g++[fk 93])else[]
def FD (m:Mv):List K3:=match m.tg with
 | []=>[]
 | s::l=>UN::(1,s,0)::FC l
def H3 (m:Mv):List K3:=hdK m++(SE m++((if m.acts=[]then[]else tR m.acts)++(FD m++[fk 59])))
theorem SF:∀{l:List (List UInt8)},l.all cN=true->Pk Tr (I4 l++[59]) (FC l++[fk 59])/\JV (I4 l++[59])
 | [],_=>⟨Pk.sc (Pk.nil _),rO⟩
 | s::l,h=>by
  rw[gY,ab]at h;obtain⟨h1,h2⟩:=SF h.2;refine⟨?_,UQ⟩;have:=Pk.cm (Pk.sp ((jG h.1).e h1 h2));simpa[I4,FC]using this
theorem aaA {m:Mv} (h:mO m=true) (hn:OU m):Pk Tr (E6 m) (H3 m):=by
 unfold mO at h;simp only[ab]at h;obtain⟨⟨⟨⟨⟨h1,h2⟩,h3⟩,h4⟩,h5⟩,h6⟩:=h;have h1:=aj h1;have h6:=aj h6;unfold E6 H3;have t1:Pk Tr ((match m.tg with
  | []=>[]
  | s::l=>32::45::62::32::(s++I4 l))++[59]) (FD m++[fk 59])/\JV ((match m.tg with
  | []=>[]
  | s::l=>32::45::62::32::(s++I4 l))++[59]):=by
  unfold FD;cases hm:m.tg with
  | nil=>exact⟨Pk.sc (Pk.nil _),rO⟩
  | cons s l=>
   rw[hm,gY,ab]at h5;obtain⟨g1,g2⟩:=SF h5.2;refine⟨?_,fu⟩;have:=Pk.sp (Pk.to (Pk.sp ((jG h5.1).e g1 g2)));simpa using this
 generalize ((match m.tg with
  | []=>[]
  | s::l=>32::45::62::32::(s++I4 l))++[59]:List UInt8)=R1 at*
 generalize FD m++[fk 59]=K1 at*
 have t2:Pk Tr ((if m.acts=[]then[]else 32::yC m.acts)++R1) ((if m.acts=[]then[]else tR m.acts)++K1)/\JV ((if m.acts=[]then[]else 32::yC m.acts)++R1):=by
  by_cases ha:m.acts=[]
  ·rw[if_pos ha,if_pos ha];exact t1
  ·rw[if_neg ha,if_neg ha];exact⟨Pk.sp ((M3 h4 hn.a).t t1.1),fu⟩
 generalize ((if m.acts=[]then[]else 32::yC m.acts)++R1:List UInt8)=R2 at*
 generalize (if m.acts=[]then[]else tR m.acts)++K1=K2 at*
 have t3:Pk Tr (P7 m++R2) (SE m++K2)/\JV (P7 m++R2):=by
  unfold P7 SE;cases hg:m.gd with
  | false=>exact t2
  | true=>
   rw[hg]at h3;refine⟨?_,fu⟩;have:=Pk.sp (Pk.lk ((SD h3 hn.g).e (Pk.rk t2.1) UO));simpa using this
 generalize (P7 m++R2:List UInt8)=R3 at*
 generalize SE m++K2=K3' at*
 unfold hdT hdK;by_cases k1:m.k=1
 ·rw[if_pos k1]at h2⊢;rw[if_pos k1,av];exact(lW (s:=xq) (by decide)).e (Pk.sp ((jG h2).e t3.1 t3.2)) fu
 ·rw[if_neg k1,if_neg k1];by_cases k3:m.k=3
  ·rw[if_pos k3,if_pos k3,av];exact(lW (s:=eY) (by decide)).e (Pk.sp ((FB (by omega) hn.w.2).e t3.1 t3.2)) fu
  ·rw[if_neg k3,if_neg k3];exact(lW (s:=eO) (by decide)).e t3.1 t3.2
theorem M4 {p:List UInt8} {a:List K3} (h:Pk Tr p a):∀d,Pk Tr (CY d++p) a
 | 0=>h
 | d+1=>Pk.sp (Pk.sp (M4 h d))
theorem aaB {d:Nat} {p:List UInt8} {a:List K3} (h:Pk Tr p a):Pk Tr (JS (d,p)) a:=M4 h.nl d
def Lq (L:List Ln) (ks:List K3):Prop:=Pk Tr (fX L) ks
theorem Lq.nil:Lq [] []:=Pk.nil _
theorem Lq.oT {L M:List Ln} {a b:List K3} (h:Lq L a) (k:Lq M b):Lq (L++M) (a++b):=by
 unfold Lq fX;rw[ky];exact h.t k
theorem Lq.one {d:Nat} {p:List UInt8} {a:List K3} (h:Pk Tr p a):Lq [(d,p)] a:=by
 unfold Lq fX;rw[rZ,uK,aN];exact aaB h
theorem Lq.cons {d:Nat} {p:List UInt8} {a:List K3} {L:List Ln} {b:List K3} (h:Pk Tr p a) (k:Lq L b):Lq ((d,p)::L) (a++b):=(Lq.one h).oT k
def FE (b:Nb):List K3:=if b.ini=[]then[]else[(2,dw,0),(1,b.ini,0),fk 59]
def Ow (b:Nb):List K3:=if b.en=[]then[]else(2,eS,0)::tR b.en
def Jn (b:Nb):List K3:=if b.lv=[]then[]else(2,eT,0)::tR b.lv
def rP:List Mv->List K3
 | []=>[]
 | m::l=>H3 m++rP l
def uz (b:Nb):List K3:=FE b++(Ow b++(Jn b++rP b.mv))
mutual
def Jo:Nd->List K3
 | .mk b l=>
  if gW b.k then(2,kW b.k,0)::(1,b.nm,0)::UN::(1,b.dft,0)::[fk 59]
  else(2,kW b.k,0)::(1,b.nm,0)::fk 123::(uz b++(iw l++[fk 125]))
def iw:List Nd->List K3
 | []=>[]
 | x::l=>Jo x++iw l
end
structure Xq (b:Nb):Prop where
 nm:cN b.nm=true
 ini:b.ini=[]∨cN b.ini=true
 en:b.en.all gw=true
 lv:b.lv.all gw=true
 mv:b.mv.all mO=true
theorem M5 {b:Nb} {n:Nat} (h:rK b n=true) (hh:gW b.k=false):(b.k=1∨b.k=2)/\b.dft=[]/\Xq b:=by
 unfold rK at h;rw[hh]at h;simp only[ab,dG,fI,cp,bB]at h;obtain⟨h0,⟨⟨⟨h1,h2⟩,h3⟩,h4⟩,h5⟩:=h;exact⟨h1.1,h1.2,h0,h2,h3,h4,h5⟩
theorem aaC {b:Nb} {n:Nat} (h:rK b n=true) (hh:gW b.k=true):cN b.nm=true/\cN b.dft=true/\b.ini=[]/\b.en=[]/\b.lv=[]/\b.mv=[]/\n=0:=by
 unfold rK at h;rw[hh]at h;simp only[ab,if_true,bB]at h;obtain⟨h0,h1,h2,h3,h4,h5,h6⟩:=h;exact⟨h0,h1,h2,h3,h4,aW h5,h6⟩
theorem SG {d:Nat} {b:Nb} (h:Xq b) (hn:OW b):Lq (LV d b) (uz b):=by
 unfold LV uz;refine Lq.oT ?_ (Lq.oT ?_ (Lq.oT ?_ ?_))
 ·unfold LU FE;by_cases hi:b.ini=[]
  ·rw[if_pos hi,if_pos hi];exact Lq.nil
  ·rw[if_neg hi,if_neg hi];exact Lq.one ((lW (s:=dw) (by decide)).e (Pk.sp ((jG (h.ini.resolve_left hi)).e (Pk.sc (Pk.nil _)) rO)) fu)
 ·unfold enL Ow;by_cases hi:b.en=[]
  ·rw[if_pos hi,if_pos hi];exact Lq.nil
  ·rw[if_neg hi,if_neg hi];exact Lq.one ((lW (s:=eS) (by decide)).e (Pk.sp (M3 h.en hn.en)) fu)
 ·unfold lvL Jn;by_cases hi:b.lv=[]
  ·rw[if_pos hi,if_pos hi];exact Lq.nil
  ·rw[if_neg hi,if_neg hi];exact Lq.one ((lW (s:=eT) (by decide)).e (Pk.sp (M3 h.lv hn.lv)) fu)
 ·unfold mvL;have hm:=h.mv;have hk:=hn.mv;generalize b.mv=l at*
  induction l with
  | nil=>exact Lq.nil
  | cons m l ih=>
   rw[gY,ab]at hm;exact Lq.cons (aaA hm.1 (hk m (by simp))) (ih hm.2 fun x hx=>hk x (by simp[hx]))
theorem H4 (k:Int):Pk oS (kW k) [(2,kW k,0)]:=by
 unfold kW;split
 ·exact lW (by decide)
 split
 ·exact lW (by decide)
 split
 ·exact lW (by decide)
 ·exact lW (by decide)
mutual
theorem aaD:∀(d:Nat) (x:Nd),jk d x=true->vu x->Lq (I5 d x) (Jo x)
 | d,.mk b l,h,hn=>by
  rw[jk]at h;rw[vu]at hn;rw[I5,Jo];simp only[ab]at h;obtain⟨⟨_,h1⟩,h2⟩:=h;cases hh:gW b.k with
  | true=>
   obtain⟨a1,a2,_⟩:=aaC h1 hh;rw[if_pos rfl,if_pos rfl];exact Lq.one ((H4 b.k).e (Pk.sp ((jG a1).e (Pk.sp (Pk.to (Pk.sp ((jG a2).e (Pk.sc (Pk.nil _)) rO)))) fu)) fu)
  | false=>
   obtain⟨_,_,hs⟩:=M5 h1 hh;rw[if_neg (by decide),if_neg (by decide)];exact Lq.cons ((H4 b.k).e (Pk.sp ((jG hs.nm).e (Pk.sp (Pk.lb (Pk.nil _))) fu)) fu) ((SG hs hn.1).oT ((FF (d+1) l h2 hn.2).oT (Lq.one (Pk.rb (Pk.nil _)))))
theorem FF:∀(d:Nat) (l:List Nd),fW d l=true->ma l->Lq (oy d l) (iw l)
 | d,[],_,_=>by
  rw[oy,iw];exact Lq.nil
 | d,x::l,h,hn=>by
  rw[fW,ab]at h;rw[ma]at hn;rw[oy,iw];exact(aaD d x h.1 hn.1).oT (FF d l h.2 hn.2)
end
def M6 (v:Vr):List K3:=(2,rI,0)::(1,v.n,0)::fk 61::(vD v.v++[fk 59])
def qV:List Vr->List K3
 | []=>[]
 | v::l=>M6 v++qV l
def WN (c:Ch):List K3:=(2,eh,0)::(1,c.root.b.nm,0)::fk 123::(qV c.vars++(uz c.root.b++(iw c.root.kids++[fk 125])))
theorem aaE {c:Ch} (h:lR c=true) (hn:Ea c):Lq (rM c) (WN c):=by
 unfold lR at h;simp only[ab]at h;obtain⟨⟨h1,h2⟩,h3⟩:=h;replace h3:=aj h3;obtain⟨vars,⟨b,l⟩⟩:=c;have hr:=hn.r;rw[vu]at hr;rw[jk]at h2;simp only[ab]at h2;obtain⟨⟨_,h4⟩,h5⟩:=h2;have hk:b.k=1:=h3.1;have hh:gW b.k=false:=by rw[hk];rfl
 obtain⟨_,_,hs⟩:=M5 h4 hh;unfold rM WN;have hv:Lq (vars.map fun v=>(1,vrT v)) (qV vars):=by
  have hv:=hn.v;dsimp only at h1 hv;clear h3 hn h4 h5 hr
  induction vars with
  | nil=>exact Lq.nil
  | cons v m ih=>
   rw[gY,ab,ab]at h1;refine Lq.cons ?_ (ih h1.2 fun x hx=>hv x (by simp[hx]));exact(lW (s:=rI) (by decide)).e (Pk.sp ((jG h1.1.1).e (Pk.sp (Pk.eq (Pk.sp ((UR (hv v (by simp)) (aj h1.1.2)).e (Pk.sc (Pk.nil _)) rO)) fu)) fu)) fu
 exact Lq.cons ((lW (s:=eh) (by decide)).e (Pk.sp ((jG hs.nm).e (Pk.sp (Pk.lb (Pk.nil _))) fu)) fu) (hv.oT ((SG hs hr.1).oT ((FF 1 l h5 hr.2).oT (Lq.one (Pk.rb (Pk.nil _))))))
end Go.Proofs.YtmhoiicofhlgbaaGreatDoor.Con
namespace Go.Proofs.YtmhoiicofhlgbaaGreatDoor.Con
open Go Go.RowKit Go.Kt Go.Kt.V Go.Proofs.YtmhoiicofhlgbaaGreatDoor.Vc
set_option linter.unusedSimpArgs false
set_option linter.unusedVariables false
set_option maxHeartbeats 4000000
def gj {α:Type} (R:α->α->Prop) (xs ys:List α):Prop:=xs.length=ys.length/\∀(i:Nat) (x y:α),xs[i]? =some x->ys[i]? =some y->R x y
theorem gj.refl {α:Type} {R:α->α->Prop} {xs:List α} (h:∀x,x∈xs->R x x):gj R xs xs:=⟨rfl,fun i x y hx hy=>by
 rw[hx]at hy;injection hy with hy;subst hy;exact h x (aE hx)⟩
def QA (t:Bool) (x y:Ex):Prop:=∀d,sL t d x y=true
structure AcE (t:Bool) (x y:Ac):Prop where
 k:x.k=y.k
 n:x.n=y.n
 e:QA t x.x y.x
 a:t=true->x.a=y.a
structure MvE (t:Bool) (x y:Mv):Prop where
 k:x.k=y.k
 ev:x.ev=y.ev
 wt:x.wt=y.wt
 gd:x.gd=y.gd
 g:QA t x.g y.g
 acts:gj (AcE t) x.acts y.acts
 tg:x.tg=y.tg
 a:t=true->x.a=y.a
structure NbE (t:Bool) (x y:Nb):Prop where
 k:x.k=y.k
 nm:x.nm=y.nm
 ini:x.ini=y.ini
 dft:x.dft=y.dft
 en:gj (AcE t) x.en y.en
 lv:gj (AcE t) x.lv y.lv
 mv:gj (MvE t) x.mv y.mv
 a:t=true->x.a=y.a
def US (t:Bool):Nat->Nd->Nd->Prop
 | 0,_,_=>True
 | d+1,x,y=>NbE t x.b y.b/\gj (US t d) x.kids y.kids
structure VrE (t:Bool) (x y:Vr):Prop where
 n:x.n=y.n
 v:x.v=y.v
 a:t=true->x.a=y.a
structure ChE (t:Bool) (d:Nat) (x y:Ch):Prop where
 vars:gj (VrE t) x.vars y.vars
 root:US t d x.root y.root
theorem QA.refl (t:Bool) (x:Ex):QA t x x:=fun d=>zg t d x
theorem AcE.refl (t:Bool) (x:Ac):AcE t x x:=⟨rfl,rfl,QA.refl t _,fun _=>rfl⟩
theorem MvE.refl (t:Bool) (x:Mv):MvE t x x:=⟨rfl,rfl,rfl,rfl,QA.refl t _,gj.refl fun y _=>AcE.refl t y,rfl,fun _=>rfl⟩
theorem NbE.refl (t:Bool) (x:Nb):NbE t x x:=⟨rfl,rfl,rfl,rfl,gj.refl fun y _=>AcE.refl t y,gj.refl fun y _=>AcE.refl t y,gj.refl fun y _=>MvE.refl t y,fun _=>rfl⟩
theorem US.refl (t:Bool):∀(d:Nat) (x:Nd),US t d x x
 | 0,_=>trivial
 | d+1,x=>⟨NbE.refl t _,gj.refl fun y _=>US.refl t d y⟩
theorem ChE.refl (t:Bool) (d:Nat) (x:Ch):ChE t d x x:=⟨gj.refl fun y _=>⟨rfl,rfl,fun _=>rfl⟩,US.refl t d _⟩
end Go.Proofs.YtmhoiicofhlgbaaGreatDoor.Con
namespace Go.Proofs.YtmhoiicofhlgbaaGreatDoor.Con
open Go Go.RowKit Go.Kt Go.Kt.V
set_option linter.unusedSimpArgs false
set_option linter.unusedVariables false
set_option maxHeartbeats 4000000
theorem Ba {p:Prop}:false=true->p:=fun h=>by cases h
theorem xW {α:Type} {R:α->α->Prop}:gj R [] []:=⟨rfl,fun i x y hx _=>by simp at hx⟩
theorem QB {α:Type} {R:α->α->Prop} {x y:α} {xs ys:List α} (h:R x y) (k:gj R xs ys):gj R (x::xs) (y::ys):=⟨by rw[ao,ao,k.1],fun i a b ha hb=>by
 cases i with
 | zero=>
  simp only[bm,ai]at ha hb;subst ha hb;exact h
 | succ i=>exact k.2 i a b (by simpa using ha) (by simpa using hb)⟩
def cx (s:Sx) (n:Nat) (a m k:Nat):Sx:={s with i:=s.i+n,a:=s.a-a,m:=s.m-m,n:=s.n-k}
theorem bO (s:Sx) (n a m k n' a' m' k':Nat):cx (cx s n a m k) n' a' m' k'=cx s (n+n') (a+a') (m+m') (k+k'):=by
 unfold cx;simp only[Sx.mk.injEq,qZ];refine⟨by omega,?_,?_,?_⟩<;>omega
theorem UT (s:Sx):cx s 0 0 0 0=s:=by
 unfold cx;cases s;simp
theorem fF (s:Sx):ci s=cx s 1 0 0 0:=by
 unfold ci cx;cases s;simp
theorem DD {ts:List Tk} (h:oM ts) (h0:0<ts.length):ja ts+1=ts.length:=by
 have h1:=AG ts;have h2:ja ts<ts.length:=by
  refine aP fun hn=>?_;have:=vV ts (ts.length-1) (by omega);exact this ((h _ (by omega)).2 (by omega))
 exact(h _ h2).1 (vW ts h2)
theorem SH {ts:List Tk} {i:Nat} (h:(tk ts i).k≠5):i<ts.length:=aP fun hn=>h (by
 unfold tk;rw[bZ (by omega)];rfl)
def JW (q:K3) (l:List (List UInt8)):Nat:=if q.1≠2/\q.1≠4 then 0 else if oP q.2.1 l<l.length then oP q.2.1 l+1 else 0
section
variable {ts:List Tk} {s:Sx} {q:K3} {A:List K3}
theorem cH (h0:s.fc=0) (h:At ts s.i (q::A)) (l:List (List UInt8)):bA ts s l=JW q l:=by
 obtain⟨h1,h2,_⟩:=h.head;unfold bA JW;rw[h1,h2];by_cases hc:q.1≠2/\q.1≠4
 ·rw[if_pos (.inr hc),if_pos hc]
 ·rw[if_neg (fun h=>h.elim (fun e=>e h0) hc),if_neg hc]
theorem fP (h0:s.fc=0) {x:List UInt8} (h:At ts s.i (q::A)) (hq:JW q [x]=1):cV ts s x=cx s 1 0 0 0:=by
 unfold cV;rw[cH h0 h,hq,if_neg (by decide),fF]
theorem qJ (h0:s.fc=0) {k:Int} (h:At ts s.i (q::A)) (hq:q.1=k):(dR ts s k).1.t=q.2.1/\(dR ts s k).1.n=q.2.2/\(dR ts s k).2=cx s 1 0 0 0:=by
 obtain⟨h1,h2,h3⟩:=h.head;unfold dR;rw[if_neg (fun hn=>hn.elim (fun e=>e h0) fun e=>e (by rw[h1,hq])),fF];exact⟨h2,h3,rfl⟩
theorem qK (h0:s.fc=0) {x:List UInt8} (h:At ts s.i ((1,x,0)::A)):ft ts s=(x,cx s 1 0 0 0):=by
 obtain⟨a,b,c⟩:=qJ (k:=1) h0 h rfl;unfold ft;rw[a,c]
theorem At.go {L M:List K3} {a m k:Nat} (h:At ts s.i (L++M)):At ts (cx s L.length a m k).i M:=h.right
theorem tu {x:Int} (h1:1<=x) (h2:x<=1000):tQ x=x-1:=by
 unfold tQ;rw[gV (by omega) (by omega)]
end
theorem zF {x:Ex} (h:oH x=true):QA false x rG:=by
 obtain⟨k,n,s,op,l,a⟩:=x;unfold oH at h;simp only[ab,iR,bB]at h;obtain⟨⟨⟨⟨h1,h2⟩,h3⟩,h4⟩,h5⟩:=h;obtain rfl:k=0:=h1;obtain rfl:n=0:=h2;obtain rfl:s=[]:=h3;obtain rfl:op=0:=h4;have h6:(l.length:Int)=0:=h5;obtain rfl:l=[]:=aW (by omega);exact fun d=>(Sim.leaf 0 0 [] 0 a 0).same d
section
variable {ts:List Tk} (hE:oM ts)
include hE
theorem M7 {s:Sx} (h0:s.fc=0) {x:Ex} (h:sS x=true) (hn:Hc x) {q:K3} {A:List K3} (bN:At ts s.i (zE x++q::A)) (hq:q.1=4/\(q.2.1=[59]∨q.2.1=[93])):
  QA false x (kF ts s).1/\(kF ts s).2=cx s (zE x).length 0 0 0:=by
 obtain⟨h1,h2,h3,h4,h5⟩:=SC h hn;have hL:=h2;generalize ui x=L at*
 have Og:iL L (0+L.length)=.ok [⟨5,[],0,((L.length:Nat):Int)⟩]:=by
  have hd:L.drop L.length=[]:=du (aq _);have h5:iG false []=0:=rfl;rw[aJ,ir (aq _),hd,h5,if_pos (by omega)];rfl
 obtain⟨us,g1,g2⟩:=qI (l:=L) (xv x) (x:=x) false 0 (r:=[]) h1 (hn _) (aF _) (by rw[eL,aN,hL]) (fun c hc=>by cases hc) (by rw[<-hL];exact Og);generalize hte:us++[(⟨5,[],0,((L.length:Nat):Int)⟩:Tk)]=te at*
 have t1:bU L=(te,0,0):=by rw[bU,if_neg (by omega),g1]
 have Xp:us.length=(zE x).length:=by unfold zE;rw[<-g2,aQ]
 have Ih:te.length=us.length+1:=by rw[<-hte,ah,aL]
 have hEt:oM te:=by
  have:=(rN (l:=L) (by rw[t1])).1;rw[t1]at this;exact this
 have hep:=DD hEt (by omega);unfold iA at h3 h5;rw[t1]at h3 h5;dsimp only at h3 h5;rw[if_neg (by decide)]at h3 h5;by_cases c1:(bM te 0).2.2.1≠0
 ·rw[if_pos c1]at h3;exact absurd h3 c1
 rw[if_neg c1]at h3 h5;by_cases c2:(tk te (bM te 0).2.1.toNat).k≠5
 ·rw[if_pos c2]at h3;exact absurd h3 (show ¬(4:Int)=0 by decide)
 rw[if_neg c2]at h5;have c1:=gM.1 c1;have c2:=gM.1 c2;dsimp only at h5;have hp:bM te 0=(match pC te 0 with
  | .error (c,p)=>(rG,0,c,p)
  | .ok (x,j)=>(x,(j:Int),0,0)):=by
  unfold bM;rw[if_pos ⟨jQ 0,by omega,hep⟩];rfl
 have hM:Em te ts us.length s.i:=by
  refine⟨fun i hi=>?_,fun i hi=>?_,?_⟩
  ·unfold tk;rw[<-hte];rcases Nat.eq_or_lt_of_le hi with e | e
   ·rw[<-e,bh (aq _),qn];rfl
   ·rw[bZ (by rw[ah,aL];omega)];rfl
  ·have u7:i<(zE x).length:=by omega
   have e1:=bN.left i _ (bn u7);have e2:k3 (tk te i)=(zE x)[i]:=by
    have:(us.map k3)[i]? =some (zE x)[i]:=by
     rw[g2];exact bn u7
    rw[bD,cY]at this;obtain⟨t,w1,w2⟩:=this;rw[<-w2];unfold tk;rw[<-hte,aR hi,w1];rfl
   have e3:=e1.trans e2.symm;unfold k3 at e3;simp only[cr]at e3;exact e3
  ·have:=bN.right.head;rw[<-Xp]at this;rw[this.1,this.2.1];exact hq
 cases hr:pC te 0 with
 | error e=>
  obtain⟨c,p⟩:=e;rw[hr]at hp;exfalso;rw[hp]at c1 c2;have hc:c=0:=c1;subst hc;exact lw _ _ _ _ hr rfl
 | ok y=>
  obtain⟨x0,j⟩:=y;rw[hr]at hp;dsimp only at hp;rw[hp]at c2 h5;dsimp only at c2 h5;have bp:s.i+us.length<ts.length:=by
   refine SH fun e=>?_;have:=bN.right.head.1;rw[<-Xp]at this;rw[this,hq.1]at e;exact absurd e (by decide)
  obtain⟨x',k1,k2,Kf⟩:=Rm.expr hM Ih bp (dL 0 0) 0 0 0 (aF _) x0 j hr;have hj:j=us.length:=by
   rw[az]at c2;have:=(hEt j (by omega)).1 c2;omega
  subst hj;have El:bM ts s.i=(x',((s.i+us.length:Nat):Int),0,0):=by
   unfold bM;rw[if_pos ⟨aG _,by omega,DD hE (by omega)⟩,az];unfold pC;rw[db]at k1;rw[k1]
  unfold kF;rw[if_neg (fun e=>e h0),El];dsimp only;rw[if_neg (fun e=>e rfl)];refine⟨(h5.trans k2).same,?_⟩;rw[az,Xp];unfold cx;simp
theorem QC {s:Sx} (h0:s.fc=0) (ha:1<=s.a) (hb:s.a<=1000):pE ts s=cx s 0 1 0 0:=by
 unfold pE cx;rw[if_neg (by omega),tu ha hb];simp
theorem aaF {s:Sx} (h0:s.fc=0) (ha:1<=s.a) (hb:s.a<=1000) {a:Ac} (h:gw a=true) (hn:C0 a) {A:List K3} (bN:At ts s.i (Ej a++A)):AcE false a (lN ts s).1/\(lN ts s).2=cx s (Ej a).length 1 0 0:=by
 unfold gw at h;simp only[ab]at h;obtain⟨⟨h1,h2⟩,h3⟩:=h;have h1:=aj h1;obtain⟨k,n,x,at_⟩:=a;dsimp only at h1 h2 h3;have adj:∃w A',Ej ⟨k,n,x,at_⟩++A=(2,w,0)::(1,n,0)::A'/\(JW (2,w,0) [mN,ga,iO]:Nat)=k.toNat:=by
  unfold Ej;by_cases hk:k=2
  ·rw[if_pos hk];exact⟨_,_,rfl,by rw[hk];decide⟩
  ·rw[if_neg hk];by_cases kJ:k=1
   ·rw[if_pos kJ];exact⟨_,_,rfl,by rw[kJ];decide⟩
   ·rw[if_neg kJ];have:k=3:=by omega
    exact⟨_,_,rfl,by rw[this];decide⟩
 obtain⟨w,A',e1,e2⟩:=adj;have JJ:=bN;rw[e1]at JJ;have hw:=cH h0 JJ [mN,ga,iO];rw[e2]at hw;have hkn:(k.toNat:Int)=k:=dT (by omega);unfold lN;rw[hw,if_neg (by omega),QC (ts:=ts) hE h0 ha hb,if_neg (fun e=>e h0)];rw[fF,bO,qK (s:=cx s (0+1) (1+0) (0+0) (0+0)) h0 JJ.tail];dsimp only;unfold E1;by_cases hk:k=2
 ·subst hk;rw[if_pos (show Int.toNat 2=2 from rfl)];have h3:oH x=true:=by simpa using h3
  have ea:Ej ⟨2,n,x,at_⟩=[(2,ga,0),(1,n,0),fk 59]:=rfl;rw[ea]at bN⊢;have h59:=bN.tail.tail;rw[fP (s:=cx (cx s (0+1) (1+0) (0+0) (0+0)) 1 0 0 0) h0 h59 (by decide),bO,bO];exact⟨⟨rfl,rfl,zF h3,Ba⟩,rfl⟩
 ·rw[if_neg (by omega)];rw[if_neg hk]at h3;have ea:Ej ⟨k,n,x,at_⟩=(2,if k=1 then mN else iO,0)::(1,n,0)::fk 61::(zE x++[fk 59]):=by
   unfold Ej;rw[if_neg hk]
  rw[ea]at bN⊢;have Im:=bN.tail.tail;rw[fP (s:=cx (cx s (0+1) (1+0) (0+0) (0+0)) 1 0 0 0) h0 Im (by decide),bO,bO];have hx:At ts (s.i+1+1+1) ((zE x++[fk 59])++A):=Im.tail;rw[av]at hx;obtain⟨r1,r2⟩:=M7 hE (s:=cx s (0+1+1+1) (1+0+0+0) (0+0+0+0) (0+0+0+0)) h0 h3 hn (q:=fk 59) (A:=A) hx ⟨rfl,.inl rfl⟩;rw[r2];have h59:=hx.right;rw[fP (s:=cx (cx s (0+1+1+1) (1+0+0+0) (0+0+0+0) (0+0+0+0)) (zE x).length 0 0 0) h0 h59 (by decide),bO,bO];refine⟨⟨hkn.symm,rfl,r1,Ba⟩,?_⟩;simp only[ao,ah,aM];congr 1;omega
theorem SI:∀(l:List Ac) (f:Nat) (acc:List Ac) {s:Sx},s.fc=0->l.length<f->(l.length:Int)<=s.a->s.a<=1000->l.all gw=true->(∀a,a∈l->C0 a)->∀{A:List K3},At ts s.i (vE l++fk 125::A)->
  ∃r,mq ts f acc s=(acc++r,cx s ((vE l).length+1) l.length 0 0)/\gj (AcE false) l r
 | [],f,acc,s,h0,hf,ha,hb,h,hn,A,bN=>by
  obtain⟨f,rfl⟩:∃g,f=g+1:=⟨f-1,by rw[aM]at hf;omega⟩
  have bN:At ts s.i (fk 125::A):=bN;rw[mq,if_neg (fun e=>e h0),cH h0 bN,if_pos (by decide),fF];exact⟨[],by rw[aN];rfl,xW⟩
 | a::l,f,acc,s,h0,hf,ha,hb,h,hn,A,bN=>by
  rw[ao]at hf ha;obtain⟨f,rfl⟩:∃g,f=g+1:=⟨f-1,by omega⟩
  rw[gY,ab]at h;have bN:At ts s.i ((Ej a++vE l)++fk 125::A):=bN;rw[av]at bN;have hw:bA ts s [[125]]=0:=by
   have:∃w B,Ej a++(vE l++fk 125::A)=(2,w,0)::B/\JW (2,w,0) [[125]]=0:=by
    unfold Ej;split
    ·exact⟨_,_,rfl,by decide⟩
    ·split
     ·exact⟨_,_,rfl,by decide⟩
     ·exact⟨_,_,rfl,by decide⟩
   obtain⟨w,B,e1,e2⟩:=this;have JJ:=bN;rw[e1]at JJ;rw[cH h0 JJ,e2]
  obtain⟨r1,r2⟩:=aaF hE h0 (by omega) hb h.1 (hn a (by simp)) bN;rw[mq,if_neg (fun e=>e h0),hw,if_neg (fun e=>e rfl),r2];obtain⟨r,e1,e2⟩:=SI l f (acc++[(lN ts s).1]) (s:=cx s (Ej a).length 1 0 0) h0 (by omega) (by unfold cx;dsimp only;omega) (by unfold cx;dsimp only;omega) h.2 (fun b hb=>hn b (by simp[hb])) bN.right;refine⟨(lN ts s).1::r,?_,QB r1 e2⟩;rw[e1,bO,av];simp only[vE,ah,ao,da];congr 2<;>omega
theorem DE:∀l:List Ac,l.length<=(vE l).length
 | []=>aq _
 | a::l=>by
  have h1:=DE l;have h2:1<=(Ej a).length:=by
   unfold Ej;split<;>simp
  rw[vE,ah,ao];omega
theorem At.inr {s:Sx} {L:List K3} {q:K3} {A:List K3} (bN:At ts s.i (L++q::A)) (hq:q.1≠5):s.i+L.length<ts.length:=SH (by rw[bN.right.head.1];exact hq)
theorem UU {s:Sx} (h0:s.fc=0) {l:List Ac} (ha:(l.length:Int)<=s.a) (hb:s.a<=1000) (h:l.all gw=true) (hn:∀a,a∈l->C0 a) {A:List K3} (bN:At ts s.i (tR l++A)):
  ∃r,eZ ts s=(r,cx s (tR l).length l.length 0 0)/\gj (AcE false) l r:=by
 unfold eZ;have bN:At ts s.i (fk 123::((vE l++[fk 125])++A)):=bN;rw[av]at bN;have h1:=bN.tail;have bp:=At.inr hE (s:=cx s 1 0 0 0) (L:=vE l) h1 (by decide);rw[fP h0 bN (by decide)];have:=DE (ts:=ts) hE l;obtain⟨r,e1,e2⟩:=SI hE l (ts.length+1) [] (s:=cx s 1 0 0 0) h0 (by omega) (by unfold cx;dsimp only;omega) (by unfold cx;dsimp only;omega) h hn h1;refine⟨r,?_,e2⟩;rw[e1,bO,aV];unfold tR;simp only[ao,ah,aM];congr 2
 ·omega
 ·omega
theorem aaG:∀(l:List (List UInt8)) (f:Nat) (acc:List (List UInt8)) {s:Sx},s.fc=0->l.length<f->∀{A:List K3},At ts s.i (FC l++fk 59::A)->nH ts f [44] acc s=(acc++l,cx s (FC l).length 0 0 0)
 | [],f,acc,s,h0,hf,A,bN=>by
  obtain⟨f,rfl⟩:∃g,f=g+1:=⟨f-1,by rw[aM]at hf;omega⟩
  have bN:At ts s.i (fk 59::A):=bN;rw[nH,cH h0 bN,if_pos (by decide),aN];show(acc,s)=(acc,cx s 0 0 0 0)
  rw[UT]
 | x::l,f,acc,s,h0,hf,A,bN=>by
  rw[ao]at hf;obtain⟨f,rfl⟩:∃g,f=g+1:=⟨f-1,by omega⟩
  have bN:At ts s.i (fk 44::(1,x,0)::(FC l++fk 59::A)):=bN;rw[nH,cH h0 bN,if_neg (by decide),fF,qK (s:=cx s 1 0 0 0) h0 bN.tail];dsimp only;rw[bO,aaG l f (acc++[x]) (s:=cx s (1+1) (0+0) (0+0) (0+0)) h0 (by omega) bN.tail.tail,bO,av];simp only[FC,ao,da];congr 2;omega
theorem H5:∀l:List (List UInt8),l.length<=(FC l).length
 | []=>aq _
 | x::l=>by
  have:=H5 l;rw[FC,ao,ao,ao];omega
theorem H6 {s:Sx} (h0:s.fc=0) (m m0:Mv) {A:List K3} (bN:At ts s.i ((FD m++[fk 59])++A)) (Xr:m0.tg=[]):xr ts m0 s=({m0 with tg:=m.tg},cx s (FD m++[fk 59]).length 0 0 0):=by
 unfold xr;rw[av]at bN;have mT:=bN;unfold FD at bN⊢;cases hm:m.tg with
 | nil=>
  rw[hm]at bN;have bN:At ts s.i (fk 59::A):=bN;rw[nH,cH h0 bN,if_pos (by decide)];dsimp only;rw[fP h0 bN (by decide)];rfl
 | cons x l=>
  rw[hm]at bN;have bN:At ts s.i (UN::(1,x,0)::(FC l++fk 59::A)):=bN;have bp:=At.inr hE (s:=cx s 2 0 0 0) (L:=FC l) bN.tail.tail (by decide);have:=H5 (ts:=ts) hE l;rw[nH,cH h0 bN,if_neg (by decide),fF,qK (s:=cx s 1 0 0 0) h0 bN.tail];dsimp only;rw[bO,aaG hE l ts.length ([]++[x]) (s:=cx s (1+1) (0+0) (0+0) (0+0)) h0 (by omega) bN.tail.tail,bO];dsimp only;rw[fP (s:=cx s (1+1+(FC l).length) (0+0+0) (0+0+0) (0+0+0)) h0 (q:=fk 59) (A:=A) (by
   have:=bN.tail.tail.right;have e:s.i+1+1+(FC l).length=(cx s (1+1+(FC l).length) (0+0+0) (0+0+0) (0+0+0)).i:=by unfold cx;dsimp only;omega
   rw[<-e];exact this) (by decide),bO]
  simp only[ao,ah,aM,aV,da];congr 2;omega
theorem H7 {s:Sx} (h0:s.fc=0) (m m0:Mv) (ha:(m.acts.length:Int)<=s.a) (hb:s.a<=1000) (h:m.acts.all gw=true) (hn:∀x,x∈m.acts->C0 x) {A:List K3} (bN:At ts s.i (((if m.acts=[]then[]else tR m.acts)++(FD m++[fk 59]))++A)) (Xr:m0.tg=[]) (h0a:m0.acts=[]):
  ∃r,uT ts m0 s=({m0 with acts:=r,tg:=m.tg},cx s ((if m.acts=[]then[]else tR m.acts)++(FD m++[fk 59])).length m.acts.length 0 0)/\gj (AcE false) m.acts r:=by
 obtain⟨k0,v0,t0,d0,x0,ac0,g0,p0⟩:=m0;dsimp only at Xr h0a;subst Xr h0a;unfold uT;by_cases he:m.acts=[]
 ·rw[if_pos he]at bN⊢;have hw:bA ts s [[123]]=0:=by
   have mT:=bN;unfold FD at mT;cases hm:m.tg with
   | nil=>
    rw[hm]at mT;rw[cH h0 (q:=fk 59) (A:=A) mT];decide
   | cons x l=>
    rw[hm]at mT;rw[cH h0 (q:=UN) (A:=_) mT];decide
  rw[hw,if_pos rfl,H6 hE h0 m _ bN rfl];refine⟨[],?_,by rw[he];exact xW⟩;rw[he];rfl
 ·rw[if_neg he]at bN⊢;rw[av]at bN;have hw:bA ts s [[123]]=1:=by
   rw[cH h0 (q:=fk 123) bN];decide
  obtain⟨r,e1,e2⟩:=UU hE h0 ha hb h hn bN;rw[hw,if_neg (by decide),e1];dsimp only;rw[H6 hE (s:=cx s (tR m.acts).length m.acts.length 0 0) h0 m _ bN.right rfl,bO];refine⟨r,?_,e2⟩;simp only[ah,db]
theorem Bb {s:Sx} (h0:s.fc=0) (m m0:Mv) (ha:(m.acts.length:Int)<=s.a) (hb:s.a<=1000) (h:mO m=true) (hn:OU m) {A:List K3} (bN:At ts s.i ((SE m++((if m.acts=[]then[]else tR m.acts)++(FD m++[fk 59])))++A))
  (Xr:m0.tg=[]) (h0a:m0.acts=[]) (h0g:m0.gd=false) (h0x:m0.g=rG):
  ∃g r,lO ts m0 s=({m0 with gd:=m.gd,g:=g,acts:=r,tg:=m.tg},cx s (SE m++((if m.acts=[]then[]else tR m.acts)++(FD m++[fk 59]))).length m.acts.length 0 0)/\QA false m.g g/\gj (AcE false) m.acts r:=by
 unfold mO at h;simp only[ab]at h;obtain⟨⟨⟨⟨⟨_,_⟩,h3⟩,h4⟩,_⟩,_⟩:=h;obtain⟨k0,v0,t0,d0,x0,ac0,g0,p0⟩:=m0;dsimp only at Xr h0a h0g h0x;subst Xr h0a h0g h0x;unfold lO;unfold SE at bN⊢;cases hg:m.gd with
 | false=>
  rw[hg]at h3 bN;simp only[dG,fI,aV]at h3 bN⊢;have hw:bA ts s [[91]]=0:=by
   have mT:=bN;by_cases he:m.acts=[]
   ·rw[if_pos he]at mT;unfold FD at mT;cases hm:m.tg with
    | nil=>
     rw[hm]at mT;rw[cH h0 (q:=fk 59) (A:=A) mT];decide
    | cons x l=>
     rw[hm]at mT;rw[cH h0 (q:=UN) (A:=_) mT];decide
   ·rw[if_neg he]at mT;rw[cH h0 (q:=fk 123) (A:=_) mT];decide
  obtain⟨r,e1,e2⟩:=H7 hE h0 m ⟨k0,v0,t0,false,rG,[],[],p0⟩ ha hb h4 hn.a bN rfl rfl;rw[hw,if_pos rfl,e1];exact⟨rG,r,rfl,zF h3,e2⟩
 | true=>
  rw[hg]at h3 bN;simp only[if_true]at h3 bN⊢;have bN:At ts s.i (fk 91::(zE m.g++fk 93::(((if m.acts=[]then[]else tR m.acts)++(FD m++[fk 59]))++A))):=by simpa using bN
  have hw:bA ts s [[91]]=1:=by
   rw[cH h0 bN];decide
  obtain⟨r1,r2⟩:=M7 hE (s:=cx s 1 0 0 0) h0 h3 hn.g (q:=fk 93) bN.tail ⟨rfl,.inr rfl⟩;rw[hw,if_neg (by decide),fF,r2,bO,fP (s:=cx s (1+(zE m.g).length) (0+0) (0+0) (0+0)) h0 (q:=fk 93) (by
   have:=bN.tail.right;have e:s.i+1+(zE m.g).length=(cx s (1+(zE m.g).length) (0+0) (0+0) (0+0)).i:=by unfold cx;dsimp only;omega
   rw[<-e];exact this) (by decide),bO]
  obtain⟨r,e1,e2⟩:=H7 hE (s:=cx s (1+(zE m.g).length+1) (0+0+0) (0+0+0) (0+0+0)) h0 m ⟨k0,v0,t0,true,(kF ts (cx s 1 0 0 0)).1,[],[],p0⟩ (by unfold cx;dsimp only;omega) (by unfold cx;dsimp only;omega) h4 hn.a (by
   have:=bN.tail.right.tail;have e:s.i+1+(zE m.g).length+1=(cx s (1+(zE m.g).length+1) (0+0+0) (0+0+0) (0+0+0)).i:=by unfold cx;dsimp only;omega
   rw[<-e];exact this) rfl rfl
  rw[e1,bO];refine⟨_,r,?_,r1,e2⟩;congr 2<;>(try simp only[ao,ah,aM])<;>omega
theorem QD {s:Sx} (h0:s.fc=0) (ha:1<=s.m) (hb:s.m<=1000):ow ts s=cx s 0 0 1 0:=by
 unfold ow cx;rw[if_neg (by omega),tu ha hb];simp
theorem agx {s:Sx} (h0:s.fc=0) {m:Mv} (ha:(m.acts.length:Int)<=s.a) (hb:s.a<=1000) (x9:1<=s.m) (vH:s.m<=1000) (h:mO m=true) (hn:OU m) {A:List K3} (bN:At ts s.i (H3 m++A)):
  bA ts s [xq,eO,eY]=m.k.toNat/\1<=m.k/\MvE false m (jT ts m.k s).1/\(jT ts m.k s).2=cx s (H3 m).length m.acts.length 1 0:=by
 have h':=h;unfold mO at h';simp only[ab]at h';obtain⟨⟨⟨⟨⟨h1,h2⟩,_⟩,_⟩,_⟩,h6⟩:=h';have h1:=aj h1;have h6:=aj h6;unfold H3 at bN⊢;rw[av]at bN;unfold jT;rw[QD (ts:=ts) hE h0 x9 vH,if_neg (fun e=>e h0)];generalize hR:SE m++((if m.acts=[]then[]else tR m.acts)++(FD m++[fk 59]))=R at*
 unfold hdK at bN⊢;by_cases k1:m.k=1
 ·rw[if_pos k1]at bN h2⊢;rw[if_pos k1];have bN:At ts s.i ((2,xq,0)::(1,m.ev,0)::(R++A)):=bN;refine⟨by rw[cH h0 bN,k1];decide,by omega,?_⟩;rw[fF,bO,qK (s:=cx s (0+1) (0+0) (1+0) (0+0)) h0 bN.tail];dsimp only;rw[bO];obtain⟨g,r,e1,e2,e3⟩:=Bb hE (s:=cx s (0+1+1) (0+0+0) (1+0+0) (0+0+0)) h0 m {LG m.k (tk ts s.i).a with ev:=m.ev} (by unfold cx;dsimp only;omega) (by unfold cx;dsimp only;omega) h hn (by rw[hR];exact bN.tail.tail) rfl rfl rfl rfl;rw[e1,hR,bO];refine⟨⟨rfl,rfl,?_,rfl,e2,e3,rfl,Ba⟩,?_⟩
  ·show m.wt=0;omega
  ·dsimp only;congr 1<;>(try simp only[ao,ah,aM])<;>omega
 ·rw[if_neg k1]at bN h2⊢;rw[if_neg k1];have h2:=aj h2;by_cases k3:m.k=3
  ·rw[if_pos k3]at bN⊢;rw[if_pos k3];have bN:At ts s.i ((2,eY,0)::(3,[],m.wt)::(R++A)):=bN;refine⟨by rw[cH h0 bN,k3];decide,by omega,?_⟩;obtain⟨c1,c2,c3⟩:=qJ (s:=cx s (0+1) (0+0) (1+0) (0+0)) (k:=3) h0 bN.tail rfl;rw[fF,bO,c2,c3];dsimp only;rw[bO];obtain⟨g,r,e1,e2,e3⟩:=Bb hE (s:=cx s (0+1+1) (0+0+0) (1+0+0) (0+0+0)) h0 m {LG m.k (tk ts s.i).a with wt:=m.wt} (by unfold cx;dsimp only;omega) (by unfold cx;dsimp only;omega) h hn (by rw[hR];exact bN.tail.tail) rfl rfl rfl rfl;rw[e1,hR,bO];refine⟨⟨rfl,h2,rfl,rfl,e2,e3,rfl,Ba⟩,?_⟩;dsimp only;congr 1<;>(try simp only[ao,ah,aM])<;>omega
  ·rw[if_neg k3]at bN⊢;rw[if_neg k3];have bN:At ts s.i ((2,eO,0)::(R++A)):=bN;have k2:m.k=2:=by omega
   refine⟨by rw[cH h0 bN,k2];decide,by omega,?_⟩;rw[fF,bO];obtain⟨g,r,e1,e2,e3⟩:=Bb hE (s:=cx s (0+1) (0+0) (1+0) (0+0)) h0 m (LG m.k (tk ts s.i).a) (by unfold cx;dsimp only;omega) (by unfold cx;dsimp only;omega) h hn (by rw[hR];exact bN.tail) rfl rfl rfl rfl;rw[e1,hR,bO];refine⟨⟨rfl,h2,?_,rfl,e2,e3,rfl,Ba⟩,?_⟩
   ·show m.wt=0;omega
   ·dsimp only;congr 1<;>(try simp only[ao,ah,aM])<;>omega
end
def M8 (x y:Nd):Prop:=∀d,US false d x y
theorem Bc {b b':Nb} {l l':List Nd} (h:NbE false b b') (k:gj M8 l l'):M8 (.mk b l) (.mk b' l'):=fun d=>by
 cases d with
 | zero=>trivial
 | succ d=>exact⟨h,k.1,fun i x y hx hy=>k.2 i x y hx hy d⟩
def uZ (q:K3):Prop:=JW q [xq,eO,eY]=0/\JW q [dw,eS,eT]=0/\q.1≠5
def pX (l:List Mv):Nat:=(l.map fun m=>m.acts.length).sum
theorem UW (b:Nb):xx b=b.en.length+(b.lv.length+pX b.mv):=by unfold xx pX;omega
section
variable {ts:List Tk} (hE:oM ts)
include hE
theorem UX {s:Sx} (h0:s.fc=0) (n:Nb) {h:vN} (hi:h.i=false) {x:List UInt8} {A:List K3} (bN:At ts s.i ((2,dw,0)::(1,x,0)::fk 59::A)):cF ts n h s=(true,{n with ini:=x},{h with i:=true},cx s 3 0 0 0):=by
 unfold cF;have w1:bA ts s [xq,eO,eY]=0:=by rw[cH h0 bN];decide
 have w2:bA ts s [dw,eS,eT]=1:=by rw[cH h0 bN];decide
 rw[w1,if_neg (fun e=>e rfl),w2];show(if h.i=true then(false,n,h,gF ts s)else(true,{n with ini:=(ft ts (ci s)).1},{h with i:=true},cV ts (ft ts (ci s)).2 [59]))=_;rw[hi,if_neg (by decide),fF,qK (s:=cx s 1 0 0 0) h0 bN.tail];dsimp only;rw[fP (s:=cx (cx s 1 0 0 0) 1 0 0 0) h0 bN.tail.tail (by decide),bO,bO]
theorem aaH {s:Sx} (h0:s.fc=0) (n:Nb) {h:vN} (hi:h.e=false) {l:List Ac} (ha:(l.length:Int)<=s.a) (hb:s.a<=1000) (hl:l.all gw=true) (hn:∀a,a∈l->C0 a) {A:List K3} (bN:At ts s.i ((2,eS,0)::(tR l++A))):
  ∃r,cF ts n h s=(true,{n with en:=r},{h with e:=true},cx s ((tR l).length+1) l.length 0 0)/\gj (AcE false) l r:=by
 unfold cF;have w1:bA ts s [xq,eO,eY]=0:=by rw[cH h0 bN];decide
 have w2:bA ts s [dw,eS,eT]=2:=by rw[cH h0 bN];decide
 rw[w1,if_neg (fun e=>e rfl),w2];obtain⟨r,e1,e2⟩:=UU hE (s:=cx s 1 0 0 0) h0 (by unfold cx;dsimp only;omega) (by unfold cx;dsimp only;omega) hl hn bN.tail
 suffices hh:(if h.e=true then(false,n,h,gF ts s)else(true,{n with en:=(eZ ts (ci s)).1},{h with e:=true},(eZ ts (ci s)).2))=(true,{n with en:=r},{h with e:=true},cx s ((tR l).length+1) l.length 0 0)from⟨r,hh,e2⟩
 rw[hi,if_neg (by decide),fF,e1];dsimp only;rw[bO];congr 4<;>omega
theorem aaI {s:Sx} (h0:s.fc=0) (n:Nb) {h:vN} (hi:h.l=false) {l:List Ac} (ha:(l.length:Int)<=s.a) (hb:s.a<=1000) (hl:l.all gw=true) (hn:∀a,a∈l->C0 a) {A:List K3} (bN:At ts s.i ((2,eT,0)::(tR l++A))):
  ∃r,cF ts n h s=(true,{n with lv:=r},{h with l:=true},cx s ((tR l).length+1) l.length 0 0)/\gj (AcE false) l r:=by
 unfold cF;have w1:bA ts s [xq,eO,eY]=0:=by rw[cH h0 bN];decide
 have w2:bA ts s [dw,eS,eT]=3:=by rw[cH h0 bN];decide
 rw[w1,if_neg (fun e=>e rfl),w2];obtain⟨r,e1,e2⟩:=UU hE (s:=cx s 1 0 0 0) h0 (by unfold cx;dsimp only;omega) (by unfold cx;dsimp only;omega) hl hn bN.tail
 suffices hh:(if h.l=true then(false,n,h,gF ts s)else(true,{n with lv:=(eZ ts (ci s)).1},{h with l:=true},(eZ ts (ci s)).2))=(true,{n with lv:=r},{h with l:=true},cx s ((tR l).length+1) l.length 0 0)from⟨r,hh,e2⟩
 rw[hi,if_neg (by decide),fF,e1];dsimp only;rw[bO];congr 4<;>omega
theorem aaJ {s:Sx} (h0:s.fc=0) (n:Nb) (h:vN) {m:Mv} (ha:(m.acts.length:Int)<=s.a) (hb:s.a<=1000) (x9:1<=s.m) (vH:s.m<=1000) (hm:mO m=true) (hn:OU m) {A:List K3} (bN:At ts s.i (H3 m++A)):
  ∃r,cF ts n h s=(true,{n with mv:=n.mv++[r]},h,cx s (H3 m).length m.acts.length 1 0)/\MvE false m r:=by
 obtain⟨h1,h2,h3,h4⟩:=agx hE h0 ha hb x9 vH hm hn bN;unfold cF;rw[h1,if_pos (by omega),dT (by omega),h4];exact⟨_,rfl,h3⟩
theorem QE {s:Sx} (h0:s.fc=0) (n:Nb) (h:vN) {q:K3} {A:List K3} (hq:uZ q) (bN:At ts s.i (q::A)):cF ts n h s=(false,n,h,s):=by
 unfold cF;rw[cH h0 bN,cH h0 bN,hq.1,hq.2.1,if_neg (fun e=>e rfl)];rfl
theorem tv {s:Sx} (h0:s.fc=0) {f:Nat} {n n':Nb} {h h':vN} {s':Sx} (hc:cF ts n h s=(true,n',h',s')):ez ts (f+1) n h s=ez ts f n' h' s':=by
 rw[ez,if_neg (fun e=>e h0),hc];rfl
theorem M9:∀(l:List Mv) (f:Nat) (n:Nb) (h:vN) {s:Sx},s.fc=0->l.length<f->(pX l:Int)<=s.a->s.a<=1000->(l.length:Int)<=s.m->s.m<=1000->l.all mO=true->(∀m,m∈l->OU m)->∀{q:K3} {A:List K3},uZ q->At ts s.i (rP l++q::A)->
  ∃r,ez ts f n h s=({n with mv:=n.mv++r},cx s (rP l).length (pX l) l.length 0)/\gj (MvE false) l r
 | [],f,n,h,s,h0,hf,ha,hb,x9,vH,hl,hn,q,A,hq,bN=>by
  obtain⟨f,rfl⟩:∃g,f=g+1:=⟨f-1,by rw[aM]at hf;omega⟩
  have bN:At ts s.i (q::A):=bN;rw[ez,if_neg (fun e=>e h0),QE hE h0 n h hq bN];refine⟨[],?_,xW⟩;rw[aN];show(n,s)=(n,cx s 0 0 0 0)
  rw[UT]
 | m::l,f,n,h,s,h0,hf,ha,hb,x9,vH,hl,hn,q,A,hq,bN=>by
  rw[ao]at hf x9;obtain⟨f,rfl⟩:∃g,f=g+1:=⟨f-1,by omega⟩
  rw[gY,ab]at hl;have es:pX (m::l)=m.acts.length+pX l:=by unfold pX;rw[aI,bd]
  rw[es]at ha;have bN:At ts s.i ((H3 m++rP l)++q::A):=bN;rw[av]at bN;obtain⟨x,e1,e2⟩:=aaJ hE h0 n h (by omega) hb (by omega) vH hl.1 (hn m (by simp)) bN;rw[tv hE h0 e1];obtain⟨r,e3,e4⟩:=M9 l f {n with mv:=n.mv++[x]} h (s:=cx s (H3 m).length m.acts.length 1 0) h0 (by omega) (by unfold cx;dsimp only;omega) (by unfold cx;dsimp only;omega) (by unfold cx;dsimp only;omega) (by unfold cx;dsimp only;omega) hl.2 (fun y hy=>hn y (by simp[hy])) hq bN.right;refine⟨x::r,?_,QB e2 e4⟩;rw[e3,bO,es];simp only[rP,ah,ao,av,da];congr 2;omega
theorem DF:∀l:List Mv,l.length<=(rP l).length
 | []=>aq _
 | m::l=>by
  have h1:=DF l;have h2:1<=(H3 m).length:=by
   unfold H3 hdK;rw[ah];split
   ·simp only[ao];omega
   ·split<;>(simp only[ao];omega)
  rw[rP,ah,ao];omega
theorem SJ {f:Nat} {n:Nb} {h:vN} {s:Sx} {b:Nb} (h0:s.fc=0) (hf:(Jn b).length+b.mv.length<f) (ha:(b.lv.length+pX b.mv:Nat)<=s.a) (hb:s.a<=1000) (x9:(b.mv.length:Int)<=s.m) (vH:s.m<=1000) (hs:Xq b) (hn:OW b) {q:K3} {A:List K3} (hq:uZ q) (bN:At ts s.i (Jn b++(rP b.mv++q::A))) (hl:h.l=false) (tN:n.lv=[]):
  ∃r1 r2,ez ts f n h s=({n with lv:=r1,mv:=n.mv++r2},cx s ((Jn b).length+(rP b.mv).length) (b.lv.length+pX b.mv) b.mv.length 0)/\gj (AcE false) b.lv r1/\gj (MvE false) b.mv r2:=by
 obtain⟨nk,nn,ni,nd,ne,nl,nm,na⟩:=n;dsimp only at tN;subst tN;unfold Jn at bN hf⊢;by_cases he:b.lv=[]
 ·rw[if_pos he]at bN hf⊢;rw[aM]at hf;obtain⟨r,e1,e2⟩:=M9 hE b.mv f _ h h0 (by omega) (by omega) hb x9 vH hs.mv hn.mv hq bN;refine⟨[],r,?_,by rw[he];exact xW,e2⟩;rw[e1,he];simp only[aM,aJ]
 ·rw[if_neg he]at bN hf⊢;simp only[ao]at hf;obtain⟨f,rfl⟩:∃g,f=g+1:=⟨f-1,by omega⟩
  obtain⟨r1,e1,e2⟩:=aaI hE h0 _ hl (by omega) hb hs.lv hn.lv bN;rw[tv hE h0 e1];obtain⟨r2,e3,e4⟩:=M9 hE b.mv f _ _ (s:=cx s ((tR b.lv).length+1) b.lv.length 0 0) h0 (by omega) (by unfold cx;dsimp only;omega) (by unfold cx;dsimp only;omega) (by unfold cx;dsimp only;omega) (by unfold cx;dsimp only;omega) hs.mv hn.mv hq (by
   have h5:=bN.tail.right;have e:s.i+1+(tR b.lv).length=(cx s ((tR b.lv).length+1) b.lv.length 0 0).i:=by unfold cx;dsimp only;omega
   rw[<-e];exact h5)
  refine⟨r1,r2,?_,e2,e4⟩;rw[e3,bO,ao];congr 2;omega
theorem SK {f:Nat} {n:Nb} {h:vN} {s:Sx} {b:Nb} (h0:s.fc=0) (hf:(Ow b).length+((Jn b).length+b.mv.length)<f) (ha:(b.en.length+(b.lv.length+pX b.mv):Nat)<=s.a) (hb:s.a<=1000) (x9:(b.mv.length:Int)<=s.m) (vH:s.m<=1000) (hs:Xq b) (hn:OW b) {q:K3} {A:List K3} (hq:uZ q) (bN:At ts s.i (Ow b++(Jn b++(rP b.mv++q::A)))) (he0:h.e=false) (hl:h.l=false) (ve:n.en=[]) (tN:n.lv=[]):
  ∃r0 r1 r2,ez ts f n h s=({n with en:=r0,lv:=r1,mv:=n.mv++r2},cx s ((Ow b).length+((Jn b).length+(rP b.mv).length)) (b.en.length+(b.lv.length+pX b.mv)) b.mv.length 0)/\gj (AcE false) b.en r0/\gj (AcE false) b.lv r1/\gj (MvE false) b.mv r2:=by
 obtain⟨nk,nn,ni,nd,ne,nl,nm,na⟩:=n;dsimp only at tN ve;subst tN ve;unfold Ow at bN hf⊢;by_cases he:b.en=[]
 ·rw[if_pos he]at bN hf⊢;rw[aM]at hf;obtain⟨r1,r2,e1,e2,e3⟩:=SJ hE (f:=f) (h:=h) (n:=⟨nk,nn,ni,nd,[],[],nm,na⟩) h0 (by omega) (by omega) hb x9 vH hs hn hq bN hl rfl;refine⟨[],r1,r2,?_,by rw[he];exact xW,e2,e3⟩;rw[e1,he];simp only[aM,aJ]
 ·rw[if_neg he]at bN hf⊢;simp only[ao]at hf;obtain⟨f,rfl⟩:∃g,f=g+1:=⟨f-1,by omega⟩
  obtain⟨r0,e1,e2⟩:=aaH hE h0 _ he0 (by omega) hb hs.en hn.en bN;rw[tv hE h0 e1];obtain⟨r1,r2,e3,e4,e5⟩:=SJ hE (n:=⟨nk,nn,ni,nd,r0,[],nm,na⟩) (h:={h with e:=true}) (s:=cx s ((tR b.en).length+1) b.en.length 0 0) h0 (f:=f) (by omega) (by unfold cx;dsimp only;omega) (by unfold cx;dsimp only;omega) (by unfold cx;dsimp only;omega) (by unfold cx;dsimp only;omega) hs hn hq (by
   have h5:=bN.tail.right;have e:s.i+1+(tR b.en).length=(cx s ((tR b.en).length+1) b.en.length 0 0).i:=by unfold cx;dsimp only;omega
   rw[<-e];exact h5) hl rfl
  refine⟨r0,r1,r2,?_,e2,e4,e5⟩;rw[e3,bO,ao];congr 2<;>omega
theorem agy {f:Nat} {n:Nb} {s:Sx} {b:Nb} (h0:s.fc=0) (hf:(FE b).length+((Ow b).length+((Jn b).length+b.mv.length))<f) (ha:(xx b:Int)<=s.a) (hb:s.a<=1000) (x9:(b.mv.length:Int)<=s.m) (vH:s.m<=1000) (hs:Xq b) (hn:OW b) {q:K3} {A:List K3} (hq:uZ q) (bN:At ts s.i (uz b++q::A)) (Rg:n.ini=[]) (ve:n.en=[]) (tN:n.lv=[]) (lA:n.mv=[]):
  ∃r0 r1 r2,ez ts f n ⟨false,false,false⟩ s=({n with ini:=b.ini,en:=r0,lv:=r1,mv:=r2},cx s (uz b).length (xx b) b.mv.length 0)/\gj (AcE false) b.en r0/\gj (AcE false) b.lv r1/\gj (MvE false) b.mv r2:=by
 rw[UW]at ha⊢;obtain⟨nk,nn,ni,nd,ne,nl,nm,na⟩:=n;dsimp only at Rg tN ve lA;subst Rg tN ve lA;unfold uz at bN⊢;have bN:At ts s.i (FE b++(Ow b++(Jn b++(rP b.mv++q::A)))):=by simpa[av]using bN
 simp only[ah];unfold FE at bN hf⊢;by_cases he:b.ini=[]
 ·rw[if_pos he]at bN hf⊢;rw[aM]at hf;obtain⟨r0,r1,r2,e1,e2⟩:=SK hE (f:=f) (n:=⟨nk,nn,[],nd,[],[],[],na⟩) (h:=⟨false,false,false⟩) h0 (by omega) ha hb x9 vH hs hn hq bN rfl rfl rfl rfl;refine⟨r0,r1,r2,?_,e2⟩;rw[e1,he];simp only[aM,aJ,aV]
 ·rw[if_neg he]at bN hf⊢;simp only[ao]at hf;obtain⟨f,rfl⟩:∃g,f=g+1:=⟨f-1,by omega⟩
  have e1:=UX hE h0 ⟨nk,nn,[],nd,[],[],[],na⟩ (h:=⟨false,false,false⟩) rfl bN;rw[tv hE h0 e1];obtain⟨r0,r1,r2,e3,e4⟩:=SK hE (n:=⟨nk,nn,b.ini,nd,[],[],[],na⟩) (h:=⟨true,false,false⟩) (s:=cx s 3 0 0 0) h0 (f:=f) (by omega) (by unfold cx;dsimp only;omega) (by unfold cx;dsimp only;omega) (by unfold cx;dsimp only;omega) (by unfold cx;dsimp only;omega) hs hn hq bN.tail.tail.tail rfl rfl rfl rfl;refine⟨r0,r1,r2,?_,e4⟩;rw[e3,bO];simp only[ao,aM,aV];congr 2<;>omega
theorem xX {s:Sx} (h0:s.fc=0) (k:Int) {nm:List UInt8} {A:List K3} (bN:At ts s.i ((1,nm,0)::A)) (hn1:1<=s.n) (hn2:s.n<=1000) (hd:s.d≠0):∃a,di ts k s=({Sd with k:=k,nm:=nm,a:=a},cx s 1 0 0 1):=by
 have hu:yG ts s=cx s 0 0 0 1:=by
  unfold yG cx;rw[if_neg (by omega),tu hn1 hn2];simp
 have hr:mw ts s=cx s 0 0 0 1:=by
  unfold mw;rw[if_pos bN.head.1,hu,if_neg (show ¬(cx s 0 0 0 1).d=0 from hd)]
 obtain⟨c1,c2,c3⟩:=qJ (s:=cx s 0 0 0 1) (k:=1) h0 (q:=(1,nm,0)) (A:=A) bN rfl;refine⟨(dR ts (cx s 0 0 0 1) 1).1.a,?_⟩;unfold di;rw[hr,c1,c3,bO]
theorem UY {k:Int} (h1:1<=k) (h2:k<=4):JW (2,kW k,0) lP=k.toNat:=by
 have:k=1∨k=2∨k=3∨k=4:=by omega
 rcases this with rfl | rfl | rfl | rfl<;>decide
theorem Bd {d:Nat} {b:Nb} {l:List Nd} (h:jk d (.mk b l)=true):1<=b.k/\b.k<=4:=by
 rw[jk]at h;simp only[ab]at h;cases hh:gW b.k with
 | true=>
  have:=aj hh;omega
 | false=>
  have:=(M5 h.1.2 hh).1;omega
theorem tw (x:Nd):∃B,Jo x=(2,kW x.b.k,0)::B:=by
 obtain⟨b,l⟩:=x;rw[Jo];split
 ·exact⟨_,rfl⟩
 ·exact⟨_,rfl⟩
abbrev Na (ts:List Tk) (f:Nat):Prop:=∀(x:Nd) (deep:Nat) {s:Sx} {A:List K3},jk deep x=true->vu x->s.fc=0->s.d=12-(deep:Int)->13<=deep+f->(iB x:Int)<=s.n->s.n<=1000->(rL x:Int)<=s.a->s.a<=1000->(qS x:Int)<=s.m->s.m<=1000->At ts s.i ((Jo x).tail++A)->
 ∃r,gP ts f x.b.k s=(r,cx s ((Jo x).length-1) (rL x) (qS x) (iB x))/\M8 x r
theorem Nc {N:Nat} (hN:Na ts N):∀(l:List Nd) (f:Nat) (acc:List Nd) (deep:Nat) {s:Sx},fW deep l=true->ma l->s.fc=0->s.d=12-(deep:Int)->13<=deep+N->l.length<f->(dj l:Int)<=s.n->s.n<=1000->(jc l:Int)<=s.a->s.a<=1000->(jC l:Int)<=s.m->s.m<=1000->∀{A:List K3},At ts s.i (iw l++fk 125::A)->
  ∃r,oG ts (gP ts N) f acc s=(acc++r,cx s (iw l).length (jc l) (jC l) (dj l))/\gj M8 l r
 | [],f,acc,deep,s,h,hn,h0,hd,NH,hf,n1,n2,a1,a2,m1,m2,A,bN=>by
  obtain⟨f,rfl⟩:∃g,f=g+1:=⟨f-1,by rw[aM]at hf;omega⟩
  rw[iw]at bN⊢;have bN:At ts s.i (fk 125::A):=bN;rw[oG,cH h0 bN,if_pos (by decide),jc,jC,dj];exact⟨[],by rw[aN,aM,UT],xW⟩
 | x::l,f,acc,deep,s,h,hn,h0,hd,NH,hf,n1,n2,a1,a2,m1,m2,A,bN=>by
  rw[ao]at hf;obtain⟨f,rfl⟩:∃g,f=g+1:=⟨f-1,by omega⟩
  rw[fW,ab]at h;rw[ma]at hn;rw[dj]at n1⊢;rw[jc]at a1⊢;rw[jC]at m1⊢;rw[iw]at bN⊢;rw[av]at bN;obtain⟨B,hB⟩:=tw (ts:=ts) hE x;have hk:=Bd (ts:=ts) hE (d:=deep) (b:=x.b) (l:=x.kids) (by obtain⟨b,k⟩:=x;exact h.1);have hw:bA ts s lP=x.b.k.toNat:=by
   have mT:=bN;rw[hB]at mT;rw[cH h0 mT];exact UY (ts:=ts) hE hk.1 hk.2
  have hkn:(x.b.k.toNat:Int)=x.b.k:=dT (by omega);have h1:At ts (cx s 1 0 0 0).i ((Jo x).tail++(iw l++fk 125::A)):=by
   have mT:=bN;rw[hB]at mT⊢;exact mT.tail
  have dN:1<=(Jo x).length:=by rw[hB,ao];omega
  obtain⟨r,e1,e2⟩:=hN x deep (s:=cx s 1 0 0 0) h.1 hn.1 h0 hd NH (by unfold cx;dsimp only;omega) (by unfold cx;dsimp only;omega) (by unfold cx;dsimp only;omega) (by unfold cx;dsimp only;omega) (by unfold cx;dsimp only;omega) (by unfold cx;dsimp only;omega) h1;rw[oG,hw,if_neg (by omega),hkn,fF,e1];dsimp only;rw[bO];obtain⟨r2,e3,e4⟩:=Nc hN l f (acc++[r]) deep (s:=cx s (1+((Jo x).length-1)) (0+rL x) (0+qS x) (0+iB x)) h.2 hn.2 h0 hd NH (by omega) (by unfold cx;dsimp only;omega) (by unfold cx;dsimp only;omega) (by unfold cx;dsimp only;omega) (by unfold cx;dsimp only;omega) (by unfold cx;dsimp only;omega) (by unfold cx;dsimp only;omega) (by
   have h5:=bN.right;have e:s.i+(Jo x).length=(cx s (1+((Jo x).length-1)) (0+rL x) (0+qS x) (0+iB x)).i:=by unfold cx;dsimp only;omega
   rw[<-e];exact h5)
  refine⟨r::r2,?_,QB e2 e4⟩;rw[e3,bO,av,ah];simp only[da];congr 2<;>omega
theorem DG:∀l:List Nd,l.length<=(iw l).length
 | []=>aF _
 | x::l=>by
  have:=DG l;obtain⟨B,hB⟩:=tw (ts:=ts) hE x;rw[iw,hB,ah,ao,ao];omega
theorem DH (l:List Nd) (h:∀x,x∈l->1<=x.b.k/\x.b.k<=4) (A:List K3):∃q B,iw l++fk 125::A=q::B/\uZ q:=by
 cases l with
 | nil=>
  rw[iw];exact⟨_,_,rfl,by unfold uZ;decide⟩
 | cons x l=>
  obtain⟨B,hB⟩:=tw (ts:=ts) hE x;rw[iw,hB];refine⟨_,_,rfl,?_⟩;obtain⟨h1,h2⟩:=h x (by simp);have:x.b.k=1∨x.b.k=2∨x.b.k=3∨x.b.k=4:=by omega
  unfold uZ;rcases this with e | e | e | e<;>rw[e]<;>decide
theorem tA {d:Nat}:∀{l:List Nd},fW d l=true->∀x,x∈l->1<=x.b.k/\x.b.k<=4
 | [],_,x,hx=>by simp at hx
 | y::l,h,x,hx=>by
  rw[fW,ab]at h;rcases ak.1 hx with rfl | hx
  ·obtain⟨b,k⟩:=x;exact Bd (ts:=ts) hE h.1
  ·exact tA h.2 x hx
theorem Nf {N:Nat} (hN:Na ts N) {b:Nb} {l:List Nd} {deep:Nat} {s:Sx} {n:Nb} (hl:fW (deep+1) l=true) (hnl:ma l) (hs:Xq b) (hn:OW b) (h0:s.fc=0) (hd:s.d=12-(deep:Int)) (hdp:deep<12) (NH:13<=deep+1+N)
  (n1:(dj l:Int)<=s.n) (n2:s.n<=1000) (a1:(xx b+jc l:Nat)<=s.a) (a2:s.a<=1000) (m1:(b.mv.length+jC l:Nat)<=s.m) (m2:s.m<=1000) {A:List K3} (bN:At ts s.i ((uz b++(iw l++[fk 125]))++A)) (Rg:n.ini=[]) (ve:n.en=[]) (tN:n.lv=[]) (lA:n.mv=[]):
  ∃r0 r1 r2 r,mr ts (gP ts N) n s=(.mk {n with ini:=b.ini,en:=r0,lv:=r1,mv:=r2} r,cx s (uz b++(iw l++[fk 125])).length (xx b+jc l) (b.mv.length+jC l) (dj l))/\gj (AcE false) b.en r0/\gj (AcE false) b.lv r1/\gj (MvE false) b.mv r2/\gj M8 l r:=by
 have bN:At ts s.i (uz b++(iw l++fk 125::A)):=by simpa[av]using bN
 obtain⟨q,B,hq1,hq2⟩:=DH hE l (tA hE hl) A;have Ts:=At.inr hE (s:=s) (L:=uz b++iw l) (q:=fk 125) (A:=A) (by simpa[av]using bN) (by decide);rw[ah]at Ts;have Ka:=DF (ts:=ts) hE b.mv;have FV:=DG (ts:=ts) hE l;have apc:(FE b).length+((Ow b).length+((Jn b).length+(rP b.mv).length))=(uz b).length:=by unfold uz;simp only[ah]
 have hd1:tQ s.d=s.d-1:=tu (by omega) (by omega);have hi1:T9 (s.d-1)=s.d:=by
  unfold T9;rw[gV (by omega) (by omega)];omega
 have Oh:=bN;rw[hq1]at Oh;obtain⟨r0,r1,r2,e1,e2,e3,e4⟩:=agy hE (f:=ts.length+1) (n:=n) (s:={s with d:=s.d-1}) h0 (by omega) (by dsimp only;omega) a2 (by dsimp only;omega) m2 hs hn hq2 Oh Rg ve tN lA;obtain⟨r,e5,e6⟩:=Nc hE hN l (ts.length+1) [] (deep+1) (s:=cx {s with d:=s.d-1} (uz b).length (xx b) b.mv.length 0) hl hnl h0 (by unfold cx;dsimp only;omega) NH (by omega) (by unfold cx;dsimp only;omega) (by unfold cx;dsimp only;omega) (by unfold cx;dsimp only;omega) (by unfold cx;dsimp only;omega) (by unfold cx;dsimp only;omega) (by unfold cx;dsimp only;omega) bN.right;refine⟨r0,r1,r2,r,?_,e2,e3,e4,e6⟩;unfold mr;dsimp only;rw[hd1,e1];dsimp only;rw[e5];dsimp only;have e7:({cx (cx {s with d:=s.d-1} (uz b).length (xx b) b.mv.length 0) (iw l).length (jc l) (jC l) (dj l)with d:=T9 (cx (cx {s with d:=s.d-1} (uz b).length (xx b) b.mv.length 0) (iw l).length (jc l) (jC l) (dj l)).d}:Sx)=cx s ((uz b).length+(iw l).length) (xx b+jc l) (b.mv.length+jC l) (0+dj l):=by
  rw[bO];unfold cx;dsimp only;rw[hi1]
 rw[e7,fP (s:=cx s ((uz b).length+(iw l).length) (xx b+jc l) (b.mv.length+jC l) (0+dj l)) h0 (q:=fk 125) (A:=A) (by
  have h5:=bN.right.right;rw[cb]at h5;exact h5) (by decide),bO,aV]
 simp only[ah,ao,aM];congr 2<;>omega
theorem Ng:∀f,Na ts f
 | 0=>by
  intro x deep s A h hn h0 hd NH;obtain⟨b,l⟩:=x;rw[jk]at h;simp only[ab]at h;have:=aj h.1.1;omega
 | f+1=>by
  intro x deep s A h hn h0 hd NH n1 n2 a1 a2 m1 m2 bN;obtain⟨b,l⟩:=x;have hk:=Bd (ts:=ts) hE h;rw[jk]at h;rw[vu]at hn;rw[iB]at n1⊢;rw[rL]at a1⊢;rw[qS]at m1⊢;simp only[ab]at h;obtain⟨⟨h1,h2⟩,h3⟩:=h;have h1:=aj h1;show ∃r,gP ts (f+1) b.k s=_/\_;rw[Jo]at bN⊢;rw[gP];cases hh:gW b.k with
  | true=>
   obtain⟨g1,g2,g3,g4,g5,g6,g7⟩:=aaC h2 hh;have h34:=aj hh;have hl:l=[]:=aW g7;subst hl;rw[hh,if_pos rfl]at bN;have bN:At ts s.i ((1,b.nm,0)::UN::(1,b.dft,0)::fk 59::A):=bN;obtain⟨a,e1⟩:=xX hE h0 b.k bN (by omega) n2 (by omega);rw[if_pos (by omega),if_pos rfl,e1];dsimp only;rw[fP (s:=cx s 1 0 0 1) h0 bN.tail (by decide),bO,qK (s:=cx s (1+1) (0+0) (0+0) (1+0)) h0 bN.tail.tail];dsimp only;rw[fP (s:=cx (cx s (1+1) (0+0) (0+0) (1+0)) 1 0 0 0) h0 bN.tail.tail.tail (by decide),bO,bO];refine⟨_,?_,Bc (b':={Sd with k:=b.k,nm:=b.nm,a:=a,dft:=b.dft}) ⟨rfl,rfl,g3,rfl,by rw[g4];exact xW,by rw[g5];exact xW,by rw[g6];exact xW,Ba⟩ xW⟩;congr 1;rw[jc,jC,dj];have:xx b=0:=by unfold xx;rw[g4,g5,g6];rfl
   rw[this,g6];rfl
  | false=>
   obtain⟨g1,g2,hs⟩:=M5 h2 hh;rw[hh,if_neg (by decide)]at bN;have bN:At ts s.i ((1,b.nm,0)::fk 123::((uz b++(iw l++[fk 125]))++A)):=bN;obtain⟨a,e1⟩:=xX hE h0 b.k bN (by omega) n2 (by omega);rw[if_neg (by omega),if_neg (by decide),e1];dsimp only;rw[fP (s:=cx s 1 0 0 1) h0 bN.tail (by decide),bO];obtain⟨r0,r1,r2,r,e2,e3,e4,e5,e6⟩:=Nf hE (Ng f) (deep:=deep) (s:=cx s (1+1) (0+0) (0+0) (1+0)) (n:={Sd with k:=b.k,nm:=b.nm,a:=a}) h3 hn.2 hs hn.1 h0 hd h1 (by omega) (by unfold cx;dsimp only;omega) (by unfold cx;dsimp only;omega) (by unfold cx;dsimp only;omega) (by unfold cx;dsimp only;omega) (by unfold cx;dsimp only;omega) (by unfold cx;dsimp only;omega) bN.tail.tail rfl rfl rfl rfl;rw[e2,bO];refine⟨_,?_,Bc (b':={Sd with k:=b.k,nm:=b.nm,a:=a,ini:=b.ini,en:=r0,lv:=r1,mv:=r2}) ⟨rfl,rfl,rfl,g2,e3,e4,e5,Ba⟩ e6⟩;congr 2<;>(try simp only[ao])<;>omega
theorem aaK {s:Sx} (h0:s.fc=0) {v:Int} (hv:InI v) (hm:v≠ -9223372036854775808) {q:K3} {A:List K3} (bN:At ts s.i (vD v++q::A)):
  ∃g:Nat,bA ts s [[45]]=g/\(if g=0 then(dR ts (if g=0 then s else ci s) 3).1.n else IntKind.wrap .i64 (-(dR ts (if g=0 then s else ci s) 3).1.n))=v/\(dR ts (if g=0 then s else ci s) 3).2=cx s (vD v).length 0 0 0:=by
 obtain⟨h1,h2⟩:=hv;unfold vD at bN⊢;by_cases hn:v<0
 ·rw[if_pos hn]at bN⊢;have bN:At ts s.i (fk 45::(3,[], -v)::q::A):=bN;obtain⟨c1,c2,c3⟩:=qJ (s:=cx s 1 0 0 0) (k:=3) h0 bN.tail rfl;refine⟨1,by rw[cH h0 bN];decide,?_,?_⟩
  ·rw[if_neg (by decide),if_neg (by decide),fF,c2];dsimp only;rw[Int.neg_neg,gV h1 h2]
  ·rw[if_neg (by decide),fF,c3,bO];rfl
 ·rw[if_neg hn]at bN⊢;have bN:At ts s.i ((3,[],v)::q::A):=bN;obtain⟨c1,c2,c3⟩:=qJ (s:=s) (k:=3) h0 bN rfl;exact⟨0,by rw[cH h0 bN];rfl,by rw[if_pos rfl,if_pos rfl,c2],by rw[if_pos rfl,c3];rfl⟩
theorem aaL {s:Sx} (h0:s.fc=0) (v1:1<=s.v) (v2:s.v<=1000) {v:Vr} (hv:InI v.v) (hm:v.v≠ -9223372036854775808) {A:List K3} (bN:At ts s.i ((M6 v).tail++A)):
  ∃r,pF ts s=(r,cx {s with v:=s.v-1} (M6 v).tail.length 0 0 0)/\VrE false v r:=by
 have bN:At ts s.i ((1,v.n,0)::fk 61::((vD v.v++[fk 59])++A)):=bN;have hu:yH ts s={s with v:=s.v-1}:=by
  unfold yH;rw[if_neg (by omega),tu v1 v2]
 unfold pF;dsimp only;rw[if_pos bN.head.1,hu];generalize NC:({s with v:=s.v-1}:Sx)=s1;have e0:s1.fc=0:=by rw[<-NC];exact h0
 have bN:At ts s1.i ((1,v.n,0)::fk 61::((vD v.v++[fk 59])++A)):=by rw[<-NC];exact bN
 obtain⟨c1,c2,c3⟩:=qJ (s:=s1) (k:=1) e0 bN rfl;rw[c1,c3,fP (s:=cx s1 1 0 0 0) e0 bN.tail (by decide),bO];have h2:At ts (cx s1 (1+1) (0+0) (0+0) (0+0)).i (vD v.v++fk 59::A):=by
  have:=bN.tail.tail;rw[av]at this;exact this
 obtain⟨g,g1,g2,g3⟩:=aaK hE (s:=cx s1 (1+1) (0+0) (0+0) (0+0)) e0 hv hm h2;rw[g1,g2,g3,bO,fP (s:=cx s1 (1+1+(vD v.v).length) (0+0+0) (0+0+0) (0+0+0)) e0 (q:=fk 59) (A:=A) (by
  have h5:=h2.right;have e:(cx s1 (1+1) (0+0) (0+0) (0+0)).i+(vD v.v).length=(cx s1 (1+1+(vD v.v).length) (0+0+0) (0+0+0) (0+0+0)).i:=by unfold cx;dsimp only;omega
  rw[<-e];exact h5) (by decide),bO]
 refine⟨⟨v.n,v.v,(dR ts s1 1).1.a⟩,?_,⟨rfl,rfl,Ba⟩⟩;unfold M6;simp only[List.tail_cons,ao,ah,aM];congr 2;omega
theorem Nh:∀(l:List Vr) (f:Nat) (acc:List Vr) {s:Sx},s.fc=0->l.length<f->(l.length:Int)<=s.v->s.v<=1000->(∀v,v∈l->InI v.v/\v.v≠ -9223372036854775808)->∀{q:K3} {A:List K3},JW q [rI]=0->At ts s.i (qV l++q::A)->
  ∃r,pG ts f acc s=(acc++r,cx {s with v:=s.v-l.length} (qV l).length 0 0 0)/\gj (VrE false) l r
 | [],f,acc,s,h0,hf,v1,v2,hv,q,A,hq,bN=>by
  obtain⟨f,rfl⟩:∃g,f=g+1:=⟨f-1,by rw[aM]at hf;omega⟩
  have bN:At ts s.i (q::A):=bN;rw[pG,cH h0 bN,if_pos hq];refine⟨[],?_,xW⟩;rw[aN];unfold cx qV;simp
 | v::l,f,acc,s,h0,hf,v1,v2,hv,q,A,hq,bN=>by
  rw[ao]at hf v1;obtain⟨f,rfl⟩:∃g,f=g+1:=⟨f-1,by omega⟩
  have bN:At ts s.i ((M6 v++qV l)++q::A):=bN;rw[av]at bN;have Oh:At ts s.i ((2,rI,0)::((M6 v).tail++(qV l++q::A))):=bN;obtain⟨r,e1,e2⟩:=aaL hE (s:=cx s 1 0 0 0) h0 (by unfold cx;dsimp only;omega) (by unfold cx;dsimp only;omega) (hv v (by simp)).1 (hv v (by simp)).2 Oh.tail;rw[pG,cH h0 Oh,if_neg (by decide),fF,e1];dsimp only;have e3:cx {cx s 1 0 0 0 with v:=(cx s 1 0 0 0).v-1} (M6 v).tail.length 0 0 0=cx {s with v:=s.v-1} (M6 v).length 0 0 0:=by
   unfold cx M6;simp only[List.tail_cons,ao,Sx.mk.injEq,qZ];refine⟨by omega,?_,?_,?_⟩<;>omega
  rw[e3];obtain⟨r2,e4,e5⟩:=Nh l f (acc++[r]) (s:=cx {s with v:=s.v-1} (M6 v).length 0 0 0) h0 (by omega) (by unfold cx;dsimp only;omega) (by unfold cx;dsimp only;omega) (fun x hx=>hv x (by simp[hx])) hq bN.right;refine⟨r::r2,?_,QB e2 e5⟩;rw[e4,av,ao];simp only[da];congr 1;unfold cx;simp only[qV,ah,Sx.mk.injEq,qZ];refine⟨by omega,by omega,?_,?_,?_⟩<;>omega
theorem DI:∀l:List Vr,l.length<=(qV l).length
 | []=>aq _
 | v::l=>by
  have:=DI l;rw[qV,ah,ao];unfold M6;rw[ao];omega
theorem QF {c:Ch} (h:lR c=true) (hn:Ea c) (bN:At ts 0 (WN c++[(5,[],0)])):(pH ts).2.fc=0/\∀d,ChE false d c (pH ts).1:=by
 unfold lR at h;simp only[ab]at h;obtain⟨⟨h1,h2⟩,h3⟩:=h;replace h3:=aj h3;obtain⟨vars,⟨b,l⟩⟩:=c;have hv:=hn.v;have hr:=hn.r;rw[vu]at hr;rw[jk]at h2;simp only[ab]at h2;obtain⟨⟨_,h4⟩,h5⟩:=h2;dsimp only at h1 h3 hv;obtain⟨q1,q2,q3,q4,q5⟩:=h3;have hk:b.k=1:=q1;rw[iB]at q3;rw[qS]at q4;rw[rL]at q5;have hh:gW b.k=false:=by rw[hk];rfl
 obtain⟨_,g2,hs⟩:=M5 h4 hh;have wh:∀v,v∈vars->InI v.v/\v.v≠ -9223372036854775808:=fun v hx=>by
  have:=(cJ.1 h1) v hx;simp only[ab,bB]at this;exact⟨hv v hx,this.2⟩
 unfold WN at bN;have bN:At ts rj.i ((2,eh,0)::(1,b.nm,0)::fk 123::(qV vars++((uz b++(iw l++[fk 125]))++[(5,[],0)]))):=by
  have e:(2,eh,0)::(1,b.nm,0)::fk 123::(qV vars++((uz b++(iw l++[fk 125]))++[(5,[],0)]))=(2,eh,0)::(1,b.nm,0)::fk 123::(qV vars++(uz b++(iw l++[fk 125])))++[(5,[],0)]:=by simp[av]
  rw[e];exact bN
 have z0:rj.fc=0:=rfl;unfold pH;dsimp only;rw[fP (s:=rj) z0 bN (by decide)];obtain⟨a,e1⟩:=xX hE (s:=cx rj 1 0 0 0) z0 1 bN.tail (by decide) (by decide) (by decide);rw[e1];dsimp only;rw[fP (s:=cx (cx rj 1 0 0 0) 1 0 0 1) z0 bN.tail.tail (by decide),bO,bO];have WC:At ts (cx rj (1+1+1) (0+0+0) (0+0+0) (0+1+0)).i (qV vars++((uz b++(iw l++[fk 125]))++[(5,[],0)])):=bN.tail.tail.tail;obtain⟨q,B,hq,hqv⟩:∃q B,(uz b++(iw l++[fk 125]))++[((5,[],0):K3)]=q::B/\JW q [rI]=0/\q.1≠5:=by
  obtain⟨q,B,j1,j2⟩:=DH hE l (tA hE h5) [((5,[],0):K3)];have jv:JW q [rI]=0:=by
   cases l with
   | nil=>
    rw[iw]at j1;have:q=fk 125:=by injection j1 with j _;exact j.symm
    rw[this];decide
   | cons x l=>
    obtain⟨C,hC⟩:=tw (ts:=ts) hE x;rw[iw,hC]at j1;have:q=(2,kW x.b.k,0):=by injection j1 with j _;exact j.symm
    obtain⟨x1,x2⟩:=tA (ts:=ts) hE h5 x (by simp);have x3:x.b.k=1∨x.b.k=2∨x.b.k=3∨x.b.k=4:=by omega
    rw[this];rcases x3 with e | e | e | e<;>rw[e]<;>decide
  have e:(uz b++(iw l++[fk 125]))++[((5,[],0):K3)]=uz b++(iw l++fk 125::[(5,[],0)]):=by simp[av]
  rw[e,j1];unfold uz FE Ow Jn;by_cases i1:b.ini=[]
  ·rw[if_pos i1];by_cases i2:b.en=[]
   ·rw[if_pos i2];by_cases i3:b.lv=[]
    ·rw[if_pos i3];cases lA:b.mv with
     | nil=>exact⟨q,B,rfl,jv,j2.2.2⟩
     | cons m ms=>
      have:∃w C,H3 m=(2,w,0)::C/\JW (2,w,0) [rI]=0:=by
       unfold H3 hdK;split
       ·exact⟨_,_,rfl,by decide⟩
       ·split
        ·exact⟨_,_,rfl,by decide⟩
        ·exact⟨_,_,rfl,by decide⟩
      obtain⟨w,C,u1,u2⟩:=this;rw[rP,u1];exact⟨_,_,rfl,u2,(by decide:(2:Int)≠5)⟩
    ·rw[if_neg i3];exact⟨_,_,rfl,by decide,(by decide:(2:Int)≠5)⟩
   ·rw[if_neg i2];exact⟨_,_,rfl,by decide,(by decide:(2:Int)≠5)⟩
  ·rw[if_neg i1];exact⟨_,_,rfl,by decide,(by decide:(2:Int)≠5)⟩
 have WD:=WC;rw[hq]at WD;have dN:=DI (ts:=ts) hE vars;have Ts:=At.inr hE WD hqv.2;obtain⟨rv,e2,e3⟩:=Nh hE vars (ts.length+1) [] (s:=cx rj (1+1+1) (0+0+0) (0+0+0) (0+1+0)) z0 (by omega) (by unfold cx rj;dsimp only;omega) (by decide) wh hqv.1 WD;rw[e2];dsimp only;obtain⟨r0,r1,r2,r,e4,e5,e6,e7,e8⟩:=Nf hE (Ng hE 14) (deep:=0) (s:=cx {cx rj (1+1+1) (0+0+0) (0+0+0) (0+1+0)with v:=(cx rj (1+1+1) (0+0+0) (0+0+0) (0+1+0)).v-vars.length} (qV vars).length 0 0 0) (n:={Sd with k:=1,nm:=b.nm,a:=a}) h5 hr.2 hs hr.1 z0 rfl (by decide) (by decide) (by unfold cx rj;dsimp only;omega) (by unfold cx rj;dsimp only;omega) (by unfold cx rj;dsimp only;omega) (by unfold cx rj;dsimp only;omega) (by unfold cx rj;dsimp only;omega) (by unfold cx rj;dsimp only;omega) WC.right rfl rfl rfl rfl;rw[e4];dsimp only;rw[bO];refine⟨?_,fun d=>⟨by rw[aV];exact e3,Bc (b':={Sd with k:=1,nm:=b.nm,a:=a,ini:=b.ini,en:=r0,lv:=r1,mv:=r2}) ⟨hk,rfl,rfl,g2,e5,e6,e7,Ba⟩ e8 d⟩⟩;unfold E2;rw[if_neg]
 ·exact z0
 ·rintro⟨_,eI⟩;refine eI ?_;have h6:=WC.right.right.head.1;rw[cb]at h6;exact h6
end
theorem Jp {c:Ch} (h:lR c=true) (hn:Ea c) (hl:(fX (rM c)).length<=16384):(dr (fX (rM c))).2.1=0/\∀d,ChE false d c (dr (fX (rM c))).1:=by
 have hq:=aaE h hn;unfold Lq at hq;generalize fX (rM c)=L at*
 have Og:iL L (0+L.length)=.ok [⟨5,[],0,((L.length:Nat):Int)⟩]:=by
  have hd:L.drop L.length=[]:=du (aq _);have h5:iG false []=0:=rfl;rw[aJ,ir (aq _),hd,h5,if_pos (by omega)];rfl
 obtain⟨us,h1,h2⟩:=hq L 0 [] _ (aF _) (by rw[eL,aN]) trivial Og;generalize hts:us++[(⟨5,[],0,((L.length:Nat):Int)⟩:Tk)]=ts at*
 have t1:bU L=(ts,0,0):=by rw[bU,if_neg (by omega),h1]
 have hE:oM ts:=by
  have:=(rN (l:=L) (by rw[t1])).1;rw[t1]at this;exact this
 have hm:ts.map k3=WN c++[(5,[],0)]:=by rw[<-hts,cq,h2];rfl
 have bN:At ts 0 (WN c++[(5,[],0)]):=fun j q hj=>by
  rw[<-hm,bD,cY]at hj;obtain⟨t,g1,rfl⟩:=hj;have:tk ts (0+j)=t:=by
   unfold tk;rw[aJ,g1];rfl
  rw[this]
 obtain⟨c1,c2⟩:=QF hE h hn bN;unfold dr;rw[t1];dsimp only;rw[if_neg (by decide),if_neg (by rw[c1];decide)];exact⟨rfl,c2⟩
end Go.Proofs.YtmhoiicofhlgbaaGreatDoor.Con
namespace Go.Proofs.YtmhoiicofhlgbaaGreatDoor.Con
open Go Go.RowKit Go.Kt Go.Kt.V Go.Proofs.YtmhoiicofhlgbaaGreatDoor.Vc
set_option linter.unusedSimpArgs false
set_option linter.unusedVariables false
set_option maxHeartbeats 4000000
theorem Jq {c:Ch} (h:(dF c).2=0):lR c=true/\(fX (rM c)).length<=16384/\(dF c).1=fX (rM c)/\(dr (fX (rM c))).2.1=0:=by
 unfold dF at h⊢;by_cases h1:lR c=true
 ·rw[if_pos h1]at h⊢;by_cases h2:16384<(eA [] (rM c)).length
  ·rw[if_pos h2]at h;exact absurd h (by decide)
  ·rw[if_neg h2]at h⊢;have e:=E7 (rM c) [] (by omega);rw[aV]at e;rw[e]at h h2⊢;by_cases h3:(dr (fX (rM c))).2.1≠0
   ·rw[if_pos h3]at h;exact absurd h (by decide)
   ·rw[if_neg h3];exact⟨h1,by omega,rfl,gM.1 h3⟩
 ·rw[if_neg h1]at h;exact absurd h (by decide)
end Go.Proofs.YtmhoiicofhlgbaaGreatDoor.Con
namespace Go.Proofs.YtmhoiicofhlgbaaGreatDoor.Con
open Go Go.RowKit Go.Kt Go.Kt.V Go.Proofs.YtmhoiicofhlgbaaGreatDoor.Vc
set_option linter.unusedSimpArgs false
set_option linter.unusedVariables false
set_option maxHeartbeats 800000
set_option maxRecDepth 100000
theorem Jr {c:Ch} (hn:Ea c):dF c=E8 c:=by
 unfold dF E8;by_cases h1:lR c=true
 ·rw[if_pos h1,if_pos h1];by_cases h2:16384<(eA [] (rM c)).length
  ·rw[if_pos h2,if_pos h2]
  ·rw[if_neg h2,if_neg h2];have e:=E7 (rM c) [] (by omega);rw[aV]at e;have hl:=Jp h1 hn (by rw[<-e];omega);rw[e,if_neg (by rw[hl.1];decide)]
 ·rw[if_neg h1,if_neg h1]
theorem DJ:∀(L:List Ln) (b:List UInt8),b.length+(fX L).length<=16384->eA b L=b++fX L
 | [],b,_=>(aN b).symm
 | p::L,b,h=>by
  have e:fX (p::L)=JS p++fX L:=rfl;rw[e,ah]at h;have:jN b p=b++JS p:=by unfold jN;rw[if_neg (by omega)]
  rw[xy,this,DJ L _ (by rw[ah];omega),e,av]
theorem tB {c:Ch} (h:lR c=true) (hn:Ea c) (hl:(fX (rM c)).length<=16384):(dF c).2=0:=by
 rw[Jr hn];unfold E8;rw[if_pos h,DJ (rM c) [] (by rw[aM];omega),aV,if_neg (by omega)]
theorem agz:Hc rG:=fun d=>by
 cases d with
 | zero=>trivial
 | succ d=>exact⟨⟨by decide,by decide⟩,fun y hy=>by simp[rG,Ex.cX]at hy⟩
def mW (v:Int):Mv:=⟨3,[],v,false,rG,[],[],7⟩
def bW (v:Int):Nb:=⟨1,[99],[],[],[],[],[mW v],0⟩
def cW (v:Int):Ch:=⟨[],.mk (bW v) []⟩
theorem aaM {v:Int} (h:0<=v):lR (cW v)=true:=by
 have hn:cN [99]=true:=by kernel_rfl
 have hx:oH rG=true:=by kernel_rfl
 have hm:mO (mW v)=true:=by
  unfold mO mW;simp[hx];omega
 have hb:rK (bW v) 0=true:=by
  unfold rK bW;simp[hn,hm,gW]
 unfold lR cW;rw[jk,fW];simp[hb,Nd.b,iB,dj,qS,jC,rL,jc,xx];simp[bW,mW]
theorem aaN {v:Int} (h:InI v):Ea (cW v):=by
 refine⟨fun v hv=>by simp[cW]at hv,?_⟩;unfold cW;rw[vu,ma];refine⟨⟨fun a ha=>by simp[bW]at ha,fun a ha=>by simp[bW]at ha,fun m hm=>?_⟩,trivial⟩;simp only[bW,ae]at hm;subst hm;exact⟨agz,fun x hx=>by simp[mW]at hx,h⟩
theorem UZ {v:Int} (h:InI v):(fX (rM (cW v))).length<=16384:=by
 have:=xH h;have e:fX (rM (cW v))=([99,104,97,114,116,32,99,32,123,10]:List UInt8)++(JS (1,E6 (mW v))++[125,10]):=by kernel_rfl
 rw[e];unfold JS E6 hdT P7 mW;have e3:((3:Int)=1)=False:=by simp
 simp only[ah,ao,aM,eY,CY,e3,if_true,fI,dG];omega
theorem QG (v:Int):rm (cW v)=bad (L3 (mW v)) 28 7:=by
 have e:rm (cW v)=((bad (L3 (mW v)) 28 7++[])++[])++[]:=by kernel_rfl
 rw[e];simp
theorem aaO {v:Int} (h0:0<=v) (h:InI v):jE (cW v)=if v<1∨v>1099511627776 then(28,7)else(0,0):=by
 have hp:=tB (aaM h0) (aaN h) (UZ h);unfold jE;rw[if_neg (fun e=>e hp),QG,Hg];have e:L3 (mW v)=(decide (v>0)&&decide (v<=1099511627776)):=rfl;rw[e];by_cases hc:v<1∨v>1099511627776
 ·rw[if_pos hc,if_pos];rw[ab];refine⟨?_,by decide⟩;simp only[ch,yt,dE];omega
 ·rw[if_neg hc,if_neg];rw[ab];rintro⟨h1,_⟩;simp only[ch,yt,dE]at h1;omega
theorem lwaits_c {w:World} {n:Int} (hi:InI n) (hE:Er w) (hT:Tb w):Calls Tryz.prog 7 #[.int .i64 n] w fun e w'=>e=.returned (.bool true)/\Only [] w w':=by
 refine ret (af6 n (fun v w'=>v=.bool true/\Only [] w w') w ?_);unfold Z3;refine(xQ w hE hT).mono ?_;rintro _ w0 ⟨rfl,cd⟩;refine⟨true,rfl,fun k0 w1 fQ eE bR=>?_⟩;have o1:=cd.cf bR;obtain⟨v,hv⟩:∃v,v=(if 0>n then 0 else n):=⟨_,rfl⟩
 have hv0:0<=v:=by rw[hv];split<;>omega
 have hvi:InI v:=by
  rw[hv];split
  ·exact⟨by omega,by omega⟩
  ·exact hi
 rw[<-hv];obtain⟨y,w2,p1,p2,p3,_⟩:=jf (P:=Tryz.prog) (t:=24) (e:=54) (i:=Tryz.t54) (w:=w1) (F:=fun _=>False) (vs:=[.agg #[.int .i64 3,.string (ByteArray.mk #[]),.int .i64 v,.bool false,.int .i64 0,.int .i64 0,.string (ByteArray.mk #[]),.int .i64 0,Sl.nil.v,.int .i64 0,Sl.nil.v,Sl.nil.v,.int .i64 7]]) (parts:=#[.mk 0 (.agg #[.int .i64 3,.string (ByteArray.mk #[]),.int .i64 v,.bool false,.int .i64 0,.int .i64 0,.string (ByteArray.mk #[]),.int .i64 0,Sl.nil.v,.int .i64 0,Sl.nil.v,Sl.nil.v,.int .i64 7])]) (len:=1) (xs:=[mW v]) (r:=BG false) (size:=13) (by kernel_rfl) (by kernel_rfl) rfl rfl (by decide) rfl rfl (by decide) (by decide) (eU false) ⟨⟨rfl,ou 0 0 [] 0 Sl.nil 0,Sl.nil,Sl.nil,rfl,Ud _ _ _,gH.nil _ _ _ _ _ _,gH.nil _ _ _ _ _ _⟩,trivial⟩;have z2:=p3.size;have o2:=o1.cf p3;have hC:ChR false 1 w2 (fun _=>True) (cW v) Sl.nil (ly 1 [99] [] [] Sl.nil Sl.nil y Sl.nil 0):=⟨gH.nil _ _ _ _ _ _,Sl.nil,Sl.nil,y,Sl.nil,rfl,⟨gH.nil _ _ _ _ _ _,gH.nil _ _ _ _ _ _,(p2.slice (eU false)).mono (eU false) (fun _ _=>trivial),fun h=>(by cases h)⟩,gH.nil _ _ _ _ _ _⟩
 refine⟨y,w2,p1,p3.same (by simp;omega),(pT (D:=0) hC (aaN hvi) (ca (by kernel_rfl)) (hE.only o2) (hT.only o2)).mono ?_⟩;rintro _ w3 ⟨rfl,cU⟩;have o3:=o2.cf cU;refine⟨_,_,rfl,cU.same (by simp;omega),fun hc k1 w4 _ _ cZ=>⟨?_,o3.cf cZ⟩,fun hc k1 w4 _ _ cZ=>⟨?_,o3.cf cZ⟩⟩
 ·rw[cp,dv,dv]at hc;rw[aaO hv0 hvi,if_pos (by rw[hv];split<;>omega)];rfl
 ·rw[gK,dE,dE]at hc;rw[aaO hv0 hvi,if_neg (by rw[hv];split<;>omega)];rfl
end Go.Proofs.YtmhoiicofhlgbaaGreatDoor.Con
namespace Go.Proofs.YtmhoiicofhlgbaaGreatDoor.Con
open Go Go.RowKit Go.Kt Go.Kt.V Go.Proofs.YtmhoiicofhlgbaaGreatDoor.Vc
set_option linter.unusedSimpArgs false
set_option linter.unusedVariables false
set_option linter.unusedSectionVars false
set_option maxHeartbeats 800000
set_option maxRecDepth 100000
def om {α:Type}:Nat->Int->List α->List α
 | _,_,[]=>[]
 | i,k,x::l=>if(i:Int)=k then om (i+1) k l else x::om (i+1) k l
theorem Ni {α:Type} (k:Int) (m:List α):∀(l:List α) (i:Nat),om i k (l++m)=om i k l++om (i+l.length) k m
 | [],i=>rfl
 | x::l,i=>by
  rw[bc,om,om,Ni k m l,ao,show i+1+l.length=i+(l.length+1) by omega];split<;>rfl
theorem lX {α:Type} (k:Int):∀(l:List α) (i:Nat),List.Sublist (om i k l) l
 | [],i=>eM _
 | x::l,i=>by
  rw[om];split
  ·exact(lX k l _).cons _
  ·exact(lX k l _).cons_cons _
mutual
def dy (k:Int):Nd->Nd
 | .mk b l=>.mk {b with mv:=om 0 k b.mv} (dB k l)
def dB (k:Int):List Nd->List Nd
 | []=>[]
 | x::l=>dy k x::dB k l
end
theorem lz (k:Int):∀l,dB k l=l.map (dy k)
 | []=>by rw[dB];rfl
 | x::l=>by rw[dB,lz k l];rfl
section
variable (k:Int)
mutual
theorem H8 (a:Nat) (pa dp:Int):∀x,zl a pa dp (dy k x)=zl a pa dp x
 | .mk b l=>by rw[dy,zl,zl,DK,uA]
theorem DK (a:Nat) (pa dp:Int):∀l,pb a pa dp (dB k l)=pb a pa dp l
 | []=>by rw[dB]
 | x::l=>by rw[dB,pb,pb,H8,DK,tC]
theorem tC:∀x,iB (dy k x)=iB x
 | .mk b l=>by rw[dy,iB,iB,uA]
theorem uA:∀l,dj (dB k l)=dj l
 | []=>by rw[dB]
 | x::l=>by rw[dB,dj,dj,tC,uA]
end
mutual
theorem H9:∀x,AX (dy k x)=AX x
 | .mk b l=>by rw[dy,AX,AX,DL]
theorem DL:∀l,sW (dB k l)=sW l
 | []=>by rw[dB]
 | x::l=>by rw[dB,sW,sW,H9,DL]
end
theorem Be (x:Nd):(dy k x).b={x.b with mv:=om 0 k x.b.mv}:=by cases x;rw[dy];rfl
theorem uB (l:List Nd):(dB k l).length=l.length:=by rw[lz,aQ]
theorem Nj (l:List Nd):Fe (dB k l)=Fe l:=by
 unfold Fe;rw[lz,List.filter_map,aQ];congr 1;refine List.filter_congr fun x _=>?_;show(!gW (dy k x).b.k)=_;rw[Be]
theorem Js (s:List UInt8) (l:List Nd):xB s (dB k l)=xB s l:=by
 unfold xB;rw[lz,List.any_map];congr 1;funext x;show decide ((dy k x).b.nm=s)=_;rw[Be]
theorem Nk (xs:List eG) (b:Nb) (l:List Nd) (n:Nat):vw xs {b with mv:=om 0 k b.mv} (dB k l) n=vw xs b l n:=by
 unfold vw;rw[Nj,Js,uB]
section
variable {xs:List eG} {vs:List (List UInt8)}
mutual
theorem DM:∀(x:Nd) (n:Nat),Eh xs vs n x=[]->Eh xs vs n (dy k x)=[]
 | .mk b l,n,h=>by
  rw[Eh]at h;obtain⟨h1,h2⟩:=bG.1 h;obtain⟨h2,h3⟩:=bG.1 h2;obtain⟨h3,h4⟩:=bG.1 h3;rw[dy,Eh,Nk,h1,h2,zG l _ h4];rw[aV,aV,aN];exact uL.2 fun m hm=>uL.1 h3 m ((lX k _ 0).subset hm)
theorem zG:∀(l:List Nd) (n:Nat),li xs vs n l=[]->li xs vs n (dB k l)=[]
 | [],n,_=>by rw[dB,li]
 | x::l,n,h=>by
  rw[li]at h;obtain⟨h1,h2⟩:=bG.1 h;rw[dB,li,DM x n h1,tC,zG l _ h2];rfl
end
end
theorem QH {b:Nb} {n:Nat} (h:rK b n=true):rK {b with mv:=om 0 k b.mv} n=true:=by
 unfold rK at h⊢;dsimp only;split
 ·rename_i hh;rw[if_pos hh]at h;simp only[ab,dv]at h⊢;refine⟨h.1,h.2.1,h.2.2.1,h.2.2.2.1,h.2.2.2.2.1,?_,h.2.2.2.2.2.2⟩;have:=(lX k b.mv 0).length_le;omega
 ·rename_i hh;rw[if_neg hh]at h;simp only[ab]at h⊢;exact⟨h.1,h.2.1,cJ.2 fun m hm=>cJ.1 h.2.2 m ((lX k _ 0).subset hm)⟩
mutual
theorem Ia:∀(x:Nd) (d:Nat),jk d x=true->jk d (dy k x)=true
 | .mk b l,d,h=>by
  rw[jk,ab,ab]at h;rw[dy,jk,ab,ab,uB];exact⟨⟨h.1.1,QH k h.1.2⟩,DN l _ h.2⟩
theorem DN:∀(l:List Nd) (d:Nat),fW d l=true->fW d (dB k l)=true
 | [],d,_=>by rw[dB,fW]
 | x::l,d,h=>by
  rw[fW,ab]at h;rw[dB,fW,ab];exact⟨Ia x d h.1,DN l d h.2⟩
end
mutual
theorem DP:∀x,qS (dy k x)<=qS x
 | .mk b l=>by
  rw[dy,qS,qS];exact ec (lX k b.mv 0).length_le (zH l)
theorem zH:∀l,jC (dB k l)<=jC l
 | []=>by rw[dB];exact aq _
 | x::l=>by rw[dB,jC,jC];exact ec (DP x) (zH l)
end
theorem Bg:∀{l m:List Nat},List.Sublist l m->l.sum<=m.sum
 | _,_,.slnil=>aq _
 | _,_,.cons a h=>by rw[bd];have:=Bg h;omega
 | _,_,.cons_cons a h=>by rw[bd,bd];have:=Bg h;omega
mutual
theorem DQ:∀x,rL (dy k x)<=rL x
 | .mk b l=>by
  rw[dy,rL,rL];refine ec ?_ (zI l);unfold xx;have:=Bg ((lX k b.mv 0).map fun m=>m.acts.length);dsimp only;omega
theorem zI:∀l,jc (dB k l)<=jc l
 | []=>by rw[dB];exact aq _
 | x::l=>by rw[dB,jc,jc];exact ec (DQ x) (zI l)
end
def pY (c:Ch):Ch:=⟨c.vars,dy k c.root⟩
theorem QI {c:Ch} (h:lR c=true):lR (pY k c)=true:=by
 unfold lR at h⊢;simp only[ab]at h⊢;refine⟨⟨h.1.1,Ia k _ _ h.1.2⟩,?_⟩;have h2:=aj h.2;refine aZ ⟨?_,h2.2.1,?_,ay (DP k _) h2.2.2.2.1,ay (DQ k _) h2.2.2.2.2⟩
 ·show(dy k c.root).b.k=1;rw[Be];exact h2.1
 ·show iB (dy k c.root)<=64;rw[tC];exact h2.2.2.1
theorem xY:∀{L M:List Ln},List.Sublist L M->(fX L).length<=(fX M).length
 | _,_,.slnil=>aq _
 | _,_,.cons (l₂:=M) a h=>by
  have:=xY h;have e:fX (a::M)=JS a++fX M:=rfl;rw[e,ah];omega
 | _,_,.cons_cons (l₁:=L) (l₂:=M) a h=>by
  have:=xY h;have e:fX (a::M)=JS a++fX M:=rfl;have e':fX (a::L)=JS a++fX L:=rfl;rw[e,e',ah,ah];omega
theorem DR (b:Nb) (d:Nat):List.Sublist (LV d {b with mv:=om 0 k b.mv}) (LV d b):=by
 unfold LV;exact(eM _).append ((eM _).append ((eM _).append ((lX k b.mv 0).map fun m=>(d,E6 m))))
mutual
theorem Nl:∀(x:Nd) (d:Nat),List.Sublist (I5 d (dy k x)) (I5 d x)
 | .mk b l,d=>by
  rw[dy,I5,I5];dsimp only;split
  ·exact eM _
  ·exact((DR k b (d+1)).append ((uC l (d+1)).append (eM _))).cons_cons _
theorem uC:∀(l:List Nd) (d:Nat),List.Sublist (oy d (dB k l)) (oy d l)
 | [],d=>by rw[dB];exact eM _
 | x::l,d=>by rw[dB,oy,oy];exact(Nl x d).append (uC l d)
end
theorem Nn (c:Ch):List.Sublist (rM (pY k c)) (rM c):=by
 obtain⟨vars,⟨b,l⟩⟩:=c;unfold rM pY;rw[dy];exact((eM _).append ((DR k b 1).append ((uC k l 1).append (eM _)))).cons_cons _
theorem Np {b:Nb} (h:OW b):OW {b with mv:=om 0 k b.mv}:=⟨h.en,h.lv,fun m hm=>h.mv m ((lX k _ 0).subset hm)⟩
mutual
theorem Nq:∀x,vu x->vu (dy k x)
 | .mk b l,h=>by
  rw[vu]at h;rw[dy,vu];exact⟨Np k h.1,Ib l h.2⟩
theorem Ib:∀l,ma l->ma (dB k l)
 | [],_=>by rw[dB,ma];trivial
 | x::l,h=>by
  rw[ma]at h;rw[dB,ma];exact⟨Nq x h.1,Ib l h.2⟩
end
theorem DS {c:Ch} (h:Ea c):Ea (pY k c):=⟨h.v,Nq k _ h.r⟩
theorem xZ:∀{l m:List Mv},List.Sublist l m->tc l<=tc m
 | _,_,.slnil=>aq _
 | _,_,.cons a h=>by rw[tc];have:=xZ h;omega
 | _,_,.cons_cons a h=>by rw[tc,tc];have:=xZ h;omega
mutual
theorem Ic:∀x,mY (dy k x)<=mY x
 | .mk b l=>by
  rw[dy,mY,mY];have:=DT l;have:=xZ (lX k b.mv 0);unfold Fj;dsimp only;omega
theorem DT:∀l,iC (dB k l)<=iC l
 | []=>by rw[dB];exact aq _
 | x::l=>by rw[dB,iC,iC];exact ec (Ic x) (DT l)
end
theorem Nr {c:Ch} (hn:Ea c) (h:(jE c).1=0):(jE (pY k c)).1=0:=by
 unfold jE at h;by_cases hp:(dF c).2≠0
 ·rw[if_pos hp]at h;exact absurd h hp
 rw[if_neg hp]at h;have hp:(dF c).2=0:=gM.1 hp;have hl:=C1 (C7 c) h;obtain⟨h1,h2,_,_⟩:=Jq hp;have hq:=tB (QI k h1) (DS k hn) (ay (xY (Nn k c)) h2);unfold jE;rw[if_neg (fun h=>h hq)];have e:rm (pY k c)=[]:=by
  unfold rm at hl⊢;obtain⟨g1,g2⟩:=bG.1 hl;obtain⟨g2,g3⟩:=bG.1 g2;have ef:ji (pY k c)=ji c:=by unfold ji pY;rw[H8]
  have ev:C6 (pY k c)=C6 c:=rfl;rw[ef,ev];unfold pY;rw[H9,g1,g2,DM k _ _ g3];rfl
 rw[e];rfl
end
abbrev SL (H:Nat->Prop) (A B:Nat):Nat->Prop:=fun k=>(H k/\k<A)∨B<=k
theorem QJ {α:Type} {k:Int} {l:List α} {j:Nat} {y:α} (h:l[j]? =some y):om 0 k (l.take (j+1))=om 0 k (l.take j)++if(j:Int)=k then[]else[y]:=by
 have hj:=(au.1 h).1;rw[aY,h,Ni,ck,Nat.min_eq_left (by omega),aJ];congr 1
theorem Ns (k:Int):∀(D:Nat) {w:World} {H:Nat->Prop} {x:Nd} {cs:List Value},lQ false D w H x cs->mY x<=8388608->
  Calls Tryz.prog 24 #[.agg cs.toArray,.int .i64 k] w fun e w'=>(∃ds,e=.returned (.agg ds.toArray)/\lQ false D w' (SL H w.heap.size w.heap.size) (dy k x) ds)/\Only [] w w'
 | 0,_,_,_,_,h,_=>h.elim
 | D+1,w,H,.mk bb ks,cs,⟨en,lv,mv,kids,kK,⟨ve,tN,adl⟩,fQ⟩,hz=>by
  have hk:=fQ.1;have ve:=ve.1;have tN:=tN.1;have lA:=adl.1;clear fQ adl;dsimp only[Nd.kids,Nd.b]at hk kK lA ve tN;subst kK;rw[mY]at hz;have ND:=hz;unfold Fj at ND;have Ka:=lA.len;have ac7:=lA.cap;have ac8:=lA.big;have FV:=hk.len;have ac5:=hk.cap;have ac6:=hk.big;have hmz:=nL bb.mv;have hkz:=pR ks;refine(af5 bb.k (T bb.nm) (T bb.ini) (T bb.dft) en lv mv kids bb.a k (fun v w'=>(∃ds,v=.agg ds.toArray/\lQ false (D+1) w' (SL H w.heap.size w.heap.size) (dy k (.mk bb ks)) ds)/\Only [] w w') w ?_).mono (by rintro _ w' ⟨v,rfl,⟨ds,rfl,h⟩,h'⟩;exact⟨⟨ds,rfl,h⟩,h'⟩);unfold Z2;intro k0 k1 w0 fQ eE kJ jp cd;have z0:=cd.size;have old:∀{u:World},Only [] w u->∀k,(H k/\k<w.heap.size)->k<w.heap.size->u.heap[k]? =w.heap[k]? :=fun hO k _ bp=>hO.block k bp (by simp);have ajp:=lA.inHeap (eU false) (by decide);have hkh:=hk.inHeap (bI false D) (by decide);refine⟨fun kv l i u=>∃j:Nat,i=(j:Int)/\kv+j=bb.mv.length/\j<=bb.mv.length/\Own (BG false) 13 54 w0.heap.size u (SL H w.heap.size w0.heap.size) l (om 0 k (bb.mv.take j))/\Only [] w u/\w0.heap.size<=u.heap.size,bb.mv.length,⟨0,rfl,by omega,aF _,Own.nil _ _ _ _ _ _,cd,aq _⟩,?_⟩;rintro kv l _ w1 ⟨j,rfl,BN,hj,hS,bR,z1⟩;refine⟨fun hc=>?_,fun hc=>?_⟩
  ·have hc:=aj hc;have mF:j<bb.mv.length:=by omega
   obtain⟨ad,m,ds,a1,a2,a3,a4,a5,a6⟩:=(ajp.keep (eU false) (by decide) (old bR)).get (aG j) (by omega);rw[az]at a2;have hom:=QJ (k:=k) a2;refine⟨fun l' u=>Own (BG false) 13 54 w0.heap.size u (SL H w.heap.size w0.heap.size) l' (om 0 k (bb.mv.take (j+1)))/\Only [] w u/\w0.heap.size<=u.heap.size,fun l' u hJ=>⟨kv-1,by omega,j+1,by rw[gV (by omega) (by omega)];rfl,by omega,by omega,hJ⟩,fun eI=>?_,fun he=>?_⟩
   ·have eI:¬(j:Int)=k:=by simpa using eI
    rw[if_neg eI]at hom;have JI:=a6;obtain⟨gc,ql,tg,rfl,Tl,Ke,tS⟩:=a6;obtain⟨gs,rfl⟩:=fV Tl;have hol:(om 0 k (bb.mv.take j)).length<=j:=ay (lX k _ 0).length_le (by rw[ck];omega);obtain⟨y,w3,q1,q3,l6,w4,g1,g2,⟨gg,g3,g4⟩,g5⟩:=js (P:=Tryz.prog) (t:=24) (ty:=24) (e:=54) (i:=Tryz.t54) (bytes:=168) (size:=13) (r:=BG false) (G:=fun k=>H k/\k<w.heap.size) (v:=.agg #[.int .i64 m.k,.string (T m.ev),.int .i64 m.wt,.bool m.gd,.int .i64 m.g.k,.int .i64 m.g.n,.string (T m.g.s),.int .i64 m.g.op,gs.v,.int .i64 m.g.a,ql.v,tg.v,.int .i64 m.a]) (x:=m) (by kernel_rfl) (by kernel_rfl) rfl rfl rfl rfl (by decide) (by decide) (by decide) (eU false) hS z1 rfl JI (fun q hq _=>⟨.inl hq,fun e=>by have:=(hS.blk e).1;dsimp only at this;omega⟩) (by omega);have z3:=q3.size;refine⟨ad,a1,_,_,_,_,_,_,_,_,gs,_,ql,tg,_,a5,y,w3,q1,q3.same (by simp;omega),l6,w4,g1,g3.same fun x hx=>?_,?_,(bR.cf q3).trans g3 fun g hg=>.inr (by have:=(g4 g hg).2.1;omega),by have:=g3.size;omega⟩
    ·simp only[ak,aw,bf]at hx;refine⟨by omega,fun h=>?_⟩;have:=(g4 x h).2.1;omega
    ·rw[hom];exact g2.mono (eU false) fun q hq=>hq.elim id fun h=>.inr (by omega)
   ·have he:(j:Int)=k:=by simpa using he
    rw[if_pos he,aN]at hom;rw[hom];exact⟨hS,bR,z1⟩
  ·have hc:=ar hc;have mc:j=bb.mv.length:=by omega
   subst mc;rw[aO (aq _)]at hS;have hM:=(hS.slice (eU false)).inHeap (eU false) (by decide);refine⟨fun kv s i u=>∃j:Nat,i=(j:Int)/\kv+j=ks.length/\j<=ks.length/\Own (lQ false D) 9 27 w1.heap.size u (SL H w.heap.size w1.heap.size) s (dB k (ks.take j))/\SliceF (BG false) 13 u (fun q=>(SL H w.heap.size w0.heap.size q∨(w0.heap.size<=q/\l.a=some ⟨q,0,none⟩))/\q<w1.heap.size) l (om 0 k bb.mv)/\Only [] w u/\w1.heap.size<=u.heap.size,ks.length,
    ⟨0,rfl,by omega,aF _,by rw[cQ,dB];exact Own.nil _ _ _ _ _ _,hM,bR,aq _⟩,?_⟩
   rintro kv s _ w5 ⟨j,rfl,BN,hj,hK,hM5,eC,z5⟩;refine⟨fun hc=>?_,fun hc=>?_⟩
   ·have hc:=aj hc;obtain⟨ad,y,ds,a1,a2,a3,a4,a5,a6⟩:=(hkh.keep (bI false D) (by decide) (old eC)).get (aG j) (by omega);rw[az]at a2;have JI:=a6;obtain⟨D',rfl⟩:∃D',D=D'+1:=by
     cases D with
     | zero=>exact a6.elim
     | succ D'=>exact⟨D',rfl⟩
    obtain⟨uH,uI,pd,jj,rfl,_⟩:=JI;have hzy:=nM (aE a2);refine⟨ad,a1,_,_,_,_,uH,uI,pd,jj,_,a5,(Ns k (D'+1) a6 (by omega)).mono ?_⟩;rintro _ w6 ⟨⟨es,rfl,hR⟩,dD⟩;have z6:=dD.size;have Ik:=hR;obtain⟨en2,lv2,mv2,Ec,rfl,_⟩:=hR;refine⟨_,_,_,_,en2,lv2,mv2,Ec,_,rfl,dD.same (by simp;omega),fun k7 w7 hk7 Wm fg=>?_⟩;have z7:=fg.size;have hK7:Own (lQ false (D'+1)) 9 27 w1.heap.size w7 (SL H w.heap.size w1.heap.size) s (dB k (ks.take j)):=(hK.keep (bI false _) fun q _ bp=>dD.block q bp (by simp)).keep (bI false _) fun q _ bp=>fg.block q bp (by simp);have adp:∀q,s.a=some ⟨q,0,none⟩->q<w5.heap.size:=fun q e=>by have:=(hK.blk e).2;dsimp only at this;exact this
    have hR7:=(bI false (D'+1)).keep Ik fun q _ bp=>fg.block q bp (by simp);have Vw:(dB k (ks.take j)).length<=j:=by rw[uB,ck];omega
    obtain⟨y8,w8,q1,q3,l9,w9,g1,g2,⟨gg,g3,g4⟩,g5⟩:=js (P:=Tryz.prog) (t:=25) (ty:=25) (e:=27) (i:=Tryz.t27) (bytes:=160) (size:=9) (r:=lQ false (D'+1)) (G:=SL (fun q=>H q/\q<w.heap.size) w5.heap.size w5.heap.size) (v:=.agg (ly (dy k y).b.k (dy k y).b.nm (dy k y).b.ini (dy k y).b.dft en2 lv2 mv2 Ec (dy k y).b.a).toArray) (x:=dy k y) (by kernel_rfl) (by kernel_rfl) rfl rfl rfl rfl (by decide) (by decide) (by decide) (bI false (D'+1)) hK7 (by omega) rfl hR7 (fun q hq bp=>⟨hq.elim (fun h=>.inl h.1) fun h=>.inr (by omega),fun e=>by
     have h1:=adp q e;have h2:=(hK.blk e).1;dsimp only at h2;rcases hq with h | h
     ·have:=h.1.2;omega
     ·omega⟩) (by omega)
    have z8:=q3.size;have z9:=g3.size;refine⟨y8,w8,q1,q3.same (by simp;omega),l9,w9,g1,g3.same fun x hx=>?_,kv-1,by omega,j+1,by rw[gV (by omega) (by omega)];rfl,by omega,by omega,?_,?_,((eC.cf dD).cf (fg.cf q3)).trans g3 fun g hg=>.inr (by have:=(g4 g hg).2.1;omega),by omega⟩
    ·simp only[ak,aw,bf]at hx;refine⟨by omega,fun h=>?_⟩;have h1:=(g4 x h).2.1;have h2:=adp x (g4 x h).1;omega
    ·have e:dB k (ks.take (j+1))=dB k (ks.take j)++[dy k y]:=by
      rw[aY,a2,lz,lz,cq];rfl
     rw[e];exact g2.mono (bI false _) fun q hq=>hq.elim id fun h=>.inr (by omega)
    ·refine SliceF.only (eU false) (by decide) (SliceF.only (eU false) (by decide) hM5 (dD.cf (fg.cf q3)) (by simp)) g3 fun q hq _ hm=>?_;have:=(g4 q hm).2.1;omega
   ·have hc:=ar hc;have mc:j=ks.length:=by omega
    subst mc;rw[aO (aq _)]at hK;intro cI dm;have OP:=dm.size;have ap:∀q:Nat,(H q/\q<w.heap.size)∨w0.heap.size<=q->q∉[k1,k0]:=fun q hq=>by simp;omega
    have O0:Only [] w cI:=eC.trans dm fun x hx=>.inr (by simp only[ak,aw,bf]at hx;omega);refine⟨⟨ly bb.k bb.nm bb.ini bb.dft en lv l s bb.a,rfl,?_⟩,O0⟩;rw[dy];refine⟨en,lv,l,s,rfl,⟨?_,?_,?_⟩,?_⟩
    ·exact⟨((ve.inHeap (cA false) (by decide)).keep (cA false) (by decide) (old O0)).mono (cA false) fun q hq=>.inl hq,fun h=>(by cases h)⟩
    ·exact⟨((tN.inHeap (cA false) (by decide)).keep (cA false) (by decide) (old O0)).mono (cA false) fun q hq=>.inl hq,fun h=>(by cases h)⟩
    ·refine⟨(SliceF.only (eU false) (by decide) hM5 dm fun q hq _=>ap q ?_).mono (eU false) fun q hq=>?_,fun h=>(by cases h)⟩
     ·rcases hq.1 with h | h
      ·exact h
      ·exact .inr h.1
     ·rcases hq.1 with(h | h) | h
      ·exact .inl h
      ·exact .inr (by omega)
      ·exact .inr (by have:=h.1;omega)
    ·refine⟨(SliceF.only (bI false D) (by decide) (hK.slice (bI false D)) dm fun q hq _=>ap q ?_).mono (bI false D) fun q hq=>?_,fun h=>(by cases h)⟩
     ·rcases hq with(h | h) | h
      ·exact .inl h
      ·exact .inr (by omega)
      ·exact .inr (by have:=h.1;omega)
     ·rcases hq with(h | h) | h
      ·exact .inl h
      ·exact .inr (by omega)
      ·exact .inr (by have:=h.1;omega)
theorem lless_c {w:World} {x:Ch×Nat} {cs:List Value} {k:Int} (hx:rChU w (fun _=>True) x cs) (hb:x.2<=1048576) (hE:Er w) (hT:Tb w):Calls Tryz.prog 6 #[.agg cs.toArray,.int .i64 k] w fun e w'=>e=.returned (.bool true)/\Only [] w w':=by
 obtain⟨c,m⟩:=x;obtain⟨D,vs,cs,rfl,hC,hn,hs⟩:=hx;dsimp only at hC hn hs hb;have hC0:=hC;cases D with
 | zero=>exact hC.root.elim
 | succ D=>
 obtain⟨en,lv,mv,kids,rfl,_⟩:=hC0.root;refine ret (af4 vs c.root.b.k (T c.root.b.nm) (T c.root.b.ini) (T c.root.b.dft) en lv mv kids c.root.b.a k (fun v w'=>v=.bool true/\Only [] w w') w ?_);unfold Z1;have keep:∀{w':World},Only [] w w'->ChR false (D+1) w' (fun _=>True) c vs (ly c.root.b.k c.root.b.nm c.root.b.ini c.root.b.dft en lv mv kids c.root.b.a):=fun hO=>⟨hC.vars.keep fb (by decide) fun k _ bp=>hO.block k bp (by simp),(bI false _).keep hC.root fun k _ bp=>hO.block k bp (by simp)⟩
 intro k0 w0 fQ eE cd;have z0:=cd.size;refine(xQ w0 (hE.only cd) (hT.only cd)).mono ?_;rintro _ w1 ⟨rfl,bR⟩;have z1:=bR.size;have o1:=cd.cf bR;refine⟨_,rfl,bR.same (by simp;omega),(pT (keep o1) hn (by omega) (hE.only o1) (hT.only o1)).mono ?_⟩;rintro _ w2 ⟨rfl,cO⟩;have z2:=cO.size;have o2:=o1.cf cO;refine⟨_,_,rfl,cO.same (by simp;omega),fun k1 w3 kJ jp cU=>⟨fun _=>⟨rfl,o2.cf cU⟩,fun hc=>?_⟩⟩;have hl:(jE c).1=0:=by simpa using hc
 have z3:=cU.size;intro w4 cZ;have z4:=cZ.size;have o4:=(o2.cf cU).cf cZ;refine⟨fun _=>True,trivial,trivial,fun w5 eC=>?_⟩;have z5:=eC.size;have o5:=o4.cf eC;refine(Ns k (D+1) (keep o5).root (by omega)).mono ?_;rintro _ w6 ⟨⟨ds,rfl,hR⟩,dD⟩;have z6:=dD.size;have Ik:=hR;obtain⟨en2,lv2,mv2,Ec,rfl,_⟩:=hR;refine⟨_,_,_,_,en2,lv2,mv2,Ec,_,rfl,dD.same (by simp;omega),iz.zJ dD,be.only dD,fun w7 fg=>?_⟩;have z7:=fg.size;have o7:=(o5.cf dD).cf fg;have hsz:=Ic k c.root;have Vx:ChR false (D+1) w7 (fun _=>True) (pY k c) vs (ly (dy k c.root).b.k (dy k c.root).b.nm (dy k c.root).b.ini (dy k c.root).b.dft en2 lv2 mv2 Ec (dy k c.root).b.a):=⟨(keep o7).vars,(bI false _).mono ((bI false _).keep Ik fun q _ bp=>fg.block q bp (by simp)) fun _ _=>trivial⟩
 refine(pT Vx (DS k hn) (by show oQ c.vars+mY (dy k c.root)<=_;omega) (hE.only o7) (hT.only o7)).mono ?_;rintro _ w8 ⟨rfl,fy⟩;have z8:=fy.size;refine⟨_,_,rfl,fy.same (by simp;omega),iz.zJ fy,be.only fy,fun w9 fG k2 qM yj Vj cI dm=>⟨?_,?_⟩⟩
 ·rw[Nr k hn hl];rfl
 ·exact(((o7.cf fy).cf fG)).trans dm fun x hx=>.inr (by simp only[ae]at hx;omega)
end Go.Proofs.YtmhoiicofhlgbaaGreatDoor.Con
