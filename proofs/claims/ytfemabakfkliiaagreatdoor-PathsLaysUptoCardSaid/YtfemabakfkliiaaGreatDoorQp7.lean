import Derived.Test.YtfemabakfkliiaaGreatDoorQp6
set_option linter.defProp false
set_option linter.unusedSectionVars false
set_option linter.unusedSimpArgs false
set_option linter.unusedVariables false
set_option maxHeartbeats 4000000
set_option maxRecDepth 100000
open Bool renaming true->aE,false->aL
open Option renaming some->aM,none->aaa
open List renaming length->I
open Go.Value renaming int->O,string->X,pointer->ae,agg->ah,tuple->ai,bool->aj
open Go.IntKind renaming i64->U,wrap->ar
open Go.Ending renaming returned->ak
open _root_.ByteArray renaming mk->ao
open _root_.Go.Proofs.Tryz renaming prog->aq
open Go.Instr renaming buildSlice->au
open Go renaming World->av,Value->aw,Calls->az
open Go.Kt renaming Only->Q,SliceF->aA,Cells->aB,OnlyP->aD,Blk->aF
open Go renaming World->av,Value->aw
namespace Go.Proofs.YtfemabakfkliiaaGreatDoor.Con
open Go Go.RowKit Go.Kt Go.Kt.V
def Xo(x y:Nd):Prop:=∀d,NdE aL d x y
def IA{b b'}{l l'}(h:NbE aL b b')(k:kQ Xo l l'):Xo (.mk b l) (.mk b' l'):=λd=>by
 cases d with
 | zero=>trivial
 | succ d=>exact⟨h,k.1,λi x y a b=>k.2 i x y a b d⟩
def BW(q:K3):Prop:=Uy q [CL,iV,jD]=0/\Uy q [fT,jk,jl]=0/\q.1≠5
def wO(l:List Mv):Nat:=(l.map λm=>I m.acts).sum
def ag3 b:BR b=I b.en+(I b.lv+wO b.mv):=by unfold BR wO;omega
section
variable {ts:List Tk} (hE:tU ts)
include hE
theorem ag4{s}(h0:s.fc=0) n {h} (a:h.i=aL) {x} {A} (dQ:At ts s.i ((2,fT,0)::(1,x,0)::lD 59::A)):eJ ts n h s=(aE,{n with ini:=x},{h with i:=aE},eI s 3 0 0 0):=by
 unfold eJ;have w:dc ts s [CL,iV,jD]=0:=ac1
 have b:dc ts s [fT,jk,jl]=1:=ac1
 rw[w,aP (λe=>e rfl),b];show(if h.i=aE then _ else _)=_;rw[a,aP Z,jZ,xD (s:=eI s 1 0 0 0) h0 dQ.tail];rw[kq (s:=eI (eI s 1 0 0 0) 1 0 0 0) h0 dQ.tail.tail Z,dA,dA]
theorem an1{s:Sx}(h0:s.fc=0) n {h} (i:h.e=aL) {l} (k:I l<=s.a) (m:s.a<=1000) (f:l.all iZ=aE) (g:∀a,a∈l->Gv a) {A} (dQ:At ts s.i ((2,jk,0)::(EC l++A))):
  ∃r,eJ ts n h s=(aE,{n with en:=r},{h with e:=aE},eI s (I (EC l)+1) (I l) 0 0)/\kQ (AcE aL) l r:=by
 unfold eJ;have w:dc ts s [CL,iV,jD]=0:=ac1
 have j:dc ts s [fT,jk,jl]=2:=ac1
 rw[w,aP (λe=>e rfl),j];obtain⟨r,b,c⟩:=ag2 hE (s:=eI s 1 0 0 0) h0 aai aai f g dQ.tail
 suffices d:(if h.e=aE then _ else _)=_ from⟨r,d,c⟩
 rw[i,aP Z,jZ,b];dsimp only;rw[dA];congr 4<;>omega
theorem an2{s:Sx}(h0:s.fc=0) n {h} (i:h.l=aL) {l} (k:I l<=s.a) (m:s.a<=1000) (f:l.all iZ=aE) (g:∀a,a∈l->Gv a) {A} (dQ:At ts s.i ((2,jl,0)::(EC l++A))):
  ∃r,eJ ts n h s=(aE,{n with lv:=r},{h with l:=aE},eI s (I (EC l)+1) (I l) 0 0)/\kQ (AcE aL) l r:=by
 unfold eJ;have w:dc ts s [CL,iV,jD]=0:=ac1
 have j:dc ts s [fT,jk,jl]=3:=ac1
 rw[w,aP (λe=>e rfl),j];obtain⟨r,b,c⟩:=ag2 hE (s:=eI s 1 0 0 0) h0 aai aai f g dQ.tail
 suffices d:(if h.l=aE then _ else _)=_ from⟨r,d,c⟩
 rw[i,aP Z,jZ,b];dsimp only;rw[dA];congr 4<;>omega
theorem an3{s:Sx}(a:s.fc=0) n h {m} (f:I m.acts<=s.a) (g:s.a<=1000) (C:1<=s.m) (w:s.m<=1000) (i:mz m=aE) (j:UQ m) {A} (d:At ts s.i (QU m++A)):
  ∃r,eJ ts n h s=(aE,{n with mv:=n.mv++[r]},h,eI s (I (QU m)) (I m.acts) 1 0)/\MvE aL m r:=by
 obtain⟨b,k,c,e⟩:=auk hE a f g C w i j d;unfold eJ;rw[b,aV J,fL J,e];exact⟨_,rfl,c⟩
theorem abM{s}(a:s.fc=0) n h {q} {A} (b:BW q) (d:At ts s.i (q::A)):eJ ts n h s=(aL,n,h,s):=by
 unfold eJ;rw[eK a d,eK a d,b.1,b.2.1,aP (λe=>e rfl)];rfl
theorem An{s}(a:s.fc=0){f}{n n'}{h h'}{s'}(c:eJ ts n h s=(aE,n',h',s')):iw ts (f+1) n h s=iw ts f n' h' s':=by
 rw[iw,aP (λe=>e a),c];rfl
theorem Xp:∀l f n h {s:Sx},s.fc=0->I l<f->(wO l)<=s.a->s.a<=1000->I l<=s.m->s.m<=1000->l.all mz=aE->(∀m,m∈l->UQ m)->∀{q:K3} {A:List K3},BW q->At ts s.i (Ak l++q::A)->
  ∃r,iw ts f n h s=({n with mv:=n.mv++r},eI s (I (Ak l)) (wO l) (I l) 0)/\kQ (MvE aL) l r
 | [],f,n,h,s,a,hf,c,i,C,w,j,k,q,A,b,d=>by
  obtain⟨f,rfl⟩:∃g,f=g+1:=⟨f-1,aes⟩
  rw[iw,aP (λe=>e a),abM hE a n h b d];refine⟨[],?_,ED⟩;rw[bE];show(n,s)=(n,eI s 0 0 0 0)
  rw[ag1]
 | m::l,f,n,h,s,a,hf,u,p,C,w,b,c,q,A,t,d=>by
  rw[aY]at hf C;obtain⟨f,rfl⟩:∃o,f=o+1:=⟨f-1,J⟩
  rw[mf,aR]at b;have k:wO (m::l)=I m.acts+wO l:=by unfold wO;rw[bS,dk]
  have d:At ts s.i ((QU m++Ak l)++q::A):=d;rw[bq]at d;obtain⟨x,e,g⟩:=an3 hE a n h J p J w b.1 (c m aag) d;rw[An hE a e];obtain⟨r,i,j⟩:=Xp l f {n with mv:=n.mv++[x]} h (s:=eI s (I (QU m)) (I m.acts) 1 0) a J aai aai aai aai b.2 (λy hy=>c y ahV) t d.right;refine⟨x::r,?_,abJ g j⟩;rw[i,dA,k];simp only[Ak,aQ,aY,bq,jr];congr 2;omega
theorem LJ:∀l,I l<=I (Ak l)
 | []=>aX _
 | m::l=>by
  have h:=LJ l;have a:1<=I (QU m):=by
   unfold QU hdK;rw[aQ];split
   ·simp;omega
   split<;>(simp only[aY];omega)
  rw[Ak,aQ,aY];omega
theorem aeA{f}{n}{h}{s:Sx}{b}(a:s.fc=0)(g:I (Uw b)+I b.mv<f)(p:(I b.lv+wO b.mv:Nat)<=s.a)(l:s.a<=1000)(C:I b.mv<=s.m)(w:s.m<=1000)(k:nbS b)(j:nbN b){q}{A}(m:BW q)(d:At ts s.i (Uw b++(Ak b.mv++q::A)))(o:h.l=aL)(y:n.lv=[]):
  ∃r i,iw ts f n h s=({n with lv:=r,mv:=n.mv++i},eI s (I (Uw b)+I (Ak b.mv)) (I b.lv+wO b.mv) (I b.mv) 0)/\kQ (AcE aL) b.lv r/\kQ (MvE aL) b.mv i:=by
 obtain⟨v,z,u,nd,ne,nl,x,t⟩:=n;subst y;unfold Uw at d g⊢;by_cases c:b.lv=[]
 ·rw[aV c]at d g⊢;obtain⟨q,e,n⟩:=Xp hE b.mv f _ h a J J l C w k.mv j.mv m d;refine⟨[],q,?_,by rw[c];exact ED,n⟩;rw[e,c];simp
 rw[aP c]at d g⊢;simp at g;obtain⟨f,rfl⟩:∃B,f=B+1:=⟨f-1,J⟩
 obtain⟨r,h,n⟩:=an2 hE a _ o J l k.lv j.lv d;rw[An hE a h];obtain⟨i,q,A⟩:=Xp hE b.mv f _ _ (s:=eI s _ (I b.lv) 0 0) a J aai aai aai aai k.mv j.mv m (by
  have e:s.i+1+I (EC b.lv)=(eI s (I (EC b.lv)+1) (I b.lv) 0 0).i:=aai
  rw[<-e];exact d.tail.right)
 refine⟨r,i,?_,n,A⟩;rw[q,dA,aY];congr 2;omega
theorem aeB{f}{n}{h}{s:Sx}{b}(g:s.fc=0)(j:I (enK b)+(I (Uw b)+I b.mv)<f)(B:(I b.en+(I b.lv+wO b.mv):Nat)<=s.a)(o:s.a<=1000)(C:I b.mv<=s.m)(W:s.m<=1000)(m:nbS b)(l:nbN b){q}{A}(t:BW q)(d:At ts s.i (enK b++(Uw b++(Ak b.mv++q::A))))(k:h.e=aL)(p:h.l=aL)(V:n.en=[])(z:n.lv=[]):
  ∃c r a,iw ts f n h s=({n with en:=c,lv:=r,mv:=n.mv++a},eI s (I (enK b)+(I (Uw b)+I (Ak b.mv))) (I b.en+(I b.lv+wO b.mv)) (I b.mv) 0)/\kQ (AcE aL) b.en c/\kQ (AcE aL) b.lv r/\kQ (MvE aL) b.mv a:=by
 obtain⟨w,y,v,nd,ne,nl,x,u⟩:=n;subst z V;unfold enK at d j⊢;by_cases i:b.en=[]
 ·rw[aV i]at d j⊢;obtain⟨r,a,e,b,q⟩:=aeA hE (f:=f) (h:=h) (n:=⟨w,y,v,nd,[],[],x,u⟩) g J J o C W m l t d p rfl;refine⟨[],r,a,?_,by rw[i];exact ED,b,q⟩;rw[e,i];simp
 rw[aP i]at d j⊢;simp at j;obtain⟨f,rfl⟩:∃G,f=G+1:=⟨f-1,J⟩
 obtain⟨c,q,A⟩:=an1 hE g _ k J o m.en l.en d;rw[An hE g q];obtain⟨r,a,D,E,F⟩:=aeA hE (n:=⟨w,y,v,nd,c,[],x,u⟩) (h:={h with e:=aE}) (s:=eI s _ (I b.en) 0 0) g (f:=f) J aai aai aai aai m l t (by
  have e:s.i+1+I (EC b.en)=(eI s (I (EC b.en)+1) (I b.en) 0 0).i:=aai
  rw[<-e];exact d.tail.right) p rfl
 refine⟨c,r,a,?_,A,E,F⟩;rw[D,dA,aY];congr 2<;>omega
theorem aul{f}{n}{s:Sx}{b}(d:s.fc=0)(e:I (Td b)+(I (enK b)+(I (Uw b)+I b.mv))<f)(j:(BR b)<=s.a)(u:s.a<=1000)(C:I b.mv<=s.m)(w:s.m<=1000)(m:nbS b)(k:nbN b){q}{A}(l:BW q)(dQ:At ts s.i (Cm b++q::A))(i:n.ini=[])(V:n.en=[])(y:n.lv=[])(v:n.mv=[]):
  ∃r a c,iw ts f n ⟨aL,aL,aL⟩ s=({n with ini:=b.ini,en:=r,lv:=a,mv:=c},eI s (I (Cm b)) (BR b) (I b.mv) 0)/\kQ (AcE aL) b.en r/\kQ (AcE aL) b.lv a/\kQ (MvE aL) b.mv c:=by
 rw[ag3]at j⊢;obtain⟨p,t,x,nd,ne,nl,z,o⟩:=n;subst i y V v;unfold Cm at dQ⊢;have dQ:=ahM
 simp;unfold Td at dQ e⊢;by_cases g:b.ini=[]
 ·rw[aV g]at dQ e⊢;obtain⟨r,a,c,b,q⟩:=aeB hE (f:=f) (n:=⟨p,t,[],nd,[],[],[],o⟩) (h:=⟨aL,aL,aL⟩) d J j u C w m k l dQ rfl rfl rfl rfl;refine⟨r,a,c,?_,q⟩;rw[b,g];simp
 rw[aP g]at dQ e⊢;simp at e;obtain⟨f,rfl⟩:∃B,f=B+1:=⟨f-1,J⟩
 rw[An hE d (ag4 hE d _ (h:=⟨aL,aL,aL⟩) rfl dQ)];obtain⟨r,a,c,q,A⟩:=aeB hE (n:=⟨p,t,b.ini,nd,[],[],[],o⟩) (h:=⟨aE,aL,aL⟩) (s:=eI s 3 0 0 0) d (f:=f) J aai aai aai aai m k l dQ.tail.tail.tail rfl rfl rfl rfl;refine⟨r,a,c,?_,A⟩;rw[q,dA];congr 2<;>omega
theorem EF{s}(e:s.fc=0) k {nm} {A} (d:At ts s.i ((1,nm,0)::A)) (h:1<=s.n) (n:s.n<=1000) (hd:s.d≠0):∃a,fQ ts k s=({nb0 with k:=k,nm:=nm,a:=a},eI s 1 0 0 1):=by
 have u:FC ts s=eI s 0 0 0 1:=by
  unfold FC eI;rw[aP J,Am h n];simp
 have r:sP ts s=eI s 0 0 0 1:=by
  unfold sP;rw[aV d.head.1,u,aP (show ¬(eI s 0 0 0 1).d=0 from hd)]
 obtain⟨c,f,b⟩:=xC (s:=eI s 0 0 0 1) (k:=1) e (q:=_) (A:=A) d rfl;refine⟨(iq ts (eI s 0 0 0 1) 1).1.a,?_⟩;unfold fQ;rw[r,c,b,dA]
theorem ag5{k}(h:1<=k)(a:k<=4):Uy (2,kW k,0) rD=k.toNat:=by
 have:k=1∨k=2∨k=3∨k=4:=J
 rcases this with rfl | rfl | rfl | rfl<;>decide
theorem IB{d}{b}{l}(h:jY d (.mk b l)=aE):1<=b.k/\b.k<=4:=by
 rw[jY]at h;simp at h;cases a:fF b.k
 ·have:=(Xm h.1.2 a).1;omega
 have:=aO a;omega
theorem Ao x:∃B,Ux x=(2,kW x.b.k,0)::B:=by
 obtain⟨b,l⟩:=x;rw[Ux];split
 ·exact⟨_,rfl⟩
 exact⟨_,rfl⟩
abbrev Xq(t:List Tk)(f:Nat):Prop:=∀x deep {s:Sx} {A:List K3},jY deep x=aE->Ci x->s.fc=0->s.d=12-deep->13<=deep+f->(iH x)<=s.n->s.n<=1000->(yt x)<=s.a->s.a<=1000->(zR x)<=s.m->s.m<=1000->At t s.i ((Ux x).tail++A)->
 ∃r,mX t f x.b.k s=(r,eI s ((I (Ux x))-1) (yt x) (zR x) (iH x))/\Xo x r
theorem Xr{N}(h:Xq ts N):∀l f a deep {s:Sx},iL deep l=aE->zU l->s.fc=0->s.d=12-deep->13<=deep+N->I l<f->(dR l)<=s.n->s.n<=1000->(nS l)<=s.a->s.a<=1000->(oT l)<=s.m->s.m<=1000->∀{A:List K3},At ts s.i (nZ l++lD 125::A)->
  ∃r,vG ts (mX ts N) f a s=(a++r,eI s (I (nZ l)) (nS l) (oT l) (dR l))/\kQ Xo l r
 | [],f,a,deep,s,i,n,b,hd,Y,hf,k,o,c,e,m,j,A,d=>by
  obtain⟨f,rfl⟩:∃g,f=g+1:=⟨f-1,aes⟩
  rw[nZ]at d⊢;rw[vG,eK b d,aV Z,nS,oT,dR];exact⟨[],by rw[bE,bC,ag1],ED⟩
 | x::l,f,a,deep,s,g,n,i,hd,Y,hf,y,F,j,D,v,E,A,c=>by
  rw[aY]at hf;obtain⟨f,rfl⟩:∃t,f=t+1:=⟨f-1,J⟩
  rw[iL,aR]at g;rw[dR]at y⊢;rw[nS]at j⊢;rw[oT]at v⊢;rw[nZ]at c⊢;rw[bq]at c;obtain⟨C,B⟩:=Ao (ts:=ts) hE x;have hk:=IB (ts:=ts) hE (d:=deep) (b:=x.b) (l:=x.kids) (by obtain⟨b,k⟩:=x;exact g.1);have w:dc ts s rD=x.b.k.toNat:=by
   have b:=c;rw[B]at b;rw[eK i b];exact ag5 (ts:=ts) hE hk.1 hk.2
  have R:x.b.k.toNat=x.b.k:=fL J;have u:At ts (eI s 1 0 0 0).i ((Ux x).tail++(nZ l++lD 125::A)):=by
   have b:=c;rw[B]at b⊢;exact b.tail
  have N:1<=I (Ux x):=by rw[B,aY];omega
  obtain⟨r,m,o⟩:=h x deep (s:=eI s 1 0 0 0) g.1 n.1 i hd Y aai aai aai aai aai aai u;rw[vG,w,aP J,R,jZ,m];rw[dA];obtain⟨z,p,q⟩:=Xr h l f _ deep (s:=eI s _ (0+yt x) (0+zR x) (0+iH x)) g.2 n.2 i hd Y J aai aai aai aai aai aai (by
   have e:s.i+I (Ux x)=(eI s (1+((I (Ux x))-1)) (0+yt x) (0+zR x) (0+iH x)).i:=aai
   rw[<-e];exact c.right)
  refine⟨r::z,?_,abJ o q⟩;rw[p,dA,bq,aQ];congr 2<;>omega
theorem LK:∀l,I l<=I (nZ l)
 | []=>be _
 | x::l=>by
  have:=LK l;obtain⟨B,h⟩:=Ao (ts:=ts) hE x;rw[nZ,h,aQ,aY,aY];omega
theorem LM l (h:∀x,x∈l->1<=x.b.k/\x.b.k<=4) A:∃q B,nZ l++lD 125::A=q::B/\BW q:=by
 cases l with
 | nil=>
  exact⟨_,_,rfl,by unfold BW;decide⟩
 | cons x l=>
  obtain⟨B,a⟩:=Ao (ts:=ts) hE x;rw[nZ,a];refine⟨_,_,rfl,?_⟩;obtain _:=h x aag;have:x.b.k=1∨x.b.k=2∨x.b.k=3∨x.b.k=4:=J
  unfold BW;rcases this with e | e | e | e<;>rw[e]<;>decide
theorem Ap{d}:∀{l:List Nd},iL d l=aE->∀x,x∈l->1<=x.b.k/\x.b.k<=4
 | [],_,x,h=>by simp at h
 | y::l,h,x,a=>by
  rw[iL,aR]at h;rcases aZ.1 a with rfl | a
  ·obtain⟨b,k⟩:=x;exact IB (ts:=ts) hE h.1
  exact Ap h.2 x a
theorem Xs{N:Nat}(B:Xq ts N){b}{l}{deep}{s:Sx}{n}(m:iL (deep+1) l=aE)(H:zU l)(K:nbS b)(E:nbN b)(h:s.fc=0)(hd:s.d=12-deep)(C:deep<12)(Y:13<=deep+1+N)
  (n1:(dR l:Int)<=s.n) (n2:s.n<=1000) (a1:(BR b+nS l:Nat)<=s.a) (p:s.a<=1000) (m1:(I b.mv+oT l:Nat)<=s.m) (M:s.m<=1000) {A} (dQ:At ts s.i ((Cm b++(nZ l++[lD 125]))++A)) (i:n.ini=[]) (V:n.en=[]) (R:n.lv=[]) (P:n.mv=[]):
  ∃a c e r,tZ ts (mX ts N) n s=(.mk {n with ini:=b.ini,en:=a,lv:=c,mv:=e} r,eI s (I (Cm b++(nZ l++[lD 125]))) (BR b+nS l) (I b.mv+oT l) (dR l))/\kQ (AcE aL) b.en a/\kQ (AcE aL) b.lv c/\kQ (MvE aL) b.mv e/\kQ Xo l r:=by
 have dQ:=ahM
 obtain⟨q,S,j,k⟩:=LM hE l (Ap hE m) A;have o:=At.inr hE (s:=s) (L:=Cm b++nZ l) (q:=lD 125) (A:=A) ahM Z;rw[aQ]at o;have T:=LJ (ts:=ts) hE b.mv;have W:=LK (ts:=ts) hE l;have D:I (Td b)+(I (enK b)+(I (Uw b)+I (Ak b.mv)))=I (Cm b):=by unfold Cm;simp
 have F:A9 s.d=s.d-1:=Am J J;have g:inc (s.d-1)=s.d:=by
  unfold inc;rw[fh J J];omega
 have G:=dQ;rw[j]at G;obtain⟨a,c,e,t,u,v,w⟩:=aul hE (f:=I ts+1) (n:=n) (s:={s with d:=s.d-1}) h J abI p abI M K E k G i V R P;obtain⟨r,x,y⟩:=Xr hE B l (I ts+1) [] _ (s:=eI {s with d:=s.d-1} (I (Cm b)) (BR b) (I b.mv) 0) m H h aai Y J aai aai aai aai aai aai dQ.right;refine⟨a,c,e,r,?_,u,v,w,y⟩;unfold tZ;dsimp only;rw[F,t];rw[x];dsimp only;have z:({eI (eI {s with d:=s.d-1} (I (Cm b)) (BR b) (I b.mv) 0) (I (nZ l)) (nS l) (oT l) (dR l)with d:=inc (eI (eI {s with d:=s.d-1} (I (Cm b)) (BR b) (I b.mv) 0) (I (nZ l)) (nS l) (oT l) (dR l)).d})=eI s (I (Cm b)+I (nZ l)) (BR b+nS l) (I b.mv+oT l) (0+dR l):=by
  rw[dA];unfold eI;rw[g]
 rw[z,kq (s:=eI s (I (Cm b)+I (nZ l)) _ _ _) h (q:=lD 125) (A:=A) (by
  have b:=dQ.right.right;rw[dM]at b;exact b) Z,dA,bR]
 simp only[aQ,aY,bC];congr 2<;>omega
theorem Xt:∀f,Xq ts f
 | 0=>by
  intro x deep s A h n a hd Y;obtain⟨b,l⟩:=x;rw[jY]at h;simp only[aR]at h;have:=aO h.1.1;omega
 | f+1=>by
  intro x deep s A e i h hd Y r m o u q v d;obtain⟨b,l⟩:=x;have hk:=IB (ts:=ts) hE e;rw[jY]at e;rw[Ci]at i;rw[iH]at r⊢;rw[yt]at o⊢;rw[zR]at q⊢;simp only[aR]at e;obtain⟨⟨g,j⟩,p⟩:=e;have g:=aO g;show ∃t,mX ts (f+1) b.k s=_/\_;rw[Ux]at d⊢;rw[mX];cases c:fF b.k
  ·obtain⟨K,D,E⟩:=Xm j c;rw[c,aP Z]at d;have d:At ts s.i ((1,b.nm,0)::lD 123::((Cm b++(nZ l++[lD 125]))++A)):=d;obtain⟨a,w⟩:=EF hE h b.k d J m J;rw[aP J,aP Z,w];dsimp only;rw[kq (s:=eI s 1 0 0 1) h d.tail Z,dA];obtain⟨F,G,H,t,x,y,z,B,C⟩:=Xs hE (Xt f) (deep:=deep) (s:=eI s (1+1) (0+0) (0+0) (1+0)) (n:={nb0 with k:=b.k,nm:=b.nm,a:=a}) p i.2 E i.1 h hd g J aai aai aai aai aai aai d.tail.tail rfl rfl rfl rfl;rw[x,dA];refine⟨_,?_,IA (b':={nb0 with k:=b.k,nm:=b.nm,a:=a,ini:=b.ini,en:=F,lv:=G,mv:=H}) ⟨rfl,rfl,rfl,D,y,z,B,Iy⟩ C⟩;congr 2<;>(try simp)<;>omega
  obtain⟨D,E,y,n,w,f,z⟩:=anU j c;have B:=aO c;have C:l=[]:=bH z;subst C;rw[c,aV rfl]at d;have d:At ts s.i ((1,b.nm,0)::kTo::(1,b.dft,0)::lD 59::A):=d;obtain⟨a,x⟩:=EF hE h b.k d J m J;rw[aV J,aV rfl,x];dsimp only;rw[kq (s:=eI s 1 0 0 1) h d.tail Z,dA,xD (s:=eI s (1+1) (0+0) (0+0) (1+0)) h d.tail.tail];dsimp only;rw[kq (s:=eI (eI s (1+1) _ _ _) 1 0 0 0) h d.tail.tail.tail Z,dA,dA];refine⟨_,?_,IA (b':={nb0 with k:=b.k,nm:=b.nm,a:=a,dft:=b.dft}) ⟨rfl,rfl,y,rfl,by rw[n];exact ED,by rw[w];exact ED,by rw[f];exact ED,Iy⟩ ED⟩;congr 1;rw[nS,oT,dR];have:BR b=0:=by unfold BR;rw[n,w,f];rfl
  rw[this,f];rfl
theorem an4{s}(h0:s.fc=0){v}(c:tn v)(m:v≠ -9223372036854775808){q}{A}(dQ:At ts s.i (Ix v++q::A)):
  ∃g,dc ts s [[45]]=g/\(if g=0 then(iq ts (if g=0 then s else eF s) 3).1.n else ar U (-(iq ts (if g=0 then s else eF s) 3).1.n))=v/\(iq ts (if g=0 then s else eF s) 3).2=eI s (I (Ix v)) 0 0 0:=by
 obtain⟨a,b⟩:=c;unfold Ix at dQ⊢;by_cases h:v<0
 ·rw[aV h]at dQ⊢;obtain⟨f,d,e⟩:=xC (s:=eI s 1 0 0 0) (k:=3) h0 dQ.tail rfl;refine⟨1,ac1,?_,?_⟩
  ·rw[aP Z,aP Z,jZ,d];rw[Int.neg_neg,fh a b]
  rw[aP Z,jZ,e,dA];rfl
 rw[aP h]at dQ⊢;obtain⟨f,d,e⟩:=xC (s:=s) (k:=3) h0 dQ rfl;exact⟨0,by rw[eK h0 dQ];rfl,by rw[aV rfl,aV rfl,d],by rw[aV rfl,e];rfl⟩
theorem an5{s}(j:s.fc=0)(n:1<=s.v)(o:s.v<=1000){v}(l:tn v.v)(m:v.v≠ -9223372036854775808){A}(d:At ts s.i ((Z2 v).tail++A)):
  ∃r,wx ts s=(r,eI {s with v:=s.v-1} (Z2 v).tail.length 0 0 0)/\VrE aL v r:=by
 have u:FD ts s={s with v:=s.v-1}:=by
  unfold FD;rw[aP J,Am n o]
 unfold wx;dsimp only;rw[aV d.head.1,u];generalize B:({s with v:=s.v-1})=s1;have a:s1.fc=0:=by rw[<-B];exact j
 have d:At ts s1.i ((1,v.n,0)::lD 61::((Ix v.v++[lD 59])++A)):=by rw[<-B];exact d
 obtain⟨c,p,b⟩:=xC (s:=s1) (k:=1) a d rfl;rw[c,b,kq (s:=eI s1 1 0 0 0) a d.tail Z,dA];have h:=by
  have:=d.tail.tail;rw[bq]at this;exact this
 obtain⟨t,g,f,i⟩:=an4 hE (s:=eI s1 (1+1) _ _ _) a l m h;rw[g,f,i,dA,kq (s:=eI s1 _ _ _ _) a (q:=lD 59) (A:=A) (by
  have e:(eI s1 (1+1) (0+0) (0+0) (0+0)).i+I (Ix v.v)=(eI s1 (1+1+I (Ix v.v)) (0+0+0) (0+0+0) (0+0+0)).i:=aai
  rw[<-e];exact h.right) Z,dA]
 refine⟨⟨v.n,v.v,(iq ts s1 1).1.a⟩,?_,⟨rfl,rfl,Iy⟩⟩;unfold Z2;simp;congr 2;omega
theorem Xu:∀l f a {s:Sx},s.fc=0->I l<f->I l<=s.v->s.v<=1000->(∀v,v∈l->tn v.v/\v.v≠ -9223372036854775808)->∀{q:K3} {A:List K3},Uy q [yJ]=0->At ts s.i (Al l++q::A)->
  ∃r,wy ts f a s=(a++r,eI {s with v:=s.v-(I l)} (I (Al l)) 0 0 0)/\kQ (VrE aL) l r
 | [],f,a,s,h,hf,c,e,v,q,A,b,d=>by
  obtain⟨f,rfl⟩:∃g,f=g+1:=⟨f-1,aes⟩
  rw[wy,eK h d,aV b];refine⟨[],?_,ED⟩;unfold eI Al;simp
 | v::l,f,a,s,h,hf,o,p,b,q,A,m,d=>by
  rw[aY]at hf o;obtain⟨f,rfl⟩:∃k,f=k+1:=⟨f-1,J⟩
  have d:At ts s.i ((Z2 v++Al l)++q::A):=d;rw[bq]at d;have G:=d;obtain⟨r,e,c⟩:=an5 hE (s:=eI s 1 0 0 0) h aai aai (b v aag).1 (b v aag).2 G.tail;rw[wy,eK h G,aP Z,jZ,e];have g:eI {eI s 1 0 0 0 with v:=(eI s 1 0 0 0).v-1} (Z2 v).tail.length 0 0 0=eI {s with v:=s.v-1} (I (Z2 v)) 0 0 0:=by
   unfold eI Z2;simp only[List.tail_cons,aY,Sx.mk.injEq,true_and];refine⟨J,?_,?_,?_⟩<;>omega
  rw[g];obtain⟨n,i,j⟩:=Xu l f _ (s:=eI {s with v:=s.v-1} (I (Z2 v)) 0 0 0) h J aai aai (λx hx=>b x adD) m d.right;refine⟨r::n,?_,abJ c j⟩;rw[i,bq,aY];congr 1;unfold eI;simp only[Al,aQ,Sx.mk.injEq,true_and];refine⟨J,J,?_,?_,?_⟩<;>omega
theorem LN:∀l,I l<=I (Al l)
 | []=>aX _
 | v::l=>by
  have:=LN l;rw[Al,aQ,aY];unfold Z2;rw[aY];omega
theorem abN{c}(m:pC c=aE)(u:G8 c)(g:At ts 0 (chK c++[(5,[],0)])):(wz ts).2.fc=0/\∀d,ChE aL d c (wz ts).1:=by
 unfold pC at m;simp only[aR]at m;obtain⟨⟨t,o⟩,i⟩:=m;replace i:=aO i;obtain⟨r,⟨b,l⟩⟩:=c;have y:=u.v;have w:=u.r;rw[jY]at o;simp only[aR]at o;obtain⟨⟨_,P⟩,p⟩:=o;dsimp only at t i y;obtain⟨V,q2,q3,W,Y⟩:=i;have hk:b.k=1:=V;rw[iH]at q3;rw[zR]at W;rw[yt]at Y;have R:fF b.k=aL:=afF
 obtain⟨_,N,T⟩:=Xm P R;have H:∀v,v∈r->tn v.v/\v.v≠ -9223372036854775808:=λv A=>by
  have:=(dx.1 t) v A;simp at this;exact⟨y v A,this.2⟩
 have g:At ts yp.i ((2,gf,0)::(1,b.nm,0)::lD 123::(Al r++((Cm b++(nZ l++[lD 125]))++[(5,[],0)]))):=by
  have e:(2,gf,0)::(1,b.nm,0)::lD 123::(Al r++((Cm b++(nZ l++[lD 125]))++[(5,[],0)]))=(2,gf,0)::(1,b.nm,0)::lD 123::(Al r++(Cm b++(nZ l++[lD 125])))++[(5,[],0)]:=aag
  rw[e];exact g
 have z:yp.fc=0:=rfl;unfold wz;rw[kq (s:=yp) z g Z];obtain⟨a,C⟩:=EF hE (s:=eI yp 1 0 0 0) z 1 g.tail Z Z Z;rw[C];dsimp only;rw[kq (s:=eI (eI yp 1 0 0 0) 1 0 0 1) z g.tail.tail Z,dA,dA];have j:At ts (eI yp (1+1+1) (0+0+0) (0+0+0) (0+1+0)).i _:=g.tail.tail.tail;obtain⟨q,B,S,h⟩:∃q B,(Cm b++(nZ l++[lD 125]))++[((5,[],0))]=q::B/\Uy q [yJ]=0/\q.1≠5:=by
  obtain⟨q,B,a,d⟩:=LM hE l (Ap hE p) [_];have v:Uy q [yJ]=0:=by
   cases l with
   | nil=>
    have:q=lD 125:=by injection a with b _;exact b.symm
    rw[this];decide
   | cons x l=>
    obtain⟨s,b⟩:=Ao (ts:=ts) hE x;rw[nZ,b]at a;have:q=(2,kW x.b.k,0):=by injection a with k _;exact k.symm
    obtain _:=Ap (ts:=ts) hE p x aag;have n:x.b.k=1∨x.b.k=2∨x.b.k=3∨x.b.k=4:=J
    rw[this];rcases n with e | e | e | e<;>rw[e]<;>decide
  have e:(Cm b++(nZ l++[lD 125]))++[((5,[],0))]=Cm b++(nZ l++lD 125::[(5,[],0)]):=aag
  rw[e,a];unfold Cm Td enK Uw;by_cases c:b.ini=[]
  ·rw[aV c];by_cases e:b.en=[]
   ·rw[aV e];by_cases k:b.lv=[]
    ·rw[aV k];cases n:b.mv with
     | nil=>exact⟨q,B,rfl,v,d.2.2⟩
     | cons s ms=>
      have:∃b q,QU s=(2,b,0)::q/\Uy (2,b,0) [yJ]=0:=by
       unfold QU hdK;split
       ·exact⟨_,_,rfl,Z⟩
       split
       ·exact⟨_,_,rfl,Z⟩
       exact⟨_,_,rfl,Z⟩
      obtain⟨b,q,x,u2⟩:=this;rw[Ak,x];exact⟨_,_,rfl,u2,(by decide:(2:Int)≠5)⟩
    rw[aP k];exact⟨_,_,rfl,Z,Z⟩
   rw[aP e];exact⟨_,_,rfl,Z,Z⟩
  rw[aP c];exact⟨_,_,rfl,Z,Z⟩
 have f:=j;rw[S]at f;have fN:=LN (ts:=ts) hE r;have O2:=At.inr hE f h.2;obtain⟨rv,D,E⟩:=Xu hE r (I ts+1) [] (s:=eI yp _ _ _ _) z J acG Z H h.1 f;rw[D];obtain⟨r0,r1,r2,am,F,G,K,L,M⟩:=Xs hE (Xt hE 14) (deep:=0) (s:=eI {eI yp (1+1+1) (0+0+0) (0+0+0) (0+1+0)with v:=(eI yp (1+1+1) _ _ _).v-(I r)} (I (Al r)) 0 0 0) (n:={nb0 with k:=1,nm:=b.nm,a:=a}) p w.2 T w.1 z rfl Z Z acG acG acG acG acG acG j.right rfl rfl rfl rfl;rw[F];rw[dA];refine⟨?_,λd=>⟨by rw[bR];exact E,IA (b':={nb0 with k:=1,nm:=b.nm,a:=a,ini:=b.ini,en:=r0,lv:=r1,mv:=r2}) ⟨hk,rfl,rfl,N,G,K,L,Iy⟩ M d⟩⟩;unfold NM;rw[aP]
 ·exact z
 rintro⟨_,b⟩;refine b ?_;have a:=j.right.right.head.1;rw[dM]at a;exact a
end
def Te{c}(b:pC c=aE)(n:G8 c)(v:I (BS (Ee c))<=16384):(eP (BS (Ee c))).2.1=0/\∀d,ChE aL d c (eP (BS (Ee c))).1:=by
 have e:=anX b n;unfold Lq at e;generalize BS _=L at*
 have E:lJ L (0+I L)=.ok [⟨5,[],0,I L⟩]:=by
  have hd:L.drop (I L)=[]:=dV (aX _);have c:lz aL []=0:=rfl;rw[bP,lH (aX _),hd,c,aV J];rfl
 obtain⟨u,k,m⟩:=e L 0 [] _ (be _) (by rw[im,bE]) trivial E;generalize h:u++[_]=s at*
 have a:di L=(s,0,0):=by rw[di,aP J,k]
 have o:=by
  have:=(yO (l:=L) (by rw[a])).1;rw[a]at this;exact this
 have p:s.map k3=chK c++[(5,[],0)]:=by rw[<-h,cK,m];rfl
 have i:At s 0 (chK c++[_]):=λr q j=>by
  rw[<-p,cF,fz]at j;obtain⟨t,c,rfl⟩:=j;have:tk s (0+r)=t:=by
   unfold tk;rw[bP,c];rfl
  rw[this]
 obtain⟨f,g⟩:=abN o b n i;unfold eP;rw[a];dsimp only;rw[aP Z,aP (by rw[f];decide)];exact⟨rfl,g⟩
end Go.Proofs.YtfemabakfkliiaaGreatDoor.Con
namespace Go.Kt
open Go Go.RowKit Go.ChangeShapes Go.WideShapes
def qK{a b:Type}(r:Rp a)(q:Rp b):Rp (a×b):=λw F x s=>∃c d,s=c++d/\r w F x.1 c/\q w F x.2 d
def Xv:Rp Unit:=λ_ _ _ c=>c=[]
def an6:Rp Bool:=λ_ _ b c=>c=[.bool b]
section
variable {H:Type} {enc:TypeId×aw->H} {P:Program}
def yx(l:laidOutB P=aE){W W'}{sp}(h:Below W.heap.size W W'):∀{a:List TypeId} {b:List aw} {s:List _} {ps:List MemPlace},
  (∀t,t∈a->P.readableRec t=aE/\t<P.types.size)->DataW.TrodAll enc P W 0 (λ_=>aE) aE a b s ps->(∀x,x∈ps->x.block<W.heap.size)->(∀x,x∈ps->sp x.block=aE)->DataW.TrodAll enc P W' 0 sp aE a b s ps
 | [],b,s,ps,_,c,_,_=>by
  obtain⟨rfl,rfl,rfl⟩:=trodAll_nil c;exact trodAll_mk0
 | t::a,b,s,ps,r,f,c,M=>by
  obtain⟨v,Y,d,e,p,q,rfl,rfl,rfl,g,i⟩:=trodAll_cons f;obtain⟨j,k⟩:=r t aag;exact trodAll_cons_mk (WideElems.Trod_stays l j k g (λx hx=>h.same (c x adD)) λx hx=>M x adD)
   (yx l h (λd u=>r d (by simp[u])) i (λx hx=>c x adD) λx hx=>M x adD)
def law_post{f}{s:ChangeSpec}{fresh handsOn again}{W W'}{args}{ds gs}{before}{tb}
  (e:DataW.Whole enc P f.params.toList s.vars aL W args.toList ds gs before) (v:s.vars=[])
  (i:(s.fn H (ds++gs)).results=[.lit (.bool aE)]) (h:(s.fn H (ds++gs)).args=ds) (l:(s.fn H (ds++gs)).vars=[])
  (c:f.resultTypes=#[tb]) (u:P.underlying tb=aM .bool) (r:laidOutB P=aE) (j:(f.params.toList.all λt=>P.readableRec t&&decide (t<P.types.size))=aE) (n:Only [] W W'):
  s.post enc P f aL fresh handsOn again W args (.bool aE) W':=by
 have g:=n.below (aX _) aag;have d:=λp hp=>e.lt p hp;obtain⟨p,q,m,k,rfl,z,w⟩:=id e;rw[v]at k;obtain⟨rfl,rfl⟩:=trodVars_none k;rw[bE]at*
 have A:∀sp,_->DataW.TrodAll enc P W' 0 sp aE f.params.toList args.toList (s.fn H ds).args p:=λsp M=>by
  rw[h];exact yx r g (λt c=>by simpa using dx.1 j t c) m (λx hx=>by simpa using d x hx) M
 have V:∀sp,DataW.TrodVars enc P W' sp s.vars (s.fn H ds).vars []:=λsp=>by
  rw[v,l];simp[DataW.TrodVars]
 have a:∀b sp hd,DataW.TrodAll enc P W' b sp hd f.resultTypes.toList ((Value.bool aE).resultList f.resultTypes.size) (s.fn H ds).results []:=λb sp hd=>by
  rw[i,c];exact trodAll_cons_mk (shut_bool u aE) trodAll_mk0
 have o:∀x∈p,(λb=>decide _) x.block=aE:=λx hx=>by simpa using d x hx
 refine⟨ds,[],p,[],p,[],e,by simpa using a _ _ _,by simpa using A _ o,by simpa using V _,World.keptBut_mono (λx hx=>⟨hx,acD⟩) (g.frame _),λ_=>?_⟩;refine⟨ok_one c rfl (okWide_bool_mk u aE),_,_,_++[],⟨[]++p,[],trodAll_append (A _ (λ_ _=>rfl)) (a _ _ _),V _,rfl,?_,?_⟩,?_⟩
 ·intro b off hp;have hp:=ahL
  rw[g.frozen (p:=_) (d _ hp)];exact z b off hp
 ·intro b;cases b
 intro x hp _;simpa using hp
variable {W:av} {base:Nat} {spare:Nat->Bool} {held:Bool} {α:Type}
def GD(e:TypeId×aw->H)(P:Program)(W:av)(base:Nat)(spare:Nat->Bool)(held:Bool)(t:TypeId)(r:Rp α):Prop:=
 ∀fX c x,DataW.trod e P W base spare held fX t c=aM x->(∀n,n∈x.1.weights P t->n<=reachBytes)->∃a,r W (λ_=>True) a c
def ju{t}(a:P.underlying t=aM (.int .i64)):GD enc P W base spare held t gL:=λfX c x h _=>by
 obtain⟨n,rfl,rfl,w⟩:=DataW.trod_int a h;refine⟨n,rfl,?_⟩;simpa[Lit.wf,IntKind.min,IntKind.max,IntKind.signed,IntKind.bits,tn]using w
def rSl(r:Rp α)(i bytes:Nat):Rp (List α):=λw F x c=>∃s,c=[s.v]/\SliceF r i w F s x/\I x*bytes<=140737488351232
def wP{e}:∀{l:List _} {d:DataW H},d∈l->∀n,n∈d.weights P e->n∈DataW.weightsAll P e l
 | a::l,d,hd,n,h=>by
  simp[DataW.weightsAll,ch];rcases aZ.1 hd with rfl | hd
  ·exact .inl h
  exact .inr (wP hd n h)
 | [],d,hd,_,_=>by simp at hd
def BX{a:Type}{p:Nat->a->Prop}:∀n,(∀i,i<n->∃b,p i b)->∃l:List a,I l=n/\∀i b,l[i]? =aM b->p i b
 | 0,_=>⟨[],rfl,λi b h=>acr⟩
 | n+1,h=>by
  obtain⟨l,e,g⟩:=BX n λi f=>h i J;obtain⟨b,j⟩:=h n J;refine⟨l++[b],by simp[e],λi c d=>?_⟩;by_cases f:i<I l
  ·rw[bX f]at d;exact g i c d
  have:i=n:=by
   have:=(bc.1 d).1;simp at this;omega
  subst this;simp[e]at d;rw[<-d];exact j
def GD.map{β}{t}{r}{q}(h:GD enc P W base spare held t r)(f:α->β)(d:∀a c,r W (λ_=>True) a c->q W (λ_=>True) (f a) c):GD enc P W base spare held t q:=λfX c x e w=>by
 obtain⟨a,b⟩:=h fX c x e w;exact⟨f a,d a c b⟩
def Oc{t}(a:P.underlying t=aM .bool):GD enc P W base spare held t an6:=λfX c x h _=>by
 obtain⟨b,rfl,rfl⟩:=DataW.trod_bool a h;exact⟨b,rfl⟩
def weights_of{ts}{ds}(h:(DataW.weightsEach P ts ds).all (· <=reachBytes)=aE)(j:Nat){t}{d:DataW H}(b:ts[j]? =aM t)(hd:ds[j]? =aM d):∀n,n∈d.weights P t->n<=reachBytes:=
 λn a=>by simpa using dx.1 h n (DataW.weights_mem_each b hd n a)
end
structure IsBulk {H:Type} (B:DataW H->Nat):Prop where
 one:∀d,1<=B d
 sl:∀e s,(e.map B).sum+1<=B (.slice e s)
 str:∀b,I b+1<=B (.lit (.string b))
 agg:∀p,(p.map B).sum+1<=B (.agg p)
 ptr:∀d,B d+1<=B (.ptr d)
 iface:∀t d,B d+1<=B (.iface t d)
section
variable {H:Type} {enc:TypeId×aw->H} {P:Program} {W:av} {base:Nat} {spare:Nat->Bool} {held:Bool} {α β:Type} {B:DataW H->Nat}
def Xw:Rp ByteArray:=λ_ _ s c=>c=[.string s]/\s.size<=140737488351232
def lp(B:DataW H->Nat)(e:TypeId×aw->H)(P:Program)(W:av)(base:Nat)(spare:Nat->Bool)(held:Bool)(t:TypeId)(r:Rp α)(m:α->Nat):Prop:=
 ∀fX c x,DataW.trod e P W base spare held fX t c=aM x->(∀n,n∈x.1.weights P t->n<=reachBytes)->∃a,r W (λ_=>True) a c/\m a<=B x.1
def iW(b:IsBulk B){t}{r:Rp α}(h:GD enc P W base spare held t r):lp B enc P W base spare held t r λ_=>1:=λfX c x e w=>by
 obtain⟨a,d⟩:=h fX c x e w;exact⟨a,d,b.one _⟩
def mD(b:IsBulk B){t}(c:P.underlying t=aM .string):lp B enc P W base spare held t Xw λs=>s.size+1:=λfX d x h w=>by
 obtain⟨s,rfl,rfl,f⟩:=DataW.trod_string c h;have a:=w _ (by simp;exact fj);have e:I s.data.toList=s.size:=rfl;simp[e,reachBytes]at a;refine⟨s,⟨rfl,?_⟩,?_⟩
 ·omega
 have:=b.str s.data.toList;exact this
def Xx{p}{g:Nat->Nat}:∀{l:List α} {o:Nat},(∀i b,l[i]? =aM b->p b<=g (o+i))->(l.map p).sum<=((List.range (I l)).map λi=>g (o+i)).sum
 | [],_,_=>aag
 | a::l,o,h=>by
  rw[aY,List.range_succ_eq_map,bS,bS,dk,dk,gR];have d:=Xx (p:=p) (g:=g) (l:=l) (o:=o+1) λi b c=>by
   have:=h (i+1) b c;rw[show o+1+i=o+(i+1) by omega];exact this
  refine mT (h 0 a rfl) (bD d (Cz ?_));congr 1;refine vU λi _=>?_;congr 1;omega
def j5(f:IsBulk B){t e}{r:Rp α}{m}{size}(d:P.underlying t=aM (.slice e))(u:P.cellsOf e=size){bytes}(c:P.bytesOf e=bytes)(j:lp B enc P W base spare held e r m):
  lp B enc P W base spare held t (rSl r size bytes) λy=>(y.map m).sum+1:=λfX z x h w=>by
 subst u;rcases Deep.open_slice d h with⟨rfl,rfl⟩ | ⟨a,len,cap,i,n,D,Pl,rfl,_,q,s,Z,rfl,l⟩
 ·exact⟨[],⟨Sl.nil,rfl,SliceF.nil _ _ _ _,aag⟩,f.one _⟩
 have M:len<=i:=by rw[Z];split<;>omega
 have G:∀t,t<len->∃b,(∃C,I C=P.cellsOf e/\Cells W _ C/\r W _ b C)/\m b<=B _:=λt L=>by
  obtain⟨C,g,a⟩:=l t J;obtain⟨_,e,h⟩:=World.cells?_some g;obtain⟨b,m,o⟩:=j n C _ a λk hk=>w k (by
   simp[DataW.weights,d,aZ,ch];exact .inr (.inl (wP (dv.2 ⟨t,oS.2 L,rfl⟩) k hk)))
  refine⟨b,⟨C,e,λE v A=>?_,m⟩,o⟩;rw[h E (by have:=(bc.1 A).1;omega)];exact A
 obtain⟨H,F,K⟩:=BX len G;refine⟨H,⟨⟨aM a,len,cap⟩,rfl,⟨F.symm,q,λh=>aal,s,λE x A=>?_⟩,?_⟩,?_⟩
 ·obtain⟨⟨C,g,b,e⟩,_⟩:=K E x A;exact⟨a,C,rfl,trivial,g,b,e⟩
 ·have:=w _ (by simp only[DataW.weights,d];exact fj);rw[c]at this;simp[bK,zn,reachBytes]at this;rw[F];have h:len*bytes<=(len+(i-len))*bytes:=fu _ J;omega
 refine bD (Ul ?_) (f.sl _ ((List.range _).map λE=>D _));have h:=Xx (p:=m) (g:=λt=>B _) (l:=H) (o:=0) λt b c=>by
  rw[bP];exact(K t b c).2
 rw[F]at h;simpa[Function.comp_def]using h
def IC(B:DataW H->Nat)(e:TypeId×aw->H)(P:Program)(W:av)(base:Nat)(spare:Nat->Bool)(held:Bool)(T off:Nat)(b:List Field)(r:Rp α)(m:α->Nat):Prop:=
 ∀n (c:List aw) (s:List _),I c=T->I s=(I b)->
  (∀(i:Nat) f,b[i]? =aM f->DataW.trod e P W base spare held n f.type ((c.drop f.offset).take (P.cellsOf f.type))=s[i]?)->
  (∀(i:Nat) f x,b[i]? =aM f->s[i]? =aM x->∀k,k∈x.1.weights P f.type->k<=reachBytes)->∃a,r W (λ_=>True) a (c.drop off)/\m a<=(s.map λx=>B x.1).sum
def xE{T off}(h:T=off):IC B enc P W base spare held T off [] Xv λ_=>0:=λn c x l _ _ _=>⟨(),by
 exact List.drop_eq_nil_of_le J,be _⟩
def eM{T off s}{f}{fs}{r:Rp α}{q:Rp β}{m}{m'}(o:f.offset=off)(i:P.cellsOf f.type=s)(g:lp B enc P W base spare held f.type r m)(e:IC B enc P W base spare held T (off+s) fs q m'):
  IC B enc P W base spare held T off (f::fs) (qK r q) λx=>m x.1+m' x.2:=λn d c l hx h w=>by
 cases c with
 | nil=>simp at hx
 | cons x c=>
  have p:=h 0 f rfl;rw[o,i]at p;obtain⟨a,q,M⟩:=g n _ x p (w 0 f x rfl rfl);obtain⟨b,s,V⟩:=e n d c l acD (λm j k=>h (m+1) j k) (λm j y k t=>w (m+1) j y k t);exact⟨(a,b),⟨_,_,by rw[<-jH,fk],q,s⟩,mT M V⟩
def lI(d:IsBulk B){t}{fs}{T}{r:Rp α}{m}(h:P.underlying t=aM (.struct fs))(l:P.cellsOf t=T)(F:IC B enc P W base spare held T 0 fs.toList r m):lp B enc P W base spare held t r λx=>m x+1:=λfX c x b w=>by
 obtain⟨s,n,rfl,rfl,o,z,g⟩:=DataW.trod_struct h b;obtain⟨a,e,M⟩:=F n c s J (by simpa using z) (λi f hi=>g i f acO) (λi f x hi hx k hk=>w k (by
  simp[DataW.weights,h];refine DataW.weights_mem_each (j:=i) ?_ ahN k hk;simp only[Array.toList_map,cF,hi];rfl))
 refine⟨a,by simpa using e,bD (Ul M) ?_⟩;have:=d.agg (s.map (·.1));rwa[gR]at this
def lp.map{t}{r}{q}{m}{m'}(h:lp B enc P W base spare held t r m)(f:α->β)(g:∀a c,r W (λ_=>True) a c->q W (λ_=>True) (f a) c/\m' (f a)<=m a):lp B enc P W base spare held t q m':=λfX c x i w=>by
 obtain⟨a,e,M⟩:=h fX c x i w;obtain⟨b,d⟩:=g a c e;exact⟨f a,b,bD d M⟩
def argB_struct{t}{fs}{r}{m}{b0}{v}{d}{p}(e:P.underlying t=aM (.struct fs))(k:Value.okWide P W .any b0 t v)(h:DataW.Trod enc P W base spare held t v d p)
  (Z:lp B enc P W base spare held t r m) (w:∀n,n∈d.weights P t->n<=reachBytes):∃(a:α) (c:List aw),v=.agg c.toArray/\r W (λ_=>True) a c/\m a<=B d:=by
 obtain⟨c,rfl,_⟩:=okWide_struct e k;obtain⟨fX,f⟩:=h;obtain⟨a,b,M⟩:=Z fX _ _ f w;exact⟨a,c.toList,aag,b,M⟩
def sum_one:∀l:List α,(l.map λ_=>1).sum=I l
 | []=>rfl
 | _::l=>by rw[bS,dk,sum_one l,aY];omega
end
end Go.Kt
namespace Go.Proofs.YtfemabakfkliiaaGreatDoor.Con
open Go Go.RowKit Go.Kt Go.Kt.V Go.Proofs.YtfemabakfkliiaaGreatDoor.Vc Go.ChangeShapes Go.WideShapes
def Od{D E:Type}{B}{sz:E->Nat}{Q:Nat->E->Prop}:∀(s:List D) o,(∀j y,s[j]? =aM y->∃e,Q (o+j) e/\sz e<=B y)->
  ∃l:List E,I l=I s/\(∀j e,l[j]? =aM e->Q (o+j) e)/\(l.map sz).sum<=(s.map B).sum
 | [],o,_=>⟨[],rfl,λj p h=>acr,aX _⟩
 | x::s,o,h=>by
  obtain⟨e,b,c⟩:=h 0 x rfl;obtain⟨l,d,f,g⟩:=Od (B:=B) (sz:=sz) (Q:=Q) s _ λj y a=>by
   have:=h (j+1) y a;rwa[dM,jG 1 j]
  refine⟨e::l,by rw[aY,aY,d],λj p a=>?_,?_⟩
  ·cases j with
   | zero=>
    simp at a;subst a;exact b
   | succ j=>
    have:=f j p a;rwa[dM,jG 1 j]at this
  exact mT c g
def EG{n}:∀{l:List Nat},n∈l->n<=l.sum
 | [],h=>acr
 | x::l,h=>by
  rw[dk];rcases aZ.1 h with rfl | h
  ·omega
  have:=EG h;omega
def Oe{E:Type}(f:E->Nat):∀(l:List E),∃m,∀p,p∈l->f p<=m
 | []=>⟨0,λp h=>acr⟩
 | x::l=>by
  obtain⟨m,h⟩:=Oe f l;refine⟨max (f x) m,λp a=>?_⟩;rcases aZ.1 a with rfl | a
  ·exact Da _ _
  exact bD (h p a) (BL _ _)
def QZ{α β}{r:Rp α}{q:Rp β}{size}{w}{F}{s}{xs} f (h:aA r size w F s xs) (l:∀x c,x∈xs->r w F x c->q w F (f x) c):aA q size w F s (xs.map f):=by
 refine⟨by rw[bK];exact h.len,h.cap,h.nil0,h.big,λm y j=>?_⟩;rw[cF,fz]at j;obtain⟨x,a,rfl⟩:=j;obtain⟨b,c,g,d,e,i,k⟩:=h.at_ m x a;exact⟨b,c,g,d,e,i,l x c (bn a) k⟩
def GF{α}{r}{size}{w}{F}{s}{xs}(h:aA r size w F s xs){x:α}(a:x∈xs):∃c,r w F x c:=h.mem a
def rXU:Rp (Ex×Nat):=λw F x c=>rE aL w F x.1 c/\SU x.1/\Eb x.1<=x.2
def abO:Rp (Ac×Nat):=λw F x c=>qy aL w F x.1 c/\Gv x.1/\GA x.1<=x.2
def ag6:Rp (Mv×Nat):=λw F x c=>D7 aL w F x.1 c/\UQ x.1/\Fe x.1+2<=x.2
def aum:Rp (Vr×Nat):=λw F x c=>AP w F x.1 c/\tn x.1.v/\I x.1.n+1<=x.2
def Q0:∀l,MJ l=(l.map Eb).sum
 | []=>rfl
 | x::l=>by rw[MJ,bS,dk,Q0 l]
def LO:∀l,ki l=(l.map GA).sum
 | []=>rfl
 | x::l=>by rw[ki,bS,dk,LO l]
def LP:∀l,wH l=(l.map Fe).sum
 | []=>rfl
 | x::l=>by rw[wH,bS,dk,LP l]
def LQ:∀l,nY l=(l.map λv=>I v.n+1).sum
 | []=>rfl
 | x::l=>by rw[nY,bS,dk,LQ l]
def LR:∀l,jm l=(l.map mj).sum
 | []=>rfl
 | x::l=>by rw[jm,bS,dk,LR l]
def CX{a:Type}{f}:∀{l:List (a×Nat)},(∀x,x∈l->f x.1<=x.2)->((l.map (·.1)).map f).sum<=(l.map λx=>x.2).sum
 | [],_=>aX _
 | x::l,h=>by
  exact mT (h x aag) (CX λy hy=>h y ahV)
def bsz(s:aK):I s.data.toList=s.size:=rfl
section
variable {H:Type} {enc:TypeId×aw->H} {W:av} {base:Nat} {spare:Nat->Bool} {held:Bool} {B:DataW H->Nat}
def Xy(e:TypeId×aw->H)(W:av)(base:Nat)(spare:Nat->Bool)(held:Bool)(t:TypeId):Rp (DataW H):=λ_ _ x c=>∃fX p,DataW.trod e aq W base spare held fX t c=aM (x,p)/\∀n,n∈x.weights aq t->n<=reachBytes
def LS(a:IsBulk B) t:lp B enc aq W base spare held t (Xy enc W base spare held t) B:=λfX c x h w=>⟨x.1,⟨fX,x.2,h,w⟩,aX _⟩
def Tf(h:IsBulk B):lp B enc aq W base spare held 68 (qK gL (qK gL (qK Xw (qK gL (qK (rSl (Xy enc W base spare held 68) 6 72) (qK gL Xv))))))
  λx=>(1+(1+((x.2.2.1.size+1)+(1+(((x.2.2.2.2.1.map B).sum+1)+(1+0))))))+1:=by
 have a:=lI (enc:=enc) (P:=aq) (W:=W) (base:=base) (spare:=spare) (held:=held) (T:=6) h Tryz.underlying68 aae
  (eM (s:=1) rfl aae (iW h (ju Tryz.underlying3)) (eM (s:=1) rfl aae (iW h (ju Tryz.underlying3)) (eM (s:=1) rfl aae (mD h Tryz.underlying9) (eM (s:=1) rfl aae (iW h (ju Tryz.underlying3)) (eM (s:=1) rfl aae (j5 (size:=6) (bytes:=72) h Tryz.underlying66 aae aae (LS h _)) (eM (s:=1) rfl aae (iW h (ju Tryz.underlying3)) (xE rfl)))))))
 exact a
def Xz(b:IsBulk B):∀N {x:DataW H} {c:aI} {F:aJ},B x<=N->Xy enc W base spare held 68 W F x c->∃(e:Ex) (d:Nat),NN aL d W (λ_=>True) e c/\SU e/\Eb e<=B x
 | 0,x,c,F,h,_=>by have:=b.one x;omega
 | N+1,x,c,F,h,⟨fX,p,A,C⟩=>by
  obtain⟨⟨k,n,s,op,o,a,am⟩,z,w⟩:=Tf (enc:=enc) (W:=W) (base:=base) (spare:=spare) (held:=held) b fX c _ A C;obtain⟨K,Z,rfl,⟨rfl,D⟩,L,r2,rfl,⟨rfl,r⟩,M,r3,rfl,⟨rfl,E⟩,P,r4,rfl,⟨rfl,T⟩,R,r5,rfl,⟨sl,rfl,g,_⟩,S,J,rfl,⟨rfl,V⟩,u⟩:=z;have u:J=[]:=u;subst u;dsimp only at w g D r E;have v:∀y,y∈o->B y<=(o.map B).sum:=λy i=>EG (List.mem_map_of_mem i);obtain⟨l,G,t,Y⟩:=Od (B:=B) (sz:=λe:Ex×Nat=>Eb e.1) (Q:=λf e=>∃base c,sl.a=aM base/\I c=6/\aB W (base.add _) c/\NN aL e.2 W _ e.1 c/\SU e.1) o 0 λf y j=>by
   rw[bP];obtain⟨s,a,h,W,k,n,p⟩:=g.at_ f y j;obtain⟨e,d,q,B,F⟩:=Xz b N (x:=y) (by have:=v y (bn j);omega) p;exact⟨(e,d),⟨s,a,h,k,n,q,B⟩,F⟩
  obtain⟨H,m⟩:=Oe (λe:Ex×Nat=>e.2) l;refine⟨.mk k n s.data.toList op (l.map (·.1)) a,H+1,⟨sl,?_,?_,λh=>aal⟩,λd=>?_,?_⟩
  ·have e:nR k n s.data.toList op sl a=[O U k,O U n,X s,O U op,sl.v,O U a]:=by
    show[_,_,Value.string _,_,_,_]=_;rw[<-JZ s]
   exact e.symm
  ·refine⟨by rw[Ex.dD,bK,G];exact g.len,g.cap,g.nil0,g.big,λf e j=>?_⟩;rw[Ex.dD,cF,fz]at j;obtain⟨q,d,rfl⟩:=j;obtain⟨s,h,k,n,a,p,x⟩:=t f q d;rw[bP]at a;exact⟨s,h,k,trivial,n,a,NP (m q (bn d)) p⟩
  ·cases d with
   | zero=>trivial
   | succ d=>
    refine⟨r,λy i=>?_⟩;obtain⟨q,e,rfl⟩:=dv.1 i;obtain⟨f,j⟩:=iA e;obtain⟨s,h,k,n,p,x,a⟩:=t f q j;exact a d
  show MJ _+_<=_;rw[Q0,gR,bsz];have e:(l.map (Eb∘λx=>x.1)).sum=(l.map λe:Ex×Nat=>Eb e.1).sum:=rfl;omega
def GH(f:IsBulk B):lp B enc aq W base spare held 68 rXU λx=>x.2:=λfX s x h w=>by
 obtain⟨e,d,a,b,c⟩:=Xz f _ (x:=x.1) (F:=λ_=>True) (aX _) ⟨fX,x.2,h,w⟩;exact⟨(e,B x.1),⟨⟨d,a⟩,b,c⟩,aX _⟩
def Bi(h:IsBulk B):lp B enc aq W base spare held 161 abO λx=>x.2:=by
 have b:=lI (enc:=enc) (P:=aq) (W:=W) (base:=base) (spare:=spare) (held:=held) (T:=9) h Tryz.underlying161 aae
  (eM (s:=1) rfl aae (iW h (ju Tryz.underlying3)) (eM (s:=1) rfl aae (mD h Tryz.underlying9) (eM (s:=6) rfl aae (GH h) (eM (s:=1) rfl aae (iW h (ju Tryz.underlying3)) (xE rfl)))))
 refine b.map (λx=>((⟨x.1,x.2.1.data.toList,x.2.2.1.1,x.2.2.2.1⟩),x.2.2.1.2+(x.2.1.size+1))) ?_;rintro⟨k,n,⟨e,q⟩,a,y⟩ l ⟨g,r,rfl,⟨rfl,m⟩,i,t,rfl,⟨rfl,o⟩,c,v,rfl,⟨d,f,z⟩,j,w,rfl,⟨rfl,p⟩,u⟩;subst u;refine⟨⟨⟨c,?_,d⟩,f,?_⟩,abI⟩
 ·show _=_::Value.string _::_;simp
 show Eb e+_<=_;rw[bsz];dsimp only at z⊢;omega
def Og{w}{F}{s}{xs}(h:aA abO 9 w F s xs):li aL (qy aL) 9 161 w F s (xs.map (·.1))/\(∀a,a∈xs.map (·.1)->Gv a)/\ki (xs.map (·.1))<=(xs.map λx=>x.2).sum:=by
 refine⟨⟨QZ _ h λx c _ b=>b.1,λh=>aal⟩,λa d=>?_,?_⟩
 ·obtain⟨x,b,rfl⟩:=dv.1 d;obtain⟨c,a⟩:=GF h b;exact a.2.1
 rw[LO];exact CX λx b=>by
  obtain⟨c,a⟩:=GF h b;exact a.2.2
def Tg(b:IsBulk B):lp B enc aq W base spare held 83 ag6 λx=>x.2:=by
 have h:=lI (enc:=enc) (P:=aq) (W:=W) (base:=base) (spare:=spare) (held:=held) (T:=13) b Tryz.underlying83 aae
  (eM (s:=1) rfl aae (iW b (ju Tryz.underlying3)) (eM (s:=1) rfl aae (mD b Tryz.underlying9) (eM (s:=1) rfl aae (iW b (ju Tryz.underlying3)) (eM (s:=1) rfl aae (iW b (Oc Tryz.underlying4)) (eM (s:=6) rfl aae (GH b)
  (eM (s:=1) rfl aae (j5 (size:=9) (bytes:=104) b Tryz.underlying23 aae aae (Bi b)) (eM (s:=1) rfl aae (j5 (size:=1) (bytes:=16) b Tryz.underlying32 aae aae (mD b Tryz.underlying9)) (eM (s:=1) rfl aae (iW b (ju Tryz.underlying3)) (xE rfl)))))))))
 refine h.map (λx=>((⟨x.1,x.2.1.data.toList,x.2.2.1,x.2.2.2.1,x.2.2.2.2.1.1,x.2.2.2.2.2.1.map (·.1),x.2.2.2.2.2.2.1.map λs=>s.data.toList,x.2.2.2.2.2.2.2.1⟩),(((x.2.2.2.2.2.1.map λx=>x.2).sum+x.2.2.2.2.1.2)+((x.2.2.2.2.2.2.1.map λs=>s.size+1).sum+(x.2.1.size+1)))+2)) ?_;rintro⟨k,ev,wt,H,⟨G,R⟩,q,g,a,am⟩ j ⟨v,S,rfl,⟨rfl,K⟩,y,V,rfl,⟨rfl,M⟩,A,Y,rfl,⟨rfl,p⟩,C,Z,rfl,l,i,r5,rfl,⟨m,n,z⟩,D,r6,rfl,⟨r,rfl,J,_⟩,E,r7,rfl,⟨t,rfl,L,_⟩,F,r8,rfl,⟨rfl,N⟩,u⟩;subst u l;obtain⟨c,d,f⟩:=Og J;have w:aA mh 1 W _ t _:=QZ _ L λx j _ o=>by
  obtain⟨rfl,_⟩:=o;show _=[Value.string _]
  rw[<-JZ x]
 refine⟨⟨⟨i,r,t,?_,m,c,⟨w,λh=>aal⟩⟩,⟨n,d,p⟩,?_⟩,abI⟩
 ·show _=_::Value.string _::_;simp
 show _+_+2<=_;have e:Ld (g.map λs=>s.data.toList)=(g.map λs=>s.size+1).sum:=by
  unfold Ld;rw[gR];congr 1
 rw[e,bsz];dsimp only at z f⊢;omega
def ag7{w}{F}{s}{xs}(h:aA ag6 13 w F s xs):li aL (D7 aL) 13 83 w F s (xs.map (·.1))/\(∀a,a∈xs.map (·.1)->UQ a)/\wH (xs.map (·.1))<=(xs.map λx=>x.2).sum:=by
 refine⟨⟨QZ _ h λx c _ b=>b.1,λh=>aal⟩,λa d=>?_,?_⟩
 ·obtain⟨x,b,rfl⟩:=dv.1 d;obtain⟨c,a⟩:=GF h b;exact a.2.1
 rw[LP];exact CX λx b=>by
  obtain⟨c,a⟩:=GF h b;exact bD (Nat.le_add_right _ 2) a.2.2
def Th(h:IsBulk B):lp B enc aq W base spare held 76 aum λx=>x.2:=by
 have b:=lI (enc:=enc) (P:=aq) (W:=W) (base:=base) (spare:=spare) (held:=held) (T:=3) h Tryz.underlying76 aae
  (eM (s:=1) rfl aae (mD h Tryz.underlying9) (eM (s:=1) rfl aae (iW h (ju Tryz.underlying3)) (eM (s:=1) rfl aae (iW h (ju Tryz.underlying3)) (xE rfl))))
 refine b.map (λx=>((⟨x.1.data.toList,x.2.1,x.2.2.1⟩),x.1.size+1)) ?_;rintro⟨n,v,a,m⟩ f ⟨c,r,rfl,⟨rfl,g⟩,d,k,rfl,⟨rfl,i⟩,e,l,rfl,⟨rfl,j⟩,u⟩;subst u;refine⟨⟨?_,i,?_⟩,abI⟩
 ·rfl
 exact aX _
def Ti(h:IsBulk B):lp B enc aq W base spare held 27 (qK gL (qK Xw (qK Xw (qK Xw (qK (rSl abO 9 104) (qK (rSl abO 9 104) (qK (rSl ag6 13 168) (qK (rSl (Xy enc W base spare held 27) 9 160) (qK gL Xv)))))))))
  λx=>(1+((x.2.1.size+1)+((x.2.2.1.size+1)+((x.2.2.2.1.size+1)+(((x.2.2.2.2.1.map λx=>x.2).sum+1)+(((x.2.2.2.2.2.1.map λx=>x.2).sum+1)+(((x.2.2.2.2.2.2.1.map λx=>x.2).sum+1)+(((x.2.2.2.2.2.2.2.1.map B).sum+1)+(1+0)))))))))+1:=by
 have a:=lI (enc:=enc) (P:=aq) (W:=W) (base:=base) (spare:=spare) (held:=held) (T:=9) h Tryz.underlying27 aae
  (eM (s:=1) rfl aae (iW h (ju Tryz.underlying3)) (eM (s:=1) rfl aae (mD h Tryz.underlying9) (eM (s:=1) rfl aae (mD h Tryz.underlying9) (eM (s:=1) rfl aae (mD h Tryz.underlying9)
  (eM (s:=1) rfl aae (j5 (size:=9) (bytes:=104) h Tryz.underlying23 aae aae (Bi h)) (eM (s:=1) rfl aae (j5 (size:=9) (bytes:=104) h Tryz.underlying23 aae aae (Bi h))
  (eM (s:=1) rfl aae (j5 (size:=13) (bytes:=168) h Tryz.underlying24 aae aae (Tg h)) (eM (s:=1) rfl aae (j5 (size:=9) (bytes:=160) h Tryz.underlying25 aae aae (LS h _)) (eM (s:=1) rfl aae (iW h (ju Tryz.underlying3)) (xE rfl))))))))))
 exact a
def Q1:∀{l:List Nd},(∀x,x∈l->Ci x)->zU l
 | [],_=>by rw[zU];trivial
 | x::l,h=>by
  exact⟨h x aag,Q1 λy hy=>h y ahV⟩
def XA(b:IsBulk B):∀(N:Nat) {x:DataW H} {c:aI} {F:aJ},B x<=N->Xy enc W base spare held 27 W F x c->∃(e:Nd) (d:Nat),lO aL d W (λ_=>True) e c/\Ci e/\mj e<=B x
 | 0,x,c,F,h,_=>by have:=b.one x;omega
 | N+1,x,c,F,h,⟨fX,p,P,R⟩=>by
  obtain⟨⟨k,i,ini,dft,K,V,mv,o,a,am⟩,M,L⟩:=Ti (enc:=enc) (W:=W) (base:=base) (spare:=spare) (held:=held) b fX c _ P R;obtain⟨c1,r1,rfl,⟨rfl,i1⟩,c2,r2,rfl,⟨rfl,i2⟩,c3,r3,rfl,⟨rfl,i3⟩,c4,r4,rfl,⟨rfl,i4⟩,c5,r5,rfl,⟨n,rfl,A,_⟩,c6,r6,rfl,⟨lvs,rfl,w,_⟩,c7,r7,rfl,⟨v,rfl,t,_⟩,c8,r8,rfl,⟨sl,rfl,s,_⟩,c9,Z,rfl,⟨rfl,i9⟩,u⟩:=M;have u:Z=[]:=u;subst u;dsimp only at L s A w t;have z:∀y,y∈o->B y<=(o.map B).sum:=λy g=>EG (List.mem_map_of_mem g);obtain⟨l,S,r,l3⟩:=Od (B:=B) (sz:=λe:Nd×Nat=>mj e.1) (Q:=λf e=>∃base c,sl.a=aM base/\I c=9/\aB W (base.add _) c/\lO aL e.2 W _ e.1 c/\Ci e.1) o 0 λf y j=>by
   rw[bP];obtain⟨a,h,k,g2,p,q,B⟩:=s.at_ f y j;obtain⟨e,d,F,T,W⟩:=XA b N (x:=y) (by have:=z y (bn j);omega) B;exact⟨(e,d),⟨a,h,k,p,q,F,T⟩,W⟩
  obtain⟨Y,m⟩:=Oe (λe:Nd×Nat=>e.2) l;obtain⟨C,D,a3⟩:=Og A;obtain⟨E,G,b3⟩:=Og w;obtain⟨H,J,d3⟩:=ag7 t;refine⟨.mk ⟨k,i.data.toList,ini.data.toList,dft.data.toList,K.map _,V.map _,mv.map _,a⟩ (l.map (·.1)),Y+1,⟨n,lvs,v,sl,?_,⟨C,E,H⟩,?_,λh=>aal⟩,?_,?_⟩
  ·show _=[_,Value.string (T i.data.toList),Value.string (T ini.data.toList),Value.string (T dft.data.toList),_,_,_,_,_]
   rw[<-JZ i,<-JZ ini,<-JZ dft];rfl
  ·refine⟨by rw[Nd.kids,bK,S];exact s.len,s.cap,s.nil0,s.big,λf e j=>?_⟩;rw[Nd.kids,cF,fz]at j;obtain⟨q,d,rfl⟩:=j;obtain⟨h,k,p,x,a,y,B⟩:=r f q d;rw[bP]at a;exact⟨h,k,p,trivial,x,a,ags (m q (bn d)) y⟩
  ·rw[Ci];refine⟨⟨D,G,J⟩,Q1 λy g=>?_⟩;obtain⟨q,d,rfl⟩:=dv.1 g;obtain⟨f,j⟩:=iA d;obtain⟨e,h,k,p,x,B,a⟩:=r f q j;exact a
  rw[mj,LR,gR];unfold yu;dsimp only;rw[bsz,bsz,bsz];have e:(l.map (mj∘λx=>x.1)).sum=(l.map λe:Nd×Nat=>mj e.1).sum:=rfl;omega
def aun:Rp (Nd×Nat):=λw F x c=>∃d,lO aL d w F x.1 c/\Ci x.1/\mj x.1<=x.2
def Tj(f:IsBulk B):lp B enc aq W base spare held 27 aun λx=>x.2:=λfX s x h w=>by
 obtain⟨e,d,a,b,c⟩:=XA f _ (x:=x.1) (F:=λ_=>True) (aX _) ⟨fX,x.2,h,w⟩;exact⟨(e,B x.1),⟨d,a,b,c⟩,aX _⟩
def rChU:Rp (Ch×Nat):=λw F x c=>∃(D:Nat) (v:Sl) (B:aI),c=v.v::B/\ChR aL D w F x.1 v B/\G8 x.1/\nY x.1.vars+mj x.1.root<=x.2
def opensB_ch(b:IsBulk B):lp B enc aq W base spare held 29 rChU λx=>x.2:=by
 have h:=lI (enc:=enc) (P:=aq) (W:=W) (base:=base) (spare:=spare) (held:=held) (T:=10) b Tryz.underlying29 aae
  (eM (s:=1) rfl aae (j5 (size:=3) (bytes:=32) b Tryz.underlying22 aae aae (Th b)) (eM (s:=9) rfl aae (Tj b) (xE rfl)))
 refine h.map (λx=>((⟨x.1.map (·.1),x.2.1.1⟩),(x.1.map λx=>x.2).sum+x.2.1.2)) ?_;rintro⟨k,⟨nd,o⟩,q⟩ c ⟨m,r,rfl,⟨e,rfl,A,_⟩,g,p,rfl,⟨d,n,i,z⟩,u⟩;subst u;rw[bE];refine⟨⟨d,e,g,rfl,⟨⟨QZ _ A λx c _ a=>a.1,λh=>aal⟩,n⟩,⟨λv j=>?_,i⟩,?_⟩,abI⟩
 ·obtain⟨x,a,rfl⟩:=dv.1 j;obtain⟨c,h⟩:=GF A a;exact h.2.1
 rw[LQ];have:=CX (f:=λv:Vr=>I v.n+1) (l:=k) λx a=>by
  obtain⟨c,h⟩:=GF A a;exact h.2.2
 dsimp only at z⊢;omega
end
def Tl{c:Ch}(n:G8 c):iM c=ja c:=by
 unfold iM ja;by_cases h:pC c=aE
 ·rw[aV h,aV h];by_cases a:16384<I (ey [] (Ee c))
  ·rw[aV a,aV a]
  rw[aP a,aP a];have e:=Wu (Ee c) [] J;rw[bR]at e;have l:=Te h n (by rw[<-e];omega);rw[e,aP (by rw[l.1];decide)]
 rw[aP h,aP h]
def mW(v:Int):Mv:=⟨3,[],v,aL,yI,[],[],7⟩
def bW(v:Int):Nb:=⟨1,[99],[],[],[],[],[mW v],0⟩
def cW(v:Int):Ch:=⟨[],.mk (bW v) []⟩
structure Rr (F:aJ) (ts:List Tk) (w:av) (b:Nat) (l:Sl) (i:Nat) (fc fa d:Int):Prop where
 blk:aF w b 363 [l.v,O U (i:Int),O U d,O U fc,O U fa]
 tok:aA Jv 4 w F l ts
 hF:∀k,F k->k<b
 en:tU ts
 lt:i<I ts
section
variable {F:aJ} {ts:List Tk} {w w':av} {b:Nat} {l:Sl} {i:Nat} {fc fa d:Int}
def Rr.only(h:Rr F ts w b l i fc fa d)(a:Q [] w w'):Rr F ts w' b l i fc fa d:=
 ⟨a.blk h.blk aag,SliceF.only ji Z h.tok a aag,h.hF,h.en,h.lt⟩
def Rr.lF(h:Rr F ts w b l i fc fa d)(c:Q [b] w w'){a:Nat}{fc' fa' d'}(B:aF w' b 363 [l.v,O U a,O U d',O U fc',O U fa'])(e:a<I ts):Rr F ts w' b l a fc' fa' d':=
 ⟨B,SliceF.only ji Z h.tok c λk hk _ m=>by have:=h.hF k hk;simp at m;omega,h.hF,h.en,e⟩
def Rr.own(h:Rr F ts w b l i fc fa d){bs}(a:Q bs w w')(hb:∀x,x∈bs->b<x):Rr F ts w' b l i fc fa d:=
 ⟨a.blk h.blk λhm=>by have:=hb b hm;omega,SliceF.only ji Z h.tok a λk hk _ hm=>ado,h.hF,h.en,h.lt⟩
def Rr.lb(h:Rr F ts w b l i fc fa d):b<w.heap.size:=h.blk.lt
def Rr.big(h:Rr F ts w b l i fc fa d):I ts<=9223372036854775807:=by
 have a:=h.tok.len;have c:=h.tok.cap;have e:=h.tok.big;omega
def Rr.now(h:Rr F ts w b l i fc fa d):∃ad,cR l i 4 ad/\aB w ad [O U (tk ts i).k,X (T (tk ts i).t),O U (tk ts i).n,O U (tk ts i).a]:=by
 have m:=h.tok.len;have f:=h.lt;obtain⟨ad,x,s,a,g,j,k,c,e⟩:=h.tok.get (ba i) J;rw[aW,DU h.lt]at g;injection g with g;subst g;subst e;exact⟨ad,a,c⟩
def IE(h:Rr F ts w b l i fc fa d) c:az aq 319 #[ae (aM ⟨b,0,aaa⟩),O U c] w λe w'=>e=ak (ai #[])/\Q [b] w w'/\
  Rr F ts w' b l i (if fc=0 then c else fc) (if fc=0 then(tk ts i).a else fa) d:=by
 refine ret (anp _ _ ?_);refine⟨fc,Blk.dP h.blk 3 rfl,λhc a q=>?_,λhc=>?_⟩
 ·have hc:=aaj
  subst hc;have c:=h.only q;obtain⟨ad,g,e⟩:=c.now;exact⟨l,Blk.dP c.blk 0 rfl,_,Blk.dP c.blk 1 rfl,ad,g,_,e.dP 3 _ rfl,b,3,_,_,rfl,c.blk,aag,λw d o=>⟨rfl,q.weaken (λ_ h=>aal) |>.trans d (λx f=>.inl f),c.lF d o h.lt⟩⟩
 have hc:=aaj
 rw[aP hc,aP hc];exact⟨rfl,Only.refl _ _,h⟩
def EH(h:Rr F ts w b l i fc fa d):az aq 318 #[ae (aM ⟨b,0,aaa⟩)] w λe w'=>e=ak (ai #[])/\Q [b] w w'/\
  Rr F ts w' b l i (if fc=0 then(gX ts i).1 else fc) (if fc=0 then(gX ts i).2 else fa) d:=by
 refine ret (ano _ ?_);obtain⟨ad,g,a⟩:=h.now;refine⟨l,Blk.dP h.blk 0 rfl,_,Blk.dP h.blk 1 rfl,ad,g,_,a.dP 0 _ rfl,λhc f q=>(IE (h.only q) 3).mono ?_,λhc j c=>(IE (h.only c) 4).mono ?_⟩
 ·have hc:=aaj
  rintro _ w ⟨rfl,D,R⟩;unfold gX;rw[aV hc];exact⟨rfl,rfl,q.weaken (λ_ h=>aal) |>.trans D (λx b=>.inl b),R⟩
 have hc:=aaj
 rintro _ w ⟨rfl,D,R⟩;unfold gX;rw[aP hc];exact⟨rfl,rfl,c.weaken (λ_ h=>aal) |>.trans D (λx b=>.inl b),R⟩
def Aq(f:Rr F ts w b l i fc fa d) s:az aq 314 #[ae (aM ⟨b,0,aaa⟩),X (T s)] w λe w'=>e=ak (aj (fc==0&&sg ts i s))/\Q [] w w':=by
 refine ret (ank _ _ ?_);intro m q;have h:=f.only q;obtain⟨ad,g,a⟩:=h.now;refine⟨λ_=>True,trivial,l,Blk.dP h.blk 0 rfl,trivial,_,Blk.dP h.blk 1 rfl,ad,g,trivial,_,_,_,_,a,λk n hk j c=>⟨fc,Blk.dP (h.only c).blk 3 rfl,?_,q.cd c⟩⟩;rw[iv,sJ];rfl
def CY(h:Rr F ts w b l i fc fa d) s:az aq 316 #[ae (aM ⟨b,0,aaa⟩),X (T s)] w λe w'=>e=ak (ai #[])/\Q [b] w w'/\
  (if fc==0&&sg ts i s then Rr F ts w' b l (i+1) fc fa d else Rr F ts w' b l i (if fc=0 then(gX ts i).1 else fc) (if fc=0 then(gX ts i).2 else fa) d):=by
 refine ret (anm _ _ ?_);refine(Aq h s).mono ?_;rintro _ f ⟨rfl,D⟩;have a:=h.only D;have u:Q [b] w f:=D.weaken λ_ h=>aal
 refine⟨_,rfl,λc=>(EH a).mono ?_,λc=>?_⟩
 ·rintro _ w ⟨rfl,b,h⟩;have c:(fc==0&&sg ts i s)=aL:=by rwa[de]at c
  rw[c];exact⟨rfl,rfl,u.trans b (λx d=>.inl d),h⟩
 have c:=by rwa[jz]at c
 rw[c];simp at c;have n:=h.en.next h.lt (xS c.2);have g:=h.big;refine⟨i,Blk.dP a.blk 1 rfl,b,1,_,_,rfl,a.blk,aag,λw d v=>⟨rfl,u.trans d (λx e=>.inl e),a.lF d ?_ n⟩⟩;rw[fh J J]at v;exact v
def Q2{d:Nat}(hd:d<=20)(h:Rr F ts w b l i 0 0 d)(n:i+1<I ts):az aq 315 #[ae (aM ⟨b,0,aaa⟩)] w λe w'=>e=ak (aj (!decide (d=20)))/\Q [b] w w'/\
  (if d=20 then Rr F ts w' b l i 21 (tk ts i).a d else Rr F ts w' b l (i+1) 0 0 ((d+1:Nat))):=by
 refine ret (anl _ ?_);have a:=h.big;refine⟨d,Blk.dP h.blk 2 rfl,λhc=>(IE h 21).mono ?_,λhc=>?_⟩
 ·have hc:d=20:=by
   have:=aaj
   omega
  rintro _ w ⟨rfl,c,R⟩;refine⟨rfl,by rw[bF hc];rfl,c,?_⟩;rw[aV hc];exact R
 have hc:d≠20:=λe=>ae6
 refine⟨d,Blk.dP h.blk 2 rfl,b,2,_,_,rfl,h.blk,aag,λw D s=>?_⟩;rw[fh J J]at s;have c:=h.lF D s h.lt;refine⟨i,Blk.dP c.blk 1 rfl,b,1,_,_,rfl,c.blk,aag,λj f o=>?_⟩;rw[fh J J]at o;refine⟨by rw[bA hc];rfl,D.trans f λx g=>.inl g,?_⟩;rw[aP hc];exact c.lF f o n
end
def rP:List (List (aH)):=[[[124,124]],[[38,38]],[[61,61],[33,61]],[[60],[60,61],[62],[62,61]],[[43],[45]],[[42],[47],[37]]]
def fP:List (List Int):=[[13],[12],[10,11],[6,7,8,9],[1,2],[3,4,5]]
def EI:Rp Int:=λ_ _ x c=>c=[O U x]
def oH:EI.Ok where
 keep h _:=h
 inHeap h:=h
 mono h _:=h
 one:=by
  rintro w F x c rfl v h;simp at h;subst h;rfl
def IG{a:Type}(r:Rp a):Rp (List a):=λw F x c=>∃s,c=[s.v]/\aA r 1 w F s x
def xF{α}{b:Rp α}(r:b.Ok):(IG b).Ok where
 keep:=λ⟨s,h,a⟩ hk=>⟨s,h,SliceF.keep r a Z hk⟩
 inHeap:=λ⟨s,h,a⟩=>⟨s,h,SliceF.inHeap r a Z⟩
 mono:=λ⟨s,h,a⟩ hk=>⟨s,h,SliceF.mono r a hk⟩
 one:=by
  rintro w F x d ⟨s,rfl,_⟩ v c;simp at c;subst c;rfl
def Bj w l {n} {parts} (h:parts=(((l.map λx=>Value.int U x).zipIdx 0).map λx=>(x.2,x.1)).toArray) (hn:I l=n) (b:0<n) (g:n*1<=16777216):
  ∃s a,(au 33 n parts).run aq w=.ok (Sl.v s) a/\Own EI 1 3 w.heap.size a (λ_=>True) s l/\Q [] w a:=by
 have E:qB EI 1 w (λ_=>True) l ((l.map λx=>Value.int U x).map λv=>v.cells.toList):=by
  clear h hn
  induction l with
  | nil=>trivial
  | cons x l i=>exact⟨⟨rfl,rfl⟩,i⟩
 obtain⟨s,a,c,d,f,_⟩:=kz (P:=aq) (t:=33) (e:=3) (i:=Tryz.t3) (r:=EI) (size:=1) aae aae rfl rfl Z h afG b g oH E;exact⟨s,a,c,d,f⟩
def XC{α}{r:Rp α}(c:r.Ok){t e}{ti}(q:Tryz.prog.underlying t=aM (.slice e))(m:Tryz.prog.info? e=aM ti){z}(u:ti.zero=aM z)(o:ti.size=1){w}{F}{xs}(a:List Sl){n}{parts}(p:parts=(((a.map λs=>s.v).zipIdx 0).map λx=>(x.2,x.1)).toArray)(hn:I a=n)(f:0<n)(y:n*1<=16777216)
  (E:iI (λx s=>I s=1/\IG r w F x s) xs (a.map λs=>[s.v])):
  ∃s b,(au t n parts).run aq w=.ok (Sl.v s) b/\aA (IG r) 1 b (λk=>F k∨w.heap.size<=k) s xs/\Q [] w b:=by
 have h:qB (IG r) 1 w F xs ((a.map λs=>s.v).map λv=>v.cells.toList):=by
  have:((a.map λs=>s.v).map λv=>v.cells.toList)=a.map λs=>[s.v]:=by
   rw[gR];rfl
  rw[this];exact E
 obtain⟨s,b,g,j,l,_⟩:=kz (P:=aq) (t:=t) (e:=e) (i:=ti) (r:=IG r) (size:=1) q m u o Z p afG f y (xF c) h;exact⟨s,b,g,SliceF.mono (xF c) (j.slice (xF c)) (λk hk=>hk.imp id λd=>d.1),l⟩
def XD w:az aq 281 #[] w λe x=>∃s,e=ak s.v/\aA (IG mh) 1 x (λk=>w.heap.size<=k) s rP/\Q [] w x:=by
 refine ik (ane ?_);obtain⟨g,y,E,P,c0⟩:=ld w [[124,124]] (n:=1) (parts:=#[_]) rfl rfl Z Z;obtain⟨h,z,G,R,f⟩:=ld y [[38,38]] (n:=1) (parts:=#[_]) rfl rfl Z Z;obtain⟨i,A,H,S,d⟩:=ld z [[61,61],[33,61]] (n:=2) (parts:=#[_,_]) rfl rfl Z Z;obtain⟨j,B,K,T,b⟩:=ld A [[60],[60,61],[62],[62,61]] (n:=4) (parts:=#[_,_,_,_]) rfl rfl Z Z;obtain⟨m,C,L,V,a⟩:=ld B [[43],[45]] (n:=2) (parts:=#[_,_]) rfl rfl Z Z;obtain⟨o,D,M,W,c⟩:=ld C [[42],[47],[37]] (n:=3) (parts:=#[_,(1,X _),_]) rfl rfl Z Z;have z0:=c0.size;have z1:=f.size;have z2:=d.size;have z3:=b.size;have z4:=a.size;have mk:∀{u q:av} {s:Sl} {l:List _},w.heap.size<=u.heap.size->∀{v:av},Own mh 1 9 u.heap.size v (λ_=>True) s l->Q [] v q->[s.v].length=1/\IG mh q (λk=>w.heap.size<=k) l [s.v]:=λhu v hB hO=>⟨rfl,_,rfl,SliceF.only du Z (SliceF.mono du (vF hB) λk hk=>ad2) hO aag⟩
 obtain⟨p,w6,N,Y,c6⟩:=XC (r:=mh) du (t:=343) (e:=32) (ti:=Tryz.t32) aae aae rfl rfl (w:=D) (F:=λk=>w.heap.size<=k) (xs:=rP) [g,h,i,j,m,o] (n:=6) (parts:=#[_,_,_,_,_,_]) rfl rfl Z Z
  ⟨mk (aX _) P (((((f.cd d).cd b).cd a).cd c)),mk J R ((((d.cd b).cd a).cd c)),mk J S ((b.cd a).cd c),mk J T (a.cd c),mk J V c,mk J W (Only.refl _ _),trivial⟩
 have z5:=c.size;exact⟨g,y,E,h,z,G,i,A,H,j,B,K,m,C,L,o,D,M,p,w6,N,p,rfl,SliceF.mono (xF du) Y (λk hk=>by rcases hk with hk | hk<;>omega),(((((c0.cd f).cd d).cd b).cd a).cd c).cd c6⟩
def Oh w:az aq 280 #[] w λe x=>∃s,e=ak s.v/\aA (IG EI) 1 x (λk=>w.heap.size<=k) s fP/\Q [] w x:=by
 refine ik (atK ?_);obtain⟨g,y,E,P,c0⟩:=Bj w [13] (n:=1) (parts:=#[_]) rfl rfl Z Z;obtain⟨h,z,G,R,f⟩:=Bj y [12] (n:=1) (parts:=#[_]) rfl rfl Z Z;obtain⟨i,A,H,S,d⟩:=Bj z [10,11] (n:=2) (parts:=#[_,_]) rfl rfl Z Z;obtain⟨j,B,K,T,b⟩:=Bj A [6,7,8,9] (n:=4) (parts:=#[_,_,_,_]) rfl rfl Z Z;obtain⟨m,C,L,V,a⟩:=Bj B [1,2] (n:=2) (parts:=#[_,_]) rfl rfl Z Z;obtain⟨o,D,M,W,c⟩:=Bj C [3,4,5] (n:=3) (parts:=#[_,_,_]) rfl rfl Z Z;have z0:=c0.size;have z1:=f.size;have z2:=d.size;have z3:=b.size;have z4:=a.size;have mk:∀{u q:av} {s:Sl} {l:List Int},w.heap.size<=u.heap.size->∀{v:av},Own EI 1 3 u.heap.size v (λ_=>True) s l->Q [] v q->[s.v].length=1/\IG EI q (λk=>w.heap.size<=k) l [s.v]:=λhu v hB hO=>⟨rfl,_,rfl,SliceF.only oH Z (SliceF.mono oH (PI oH (λ_ _ _ _ _ am=>am) hB) λk hk=>ad2) hO aag⟩
 obtain⟨p,w6,N,Y,c6⟩:=XC (r:=EI) oH (t:=341) (e:=33) (ti:=Tryz.t33) aae aae rfl rfl (w:=D) (F:=λk=>w.heap.size<=k) (xs:=fP) [g,h,i,j,m,o] (n:=6) (parts:=#[_,_,_,_,_,_]) rfl rfl Z Z
  ⟨mk (aX _) P (((((f.cd d).cd b).cd a).cd c)),mk J R ((((d.cd b).cd a).cd c)),mk J S ((b.cd a).cd c),mk J T (a.cd c),mk J V c,mk J W (Only.refl _ _),trivial⟩
 have z5:=c.size;exact⟨g,y,E,h,z,G,i,A,H,j,B,K,m,C,L,o,D,M,p,w6,N,p,rfl,SliceF.mono (xF oH) Y (λk hk=>by rcases hk with hk | hk<;>omega),(((((c0.cd f).cd d).cd b).cd a).cd c).cd c6⟩
def pH(t:List Tk)(i:Nat):List (aH)->List Int->Int
 | s::b,n::a=>if sg t i s=aE then n else pH t i b a
 | _,_=>0
def XE(t:List Tk)(i k:Nat)(hk:k<6):pH t i ((rP[k]?).getD []) ((fP[k]?).getD [])=lK t (k:Int) i:=by
 match k,hk with
 | 0,_=>simp[lK,kH,gq,pH,rP,fP,eY,yH]
 | 1,_=>simp[lK,kH,gq,pH,rP,fP,eY,yH]
 | 2,_=>simp[lK,kH,gq,pH,rP,fP,eY,yH]
 | 3,_=>simp[lK,kH,gq,pH,rP,fP,eY,yH]
 | 4,_=>simp[lK,kH,gq,pH,rP,fP,eY,yH]
 | 5,_=>simp[lK,kH,gq,pH,rP,fP,eY,yH]
def Oi{ts}{i}{b:List _}{a:List Int}{n}{s}{m}(h:b[n]? =aM s)(c:a[n]? =aM m):pH ts i (b.drop n) (a.drop n)=if sg ts i s=aE then m else pH ts i (b.drop (n+1)) (a.drop (n+1)):=by
 rw[jh (bc.1 h).1,(bc.1 h).2,jh (bc.1 c).1,(bc.1 c).2,pH]
def XF(k:Nat):I ((rP[k]?).getD [])=I ((fP[k]?).getD []):=by
 rcases pN k 6 with h | h
 ·match k,h with
  | 0,_=>rfl
  | 1,_=>rfl
  | 2,_=>rfl
  | 3,_=>rfl
  | 4,_=>rfl
  | 5,_=>rfl
 rw[dG (h),dG (h)];rfl
section
variable {F:aJ} {ts:List Tk} {w w':av} {b:Nat} {l:Sl} {i:Nat} {fc fa d:Int}
def XG(A:Rr F ts w b l i fc fa d){k:Nat}(hk:k<6):az aq 313 #[ae (aM ⟨b,0,aaa⟩),O U k] w λe w'=>e=ak (O U (if fc=0 then lK ts k i else 0))/\Q [] w w':=by
 refine ret (anj _ _ ?_);refine(XD w).mono ?_;rintro _ P ⟨C,rfl,R,q⟩;have n0:=R.len;have n6:I rP=6:=rfl;obtain⟨p0,x,s,y,j,Y,g4,z,K,rfl,S⟩:=R.get (ba k) J;rw[aW]at j;refine⟨C,rfl,p0,y,K,z,(Oh P).mono ?_⟩;rintro _ T ⟨E,rfl,N,D⟩;have m0:=N.len;have m6:I fP=6:=rfl;obtain⟨H,o,p,t,g,V,W,u,L,rfl,M⟩:=N.get (ba k) J;rw[aW]at g;have h:=XE ts i k hk;have r:=XF k;rw[j,g,iz,iz]at h r;have t1:=S.len;have t2:=M.len;have t3:=S.cap;have t4:=S.big;refine⟨E,rfl,H,t,L,u,λv B w'=>∃n,n<=I x/\B=n/\v=(I x)-n/\(fc=0->pH ts i x o=pH ts i (x.drop n) (o.drop n))/\Q [] T w',I x,⟨0,be _,rfl,rfl,λ_=>rfl,Only.refl _ _⟩,?_⟩;rintro v _ w2 ⟨n,hn,rfl,rfl,f,c⟩;have G:=(q.cd D).cd c;refine⟨λa=>?_,λm=>?_⟩
 ·have a:=aO a;obtain⟨p2,e,F,q1,w,q3,q4,q5,q6⟩:=(SliceF.only du Z S (D.cd c) aag).get (ba n) a;subst q6;rw[aW]at w;refine⟨p2,q1,_,q5,(Aq (A.only G) e).mono ?_⟩;rintro _ w3 ⟨rfl,d⟩;obtain⟨p3,aC,am,r1,r2,r3,r4,r5,r6⟩:=(SliceF.only oH Z M (c.cd d) aag).get (i:=n) (ba n) J;subst r6;have l:=Oi (ts:=ts) (i:=i) w r2;refine⟨_,rfl,λb=>⟨p3,r1,aC,r5,?_,G.cd d⟩,λb=>⟨(I x)-_,J,n+1,J,aaf,rfl,λk=>?_,c.cd d⟩⟩
  ·simp at b;rw[aV b.1,<-h,f b.1,l,aV b.2]
  rw[f k,l,aP];intro i;rw[k,i]at b;exact absurd b Z
 have m:=aU m;refine⟨?_,G⟩;by_cases b:fc=0
 ·rw[aV b,<-h,f b,dV J];rfl
 rw[aP b]
end
def vi(F:aJ)(t:List Tk)(a w:av)(b:Nat)(l:Sl)(d:Nat)(r:Pr)(v:aw):Prop:=Q [b] a w/\match r with
 | .ok (x,j)=>∃c,v=ah c.toArray/\RX w a.heap.size w.heap.size x c/\Rr F t w b l j 0 0 d
 | .error e=>e.1≠0/\exT v/\∃j,Rr F t w b l j e.1 e.2 d
section
variable {F:aJ} {ts:List Tk} {w w':av} {b:Nat} {l:Sl} {i:Nat} {fc fa:Int}
def vi.rU{d}{r}{v}(h:vi F ts w w' b l d r v):exT v:=by
 obtain⟨_,h⟩:=h;cases r with
 | error e=>exact h.2.1
 | ok q=>
  obtain⟨c,rfl,x,_⟩:=h;obtain⟨sl,rfl,_⟩:=x.cells;exact⟨_,_,_,_,_,_,rfl⟩
def vi.EV{w0 w1 w2 w3}{d}{r}{v}(a:vi F ts w1 w2 b l d r v)(g:Q [b] w0 w1){bs}(c:Q bs w2 w3)(f:∀x,x∈bs->b<x/\w0.heap.size<=x/\x<w1.heap.size):vi F ts w0 w3 b l d r v:=by
 obtain⟨i,a⟩:=a;refine⟨(g.trans i λx h=>.inl h).trans c λx h=>.inr (f x h).2.1,?_⟩;cases r with
 | error e=>
  obtain⟨b,d,k,j⟩:=a;exact⟨b,d,k,j.own c λx h=>(f x h).1⟩
 | ok q=>
  obtain⟨s,b,d,e⟩:=a;exact⟨s,b,(d.only c λx h=>.inl (f x h).2.2).wide g.size c.size,e.own c λx h=>(f x h).1⟩
def ag8:exT (ah #[O U 0,O U 0,X (ao #[]),O U 0,Sl.nil.v,O U 0]):=⟨0,0,[],0,Sl.nil,0,rfl⟩
def an7{d:Nat}(h:Rr F ts w b l i 0 0 d)(y:i+1<I ts):az aq 317 #[ae (aM ⟨b,0,aaa⟩)] w λe w'=>∃v,e=ak v/\vi F ts w w' b l d (E9 ts i) v:=by
 refine ann ⟨b,0,aaa⟩ _ w ?_;intro m S Z K q;have L:=h.lb;have M:=h.big;have V:=q.size;have f:=h.only q;obtain⟨ad,n,r⟩:=f.now;refine⟨λ_=>True,trivial,l,Blk.dP f.blk 0 rfl,trivial,_,Blk.dP f.blk 1 rfl,ad,n,trivial,_,r.dP 3 _ rfl,λA E R P D=>?_⟩;have W:=D.size;have a:=f.only D;have z:=q.cd D;have sm:∀{u c:av},E.heap.size<=u.heap.size->Q [b] u c->cu [m,A] u c:=λN t=>t.same ac2;refine⟨(i:Int),Blk.dP a.blk 1 rfl,b,1,_,_,rfl,a.blk,aag,J,J,λH g o=>?_⟩;rw[fh J J]at o;have k:=a.lF g o y;have Y:=g.size;have B:Q [b] w H:=(z.weaken λ_ h=>aal).trans g λx hx=>.inl hx;refine(CY k [40]).mono ?_;rintro _ T ⟨rfl,j,G⟩;have z3:=j.size;have p:=B.trans j λx hx=>.inl hx;refine⟨rfl,sm J j,?_⟩;rw[show((0:Int)==0)=aE from rfl,cr,aV rfl,aV rfl]at G;have C:∀{u c:av},Q [b] w u->Q [m] u c->Q [b] w c:=λa k=>a.new k Z;by_cases s:sg ts (i+1) [40]=aE
 ·rw[aV s]at G;refine⟨0,Blk.dP G.blk 3 rfl,λhc=>(by simp at hc),λ_=>?_⟩;obtain⟨Se,u1,u2⟩:=G.now;refine⟨l,Blk.dP G.blk 0 rfl,_,Blk.dP G.blk 1 rfl,Se,u1,_,u2.dP 0 _ rfl,λhc w5 e=>(EH (G.only e)).mono ?_,λhc w8 v=>?_⟩
  ·have hc:=aaj
   rintro _ w ⟨rfl,d,h⟩;have F:=e.size;refine⟨rfl,sm J d,λl b=>⟨C ((p.cd e).trans d λx hx=>.inl hx) b,?_⟩⟩;rw[E9,aV s,aP hc];exact⟨gN,⟨_,_,[],_,_,_,rfl⟩,i+2,h.own b aah⟩
  have hc:=aaj
  have z8:=v.size;have h8:=G.only v;obtain⟨am,v1,v2⟩:=h8.now;refine⟨l,Blk.dP h8.blk 0 rfl,_,Blk.dP h8.blk 1 rfl,am,v1,_,v2.dP 1 _ rfl,λw9 fU=>?_⟩;have z9:=fU.size;have h9:=h8.own fU aah;have YX:Q [b] w w9:=(p.cd v).new fU J;have aC:=h.en.next G.lt (by show(tk ts _).k≠5;rw[hc];decide);refine⟨_,Blk.dP h9.blk 1 rfl,b,1,_,_,rfl,h9.blk,aag,J,J,λdz dX pK=>?_⟩;rw[fh J J]at pK;have vY:Rr F ts dz b l _ 0 0 d:=h9.lF dX pK aC;have JG:=dX.size;refine(CY vY [41]).mono ?_;rintro _ dF ⟨rfl,dT,ZH⟩;refine⟨rfl,sm J dT,λeZ eW=>⟨C ((YX.trans dX λx hx=>.inl hx).trans dT λx hx=>.inl hx) eW,?_⟩⟩;rw[show((0:Int)==0)=aE from rfl,cr,aV rfl,aV rfl]at ZH;rw[E9,aV s,aV hc];by_cases MX:sg ts (i+3) [41]=aE
  ·rw[aV MX];rw[aV (MX)]at ZH;exact⟨_,rfl,.leaf ..,ZH.own eW aah⟩
  rw[aP MX];rw[aP (show ¬sg ts _ [41]=aE from MX)]at ZH;exact⟨gN,⟨_,_,_,_,_,_,rfl⟩,i+1+1+1,ZH.own eW aah⟩
 rw[aP s]at G;refine⟨_,Blk.dP G.blk 3 rfl,λhc w d=>⟨C p d,?_⟩,λhc=>absurd aaj (gN (ts:=ts) (i:=i+1))⟩;rw[E9,aP s];exact⟨gN,⟨_,_,[],_,_,_,rfl⟩,i+1,G.own d aah⟩
def ag9{f d:Nat}(hd:d<=20)(h:Rr F ts w b l i 0 0 (d:Int))
  (hE:d≠20->∀w i,Rr F ts w b l i 0 0 ((d+1:Nat):Int)->az aq 306 #[ae (aM ⟨b,0,aaa⟩),O U 0] w λe w'=>∃v,e=ak v/\vi F ts w w' b l (d+1) (dE ts f 0 (d+1) i) v)
  (E:d≠20->∀w i,Rr F ts w b l i 0 0 ((d+1:Nat):Int)->az aq 312 #[ae (aM ⟨b,0,aaa⟩)] w λe w'=>∃v,e=ak v/\vi F ts w w' b l (d+1) (dE ts f 6 (d+1) i) v):
  az aq 312 #[ae (aM ⟨b,0,aaa⟩)] w λe w'=>∃v,e=ak v/\vi F ts w w' b l d (dE ts (f+1) 6 d i) v:=by
 have V:dE ts (f+1) 6 d i=qU ts (dE ts f 0 (d+1)) (dE ts f 6 (d+1)) d i:=by rw[dE,aV rfl]
 rw[V];generalize am:dE ts f 0 (d+1)=M at*
 generalize aC:dE ts f 6 (d+1)=EN at*
 generalize R:qU ts M EN d i=n;rw[qU]at R;refine ani _ (λv w'=>vi F ts w w' b l d n v) w ?_;intro j w0 W ez K;have hb:=h.lb;have Mz:=h.big;have B:=K.size;have y:=h.only K;obtain⟨ad,Y,g2⟩:=y.now;refine⟨λ_=>True,trivial,l,Blk.dP y.blk 0 rfl,trivial,_,Blk.dP y.blk 1 rfl,ad,Y,trivial,_,_,_,_,g2,λo P mc jM G=>?_⟩;have D:=G.size;have z:=y.only G;have sm:∀{u m:av},P.heap.size<=u.heap.size->Q [b] u m->cu [j,o] u m:=λhu L=>L.same ac2;have s:∀{u m:av},P.heap.size<=u.heap.size->Q [] u m->cu [j,o] u m:=λhu L=>L.same (by intro x hx;simp only[aZ,bp,ci]at hx;exact⟨J,aag⟩);refine(Aq z [45]).mono ?_;rintro _ w2 ⟨rfl,p⟩;have z2:=p.size;have A:=z.only p;refine⟨_,rfl,s J p,(Aq A [33]).mono ?_⟩;rintro _ w3 ⟨rfl,t⟩;have z3:=t.size;have N:=A.only t;refine⟨_,rfl,s J t,(Aq N [40]).mono ?_⟩;rintro _ S ⟨rfl,r⟩;have z4:=r.size;have g:=N.only r;have tC:Q [] w S:=(((K.cd G).cd p).cd t).cd r;have H:Q [b] w S:=tC.weaken λ_ h=>aal
 have C:∀{u m:av},Q [b] w u->Q [j] u m->Q [b] w m:=λz A=>z.new A W;rw[show((0:Int)==0)=aE from rfl,cr,cr,cr];refine⟨_,rfl,s J r,0,Blk.dP g.blk 3 rfl,λhc=>(by simp at hc),λ_=>⟨λhs=>?_,λhs=>⟨λhp=>?_,λhp=>⟨λhi=>?_,λhi=>⟨λhv=>?_,λhv=>?_⟩⟩⟩⟩⟩
 ·rw[aV hs]at R;have ii:(tk ts i).k≠5:=by
   rcases cE _ _▸hs with e | e<;>exact xS e
  have hn:=h.en.next h.lt ii;refine(Q2 hd g hn).mono ?_;rintro _ w6 ⟨rfl,dK,f⟩;have z6:=dK.size;have FR:=H.trans dK λx hx=>.inl hx;refine⟨_,rfl,sm J dK,λhc w7 fR=>⟨C FR fR,?_⟩,λhc=>?_⟩
  ·have hc:d=20:=aaj
   rw[aV hc]at f;rw[<-R,kb,aV hc];exact⟨(by decide:(21:Int)≠0),ag8,i,f.own fR aah⟩
  have hc:d≠20:=aaj
  rw[aP hc]at f;rw[kb,aP hc]at R;refine(E hc w6 (i+1) f).mono ?_;rintro _ w8 ⟨v,rfl,hD⟩;obtain⟨vk,vn,vs,vo,vl,va,rfl⟩:=hD.rU;have z8:=hD.1.size;refine⟨_,_,_,_,_,_,rfl,sm J hD.1,λk2 w9 qG oL fU=>?_⟩;have z9:=fU.size;have bv:=FR.trans hD.1 λx hx=>.inl hx;have bV:∀{aS:Nat} {c a:Int},Rr F ts w8 b l aS c a ((d+1:Nat):Int)->∃i9:Int,aB w9 (Addr.add ⟨b,0,aaa⟩ 2) [O U i9]/\∃k3 k4:Nat,∃B:aI,∃k5:Nat,(Addr.add ⟨b,0,aaa⟩ 2)=⟨k3,k4,aaa⟩/\aF w9 k3 k5 B/\(k4+1)<=I B/\j≠k3/\o≠k3/\k2≠k3/\
    ∀dz:av,Q [k3] w9 dz->aF dz k3 k5 (fE B k4 [O U (ar U (i9-1))])->Q [b] w8 dz/\Rr F ts dz b l aS c a (d:Int):=fun{aS c a} h8=>by
   have e:=h8.only fU;refine⟨((d+1:Nat):Int),Blk.dP e.blk 2 rfl,b,2,_,_,rfl,e.blk,aag,J,J,J,λdz dX i=>?_⟩;have k:((d+1:Nat):Int)-1=d:=J
   rw[k,fh J J]at i;exact⟨(fU.weaken (bs':=[b]) λ_ h=>aal).trans dX λx hx=>.inl hx,e.lF dX i e.lt⟩
  have aT:∀{aS:Nat} {c a:Int} {dz:av},Q [b] w8 dz->Rr F ts dz b l aS c a (d:Int)->w9.heap.size<=dz.heap.size->(∀op sl eZ,Q [] dz eZ->aF eZ dz.heap.size 68 (nR vk vn vs vo vl va)->op=(if(tk ts i).t=[33]then(15:Int)else 14)->sl=(⟨aM ⟨dz.heap.size,0,aaa⟩,1,1⟩:Sl)->∀fl,Q [j] eZ fl->vi F ts w fl b l d n (ah #[O U 4,O U 0,X (ao #[]),O U op,sl.v,O U (tk ts i).a]))->
    ∃q:Int->av->Prop,(∀k:Int,∀h:av,q k h->∃v:Sl,∃eZ:av,((au 66 1 #[.mk 0 (ah #[O U vk,O U vn,X (T vs),O U vo,vl.v,O U va])]).run aq h)=(.ok v.v eZ)/\
     cu [j,o,k2] h eZ/\∀fl:av,Q [j] eZ fl->vi F ts w fl b l d n (ah #[O U 4,O U 0,X (ao #[]),O U k,v.v,O U (tk ts i).a]))/\
    (sg ts i [33]=aE->q 15 dz)/\(sg ts i [33]=aL->q 14 dz):=fun{aS c a dz} dX vY JG ZI=>by
   refine⟨λop h=>op=(if(tk ts i).t=[33]then(15:Int)else 14)/\h=dz,?_,λe=>⟨?_,rfl⟩,λe=>⟨?_,rfl⟩⟩
   ·rintro op h ⟨c,rfl⟩;obtain⟨eZ,a,l,e⟩:=DY h [nR vk vn vs vo vl va] aag aag aag (parts:=#[(0,ah (nR vk vn vs vo vl va).toArray)]) rfl;rw[eH,Uk,bE]at l;exact⟨_,eZ,a,e.same aah,λfl b=>ZI op _ eZ e l c rfl fl b⟩
   ·have:(tk ts i).t=[33]:=by
     simp only[sg,aR,bG]at e;exact e.2
    rw[aV this]
   have:(tk ts i).t≠[33]:=λa=>by
    rcases cE _ _▸hs with b | b
    ·simp only[sg,aR,bG]at b;rw[b.2]at a;exact absurd a Z
    rw[e]at b;cases b
   rw[aP this]
  cases hN:EN (i+1)with
  | error e=>
   rw[hN]at hD R;obtain⟨ft,h,a2,aS,i⟩:=hD;obtain⟨i9,q,k3,k4,zz,k5,l,q3,v,w,F,T,q8⟩:=bV i;refine⟨i9,q,k3,k4,zz,k5,l,q3,v,w,F,T,λdz dX k=>?_⟩;obtain⟨c,d⟩:=q8 dz dX k;refine aT c d dX.size λop sl eZ b Jl rZ se fl a=>⟨C ((bv.trans c λx hx=>.inl hx).cd b) a,?_⟩
   rw[<-R];exact⟨h,⟨_,_,[],_,_,_,rfl⟩,aS,(d.only b).own a aah⟩
  | ok q=>
   obtain⟨x,aS⟩:=q;rw[hN]at hD R;obtain⟨ft,c,i,v,F⟩:=hD;have T:(nR vk vn vs vo vl va)=c:=bN Array.toList (Value.agg.inj i);obtain⟨i9,q1,k3,k4,zz,k5,q2,q3,q4,q5,q6,q7,q8⟩:=bV F;refine⟨i9,q1,k3,k4,zz,k5,q2,q3,q4,q5,q6,q7,λdz dX pK=>?_⟩;obtain⟨b,d⟩:=q8 dz dX pK;have JG:=dX.size;refine aT b d JG λop sl eZ a l rZ se fl e=>⟨C ((bv.trans b λx hx=>.inl hx).cd a) e,?_⟩
   have bY:=a.size;have T2:=e.size;rw[<-R,rZ,se];refine⟨_,rfl,?_,(d.only a).own e aah⟩;have h:RX fl w6.heap.size w8.heap.size x c:=((v.only b λk hk=>.inl acK).only a aag).only e λk hk=>.inl acK;have wY:aF fl dz.heap.size 68 c:=by
    rw[<-T];exact e.blk l λhm=>aaV
   exact .one w.heap.size w8.heap.size dz.heap.size _ _ _ _ _ _ x c (h.wide J (aX _)) J J afl id wY
 ·rw[aP aec,aV hp]at R;have hn:=h.en.next h.lt (xS hp);refine(Q2 hd g hn).mono ?_;rintro _ gw ⟨rfl,eS,f⟩;have ce:=eS.size;have cc:=H.trans eS λx hx=>.inl hx;refine⟨_,rfl,sm J eS,λhc ij iG=>⟨C cc iG,?_⟩,λhc=>?_⟩
  ·have hc:d=20:=aaj
   rw[aV hc]at f;rw[<-R,kb,aV hc];exact⟨(by decide:(21:Int)≠0),ag8,i,f.own iG aah⟩
  have hc:d≠20:=aaj
  rw[aP hc]at f;rw[kb,aP hc]at R;refine(hE hc gw (i+1) f).mono ?_;rintro _ jw ⟨v,rfl,hD⟩;obtain⟨vk,vn,vs,vo,vl,va,rfl⟩:=hD.rU;have dO:=hD.1.size;have cC:=cc.trans hD.1 λx hx=>.inl hx;refine⟨_,_,_,_,_,_,rfl,sm J hD.1,λk6 iX Y1 O0 iP=>?_⟩;have el:=iP.size;have after:∀{co:Nat} {c a:Int} {ku:av},Q [b] iX ku->Rr F ts ku b l co c a ((d+1:Nat):Int)->(∀h,Q [b,j] ku h->Q [b] w h->Rr F ts h b l co c a (d:Int)->vi F ts w h b l d n (ah (nR vk vn vs vo vl va).toArray))->
    ∃i:Int,aB ku (Addr.add ⟨b,0,aaa⟩ 2) [O U i]/\∃k v:Nat,∃D:aI,∃k9:Nat,(Addr.add ⟨b,0,aaa⟩ 2)=⟨k,v,aaa⟩/\aF ku k k9 D/\(v+1)<=I D/\j≠k/\o≠k/\k6≠k/\
    ∀e:av,Q [k] ku e->aF e k k9 (fE D v [O U (ar U (i-1))])->∀h:av,Q [j] e h->vi F ts w h b l d n (ah #[O U vk,O U vn,X (T vs),O U vo,vl.v,O U va]):=fun{co c a ku} j9 h18 ZI=>by
   refine⟨((d+1:Nat):Int),Blk.dP h18.blk 2 rfl,b,2,_,_,rfl,h18.blk,aag,J,J,J,λe lQ Zu h lr=>?_⟩;have ed:((d+1:Nat):Int)-1=d:=J
   rw[ed,fh J J]at Zu;have q:Rr F ts e b l co c a (d:Int):=h18.lF lQ Zu h18.lt;exact ZI h ((lQ.weaken (bs':=[b,j]) λx hx=>.inl aaz).trans lr λx hx=>.inl aaz) (C (((cC.cd iP).trans j9 λx hx=>.inl hx).trans lQ λx hx=>.inl hx) lr) (q.own lr aah)
  obtain⟨jF,hD⟩:=hD;cases hN:M (i+1)with
  | error e=>
   rw[hN]at hD R;obtain⟨a,i,co,d⟩:=hD;refine(CY (d.only iP) [41]).mono ?_;rintro _ ku ⟨rfl,j9,b⟩;rw[aP (by simp[a]),aP a,aP a]at b;refine⟨rfl,j9.same aah,after j9 b λh l w c=>⟨w,?_⟩⟩;rw[<-R];exact⟨a,⟨_,_,_,_,_,_,rfl⟩,co,c⟩
  | ok q=>
   obtain⟨x,co⟩:=q;rw[hN]at hD R;obtain⟨i,c,d,e⟩:=hD;refine(CY (e.only iP) [41]).mono ?_;rintro _ ku ⟨rfl,j9,b⟩;rw[show((0:Int)==0)=aE from rfl,cr,aV rfl,aV rfl]at b;refine⟨rfl,j9.same aah,?_⟩;have l:=j9.size;by_cases a:sg ts co [41]=aE
   ·rw[aV a]at b;refine after j9 b λh q w v=>⟨w,?_⟩
    rw[<-R];simp only[uZ,a,Cy];have x:=q.size;exact⟨i,c,(((d.only iP aag).only j9 λk hk=>.inl acK).only q λk hk=>.inl (by simp only[aZ,bp,ci]at hk;omega)).wide J J,v⟩
   rw[aP a]at b;refine after j9 b λh q w k=>⟨w,?_⟩
   rw[<-R];simp only[uZ,a,lS];exact⟨gN,⟨_,_,_,_,_,_,rfl⟩,co,k⟩
 ·have hi:(tk ts i).k=3:=acO
  rw[aP aec,aP ahO,aV hi]at R;have k:=h.en.next h.lt (by rw[hi];decide);refine⟨(i:Int),Blk.dP g.blk 1 rfl,b,1,_,_,rfl,g.blk,aag,J,J,λq e c v f=>⟨C (H.trans e λx hx=>.inl hx) f,?_⟩⟩;rw[fh J J]at c;have a:Rr F ts q b l (i+1) 0 0 (d:Int):=g.lF e c k;rw[<-R];exact⟨_,rfl,.leaf ..,a.own f aah⟩
 ·have hi:¬(tk ts i).k=3:=acO
  have hv:(tk ts i).k=1:=afh
  rw[aP aec,aP ahO,aP hi,aV hv]at R;have k:=h.en.next h.lt (by rw[hv];decide);refine⟨(i:Int),Blk.dP g.blk 1 rfl,b,1,_,_,rfl,g.blk,aag,J,J,λq e c v f=>⟨C (H.trans e λx hx=>.inl hx) f,?_⟩⟩;rw[fh J J]at c;have a:Rr F ts q b l (i+1) 0 0 (d:Int):=g.lF e c k;rw[<-R];exact⟨_,rfl,.leaf ..,a.own f aah⟩
 have hi:¬(tk ts i).k=3:=acO
 have hv:¬(tk ts i).k=1:=afh
 rw[show(ao #[105,110])=T [105,110]from rfl,iv];rw[aP aec,aP ahO,aP hi,aP hv]at R;refine⟨λw=>?_,λw=>(EH g).mono ?_⟩
 ·have w:(tk ts i).k=2/\(tk ts i).t=[105,110]:=by simpa using w
  rw[aV w]at R;have b:=h.en.next h.lt (by rw[w.1];decide);refine(an7 g b).mono ?_;rintro _ q ⟨v,rfl,a⟩;obtain⟨k,f,F,x,e,d,rfl⟩:=a.rU;refine⟨_,_,_,_,_,_,rfl,sm J a.1,λc l=>?_⟩;rw[<-R];exact a.EV H l aah
 rw[aP (λh=>by rw[h.1,h.2]at w;simp at w)]at R;rintro _ b ⟨rfl,v,a⟩;rw[aV rfl,aV rfl]at a;refine⟨rfl,sm J v,λc f=>⟨C (H.trans v λx hx=>.inl hx) f,?_⟩⟩;rw[<-R];exact⟨gN,ag8,i,a.own f aah⟩
def At6(F:aJ)(t:List Tk)(e:av)(b:Nat)(l:Sl)(d:Nat)(N:aJ)(E:Nat->Pr)(k:Int)(R:Pr)(n:Nat)(op:Int)(s:aI)(w:av):Prop:=Q [b] e w/\
 ((∃(c a:Int) (j:Nat),op=0/\c≠0/\R=.error (c,a)/\Rr F t w b l j c a d)∨
  (∃(x:Ex) (j:Nat),op=lK t k j/\RXN w N e.heap.size w.heap.size x s/\Rr F t w b l j 0 0 d/\R=jV t E k n x j/\(I t)-j<=n))
def Tm{f k d:Nat}(M:k<6)(h:Rr F ts w b l i 0 0 (d:Int))
  (V:∀w i,Rr F ts w b l i 0 0 (d:Int)->az aq 306 #[ae (aM ⟨b,0,aaa⟩),O U ((k+1:Nat))] w λe w'=>∃v,e=ak v/\vi F ts w w' b l d (dE ts f (k+1) d i) v):
  az aq 306 #[ae (aM ⟨b,0,aaa⟩),O U (k:Int)] w λe w'=>∃v,e=ak v/\vi F ts w w' b l d (dE ts (f+1) k d i) v:=by
 have eR:dE ts (f+1) k d i=FB (dE ts f (k+1) d i) λx j=>jV ts (dE ts f (k+1) d) k ((I ts)-j) x j:=by rw[dE,aP J]
 rw[eR];have Y2:∀i x j,dE ts f (k+1) d i=.ok (x,j)->i<j:=λi x j h=>mq f _ _ i h;generalize am:dE ts f _ d=E at*
 generalize R:(FB _ λx j=>jV ts E k _ x j)=A;refine adU _ _ _ w ?_;have ek:ar U (k+1)=((k+1:Nat)):=aaf
 refine⟨λhc=>absurd aaj (by omega:¬(k:Int)=6),λ_ z w3 mc jM B=>?_⟩;have hb:=h.lb;rw[ek];refine(V w3 i (h.only B)).mono ?_;rintro _ w4 ⟨v,rfl,D⟩;obtain⟨vk,vn,vs,vo,vl,Z,rfl⟩:=D.rU;have z4:=D.1.size;refine⟨_,_,_,_,_,_,rfl,D.1.same aah,λr w5 qG oL N=>?_⟩;have sm:∀{L W:av},w5.heap.size<=L.heap.size->Q [b] L W->cu [z,r] L W:=λhu hO=>hO.same (by intro x hx;simp at hx⊢;omega);have Mz:=h.big;have Y:∃(j:Nat) (c a:Int),Rr F ts w4 b l j c a (d:Int)/\∀u,Q [] w4 u->∃p,At6 F ts w b l d (λq=>q=z∨q=r) E (k:Int) A p (if c=0 then lK ts (k:Int) j else 0) (nR vk vn vs vo vl Z) u:=by
  obtain⟨l,d⟩:=D;have k:=(B.weaken (bs':=[b]) λ_ h=>aal).trans l λx hx=>.inl hx;cases f:E i with
  | error e=>
   rw[f]at d R;obtain⟨c,a⟩:=e;obtain⟨b,i,j,h⟩:=d;exact⟨j,c,a,h,λu K=>⟨0,k.cd K,.inl ⟨c,a,j,aP b,b,R.symm,h.only K⟩⟩⟩
  | ok q=>
   obtain⟨x,j⟩:=q;rw[f]at d R;obtain⟨e,b,c,a⟩:=d;have i:(nR vk vn vs vo vl Z)=e:=bN Array.toList (Value.agg.inj b);rw[i];exact⟨j,0,0,a,λu K=>⟨(I ts)-j,k.cd K,.inr ⟨x,j,aV rfl,((c.only K aag).G0 λq h v _=>J).wide B.size K.size,a.only K,R.symm,aX _⟩⟩⟩
 obtain⟨j0,c0,a0,G,Y⟩:=Y;refine(XG (G.only N) M).mono ?_;rintro _ u ⟨rfl,K⟩;obtain⟨H,C⟩:=Y u (N.cd K);refine⟨_,rfl,K.same aah,λp op m n t o s g w'=>w5.heap.size<=w'.heap.size/\At6 F ts w b l d _ E (k:Int) A p op [O U m,O U n,X t,O U o,s.v,O U g] w',H,⟨K.size,C⟩,?_⟩;rintro p op m n t o s g w7 ⟨z7,P,T⟩;refine⟨λrZ=>?_,λrZ gw S=>?_⟩
 ·have rZ:=agw
  rcases T with⟨_,_,_,e,_⟩ | ⟨x,j,rfl,hX,i,f,aC⟩
  ·exact absurd e rZ
  have hn:=i.en.next i.lt (ra _ _ rZ);obtain⟨aS,rfl⟩:∃aS,p=aS+1:=⟨p-1,J⟩
  rw[jV,aP rZ]at f;refine⟨j,Blk.dP i.blk 1 rfl,b,1,_,_,rfl,i.blk,aag,J,J,λw8 ft yy=>?_⟩;rw[fh J J]at yy;have z8:=ft.size;refine(V w8 _ (i.lF ft yy hn)).mono ?_;rintro _ w9 ⟨v,rfl,Y3⟩;obtain⟨yk,yn,ys,yo,yl,ya,rfl⟩:=Y3.rU;have z9:=Y3.1.size;refine⟨_,_,_,_,_,_,rfl,sm J Y3.1,λk8 dz ce cc dX=>?_⟩;obtain⟨dF,pY,FQ,dT⟩:=DY dz [[O U m,O U n,X t,O U o,s.v,O U g],nR yk yn ys yo yl ya] aag aag aag (parts:=#[_,_]) rfl;have C3:=dT.size;refine⟨_,dF,pY,dT.same aah,λeZ eW=>?_⟩;have co:=eW.size;have MA:=((((P.trans ft λx hx=>.inl hx).trans Y3.1 λx hx=>.inl hx).cd dX).cd dT).new eW J;have xa:Q [r] w9 eZ:=((dX.cd dT).weaken (bs':=[r]) λ_ h=>aal).trans eW λx hx=>.inl hx;have OO:∃(j':Nat) (c a:Int),Rr F ts w9 b l j' c a d/\∀fl,Q [] eZ fl->∃p,p<aS+1/\At6 F ts w b l d (λq=>q=z∨q=r) E k A p (if c=0 then lK ts k j' else 0) (nR 5 0 [] (lK ts k j) ⟨aM ⟨dz.heap.size,0,aaa⟩,2,2⟩ g) fl:=by
   obtain⟨k,d⟩:=Y3;cases h:E _ with
   | error e=>
    rw[h]at d f;obtain⟨c,a⟩:=e;obtain⟨b,q,j',l⟩:=d;exact⟨j',c,a,l,λfl eE=>⟨0,J,MA.cd eE,.inl ⟨c,a,j',aP b,b,f,(l.own xa aah).only eE⟩⟩⟩
   | ok q=>
    obtain⟨y,j'⟩:=q;rw[h]at d f;obtain⟨c,v,F,l⟩:=d;have iO:_=c:=bN Array.toList (Value.agg.inj v);have cC:=Y2 _ _ _ h;obtain⟨xl,e,_⟩:=hX.cells;have a:=by
     simp only[nR,C9,Value.int.injEq]at e;exact e.2.2.2.2.2.1.2
    refine⟨j',0,0,l,λfl eE=>⟨aS,J,MA.cd eE,.inr ⟨.mk 5 0 [] _ [x,y] x.a,j',aV rfl,?_,(l.own xa aah).only eE,f,?_⟩⟩⟩
    ·have Y4:=xa.cd eE;have wY:aF fl dz.heap.size 68 ([O U m,O U n,X t,O U o,s.v,O U g]++c):=by
      have:=eE.blk (eW.blk FQ aah) aag;rw[<-iO];simpa using this
     have Y5:RXN fl (λq=>q=z∨q=r) w.heap.size w7.heap.size x [O U m,O U n,X t,O U o,s.v,O U g]:=by
      exact hX.only ((((((ft.weaken (bs':=[b,r]) λx hx=>.inl acz).trans k λx hx=>.inl acz).trans xa λx hx=>.inl acz).cd eE))) λq hq=>by
       simp at hq;rcases hq with rfl | rfl
       ·exact .inl hb
       exact .inr (.inr (.inr rfl))
     have dO:RXN fl (λq=>q=z∨q=r) w8.heap.size w9.heap.size y c:=(F.only Y4 λq hq=>.inl (by simp at hq;omega)).G0 λq h1 h2 _=>J
     rw[a];exact .two w.heap.size w7.heap.size w8.heap.size w9.heap.size dz.heap.size _ _ _ _ _ _ x y _ c Y5 z8 dO J J J J afl J wY
    omega
  obtain⟨j',c',a',bV,OO⟩:=OO;refine(XG (bV.own xa aah) M).mono ?_;rintro _ fl ⟨rfl,eE⟩;obtain⟨bY,aT,bv⟩:=OO fl eE;exact⟨_,rfl,eE.same aah,bY,aT,by have:=eE.size;omega,bv⟩
 have rZ:op=0:=agw
 refine⟨P.new S J,?_⟩;rcases T with⟨c,a,j,_,hc,b,F⟩ | ⟨x,j,d,e,F,b,v⟩
 ·rw[b];exact⟨hc,⟨m,n,t.data.toList,o,s,g,rfl⟩,j,F.own S aah⟩
 rw[b,Gj (by rw[<-d,rZ])];exact⟨_,rfl,((e.only S λq hq=>.inr (.inr (.inl aev))).G0 λ_ _ _ _ h=>h).wide (aX _) S.size,F.own S aah⟩
def GI:∀f,(∀k d i w,k<=6->d<=20->gY k d<=f->Rr F ts w b l i 0 0 d->az aq 306 #[ae (aM ⟨b,0,aaa⟩),O U k] w λe w'=>∃v,e=ak v/\vi F ts w w' b l d (dE ts f k d i) v)/\
  (∀d i w,d<=20->gY 6 d<=f->Rr F ts w b l i 0 0 d->
   az aq 312 #[ae (aM ⟨b,0,aaa⟩)] w λe w'=>∃v,e=ak v/\vi F ts w w' b l d (dE ts f 6 d i) v)
 | 0=>⟨λk d i w hk hd hn=>aeE,λd i w hd hn=>aeE⟩
 | f+1=>by
  obtain⟨N,H⟩:=GI f;have one:∀d i w,d<=20->gY 6 d<=f+1->Rr F ts w b l i 0 0 d->
   az aq 312 #[ae _] w λe w'=>∃v,e=ak v/\vi F ts w w' b l d _ v:=λd i w hd hn h=>by
   unfold gY at hn;exact ag9 hd h (λC w i h=>N 0 _ i w J J ac7 h) (λC w i h=>H _ i w J ac7 h)
  refine⟨λk d i w hk hd hn h=>?_,one⟩;by_cases a:k=6
  ·subst a;refine adU _ _ _ w ?_;refine⟨λ_ k f g z c=>?_,λe=>absurd e Z⟩;refine(one d i f hd hn (h.only c)).mono ?_;rintro _ q ⟨v,rfl,D⟩;obtain⟨m,o,s,p,n,l,rfl⟩:=D.rU;have j:=h.lb;exact⟨_,_,_,_,_,_,rfl,D.1.same aah,λr b=>D.EV (c.weaken λ_ h=>aal) b aah⟩
  unfold gY at hn;exact Tm J h λw i h=>N _ d i w J hd ac7 h
end
def XH{w:av}{F:aJ}{l:Sl}{t:List Tk}(h:aA Jv 4 w F l t)(a:Int)(r:tn a):az aq 283 #[l.v,O U a] w λe b=>
  ∃s,e=ak (ai #[ah s.toArray,O U (cO t a).2.1,ah #[O U (cO t a).2.2.1,O U (cO t a).2.2.2]])/\RX b w.heap.size b.heap.size (cO t a).1 s/\((cO t a).2.2.1=0->0<=(cO t a).2.1/\(cO t a).2.1<I t)/\Q [] w b:=by
 refine(atN l a (λv b=>∃s,v=(ai #[ah s.toArray,O U (cO t a).2.1,ah #[O U (cO t a).2.2.1,O U (cO t a).2.2.2]])/\RX b w.heap.size b.heap.size (cO t a).1 s/\((cO t a).2.2.1=0->0<=(cO t a).2.1/\(cO t a).2.1<I t)/\Q [] w b) w ?_).mono (by
  rintro e b ⟨v,rfl,s,rfl,h⟩;exact⟨s,rfl,h⟩)
 have N:=h.len;have z:=h.cap;have A:=h.big;have bad:¬(0<=a/\a<I t/\mr t+1=I t)->∀f,Q [] w f->∃s,(Value.tuple #[ah #[O U 0,O U 0,X (ao #[]),O U 0,Sl.nil.v,O U 0],O U 0,ah #[O U 1,O U (-1)]])=(ai #[ah s.toArray,O U (cO t a).2.1,ah #[O U (cO t a).2.2.1,O U (cO t a).2.2.2]])/\RX f w.heap.size f.heap.size (cO t a).1 s/\((cO t a).2.2.1=0->0<=(cO t a).2.1/\(cO t a).2.1<I t)/\Q [] w f:=λd f j=>by
  rw[cO,aP d];exact⟨_,rfl,rx0 _ _ _,λh=>aal,j⟩
 refine⟨λd u y f _ _ _ _ i=>bad (λg=>?_) f i,λd m k3 o G L C B D=>?_⟩
 ·simp only[cE,bG]at d;omega
 have d:0<=a/\a<I t:=by
  simp only[fy,dl]at d;omega
 have z1:=D.size;have own:∀{am u':av},Q [] w am->Q [k3,m] am u'->Q [] w u':=λh1 P=>h1.trans P λx hx=>.inr aam;refine⟨λY H _ _ _ _ _ _ _ _ b=>∃n:Nat,n<=I t/\H=(n:Int)/\Y=(I t)-n/\(∀E,E<n->((tk t E).k=5↔E+1=I t))/\Q [] w b/\o.heap.size<=b.heap.size,I t,⟨0,be _,rfl,rfl,λE V=>absurd V (ZV E),D,aX _⟩,?_⟩;rintro Y _ _ _ _ _ _ _ _ _ w2 ⟨n,hn,rfl,rfl,T,K,z2⟩;have P:=SliceF.only ji Z h K aag;refine⟨λM=>?_,λW R w4 aC Zw S sE=>?_⟩
 ·have M:(n:Int)<(l.n:Int):=aO M;obtain⟨ad,x,s,p,a,g3,g4,q,c⟩:=P.get (ba n) M;rw[aW,DU J]at a;injection a with a;subst a;unfold Jv at c;subst c;have e:((tk t n).k==5)=decide ((tk t n).k=5):=by rw[bL];simp
  have k:((n:Int)==ar U ((l.n:Int)-1))=decide (n+1=I t):=by
   rw[fh J J,bL];simp only[dB,bG];omega
  refine⟨ad,p,_,q.dP 0 _ rfl,?_⟩;dsimp only;rw[e,k];refine⟨λhm v h=>bad (λg=>?_) v (own K h),λhm=>⟨(I t)-(n+1),J,n+1,J,aaf,rfl,λE V=>?_,K,z2⟩⟩
  ·have:=KP g.2.2 n J;rw[gv.2 this,Uo]at hm;cases hm
  rcases pN E n with e | e
  ·exact T E e
  have:E=n:=J
  subst this;have hm:decide ((tk t E).k=5)=decide (E+1=I t):=ab2
  exact gv.1 hm
 have W:¬(n:Int)<(l.n:Int):=aU W;have:n=I t:=J
 subst this;have aS:tU t:=T;have bv:0<=a/\a<I t/\mr t+1=I t:=⟨d.1,d.2,V9 aS J⟩
 rw[cO,aV bv];obtain⟨H,rfl⟩:∃H:Nat,a=(H:Int):=⟨a.toNat,J⟩
 have z4:=S.size;have tC:=K.cd S;have hR:Rr (λk=>F k/\k<w.heap.size) t w4 R l H 0 0 ((0:Nat):Int):=⟨sE,SliceF.only ji Z (h.inHeap ji Z) tC aag,λk hk=>by have:=hk.2;have:=K.size;omega,aS,J⟩
 refine((GI (gY 0 0)).1 0 0 H w4 Z Z (aX _) hR).mono ?_;rintro _ w5 ⟨v,rfl,hD⟩;obtain⟨vk,vn,vs,vo,vl,va,rfl⟩:=hD.rU;have z5:=hD.1.size;obtain⟨eh,hD⟩:=hD;rw[aW];have bV:tu t H=dE t (gY 0 0) 0 0 H:=rfl;rw[bV];have bY:=K.size;have BG:Q [] w w5:=tC.trans eh λx hx=>.inr aak;refine⟨_,_,_,_,_,_,rfl,eh.same aah,?_⟩;cases aT:dE t (gY 0 0) 0 0 H with
 | error e=>
  rw[aT]at hD;obtain⟨c,p⟩:=e;obtain⟨n,a2,E,q⟩:=hD;refine⟨_,_,_,_,_,q.blk,λ_ k8 w6 _ _ v RW n1 n2 n3 n4 n5 n6=>⟨λk=>k=R,rfl,λe=>n2 e,λe=>n4 e,λw7 x _=>⟨_,rfl,rx0 _ _ _,λh=>absurd h n,own (BG.cd v) x⟩⟩,λa=>absurd (by simpa using a) n⟩
 | ok q=>
  rw[aT]at hD;obtain⟨x,E⟩:=q;obtain⟨s,p,v,n⟩:=hD;have iO:(nR vk vn vs vo vl va)=s:=bN Array.toList (Value.agg.inj p);refine⟨_,_,_,_,_,n.blk,λh=>(by simp at h),λ_ k9 w8 ce cc c yy n1 n2 n3 n4 n5 n6=>⟨λk=>k=R,rfl,λe=>n2 e,λe=>n4 e,λw9 a _=>?_⟩⟩;have z8:=c.size;have z9:=a.size;refine⟨nR vk vn vs vo vl va,rfl,?_,λ_=>⟨ba E,by have:=n.lt;dsimp only;omega⟩,own (BG.cd c) a⟩;rw[iO];exact((v.only c aag).only a λq hq=>.inl ac8).wide J J
def Bk(w:av)(c:UInt8):az aq 191 #[.int .u8 (c.toNat:Int)] w λe a=>e=ak (aj (fS c))/\Q [] w a:=by
 refine ret (atu _ ?_);refine⟨?_,Only.refl _ _⟩;congr 1;rw[bL];simp only[fS,aR,cE,bG,dB];omega
def LU(w:av)(c:UInt8):az aq 218 #[.int .u8 (c.toNat:Int)] w λe a=>e=ak (aj (dw c))/\Q [] w a:=by
 refine ret (aty _ ?_);refine⟨?_,Only.refl _ _⟩;congr 1;rw[bL];simp only[dw,aR,bG];omega
def XI(w:av):az aq 217 #[] w λe a=>∃s:Sl,e=ak s.v/\Own mh 1 9 w.heap.size a (λ_=>True) s lf/\Q [] w a:=by
 refine ik (atx ?_);obtain⟨s,a,h,b,c⟩:=ld w lf (n:=16) rfl rfl Z Z;exact⟨s,a,h,s,rfl,b,c⟩
def Q4(w:av)(m:aH):az aq 192 #[X (T m)] w λe a=>e=ak (aj (lf.contains m))/\Q [] w a:=by
 refine ret (atv _ ?_);refine(XI w).mono ?_;rintro _ d ⟨s,rfl,b,q⟩;have h:=vF b;generalize lf=l at*
 have f:=h.len;have D:=h.big;have j:=h.cap;refine⟨s,rfl,λv i a=>∃n:Nat,n<=I l/\i=(n:Int)/\v=(I l)-n/\(∀x,x∈l.take n->x≠m)/\a=d,I l,⟨0,be _,rfl,rfl,aag,rfl⟩,?_⟩;rintro v _ _ ⟨n,g,rfl,rfl,p,rfl⟩;refine⟨λc=>?_,λc=>?_⟩
 ·have r:(n:Int)<s.n:=aO c;obtain⟨ad,x,z,t,k,A,B,u,o⟩:=h.get (ba n) r;rw[aW]at k;unfold mh at o;subst o;refine⟨ad,t,_,u,?_⟩;dsimp only;rw[iv];refine⟨λe=>⟨?_,q⟩,λe=>⟨(I l)-(n+1),J,n+1,J,aaf,rfl,?_,rfl⟩⟩
  ·have e:x=m:=aO e;congr 1;symm;rw[fI,<-e];exact bn k
  intro y n;rw[bh,k]at n;simp only[fY,ch,aN]at n;rcases n with n | rfl
  ·exact p y n
  exact aU e
 have k:¬((n:Int)<s.n):=aU c;rw[bm J]at p;refine⟨?_,q⟩;congr 1;symm;rw[fx];intro e;exact p m (fI.1 e) rfl
def Oj(a:av)(l:aH)(i:Nat)(f:i<=I l)(j:I l<4611686018427387903):
  az aq 193 #[X (T l),O U (i:Int)] a λe w=>e=ak (O U (I ((l.drop i).takeWhile fA):Int))/\Q [] a w:=by
 refine ret (atw _ _ ?_);rw[cM];have o:I (l.drop i)=(I l)-i:=cJ;refine⟨λk w=>k=(I ((l.drop i).takeWhile fA):Int)/\Q [] a w,λk w d=>⟨by rw[d.1],d.2⟩,λv k w=>∃n:Nat,i+n<=I l/\k=(n:Int)/\v=(I l)-(i+n)/\(∀x,x∈(l.drop i).take n->fA x=aE)/\Q [] a w,(I l)-i,⟨0,f,rfl,rfl,aag,Only.refl _ _⟩,?_⟩;rintro v _ g ⟨n,m,rfl,rfl,h,c⟩;rw[fh (x:=(i:Int)+n) J J];have b:(i:Int)+n=((i+n:Nat):Int):=J
 rw[b];refine⟨λhc=>?_,λhc=>⟨?_,c⟩⟩
 ·have s:i+n<I l:=aa1
  have hx:l[i+n]? =aM l[i+n]:=bf s;generalize l[i+n]=x at hx;have C:(l.drop i)[n]? =aM x:=by rw[gH,hx]
  have r:(T l)[Int.toNat ((i+n:Nat):Int)]? =aM x:=adY
  refine⟨x,⟨ba _,r⟩,(Bk g x).mono ?_⟩;rintro _ z ⟨rfl,t⟩;refine⟨_,rfl,x,⟨ba _,r⟩,(LU z x).mono ?_⟩;rintro _ A ⟨rfl,u⟩;have q:=c.cd (t.cd u);have e:((!fS x)&&(!dw x))=!fA x:=by unfold fA;rw[Bool.not_or]
  refine⟨_,rfl,?_⟩;dsimp only;rw[e];refine⟨λp=>⟨?_,q⟩,λp=>⟨(I l)-(i+(n+1)),J,n+1,J,aaf,rfl,λy k=>?_,q⟩⟩
  ·rw[nP J h λy k=>by
    rw[C]at k;injection k with k;subst k;simpa using p]
   rw[cx];omega
  rw[bh,C]at k;simp only[fY,ch,aN]at k;rcases k with k | rfl
  ·exact h y k
  simpa using p
 have k:I l<=i+n:=aa6
 rw[nP J h λy e=>by
  have:=(bc.1 e).1;omega]
 rw[cx];omega
def XJ(c:UInt8):(((((c.toNat:Int)==9)||((c.toNat:Int)==10))||((c.toNat:Int)==13))||((c.toNat:Int)==32))=qD c:=by
 have a:((c.toNat:Int)==9)=(c==9):=PL (d:=9);have v:((c.toNat:Int)==10)=(c==10):=PL (d:=10);have u:((c.toNat:Int)==13)=(c==13):=PL (d:=13);have h:((c.toNat:Int)==32)=(c==32):=PL (d:=32);rw[a,v,u,h,bL];simp[qD,or_assoc]
def GJ(c:av)(l:aH)(i:Nat)(f:i<=I l)(o:I l<4611686018427387903):
  az aq 304 #[X (T l),O U (i:Int)] c λe w=>e=ak (O U ((i+lz aL (l.drop i):Nat):Int))/\Q [] c w:=by
 refine ret (atX _ _ ?_);rw[cM];refine⟨λk w=>k=((i+lz aL (l.drop i):Nat):Int)/\w=c,λk w h=>⟨by rw[h.1],by rw[h.2];exact Only.refl _ _⟩,λv k w=>∃j:Nat,j<=I l/\k=(j:Int)/\v=(I l)-j/\i+lz aL (l.drop i)=j+lz aL (l.drop j)/\w=c,(I l)-i,⟨i,f,rfl,rfl,rfl,rfl⟩,?_⟩;rintro v _ m ⟨j,g,rfl,rfl,s,u⟩;subst u;refine⟨λhc=>?_,λhc=>⟨?_,rfl⟩⟩
 ·have r:j<I l:=aa1
  have hx:l[j]? =aM l[j]:=bf r;generalize l[j]=x at hx;have hd:=pv hx;have e:((x.toNat:Int)==47)=(x==47):=PL (d:=47);rw[fh (x:=(j:Int)+1) J J];obtain⟨y,p⟩:∃y:UInt8,j+1<(I l)->l[j+1]? =aM y:=by
   by_cases h:j+1<I l
   ·exact⟨l[j+1],λ_=>bf h⟩
   ·exact⟨0,λa=>absurd a h⟩
  have t:((y.toNat:Int)==47)=(y==47):=PL (d:=47);refine⟨x,⟨ba j,adY⟩,y,λh=>⟨J,?_⟩,?_⟩
  ·rw[aR]at h;have:=aO h.2;rw[show(j:Int)+1=((j+1:Nat):Int) by omega,oh,aW];exact p J
  rw[e,t,XJ];refine⟨λy=>?_,λy=>⟨λA=>⟨(I l)-(j+1),J,j+1,J,rfl,rfl,?_,rfl⟩,λA=>⟨?_,rfl⟩⟩⟩
  ·simp only[aR,bG,dB]at y;obtain⟨⟨rfl,a⟩,rfl⟩:=y;have a:j+1<I l:=J
   have B:=pv (p a);have F:(l.drop j).take 2=[47,47]:=by rw[hd,B];rfl
   have hk:=Gh F;have G:I (l.drop j)=(I l)-j:=cJ;refine⟨λv k w=>∃n:Nat,j+n<=I l/\k=((j+n:Nat):Int)/\v=(I l)-(j+n)/\(∀x,x∈(l.drop j).take n->(x !=10)=aE)/\w=m,(I l)-j,⟨0,g,rfl,rfl,aag,rfl⟩,?_⟩;rintro v _ _ ⟨n,E,rfl,rfl,D,rfl⟩;obtain⟨z,C⟩:∃z:UInt8,j+n<(I l)->l[j+n]? =aM z:=by
    by_cases h:j+n<I l
    ·exact⟨l[j+n],λ_=>bf h⟩
    ·exact⟨0,λd=>absurd d h⟩
   have b:((z.toNat:Int) !=10)=(z !=10):=by
    have:((z.toNat:Int)==10)=(z==10):=PL (d:=10);unfold bne;rw[this]
   refine⟨z,λh=>⟨ba _,by rw[oh,aW];exact C aeW⟩,?_⟩;rw[b];refine⟨λh=>?_,λh=>?_⟩
   ·rw[aR]at h;have a:=aO h.1;have k:(l.drop j)[n]? =aM z:=by rw[gH];exact C J
    refine⟨(I l)-(j+(n+1)),J,n+1,J,adE,rfl,λq d=>?_,rfl⟩;rw[bh,k]at d;simp only[fY,ch,aN]at d;rcases d with d | rfl
    ·exact D q d
    ·exact h.2
   ·have x:(l.drop j).takeWhile (· !=10)=(l.drop j).take n:=nP J D λq d=>by
     have a:=(bc.1 d).1;rw[gH,C J]at d;injection d with d;subst d;rw[bF J,cr]at h;exact h
    have k:I ((l.drop j).takeWhile (· !=10))=n:=by rw[x,cx];omega
    have M:0<n:=by
     rw[<-k,hd,dL,aV Z,aY];omega
    rw[k,jH]at hk;exact⟨(I l)-(j+n),J,j+n,E,rfl,rfl,by rw[s,hk];omega,rfl⟩
  ·rw[s,hd,lz,aV A];omega
  ·have z:lz aL (l.drop j)=0:=by
    rw[hd,lz,aP (by rw[A];decide),aP];intro h;simp only[aR,dB]at h;obtain⟨rfl,h⟩:=h;have d:j+1<I l:=by
     cases k:l.drop (j+1)with
     | nil=>rw[k]at h;simp at h
     | cons a b=>
      have:=bN List.length k;rw[cJ,aY]at this;omega
    rw[pv (p d)]at h;simp only[j7,bJ]at h;subst h;rw[bF J]at y;simp at y
   rw[s,z];rfl
 ·have a:I l<=j:=aa6
  rw[s,dV a];rfl
def Ar:List (aH):=[[45,62],[60,61],[62,61],[61,61],[33,61],[38,38],[124,124]]
def EJ{c d:UInt8}{r:aH}:tS (c::d::r)=Ar.contains [c,d]:=by
 rw[bL];simp[tS,Ar];constructor
 ·rintro((⟨rfl,h⟩ | ⟨rfl,h⟩) | ⟨rfl,rfl⟩)
  ·rcases h with rfl | rfl | rfl | rfl<;>simp
  ·rcases h with rfl | rfl<;>simp
  simp
 rintro(⟨rfl,rfl⟩ | ⟨rfl,rfl⟩ | ⟨rfl,rfl⟩ | ⟨rfl,rfl⟩ | ⟨rfl,rfl⟩ | ⟨rfl,rfl⟩ | ⟨rfl,rfl⟩)<;>simp
def Tn{m:aH}(h:tS m=aE):jU m=2:=by unfold jU;rw[aV h]
def Tp{c:UInt8}{r:aH}(h:tS (c::r)=aL):jU (c::r)=if qE.contains c then 1 else 0:=by
 unfold jU;rw[aP (by rw[h];decide)]
def abP(a:av)(l:aH)(i:Nat)(j:i<I l)(t:I l<4611686018427387903):
  az aq 311 #[X (T l),O U (i:Int)] a λe w=>e=ak (O U (jU (l.drop i):Int))/\Q [] a w:=by
 refine ret (at3 _ _ ?_);rw[cM];obtain⟨s,g,o,r,b⟩:=ld a Ar (n:=7) (parts:=#[(0,X (ao #[45,62])),(1,X (ao #[60,61])),(2,X (ao #[62,61])),(3,X (ao #[61,61])),(4,X (ao #[33,61])),(5,X (ao #[38,38])),(6,X (ao #[124,124]))]) rfl rfl Z Z;have f:=vF r;have hx:l[i]? =aM l[i]:=bf j;generalize l[i]=c at hx;have hd:=pv hx;have z:I (l.drop i)=(I l)-i:=cJ;have N:=f.len;rw[fh (x:=(i:Int)+2) J J];refine⟨s,g,o,λv k w=>∃n:Nat,n<=I Ar/\k=(n:Int)/\v=(I Ar)-n/\(2<=(I (l.drop i))->∀x,x∈Ar.take n->x≠(l.drop i).take 2)/\Q [] g w,I Ar,⟨0,be _,rfl,rfl,aag,Only.refl _ _⟩,?_⟩;rintro v _ u ⟨n,m,rfl,rfl,p,D⟩;refine⟨λhc=>?_,λhc=>?_⟩
 ·have C:(n:Int)<s.n:=aO hc;obtain⟨ad,x,L,G,A,M,P,H,B⟩:=(SliceF.only du Z f D aag).get (ba n) C;rw[aW]at A;unfold mh at B;subst B;have K:I Ar=7:=rfl;refine⟨i,i+2,λh=>⟨rfl,J,J,aeW⟩,ad,λ_=>G,_,λ_=>H,?_⟩;have ex:(T l).extract i (i+2)=T ((l.drop i).take 2):=by rw[wa,show i+2-i=2 by omega]
  rw[ex,iv];refine⟨λh R E=>⟨?_,b.cd (D.cd E)⟩,λh S F=>⟨(I Ar)-(n+1),J,n+1,J,aaf,rfl,λq y k=>?_,D.cd F⟩⟩
  ·rw[aR]at h;have s:=aO h.1;have q:=aO h.2;have n:tS (l.drop i)=aE:=by
    cases e:l.drop (i+1)with
    | nil=>
     have:=bN List.length e;rw[cJ,bC]at this;omega
    | cons d h=>
     rw[hd,e]at q⊢;rw[EJ,fI];have:(c::d::h).take 2=[c,d]:=rfl;rw[<-this,q];exact bn A
   rw[Tn n];rfl
  rw[bh,A]at k;simp only[fY,ch,aN]at k;rcases k with k | rfl
  ·exact p q y k
  rw[bF J,cr]at h;exact λe=>aU h e.symm
 have B:¬((n:Int)<s.n):=aU hc;rw[bm J]at p;have M:tS (l.drop i)=aL:=by
  cases c:l.drop (i+1)with
  | nil=>rw[hd,c];rfl
  | cons d k=>
   rw[hd,c,EJ,fx];intro h;rw[fI]at h;have e:2<=I (l.drop i):=by rw[hd,c];simp
   exact p e _ h (by rw[hd,c];rfl)
 have C:jU (l.drop i)=if qE.contains c then 1 else 0:=by
  rw[hd]at M⊢;exact Tp M
 rw[C];refine⟨λv k w=>∃n:Nat,n<=17/\k=(n:Int)/\v=17-n/\(∀x,x∈qE.take n->x≠c)/\Q [] a w,17,⟨0,be _,rfl,rfl,aag,b.cd D⟩,?_⟩;rintro v _ E ⟨n,m,rfl,rfl,p,A⟩;refine⟨λhc=>?_,λhc=>⟨?_,A⟩⟩
 ·have s:n<17:=aa1
  obtain⟨y,k⟩:∃y,qE[n]? =aM y:=⟨_,bf s⟩
  refine⟨c,⟨ba i,adY⟩,y,⟨ba n,by
   have e:(ao #[123,125,40,41,91,93,59,44,61,43,45,42,47,37,60,62,33])=T qE:=rfl;rw[e,oh,aW,k]⟩,?_⟩
  rw[PL];refine⟨λh F x=>⟨?_,A.cd x⟩,λh G K=>⟨17-(n+1),J,n+1,J,aaf,rfl,λq d=>?_,A.cd K⟩⟩
  ·have h:c=y:=acs
   rw[aV]
   ·rfl
   rw[fI,h];exact bn k
  rw[bh,k]at d;simp only[fY,ch,aN]at d;rcases d with d | rfl
  ·exact p q d
  rintro rfl;simp at h
 have B:n=17:=aa6
 subst B;rw[aP]
 ·rfl
 intro h;rw[fI]at h;exact p c (by rw[bm Z];exact h) rfl
def Ts{d:aH}{x:UInt8}:mP 0 (d++[x])=mP 0 d*10+(x.toNat-48):=by
 unfold mP;rw[jO];rfl
def Tt{ds:aH}{n:Nat}:mP 0 (ds.take n)<=mP 0 ds:=by
 have:mP 0 ds=mP (mP 0 (ds.take n)) (ds.drop n):=by
  unfold mP;rw[<-jO,fk]
 rw[this];exact HS _ _
def XK(a:av)(l:aH)(b:I l<4611686018427387903):
  az aq 310 #[X (T l)] a λe w=>e=ak (ai #[O U (gr l).1,O U (gr l).2.1,O U (gr l).2.2])/\Q [] a w:=by
 refine ret (at2 _ ?_);rw[cM];refine⟨λh0=>⟨?_,Only.refl _ _⟩,λh0=>?_⟩
 ·have h0:l=[]:=bH (by have:(I l:Int)=0:=agH;omega);rw[gr,aV h0];rfl
 have h0:¬l=[]:=by
  rintro rfl;simp at h0
 refine⟨λc j w=>∃n:Nat,n<=I l/\j=(n:Int)/\c=(I l)-n/\(∀x,x∈l.take n->dw x=aE)/\w=a,I l,⟨0,be _,rfl,rfl,aag,rfl⟩,?_⟩;rintro c _ m ⟨n,k,rfl,rfl,p,u⟩;subst u;obtain⟨z,f⟩:∃z:UInt8,n<(I l)->l[n]? =aM z:=by
  by_cases h:n<I l
  ·exact⟨l[n],λ_=>bf h⟩
  exact⟨0,λd=>absurd d h⟩
 have g:n<(I l)->0<=(n:Int)/\(T l)[Int.toNat (n:Int)]? =aM z:=λh=>⟨ba n,by rw[oh,aW];exact f h⟩
 refine⟨z,λh=>g aeW,z,λh=>g (by
  rw[aR]at h;have:=aO h.1;omega),?_⟩
 have i:((((decide ((n:Int)<(I l:Int)))&&(decide ((z.toNat:Int)>=48)))&&(decide ((z.toNat:Int)<=57))))=(decide (n<I l)&&dw z):=by
  rw[bL];simp only[dw,aR,bG];omega
 rw[i];refine⟨λh=>?_,λh=>?_⟩
 ·rw[aR]at h;have d:n<I l:=aO h.1;refine⟨(I l)-(n+1),J,n+1,J,aaf,rfl,λy hy=>?_,rfl⟩;rw[bh,f d]at hy;simp only[fY,ch,aN]at hy;rcases hy with hy | rfl
  ·exact p y hy
  exact h.2
 have T:l.takeWhile dw=l.take n:=nP k p λy hy=>by
  have d:=(bc.1 hy).1;rw[f d]at hy;injection hy with hy;subst hy;rw[bF d,cr]at h;exact h
 have s:I (l.takeWhile dw)=n:=by rw[T,cx];omega
 obtain⟨x,r,rfl⟩:∃x r,l=x::r:=by
  cases l with
  | nil=>exact absurd rfl h0
  | cons x r=>exact⟨x,r,rfl⟩
 refine⟨x,λ_ _=>⟨ky _,afH⟩,?_⟩;have t:((x.toNat:Int)==48)=(x==48):=PL (d:=48);have z:(((n:Int)==0)||((decide ((n:Int)>1))&&((x.toNat:Int)==48)))=decide ((x::r).takeWhile dw=[]∨(1<I ((x::r).takeWhile dw)/\(x::r).head? =aM 48)):=by
  rw[t,s,bL];simp only[aR,cE,bG,dB,j7,bJ];have:(x::r).takeWhile dw=[]↔n=0:=by
   constructor
   ·intro e;rw[e]at s;exact s.symm
   intro e;rw[e]at s;exact bH s
  rw[this];by_cases h:x=48
  ·simp only[h,and_true];omega
  simp only[h,and_false,ci];omega
 rw[z];refine⟨λo=>⟨?_,Only.refl _ _⟩,λo=>?_⟩
 ·rw[gr,aP h0,aV (aO o)];rfl
 have o:=aU o;refine⟨λc v j w=>∃q:Nat,q<=n/\j=(q:Int)/\c=n-q/\v=(mP 0 ((x::r).take q):Int)/\mP 0 ((x::r).take q)<9223372036854775808/\Q [] m w,n,⟨0,be _,rfl,rfl,rfl,by rw[cA];decide,Only.refl _ _⟩,?_⟩;rintro c _ _ A ⟨q,e,rfl,rfl,rfl,d,D⟩;refine⟨λhc=>?_,λhc=>⟨?_,D⟩⟩
 ·have B:q<n:=aa1
  have hy:(x::r)[q]? =aM ((x::r)[q]' J):=bf J;generalize (x::r)[q]' J=y at hy;have v:dw y=aE:=p y (by
   rw[List.mem_iff_getElem?];exact⟨q,by rw[yh,aV B,hy]⟩)
  simp only[dw,aR,bG]at v;have C:ar .u8 ((y.toNat:Int)-48)=(y.toNat:Int)-48:=by
   have h:∀n:Fin 256,48<=n.val->ar .u8 ((n.val:Int)-48)=(n.val:Int)-48:=afp
   exact h ⟨y.toNat,y.toNat_lt⟩ v.1
  have F:(9223372036854775807-((y.toNat:Int)-48)).tdiv 10=(9223372036854775807-((y.toNat:Int)-48))/10:=Int.tdiv_eq_ediv_of_nonneg J;have E:(x::r).take (q+1)=(x::r).take q++[y]:=ahQ
  have ev:mP 0 ((x::r).take (q+1))=mP 0 ((x::r).take q)*10+(y.toNat-48):=by rw[E,Ts]
  refine⟨y,⟨ba q,by rw[oh,aW,hy]⟩,?_⟩;rw[C,fh (x:=(y.toNat:Int)-48) J J,fh (x:=9223372036854775807-((y.toNat:Int)-48)) J J,F,fh (x:=(9223372036854775807-((y.toNat:Int)-48))/10) J J];refine⟨λS=>⟨?_,D⟩,λS=>⟨n-(q+1),J,q+1,J,aaf,rfl,?_,?_,D⟩⟩
  ·have S:=aO S;have h:mP 0 ((x::r).take (q+1))<=mP 0 ((x::r).take n):=by
    have:=Tt (ds:=(x::r).take n) (n:=q+1);rw[List.take_take,Nat.min_eq_left J]at this;exact this
   rw[gr,aP h0,aP o,aP (by rw[T];omega)];rfl
  ·have S:=aU S;rw[ev,fh (x:=10*(mP 0 ((x::r).take q):Int)) J J,fh J J];omega
  have S:=aU S;rw[ev];omega
 have h:q=n:=aa6
 subst h;rw[gr,aP h0,aP o,aV (by rw[T];exact d),s,T]
def aha(i:Nat)(r:Except Int Tq)(v:aw):Prop:=match r with
 | .error e=>v=ai #[ah #[O U 0,X (T []),O U 0,O U 0],O U 0,O U e]
 | .ok q=>v=ai #[ah #[O U q.1,X (T q.2.1),O U q.2.2.1,O U (i:Int)],O U (q.2.2.2:Int),O U 0]
def XM(w:av)(l:aH)(i:Nat)(r:i<I l)(F:I l<=16384):
  az aq 305 #[X (T l),O U (i:Int)] w λe d=>∃v,e=ak v/\aha i (nQ (l.drop i)) v/\Q [] w d:=by
 refine atY (T l) i (λv d=>aha i (nQ (l.drop i)) v/\Q [] w d) w ?_;have hx:l[i]? =aM l[i]:=bf r;generalize l[i]=x at hx;have E:I (l.drop i)=(I l)-i:=cJ;have B:nQ (l.drop i)=if fS x then ov (l.drop i)else if dw x then uY (l.drop i)else qj (l.drop i):=by
  rw[pv hx];rfl
 rw[B];have q:0<=(i:Int)/\(T l)[Int.toNat (i:Int)]? =aM x:=⟨ba i,adY⟩
 refine⟨x,q,λt z G M c=>(Bk z x).mono ?_⟩;rintro _ C ⟨rfl,D⟩;have new:∀{u b:av},Q [] w u->Q [t] u b->Q [] w b:=λg k=>g.trans k λy hy=>.inr ad3;have sm:∀{u b:av},Q [] z u->Q [] u b->cu [t] u b:=λA g=>g.same (by have:=A.size;simp;omega);refine⟨_,rfl,sm (Only.refl _ _) D,x,q,(LU C x).mono ?_⟩;rintro _ j ⟨rfl,o⟩;have h:=D.cd o;refine⟨_,rfl,sm D o,λf=>?_,λf=>⟨λhd=>⟨i,⟨rfl,aa2⟩,?_⟩,λhd=>?_⟩⟩
 ·rw[aV f];refine(Oj j l i J J).mono ?_;rintro _ w3 ⟨rfl,x⟩;have S:I ((l.drop i).takeWhile fA)<=(I l)-i:=by
   have:=tT (p:=fA) (l:=l.drop i);rwa[E]at this
  have ex:(T l).extract i (i+I ((l.drop i).takeWhile fA))=T ((l.drop i).takeWhile fA):=by
   rw[wa,dN,<-pu]
  refine⟨_,rfl,sm h x,i,i+I ((l.drop i).takeWhile fA),⟨rfl,adE,J,aa2⟩,λZ V rl W L=>?_⟩;have e:=h.cd (x.cd L);rw[ex];refine(Q4 V _).mono ?_;rintro _ w5 ⟨rfl,H⟩;have v:=e.cd H;have z4:=e.size;unfold ov;generalize Y:(l.drop i).takeWhile fA=m at*
  refine⟨_,rfl,H.same aah,λk s n a d=>k=(if lf.contains m then 2 else 1:Int)/\s=T m/\n=0/\a=(i:Int)/\Q [] w d,?_,λhc w9 N=>⟨by rw[aV hc],rfl,rfl,rfl,(c.cd v).trans N λy hy=>.inr (by simp only[aN]at hy;have:=c.size;have:=x.size;have:=h.size;omega)⟩,λhc=>⟨by rw[hc];rfl,rfl,rfl,rfl,c.cd v⟩⟩;rintro _ _ _ _ w6 ⟨rfl,rfl,rfl,rfl,K⟩;refine⟨λhc w7 R=>⟨?_,new K R⟩,λhc w8 P=>⟨?_,new K P⟩⟩
  ·rw[aV aa1];rfl
  rw[aP aa6];rfl
 ·rw[aP (by rw[f];decide),aV hd];have ex:(T l).extract i (T l).size=T (l.drop i):=by rw[wa,cM,bm J]
  rw[ex];refine(XK j (l.drop i) J).mono ?_;rintro _ k ⟨rfl,a⟩;have v:=h.cd a;unfold uY;refine⟨_,_,_,rfl,sm h a,λhe n e=>⟨?_,new (c.cd v) e⟩,λhe=>(Oj k l i J J).mono ?_⟩
  ·rw[aV acT];rfl
  rintro _ Z ⟨rfl,W⟩;have p:=v.cd W;rw[aP acT];refine⟨_,rfl,sm v W,λhc x s=>⟨?_,new (c.cd p) s⟩,λhc y S=>⟨?_,new (c.cd p) S⟩⟩
  ·rw[aV aa1];rfl
  rw[aP aa6];rfl
 rw[aP (by rw[f];decide),aP (by rw[hd];decide)];refine(abP j l i r J).mono ?_;rintro _ v ⟨rfl,k⟩;have a:=h.cd k;have p:=zL (m:=l.drop i);have ex:(T l).extract i (i+jU (l.drop i))=T ((l.drop i).take (jU (l.drop i))):=by rw[wa,dN]
 unfold qj;refine⟨_,rfl,sm h k,λhz x n=>⟨?_,new (c.cd a) n⟩,λhz=>⟨i,i+jU (l.drop i),⟨rfl,adE,J,aa2⟩,λs P=>⟨?_,new (c.cd a) P⟩⟩⟩
 ·rw[aV (by have:(jU (l.drop i):Int)=0:=ago;omega)];rfl
 rw[aP (by rintro e;rw[e]at hz;simp at hz),ex];rfl
def Tu(b:av)(l:aH):
  az aq 282 #[X (T l)] b λe a=>∃r:Sl,e=ak (ai #[r.v,ah #[O U (di l).2.1,O U (di l).2.2]])/\ou b.heap.size a r (di l).1/\Q [] b a:=by
 refine ik (atL _ ?_);rw[cM];refine⟨λhc f g _ _ h=>⟨Sl.nil,?_,?_,h⟩,λhc d w m j c=>?_⟩
 ·rw[di,aV aa1]
 ·rw[di,aV aa1];exact Own.nil _ _ _ _ _ _
 have A:I l<=16384:=aa6
 have M:di l=match lJ l 0 with
  | .error x=>([],x.1,(x.2:Nat))
  | .ok e=>(e,0,0):=by
   rw[di,aP J]<;>rfl
 refine(GJ w l 0 (be _) J).mono ?_;rintro _ E ⟨rfl,o⟩;have D:=c.size;refine⟨_,rfl,o.same aah,λz s p B C a=>B=0/\C=0/\∃(i:Nat) (n:List Tk),p=(i:Int)/\i<=I l/\I n<=i/\lz aL (l.drop i)=0/\lJ l 0=lg n (lJ l i)/\z=(I l)-i/\ou w.heap.size a s n/\Q [] w a,(I l)-(0+lz aL (l.drop 0)),?_,?_⟩
 ·refine⟨rfl,rfl,_,[],rfl,KI (be _),be _,?_,?_,rfl,Own.nil _ _ _ _ _ _,o⟩
  ·rw[<-jH];exact sO aL (l.drop 0)
  rw[<-pw (be _)];cases lJ l 0<;>rfl
 rintro z s _ _ _ K ⟨rfl,rfl,i,n,rfl,V,S,R,P,rfl,G,N⟩;have W:=N.size;have Y:=lH V;rw[R,gy]at Y;have H:∀{u:av} {L:Sl} (t:Tk),Q [] w u->ou w.heap.size u L n->
   ∃y e,(au 142 1 #[(0,t.v)]).run aq u=.ok (Sl.v y) e/\Q [] u e/\∃s q,(Builtin.append_ #[142,142] 142 #[Sl.v L,Sl.v y]).run aq e=.ok (Sl.v s) q/\ou w.heap.size q s (n++[t])/\aD (λk=>w.heap.size<=k/\L.a=aM ⟨k,0,aaa⟩) e q/\Q [] w q:=by
  intro u L t T hr;obtain⟨y,e,c1,v,s,q,c3,c4,x⟩:=V6 t hr T.size (bD (fu 40 (show (I n)+1<=16385 by omega)) Z);exact⟨y,e,c1,v,s,q,c3,c4,x,((T.cd v).p0 (F:=λk=>w.heap.size<=k) |>.trans x λk hk=>.inl hk.1).only λk hk=>hk⟩
 refine⟨λhc=>?_,λhc=>?_⟩
 ·have bU:i<I l:=aa1
  rw[aP J]at Y;refine(XM K l i bU A).mono ?_;rintro _ w4 ⟨v,rfl,t,dI⟩;have UX:=N.cd dI;have am:cu [d] K w4:=dI.same aah;have z4:=dI.size;unfold aha at t;cases F:nQ (l.drop i)with
  | error e=>
   rw[F]at t Y;dsimp only at t;subst t;refine⟨0,T [],0,0,0,e,rfl,am,λ_ q s u v k=>⟨Sl.nil,?_,?_,?_⟩,λhe=>absurd (HT F) acT⟩
   ·rw[M,P,Y];rfl
   ·rw[M,P,Y];exact Own.nil _ _ _ _ _ _
   exact(c.cd UX).trans k λy hy=>.inr ad3
  | ok q=>
   rw[F]at t Y;dsimp only at t;subst t;have aT:=xt F;have aS:=DT F;rw[cJ]at aS;refine⟨q.1,T q.2.1,q.2.2.1,(i:Int),(q.2.2.2:Int),0,rfl,am,λhe=>(by simp at he),λ_ k5 w6 rl BI v=>?_⟩;have aC:=UX.cd v;have z6:=v.size;obtain⟨y,w7,c1,c2,s',w8,c3,c4,c5,c6⟩:=H (u:=w6) ⟨q.1,q.2.1,q.2.2.1,(i:Nat)⟩ aC (G.only (dI.cd v));have z7:=c2.size;have z8:=c5.size;have hk:∀k,s.a=aM ⟨k,0,aaa⟩->w.heap.size<=k/\k<K.heap.size:=λk hk=>G.blk hk;refine⟨y,w7,c1,c2.same aah,s',w8,c3,c5.same (by
    intro x k;simp only[aZ,bp,ci]at k;refine⟨J,λe=>?_⟩;have:=hk x e.2;omega),?_⟩
   rw[fh (x:=(i:Int)+(q.2.2.2:Int)) J J,show(i:Int)+(q.2.2.2:Int)=((i+q.2.2.2:Nat):Int) by omega];refine(GJ w8 l (i+q.2.2.2) J J).mono ?_;rintro _ w9 ⟨rfl,fU⟩;have O2:=KI (l:=l) (i:=i+q.2.2.2) J;refine⟨_,rfl,fU.same aah,(I l)-(i+q.2.2.2+lz aL (l.drop (i+q.2.2.2))),J,rfl,rfl,_,_,rfl,O2,?_,?_,?_,rfl,c4.only fU,c6.cd fU⟩
   ·rw[aQ,bB];omega
   ·rw[<-jH];exact sO aL _
   rw[P,Y,<-pw J,<-PM];dsimp only;cases lJ l (i+q.2.2.2)<;>rfl
 have lu:I l<=i:=aa6
 rw[aV lu]at Y;have mH:i=I l:=J
 obtain⟨y,dz,T,v,q,dF,c3,c4,c5,c6⟩:=H (u:=K) ⟨5,[],0,(i:Nat)⟩ N G;have JG:=v.size;have hk:∀k,s.a=aM ⟨k,0,aaa⟩->w.heap.size<=k/\k<K.heap.size:=λk hk=>G.blk hk;have t:di l=(n++[⟨5,[],0,(i:Nat)⟩],0,0):=by
  rw[M,P,Y];rfl
 have e:(I l:Int)=(i:Int):=J
 rw[e];refine⟨y,dz,T,v.same aah,q,dF,c3,c5.same (by
  intro x k;simp only[aN]at k;refine⟨J,λe=>?_⟩;have:=hk x e.2;omega),λeZ F=>⟨q,by rw[t],?_,?_⟩⟩
 ·rw[t];have:ou w.heap.size eZ q _:=c4.keep λk hk e=>F.block k e (by simp only[aN];have:=hk.1;omega);exact Own.low this D
 exact(c.cd c6).trans F λy hy=>.inr ad3
def sZ(w:av)(l:aH)(f:I l<4611686018427387903):
  az aq 156 #[X (T l)] w λe a=>e=ak (aj (dJ l))/\Q [] w a:=by
 refine ret (atp _ ?_);have d:(ao #[])=T []:=rfl;rw[cM,d,iv];refine⟨λh=>⟨?_,Only.refl _ _⟩,λh=>?_⟩
 ·unfold dJ;rw[bA]
  ·rfl
  rintro⟨b,c⟩;rw[bA b,bA J]at h;cases h
 simp only[fy,dl]at h;obtain⟨j,g⟩:=h;have g:I l<=24:=J
 obtain⟨c,r,rfl⟩:∃c r,l=c::r:=by
  cases l with
  | nil=>exact absurd rfl j
  | cons c r=>exact⟨c,r,rfl⟩
 have n:dJ (c::r)=(fS c&&decide ((c::r).takeWhile fA=c::r)&&!lf.contains (c::r)):=by
  unfold dJ;rw[bF ⟨j,g⟩,cr]
 refine⟨c,⟨ky _,afH⟩,(Bk w c).mono ?_⟩;rintro _ k ⟨rfl,q⟩;refine⟨_,rfl,(Q4 k _).mono ?_⟩;rintro _ m ⟨rfl,D⟩;refine⟨_,rfl,λb a=>b=dJ (c::r)/\Q [] w a,λb a e=>⟨by rw[e.1],e.2⟩,λi=>?_,λi=>⟨?_,q.cd D⟩⟩
 ·refine(Oj m (c::r) 0 (be _) f).mono ?_;rintro _ o ⟨rfl,b⟩;rw[im];refine⟨_,rfl,?_,q.cd (D.cd b)⟩;rw[n];simp only[aR,de]at i;rw[i.1,i.2,cr,FY,eo,bL];simp only[dB,bG];constructor
  ·intro e;have e:I ((c::r).takeWhile fA)=I (c::r):=J
   have g:=pu (p:=fA) (l:=c::r);rw[e,bm (aX _)]at g;exact g
  intro e;rw[e]
 rw[n];cases j:fS c<;>cases g:lf.contains (c::r)<;>rw[j,g]at i<;>simp at i⊢
def abQ(w:av)(l:aH):az aq 253 #[X (T l)] w λe i=>
  ∃a,e=ak (ai #[ah a.toArray,ah #[O U (iU l).2.1,O U (iU l).2.2]])/\RX i w.heap.size i.heap.size (iU l).1 a/\Q [] w i:=by
 refine ik (atC _ ?_);intro C E v K H L M j;have z0:=j.size;have own:∀{u r:av},Q [] w u->Q [E,C] u r->Q [] w r:=λA B=>A.trans B λx hx=>.inr aam;refine(Tu v l).mono ?_;rintro _ W ⟨f,rfl,h,D⟩;have z1:=D.size;have m:=j.cd D;generalize P:di l=G at*
 obtain⟨s,c,p⟩:=G;dsimp only at h⊢;have R:iU l=if c≠0 then(yI,c,p)else if(cO s 0).2.2.1≠0 then(yI,(cO s 0).2.2.1,(cO s 0).2.2.2)else if(tk s (cO s 0).2.1.toNat).k≠5 then(yI,4,(tk s (cO s 0).2.1.toNat).a)else((cO s 0).1,0,(cO s 0).2.2.2):=by
  unfold iU;rw[P]
 refine⟨f,_,_,rfl,D.same aah,λhc F Y S N y o b g=>⟨λk=>k=F,rfl,λe=>b e,λe=>g e,λw3 z=>?_⟩,λhc k3 w4 yZ V d=>?_⟩
 ·have hc:c≠0:=aaj
  rw[R,aV hc];exact⟨_,rfl,rx0 _ _ _,own (m.cd y) z⟩
 have hc:c=0:=aaj
 rw[aP (by simp[hc])]at R;have z4:=d.size;refine(XH (h.only d).sl 0 ⟨Z,Z⟩).mono ?_;rintro _ w5 ⟨a,rfl,hX,hj,eh⟩;have z5:=eh.size;have aC:(cO s 0).2.2.1=0->(cO s 0).2.2.2=0:=by
  unfold cO;split
  ·cases k:tu s (0:Int).toNat with
   | error e=>
    obtain⟨c,p⟩:=e;intro n;exact absurd n (pz _ _ _ _ k)
   | ok q=>intro _;rfl
  intro c;exact absurd c (show ¬(1:Int)=0 by decide)
 generalize aT:cO s 0=pa at*
 obtain⟨x,aS,c',p'⟩:=pa;dsimp only at hX hj R aC⊢;obtain⟨xl,rfl,_⟩:=hX.cells;have BG:Q [] w w5:=(m.cd d).cd eh;have am:∀{u:av},Q [k3] w5 u->aA Jv 4 u (λk=>v.heap.size<=k/\f.a=aM ⟨k,0,aaa⟩) f s:=λhO=>SliceF.only ji Z (h.only (d.cd eh)).sl hO λk hk bU hm=>by
  have:=h.blk hk.2;simp only[aN]at hm;dsimp only at this;omega
 refine⟨_,_,_,_,_,_,_,_,_,rfl,eh.same aah,λT k4 w6 uw yg dK o b g n4 n5 n6=>⟨λk=>k=k3,rfl,λe=>b e,λe=>n4 e,λw7 fR=>?_⟩,λT=>?_⟩
 ·have T:c'≠0:=by simpa using T
  rw[R,aV T];exact⟨_,rfl,rx0 _ _ _,own (BG.new dK J) fR⟩
 have T:c'=0:=by simpa using T
 rw[aP (by simp[T])]at R;obtain⟨UN,Jc⟩:=hj T;obtain⟨n,rfl⟩:∃n:Nat,aS=(n:Int):=⟨aS.toNat,J⟩
 have hl:=(am (Only.refl _ _)).len;obtain⟨ad,t,a,g1,g2,g3,g4,g5,g6⟩:=(am (Only.refl _ _)).get UN J;rw[aW]at R;refine⟨ad,g1,λk5 w8 rl BI c=>?_⟩;obtain⟨x,t',BC,e1,p,e3,e4,e5,e6⟩:=(am c).get UN J;have bv:=cR.Cp e1 g1;subst bv;rw[aW,DU J]at p;injection p with p;subst p;unfold Jv at e6;subst e6;have z8:=c.size;refine⟨_,e5.dP 0 _ rfl,λhk w9 fU o b g n4 n5 n6=>⟨λk=>k=x.block,x,g1,?_,_,(e5.keep (fU.block _ e5.lt aag)).dP 3 _ rfl,?_,?_,λdz dX=>?_⟩,λhk dF dT=>?_⟩
 ·exact pc x 3
 ·intro e;have:=e3.1;rw[<-e]at this;omega
 ·intro e;have:=e3.1;rw[<-e]at this;omega
 ·have hk:(tk s n).k≠5:=aay
  rw[R,aV hk];exact⟨_,rfl,rx0 _ _ _,own ((BG.new c J).cd fU) dX⟩
 have hk:(tk s n).k=5:=aay
 rw[R,aP (by simp[hk]),aC T];have e:=dT.size;exact⟨_,rfl,((hX.only c λq hq=>.inl (by simp only[aN]at hq;omega)).only dT λq hq=>.inl ac8).wide J J,own (BG.new c J) dT⟩
def ahb{k:Nat}{op:Int}(hk:k<6)(h:op∈(fP[k]?).getD []):gq op=(k:Int):=by
 match k,hk with
 | 0,_=>simp[fP]at h;subst h;rfl
 | 1,_=>simp[fP]at h;subst h;rfl
 | 2,_=>simp[fP]at h;rcases h with rfl | rfl<;>rfl
 | 3,_=>simp[fP]at h;rcases h with rfl | rfl | rfl | rfl<;>rfl
 | 4,_=>simp[fP]at h;rcases h with rfl | rfl<;>rfl
 | 5,_=>simp[fP]at h;rcases h with rfl | rfl | rfl<;>rfl
def abR{op:Int}(h:∀k,k<6->op∉(fP[k]?).getD []):gq op=6:=by
 have a:=h 0 Z;have b:=h 1 Z;have c:=h 2 Z;have d:=h 3 Z;have e:=h 4 Z;have f:=h 5 Z;simp[fP]at a b c d e f;unfold gq;rw[aP J,aP J,aP J,aP J,aP J,aP J]
def Au{a:av}{F:aJ}{x:Ex}{s:aI}{d:Nat}(j:rF d a F x s):az aq 277 #[ah s.toArray] a λe w=>e=ak (O U (cN x))/\Q [] a w:=by
 obtain⟨sl,rfl⟩:=mQ j;refine ret (atH _ _ _ _ _ _ ?_);intro u m r z f;refine(Oh m).mono ?_;rintro _ g ⟨l,rfl,N,c⟩;have A:=N.len;have B:I fP=6:=rfl;refine⟨l,rfl,c.same aah,λv i w=>∃n:Nat,n<=6/\i=(n:Int)/\v=6-n/\(∀k,k<n->x.op∉(fP[k]?).getD [])/\Q [] g w,6,⟨0,Z,rfl,rfl,λk hk=>absurd hk (ZV k),Only.refl _ _⟩,?_⟩;rintro v _ p ⟨n,t,rfl,rfl,o,b⟩;have G:Q [] a p:=(f.cd c).cd b;refine⟨λh=>?_,λh=>⟨?_,G⟩⟩
 ·simp only[aR,bG,dB]at h;obtain⟨oQ,W⟩:=h;have T:n<6:=J
  obtain⟨p0,D,V,L,M,Y,g4,F,H,rfl,S⟩:=N.get (ba n) J;rw[aW]at M;have K:(fP[n]?).getD []=D:=by rw[M];rfl
  have t1:=S.len;have t2:=S.cap;have t3:=S.big;refine⟨λv i w=>∃d:Nat,d<=I D/\i=(d:Int)/\v=(I D)-d/\(∀q y,q<d->D[q]? =aM y->y≠x.op)/\Q [] g w,I D,⟨0,be _,rfl,rfl,λq y E=>absurd E (ZV q),b⟩,?_⟩;rintro v _ w3 ⟨d,hj,rfl,rfl,P,C⟩;refine⟨p0,L,H,F.keep (C.block _ F.lt aag),λe=>?_,λR=>?_⟩
  ·have e:(d:Int)<(H.n:Int):=aO e;obtain⟨p3,am,aC,r1,n,r3,r4,r5,r6⟩:=(SliceF.only oH Z S C aag).get (ba d) e;unfold EI at r6;subst r6;rw[aW]at n;refine⟨p0,L,H,F.keep (C.block _ F.lt aag),p3,r1,am,r5,λhe w4 dI=>⟨?_,((f.cd c).cd C).cd dI⟩,λhe w5 eh=>⟨(I D)-(d+1),J,d+1,J,aaf,rfl,λq y E k=>?_,C.cd eh⟩⟩
   ·have he:am=x.op:=acT
    subst he;have:=ahb T (by rw[K];exact bn n);rw[cN,aV W,this]
   rcases pN q d with x | x
   ·exact P q y x k
   have:q=d:=J
   subst this;rw[n]at k;injection k with k;subst k;simpa using he
  have R:¬(d:Int)<(H.n:Int):=aU R;refine⟨6-(n+1),J,n+1,J,aaf,rfl,λk hk=>?_,C⟩;rcases pN k n with x | x
  ·exact o k x
  have:k=n:=J
  subst this;rw[K];intro y;obtain⟨q,E⟩:=iA y;exact P q _ (by have:=(bc.1 E).1;omega) E rfl
 rw[cN];by_cases d:x.k=5
 ·rw[aV d];have:n=6:=by
   rw[d]at h;simp at h;omega
  subst this;rw[abR o]
 rw[aP d]
def LV:∀(d:Nat) {a:av} {F:aJ} {x:Ex} {c:aI},(∀e,yq e x)->rF d a F x c->az aq 251 #[ah c.toArray] a λe w=>e=ak (aj (da d x))/\Q [] a w
 | 0,_,_,_,_,_,h=>h.elim
 | d+1,a,F,x,c,j,⟨sl,k,h⟩=>by
  subst k;refine ret (anc _ _ _ _ _ _ ?_);intro C u B A q;have o:=h.len;have E:=h.cap;have G:=h.big;have l:I x.s<4611686018427387903:=(j 1).1;have s:∀y,y∈x.dD->∀e,yq e y:=λy r e=>(j (e+1)).2 y r;have K:∀{b:Bool},iK x=b->da (d+1) x=(b&&lj (da d) x.dD):=λe=>by rw[da,e]
  refine⟨λv t w=>∃n:Nat,n<=I x.dD/\t=(n:Int)/\v=(I x.dD)-n/\lj (da d) x.dD=lj (da d) (x.dD.drop n)/\Q [] a w/\u.heap.size<=w.heap.size,I x.dD,⟨0,be _,rfl,rfl,rfl,q,aX _⟩,?_⟩;rintro v _ z ⟨n,H,rfl,rfl,g,D,L⟩;refine⟨λi=>?_,λm=>?_⟩
  ·have i:(n:Int)<(sl.n:Int):=aO i;obtain⟨p,y,R,N,e,S,T,P,M⟩:=(SliceF.only (fD d) Z h D aag).get (ba n) i;rw[aW]at e;obtain⟨V,rfl⟩:=mQ M;refine⟨p,N,_,_,_,_,_,_,P,(LV d (s y (bn e)) M).mono ?_⟩;rintro _ W ⟨rfl,b⟩;have z2:=b.size;have Y:=Gs (f:=da d) e;refine⟨_,rfl,b.same aah,λhb=>⟨?_,D.cd b⟩,λhb=>⟨(I x.dD)-(n+1),J,n+1,J,aaf,rfl,?_,D.cd b,J⟩⟩
   ·have hb:da d y=aL:=abS
    rw[da,g,Y,hb,db,gK]
   have hb:da d y=aE:=abS
   rw[g,Y,hb,cr]
  have m:¬(n:Int)<(sl.n:Int):=aU m;have:n=I x.dD:=J
  subst this;rw[dV (aX _)]at g;have e:da (d+1) x=iK x:=by
   rw[da,g];simp[lj]
  refine(sZ z x.s l).mono ?_;rintro _ M ⟨rfl,f⟩;have p:=D.cd f;have N:=f.size;have y:((T x.s).toList==(ao #[]).toList)=decide (x.s=[]):=iv x.s [];rw[y,o];refine⟨_,rfl,f.same aah,λhk=>⟨?_,p⟩,λhk=>⟨λb w=>b=decide (x.k=2∨x.k=3)/\w=M,?_,λqG=>⟨?_,rfl⟩,λqG=>⟨?_,rfl⟩⟩⟩
  ·have hk:x.k=1:=aay
   rw[e,iK,aV hk,SR];congr 4;rw[bL];simp only[bG,dB];split<;>omega
  ·have n:x.k≠1:=aay
   rintro _ _ ⟨rfl,rfl⟩;refine⟨λhb=>⟨?_,p⟩,λhb=>⟨λuw=>⟨?_,p⟩,λuw=>⟨λrl=>?_,λrl=>⟨?_,p⟩⟩⟩⟩
   ·have hb:=aO hb;rw[e,iK,aP n,aV hb,SR];have:decide (x.s=x.s)=aE:=bF rfl;rw[this,eo];cases(x.n==0)<;>cases dJ x.s<;>simp
   ·have hb:=aU hb;have uw:x.k=4:=adX
    rw[e,iK,aP n,aP hb,aV uw,SR];congr 3;rw[bL];simp only[cE,dB];split<;>omega
   ·have hb:=aU hb;have uw:x.k≠4:=adX
    have rl:x.k=5:=ahG
    have P:iK x=(!(gq x.op==6)&&SR 0 [] x.op 2 x):=by rw[iK,aP n,aP hb,aP uw,aV rl]
    have R:(x.op==x.op)=aE:=Uo _;refine⟨λb w=>b=iK x/\Q [] a w,?_,λS=>(Au (d:=d+1) (F:=F) (x:=x) ⟨sl,rfl,SliceF.only (fD d) Z h p aag⟩).mono ?_,λS=>⟨?_,p⟩⟩
    ·rintro _ _ ⟨rfl,b⟩;exact⟨e.symm▸rfl,b⟩
    ·rintro _ b ⟨rfl,d⟩;refine⟨_,rfl,d.same aah,?_,p.cd d⟩;rw[P,SR,S,R,eo,cr,cN,aV rl];congr 1;rw[bL];simp only[bG,de,Js];have:gq x.op<=6:=by
      unfold gq;split
      ·omega
      split
      ·omega
      split
      ·omega
      split
      ·omega
      split
      ·omega
      split
      ·omega
      omega
     omega
    rw[P,SR,S,db,db,gK]
   have hb:=aU hb;have uw:x.k≠4:=adX
   have rl:x.k≠5:=ahG
   rw[e,iK,aP n,aP hb,aP uw,aP rl]
  ·have qG:x.k=2:=ahH
   rw[qG];rfl
  have qG:x.k≠2:=ahH
  rw[bL];simp[qG]
def Bl(d:Nat)(x:Ex):Bool:=decide (ql d x≠[])
def an8(l m:aH):T l++T m=T (l++m):=by
 apply ByteArray.ext;simp[T]
def abT(w:av){n:Int}(b:0<=n)(c:n<=9223372036854775807):az aq 159 #[O U n] w λe a=>e=ak (.int .u64 n)/\a=w:=by
 refine ret (amC _ _ _ ?_);refine⟨λh=>absurd (aO h) J,λ_=>⟨?_,rfl⟩⟩;have:ar .u64 n=n:=by
  have e:ar .u64 n=n % 18446744073709551616:=rfl;rw[e];omega
 rw[this]
def vj(u:Nat)(h:u<=18446744073709551615):I (Lib.decDigits u)<=40:=by
 have e:∀(k u:Nat),u<10 ^ (k+1)->I (Lib.decDigits u)<=k+1:=by
  intro k
  induction k with
  | zero=>intro u a;rw[qW (by simpa using a)];simp
  | succ k i=>
   intro u a;by_cases v:u<10
   ·rw[qW v];simp
   rw[ui v,aQ,bB];have:=i (u/10) (by rw[Nat.div_lt_iff_lt_mul Z];rw[Nat.pow_succ]at a;exact a);omega
 have:=e 19 u (by have:(10:Nat) ^ (19+1)=100000000000000000000:=Z;omega);omega
def GK:∀(u:Nat) (w:av),u<=18446744073709551615->az aq 158 #[.int .u64 (u:Int)] w λe a=>e=ak (X (T (if u=0 then[]else Lib.decDigits u)))/\Q [] w a:=by
 intro u
 induction u using Nat.strongRecOn with
 | _ u i=>
  intro w d;refine ret (atq _ ?_);refine⟨λhc=>?_,λhc=>⟨λs a=>s=T (Lib.decDigits u)/\Q [] w a,λs a h=>?_,λb c=>⟨λk=>b.heap.size<=k,?_,?_⟩⟩⟩
  ·have hc:u=0:=by
    have:(u:Int)=0:=aaj
    omega
   rw[aV hc];exact⟨rfl,Only.refl _ _⟩
  ·have hc:u≠0:=λe=>ae6
   rw[aP hc,h.1];exact⟨rfl,h.2⟩
  all_goals
   have hc:u≠0:=λe=>ae6
   have wu:∀m:Nat,m<=18446744073709551615->ar .u64 (m:Int)=(m:Int):=λm g=>by
    have e:ar .u64 (m:Int)=(m:Int) % 18446744073709551616:=rfl;rw[e];omega
   have j:ar .u64 ((u:Int).tdiv 10)=((u/10:Nat):Int):=by
    have:(u:Int).tdiv 10=((u/10:Nat):Int):=by
     rw[Int.tdiv_eq_ediv_of_nonneg (ba u)];rfl
    rw[this,wu _ J]
   have g:(UInt8.ofNat (48+u % 10)).toNat=48+u % 10:=Aj (Nat.mod_lt _ Z);have k:ar .u8 (ar .u64 (48+((u:Int).tmod 10)))=((UInt8.ofNat (48+u % 10)).toNat:Int):=by
    have l:(48+((u:Int).tmod 10))=((48+u % 10:Nat):Int):=by
     rw[Int.tmod_eq_emod_of_nonneg (ba u)];omega
    rw[l,wu _ J,g];have e:ar .u8 ((48+u % 10:Nat):Int)=((48+u % 10:Nat):Int) % 256:=rfl;rw[e];omega
   have f:T (if u/10=0 then[]else Lib.decDigits (u/10))++T [UInt8.ofNat (48+u % 10)]=T (Lib.decDigits u):=by
    rw[an8];by_cases v:u<10
    ·rw[aV J,qW v,bR];congr 3;omega
    rw[aP J,<-ui v]
   have N:I (if u/10=0 then[]else Lib.decDigits (u/10))<=100:=by
    split
    ·simp
    have:=vj (u/10) J;omega
   rw[j,k]
  ·refine(i (u/10) J b J).mono ?_;rintro _ j ⟨rfl,e⟩;obtain⟨y,l,k,g,k3,_⟩:=uX j [UInt8.ofNat (48+u % 10)] (n:=1) (parts:=#[(0,.int .u8 ((UInt8.ofNat (48+u % 10)).toNat:Int))]) rfl rfl Z Z;refine⟨_,rfl,bT.only e,y,l,k,bT.only k3,[UInt8.ofNat (48+u % 10)],(SliceF.bytes (zK g)).rd,?_,f,(c.cd e).cd k3⟩;have:(ao [UInt8.ofNat (48+u % 10)].toArray).size=1:=rfl;rw[cM];omega
  obtain⟨y,g,k,j,k3,l⟩:=uX b [UInt8.ofNat (48+u % 10)] (n:=1) (parts:=#[(0,.int .u8 ((UInt8.ofNat (48+u % 10)).toNat:Int))]) rfl rfl Z Z;refine⟨y,g,k,bT.only k3,[UInt8.ofNat (48+u % 10)],λp e=>?_,(SliceF.bytes (zK j)).rd,(i (u/10) J g J).mono ?_⟩
  ·rw[l]at e;injection e with e;subst e;exact aX _
  rintro _ n ⟨rfl,m⟩;refine⟨_,rfl,bT.only m,?_,f,(c.cd k3).cd m⟩;have:(ao [UInt8.ofNat (48+u % 10)].toArray).size=1:=rfl;rw[cM];omega
def XN(w:av){n:Int}(h:0<=n)(b:n<=9223372036854775807):az aq 114 #[O U n] w λe c=>e=ak (X (T (Lib.itoa n)))/\Q [] w c:=by
 refine ret (amb _ ?_);refine⟨λhc=>?_,λhc=>⟨λa=>absurd (aO a) J,λ_=>(abT w h b).mono ?_⟩⟩
 ·have hc:n=0:=aaj
  subst hc;rw[rM (ky _),Int.toNat_zero,qW Z];exact⟨rfl,Only.refl _ _⟩
 have hc:n≠0:=aaj
 rintro _ e ⟨rfl,rfl⟩;obtain⟨u,rfl⟩:∃u:Nat,n=(u:Int):=⟨n.toNat,J⟩
 refine⟨_,rfl,(GK u _ J).mono ?_⟩;rintro _ f ⟨rfl,d⟩;refine⟨_,rfl,?_,d⟩;rw[aP J,rM h,aW]
def qX(l m:aH):aH:=if (I l)<=16384 then l++m else l
def xW(wr:Bool)(l:aH):aH:=if wr then qX l [40]else l
def yS(wr:Bool)(l:aH):aH:=if wr then qX l [41]else l
def Av:Nat->Ex->aH->aH
 | 0,_,l=>l
 | d+1,x,l=>if 16384<I l then l else
  if x.k=1 then qX l (Lib.itoa x.n)
  else if x.k=2 then qX l x.s
  else if x.k=3 then qX l ([105,110,40]++x.s++[41])
  else if x.k=4 then(match x.dD with
   | [y]=>yS (y.k==5) (Av d y (xW (y.k==5) (qX l (eY x.op.toNat))))
   | _=>l)
  else(match x.dD with
   | [y,z]=>yS (decide (cN z<=cN x)) (Av d z (xW (decide (cN z<=cN x)) (qX (yS (decide (cN y<cN x)) (Av d y (xW (decide (cN y<cN x)) l))) ([32]++eY x.op.toNat++[32]))))
   | _=>l)
def oI(l t r:aH):Prop:=(I l+I t<=16384->r=l++t)/\(16384<I l+(I t)->16384<I r)
def oI.put l m:oI l m (qX l m):=by
 unfold qX;refine⟨λa=>by rw[aV J],λa=>?_⟩;by_cases h:I l<=16384
 ·rw[aV h,aQ];omega
 rw[aP h];omega
def oI.trans{l t r t' r'}(h:oI l t r)(k:oI r t' r'):oI l (t++t') r':=by
 refine⟨λa=>?_,λa=>?_⟩
 ·rw[aQ]at a;rw[h.1 J]at k;rw[k.1 ac4,bq]
 rw[aQ]at a;by_cases b:I l+I t<=16384
 ·refine k.2 ?_;rw[h.1 b,aQ];omega
 have:=h.2 J;exact k.2 J
def oI.refl l:oI l [] l:=⟨λ_=>aag,λh=>acs⟩
def oI.long{l t}(h:16384<I l):oI l t l:=⟨λa=>J,λ_=>h⟩
def oI.opn(wr:Bool) l:oI l (if wr then[40]else[]) (xW wr l):=by
 cases wr
 ·exact oI.refl _
 exact oI.put _ _
def oI.clo(wr:Bool) l:oI l (if wr then[41]else[]) (yS wr l):=by
 cases wr
 ·exact oI.refl _
 exact oI.put _ _
def abU d x wr:nK (d+1) x wr=(if wr then[40]else[])++(nK (d+1) x aL++(if wr then[41]else[])):=by
 unfold nK;cases wr
 ·simp
 simp[clo,opn]
def XO{d}{x}(h:da d x=aE) wr:nK d x wr=(if wr then[40]else[])++(nK d x aL++(if wr then[41]else[])):=by
 cases d with
 | zero=>cases h
 | succ d=>exact abU d x wr
def an9{d}{y}(h:da d y=aE):decide (cN y<6)=(y.k==5):=by
 cases d with
 | zero=>cases h
 | succ d=>
  rw[da,aR]at h;rw[bL];simp;constructor
  ·intro a;refine bQ λn=>?_;rw[cN,aP n]at a;omega
  intro a;obtain⟨_,y,z,_,o,b⟩:=rH h.1 J J J J;rw[cN,aV a];have:=(CW o b).2;omega
def Ol:∀d {x:Ex} l,da d x=aE->oI l (nK d x aL) (Av d x l)
 | 0,x,l,h=>aal
 | d+1,x,l,h=>by
  rw[da,aR]at h;obtain⟨c,a⟩:=h;have e:nK (d+1) x aL=(
  if x.k=1 then Lib.itoa x.n
  else if x.k=2 then x.s
  else if x.k=3 then[105,110,40]++x.s++[41]
  else if x.k=4 then(match x.dD with
   | [y]=>eY x.op.toNat++nK d y _
   | _=>[])
  else(match x.dD with
   | [y,z]=>nK d y _++_++nK d z _
   | _=>[])):=rfl
  rw[Av];by_cases b:16384<I l
  ·rw[aV b];exact oI.long b
  rw[aP b,e];have part:∀{y:Ex} wr l,da d y=aE->oI l (nK d y wr) _:=fun{y} wr l h=>by
   rw[XO h wr];exact(oI.opn wr l).trans ((Ol d _ h).trans (oI.clo wr _))
  by_cases k:x.k=1
  ·rw[aV k,aV k];exact oI.put _ _
  by_cases d:x.k=2
  ·rw[aP k,aP k,aV d,aV d];exact oI.put _ _
  by_cases k3:x.k=3
  ·rw[aP k,aP k,aP d,aP d,aV k3,aV k3];exact oI.put _ _
  by_cases e:x.k=4
  ·obtain⟨y,h,_⟩:=wC c e;rw[aP k,aP k,aP d,aP d,aP k3,aP k3,aV e,aV e,h];rw[h]at a;simp[lj,eo]at a;dsimp only;rw[an9 a];exact(oI.put _ _).trans (part _ _ a)
  obtain⟨_,y,z,h,_⟩:=rH c k d k3 e;rw[aP k,aP k,aP d,aP d,aP k3,aP k3,aP e,aP e,h];rw[h]at a;simp[lj,eo,aR]at a;exact((part _ _ a.1).trans (oI.put _ _)).trans (part _ _ a.2)
def ahc{d}{x}(h:da d x=aE):∀wr l,I l+I (nK d x wr)<=16384->rG d x wr l=l++nK d x wr:=by
 induction d generalizing x with
 | zero=>cases h
 | succ d i=>
  intro wr l f;rw[da,aR]at h;obtain⟨b,a⟩:=h;have c:¬16384<I l:=J
  rw[rG,aP c];rw[nK]at f⊢;rw[<-Xf];have m:=N7 wr (opn wr []++(
  if x.k=1 then Lib.itoa x.n
  else if x.k=2 then x.s
  else if x.k=3 then[105,110,40]++x.s++[41]
  else if x.k=4 then(match x.dD with
   | [y]=>eY x.op.toNat++nK d y (decide (cN y<6))
   | _=>[])
  else(match x.dD with
   | [y,z]=>nK d y (decide (cN y<cN x))++([32]++eY x.op.toNat++[32])++nK d z (decide (cN z<=cN x))
   | _=>[])))
  have W:=bD (Nat.add_le_add_left m (I l)) f;by_cases k:x.k=1
  ·rw[aV k,aV k,pG wr l,bq]
  by_cases e:x.k=2
  ·rw[aP k,aP k,aV e,aV e,pG wr l,bq]
  by_cases k3:x.k=3
  ·rw[aP k,aP k,aP e,aP e,aV k3,aV k3,pG wr l,bq]
  by_cases g:x.k=4
  ·obtain⟨y,d,_⟩:=wC b g;rw[aP k,aP e,aP k3,aV g,d]at W;rw[aP k,aP k,aP e,aP e,aP k3,aP k3,aV g,aV g,d];rw[d]at a;dsimp only at W⊢;simp[lj,eo]at a;simp at W;rw[i a _ _ (by rw[pG wr l];simp;omega),pG wr l];simp
  obtain⟨_,y,z,j,_⟩:=rH b k e k3 g;rw[aP k,aP e,aP k3,aP g,j]at W;rw[aP k,aP k,aP e,aP e,aP k3,aP k3,aP g,aP g,j];rw[j]at a;dsimp only at W⊢;simp[lj,eo,aR]at a;simp only[aQ]at W;have n:rG d y _ _=opn wr l++nK d y (decide (cN y<cN x)):=i a.1 _ _ (by rw[pG wr l];simp;omega);rw[n,i a.2 _ _ (by rw[pG wr l];simp only[aQ];omega),pG wr l];simp
def Tv{d}{x}(s:da d x=aE)(n:my d x):ql d x=(if 16384<I (Av d x [])∨(iU (Av d x [])).2.1≠0 then[]else Av d x [])/\((iU (Av d x [])).2.1=0->I (Av d x [])<=16384->Av d x []=rG d x aL []):=by
 have r:=Ol d (x:=x) [] s;unfold oI at r;rw[bC,bP,bR]at r;have long:∀l,16384<(I l)->(iU l).2.1≠0:=λl h=>by
  have:di l=([],2, -1):=by rw[di,aV h]
  unfold iU;rw[this,aV Z];exact Z
 by_cases t:I (nK d x aL)<=16384
 ·have e:=by
   have:=ahc s aL [] acV;rwa[bR]at this
  rw[r.1 t,ql,aV s,e];refine⟨?_,λ_ _=>rfl⟩;by_cases c:(iU (nK d x aL)).2.1≠0
  ·rw[aV c,aV (.inr c)]
  rw[aP c,aP (by rintro(h | h);omega;exact c h)]
 have a:16384<I (rG d x aL []):=by
  refine bQ λn=>?_;have:=GB d aL [] s J;rw[bR]at this;rw[this]at n;omega
 refine⟨?_,λ_ h=>J⟩;rw[aV (.inl (r.2 J)),ql,aV s,aV (long _ a)]
def vm l m {K} (b:I m<=40) (h:I l<=K) (a:16424<=K):I (qX l m)<=K:=by
 unfold qX;split
 ·rw[aQ];omega
 exact h
def Bm wr l {K} (h:I l<=K) (a:16424<=K):I (xW wr l)<=K:=by
 cases wr
 ·exact h
 exact vm _ _ Z h a
def IH wr l {K} (h:I l<=K) (a:16424<=K):I (yS wr l)<=K:=by
 cases wr
 ·exact h
 exact vm _ _ Z h a
def LW:∀d {x:Ex} l {K:Nat},da d x=aE->my d x->I l<=K->16424<=K->I (Av d x l)<=K
 | 0,x,l,K,h,_,_,_=>aal
 | d+1,x,l,K,h,⟨n,s⟩,c,a=>by
  rw[da,aR]at h;obtain⟨e,b⟩:=h;rw[Av];split
  ·exact c
  split
  ·exact vm _ _ (by have:=Lib.itoa_length_le x.n n.1 n.2;omega) c a
  split
  ·rename_i hk;exact vm _ _ (by have:=jg (lm e (.inl hk));omega) c a
  split
  ·rename_i hk;refine vm _ _ ?_ c a;have:=jg (lm e (.inr hk));rw[aQ,aQ];simp only[aY,bC];omega
  split
  ·rename_i hk;obtain⟨y,h,_⟩:=wC e hk;rw[h]at b s⊢;simp only[lj,eo]at b;have:=nA x.op.toNat;exact IH _ _ (LW d _ b (s y aag) (Bm _ _ (vm _ _ J c a) a) a) a
  rename_i k f k3 g;obtain⟨hk,y,z,h,_⟩:=rH e k f k3 g;rw[h]at b s⊢;simp only[lj,eo,aR]at b;have:=nA x.op.toNat;exact IH _ _ (LW d _ b.2 (s z aag) (Bm _ _ (vm _ _ (by rw[aQ,aQ];simp only[aY,bC];omega) (IH _ _ (LW d _ b.1 (s y aag) (Bm _ _ c a) a) a) a) a) a) a
structure Pq (w:av) (b:Nat) (sl:Sl) (l:aH):Prop where
 blk:aF w b 314 [sl.v]
 buf:Bf w (b+1) sl l
section
variable {w w0 w1 w2 w':av} {b k0:Nat} {sl sl' T5:Sl} {l:aH}
def Pq.only(h:Pq w b sl l)(a:Q [] w w'):Pq w' b sl l:=⟨a.blk h.blk aag,h.buf.keep λg _ c=>a.block g c aag⟩
def Pq.lb(h:Pq w b sl l):b<w.heap.size:=h.blk.lt
def kc.sm(M:kc b sl w0 sl' w1)(h:k0≠b)(a:sl.a≠aM ⟨k0,0,aaa⟩)(c:k0<w0.heap.size)(S:kc b sl' w1 T5 w2):cu [k0] w1 w2:=S.same h (λe=>by
 rcases M.2 k0 e with e | e
 ·exact a e
 omega) (by have:=M.1.size;omega)
def Pq.YA(h:Pq w0 b sl l){k}(hk:k<b):¬(k=b∨sl.a=aM ⟨k,0,aaa⟩):=by
 rintro(e | e)
 ·omega
 have:=(h.buf.lt e).1;omega
def kc.kp(M:kc b sl w0 sl' w1)(h:Pq w0 b sl l)(d:k0≠b)(f:sl.a≠aM ⟨k0,0,aaa⟩)(g:k0<w0.heap.size)(S:kc b sl' w1 T5 w2):bT (λk=>k<b∨k=k0) w1 w2:=λk hk c=>S.1.block k c λa=>by
 have i:=h.lb;rcases hk with hk | rfl
 ·rcases a with e | e
  ·omega
  rcases M.2 k e with e | e
  ·exact h.YA hk (.inr e)
  omega
 rcases a with e | e
 ·exact d e
 rcases M.2 k e with e | e
 ·exact f e
 omega
def BZ(h:Pq w b sl l) m (a:I l+I m<=140737488355328):az aq 278 #[ae (aM ⟨b,0,aaa⟩),X (T m)] w λe w'=>∃sl',e=ak (ai #[])/\Pq w' b sl' (qX l m)/\kc b sl w sl' w':=by
 refine ik (atI _ _ ?_);have n:=h.buf.len;have c:=h.lb;refine⟨sl,Blk.dP h.blk 0 rfl,λhc=>?_,λhc=>⟨sl,rfl,?_,kc.refl _ _ _⟩⟩
 ·have hc:I l<=16384:=aa1
  obtain⟨s,w1,i,j,k3,f⟩:=CN h.buf m J a;have AK:∀g,s.a=aM ⟨g,0,aaa⟩->b<g:=λg hg=>by
   rcases f with e | e
   ·rw[e]at hg;exact(h.buf.lt hg).1
   rw[e]at hg;injection hg with hg;injection hg with hg;omega
  refine⟨sl,Blk.dP h.blk 0 rfl,s,w1,i,b,0,_,_,rfl,k3.blk h.blk λe=>by have:=(h.buf.lt e).1;omega,aag,λw2 d o=>⟨s,rfl,⟨o,?_⟩,?_,?_⟩⟩
  ·rw[qX,aV hc];exact j.keep λg hg l=>d.block g l adZ
  ·exact(k3.mono λk _ hk=>.inr hk).trans (d.p (F:=λk=>k=b) λx hx=>.inl acD) λk hk=>.inl (.inl hk)
  intro k hk;rcases f with e | e
  ·rw[e]at hk;exact .inl hk
  rw[e]at hk;injection hk with hk;injection hk with hk;exact .inr J
 have hc:¬(I l)<=16384:=aa6
 rw[qX,aP hc];exact h
end
abbrev RgC(d:Nat):Prop:=∀{F:aJ} {w:av} {b:Nat} {sl:Sl} {l:aH} {x:Ex} {c:aI},da d x=aE->my d x->rF d w F x c->(∀k,F k->k<b)->Pq w b sl l->I l<=16424->
 az aq 252 #[ae (aM ⟨b,0,aaa⟩),ah c.toArray] w λe a=>∃sl',e=ak (ai #[])/\Pq a b sl' (Av d x l)/\kc b sl w sl' a
def II{d}(R:RgC d){F}{w}{b}{sl}{l}{x}{cs} wr (i:da d x=aE) (n:my d x) (j:rF d w F x cs) (h:∀k,F k->k<b) (hP:Pq w b sl l) (g:I l<=16424):
  az aq 279 #[ae (aM ⟨b,0,aaa⟩),ah cs.toArray,aj wr] w λe p=>∃sl',e=ak (ai #[])/\Pq p b sl' (yS wr (Av d x (xW wr l)))/\kc b sl w sl' p:=by
 obtain⟨t,rfl⟩:=mQ j;refine ik (atJ _ _ _ _ _ _ _ _ ?_);intro m q Z z c;have r:=hP.lb;have M:=hP.only c;have o:m≠b:=J
 have a:sl.a≠aM ⟨m,0,aaa⟩:=λe=>acY
 refine⟨λf=>∃s,Pq f b s (xW wr l)/\kc b sl q s f,?_,λhw=>(BZ M [40] ae7).mono ?_,λhw=>⟨sl,by rw[hw];exact M,kc.refl _ _ _⟩⟩
 ·rintro f ⟨s,y,b⟩;refine(R i n ((fD d).keep (ix j c) λk hk v=>b.1.block k v (M.YA (h k hk))) h y (Bm _ _ g (aX _))).mono ?_;rintro _ B ⟨T,rfl,u,e⟩;refine⟨rfl,b.sm o a z e,λhw=>(BZ u [41] (by have:=(λA w=>LW d (x:=x) A (K:=16424) i n w (aX _)) _ (Bm wr l g (aX _));rw[bB];omega)).mono ?_,λhw=>⟨T,rfl,?_,(b.trans e).after c⟩⟩
  ·rintro _ x ⟨l,rfl,k,d⟩;refine⟨rfl,(b.trans e).sm o a z d,l,rfl,?_,((b.trans e).trans d).after c⟩;unfold yS;rw[aV hw];exact k
  unfold yS;rw[aP afr];exact u
 rintro _ w ⟨l,rfl,e,d⟩;refine⟨rfl,(kc.refl b sl q).sm o a z d,l,?_,d⟩;unfold xW;rw[aV hw];exact e
def XP{k j:Nat}{op}(hk:k<6)(a:((fP[k]?).getD [])[j]? =aM op):((rP[k]?).getD [])[j]? =aM (eY op.toNat):=by
 have h:j<4:=by
  have c:=(bc.1 a).1;have b:∀k,k<6->I ((fP[k]?).getD [])<=4:=Z
  have:=b k hk;omega
 have g:∀k,k<6->∀j,j<4->∀o,((fP[k]?).getD [])[j]? =aM o->((rP[k]?).getD [])[j]? =aM (eY o.toNat):=by
  intro k hk j h o b
  match k,hk,j,h with
  | 0,_,0,_=>simp[fP]at b;subst b;rfl
  | 0,_,j+1,_=>simp[fP]at b
  | 1,_,0,_=>simp[fP]at b;subst b;rfl
  | 1,_,j+1,_=>simp[fP]at b
  | 2,_,0,_=>simp[fP]at b;subst b;rfl
  | 2,_,1,_=>simp[fP]at b;subst b;rfl
  | 2,_,j+2,_=>simp[fP]at b
  | 3,_,0,_=>simp[fP]at b;subst b;rfl
  | 3,_,1,_=>simp[fP]at b;subst b;rfl
  | 3,_,2,_=>simp[fP]at b;subst b;rfl
  | 3,_,3,_=>simp[fP]at b;subst b;rfl
  | 4,_,0,_=>simp[fP]at b;subst b;rfl
  | 4,_,1,_=>simp[fP]at b;subst b;rfl
  | 4,_,j+2,_=>simp[fP]at b
  | 5,_,0,_=>simp[fP]at b;subst b;rfl
  | 5,_,1,_=>simp[fP]at b;subst b;rfl
  | 5,_,2,_=>simp[fP]at b;subst b;rfl
  | 5,_,j+3,_=>simp[fP]at b
 exact g k hk j h op a
def Om{k}(hk:k<6):((fP[k]?).getD []).Nodup:=by
 have:∀k,k<6->((fP[k]?).getD []).Nodup:=Z
 exact this k hk
def XQ{op}(h:1<=op)(a:op<=13):op∈(fP[(gq op).toNat]?).getD []:=by
 have:∀n:Nat,n<14->1<=n->((n:Int))∈(fP[(gq n).toNat]?).getD []:=Z
 have:=this op.toNat J J;rwa[fL J]at this
def CZ:∀d,RgC d
 | 0,_,_,_,_,_,_,_,_,_,h,_,_,_=>h.elim
 | d+1,t,H,b,sl,l,x,u,v,⟨n,R⟩,⟨p,A,B⟩,F,hP,N=>by
  subst A;refine ik (atB _ _ _ _ _ _ _ ?_);rw[da,aR]at v;obtain⟨h,ha⟩:=v;intro m w E a f;have G:=hP.lb;have M:=hP.only f;have C:=SliceF.only (fD d) Z B f aag;have o:m≠b:=J
  have c:sl.a≠aM ⟨m,0,aaa⟩:=λe=>acY
  have D:=hP.buf.len;have r:=kc.refl b sl w;have sub:∀{j:av} {g:Sl} {i:Nat} {y:Ex},kc b sl w g j->x.dD[i]? =aM y->∃ad s,cR p (i:Int) 6 ad/\ad.block<b/\aB j ad (nR y.k y.n y.s y.op s y.a)/\rF d j t y (nR y.k y.n y.s y.op s y.a):=fun{j g i y} m1 hy=>by
   have S:=SliceF.kU (fD d) Z C m1.1 λk hk _=>M.YA (F k hk);have L:=S.len;have z:=(bc.1 hy).1;obtain⟨ad,P,u,q,b,x,K,y,e⟩:=S.get (ba i) J;rw[aW,hy]at b;injection b with b;subst b;obtain⟨s,rfl⟩:=mQ e;exact⟨ad,s,q,F _ x,y,e⟩
  refine⟨sl,Blk.dP M.blk 0 rfl,λhc=>⟨sl,rfl,?_,kc.only f⟩,λhc=>?_⟩
  ·rw[Av,aV aa1];exact M
  have hc:¬16384<I l:=aa6
  have K:Av (d+1) x l=(if x.k=1 then qX l (Lib.itoa x.n)
  else if x.k=2 then qX l x.s
  else if x.k=3 then qX l ([105,110,40]++x.s++[41])
  else if x.k=4 then(match x.dD with
   | [y]=>yS (y.k==5) (Av d y (xW (y.k==5) (qX l (eY x.op.toNat))))
   | _=>l)
  else(match x.dD with
   | [y,z]=>yS (decide (cN z<=cN x)) (Av d z (xW (decide (cN z<=cN x)) (qX (yS (decide (cN y<cN x)) (Av d y (xW (decide (cN y<cN x)) l))) ([32]++eY x.op.toNat++[32]))))
   | _=>l)):=by rw[Av,aP hc]
  refine⟨λhk=>?_,λk1=>⟨λhk=>?_,λk2=>⟨λhk=>⟨?_,?_,?_⟩,λk3=>⟨λhk=>?_,λk4=>⟨λ_=>?_,λL=>?_⟩⟩⟩⟩⟩
  ·have hk:x.k=1:=aay
   have d:0<=x.n:=by
    rw[iK,aV hk]at h;have:=(yr h).1;split at this<;>omega
   refine(XN w d n.2).mono ?_;rintro _ j ⟨rfl,b⟩;have e:=Lib.itoa_length_le x.n n.1 n.2;refine⟨_,rfl,b.same aah,(BZ (M.only b) (Lib.itoa x.n) J).mono ?_⟩;rintro _ i ⟨T,rfl,Y,W⟩;exact⟨rfl,(kc.only b).sm o c a W,T,rfl,by rw[K,aV hk];exact Y,(W.after b).after f⟩
  ·have hk:x.k=2:=aay
   have k1:x.k≠1:=J
   have b:=jg (lm h (.inl hk));refine(BZ M x.s J).mono ?_;rintro _ d ⟨T,rfl,Y,W⟩;exact⟨rfl,r.sm o c a W,T,rfl,by rw[K,aP k1,aV hk];exact Y,W.after f⟩
  ·have hk:x.k=3:=aay
   have b:=jg (lm h (.inr hk));rw[cM];omega
  ·have hk:x.k=3:=aay
   have b:=jg (lm h (.inr hk));rw[inz];have:(ao #[105,110,40]).size=3:=rfl;omega
  ·have hk:x.k=3:=aay
   have b:=jg (lm h (.inr hk));have y:I ([105,110,40]++x.s++[41]:aH)=I x.s+4:=by
    rw[aQ,aQ];simp only[aY,bC];omega
   rw[inb];refine(BZ M _ J).mono ?_;rintro _ d ⟨T,rfl,Y,W⟩;exact⟨rfl,r.sm o c a W,T,rfl,by rw[K,aP J,aP J,aV hk];exact Y,W.after f⟩
  ·have hk:x.k=4:=aay
   obtain⟨y,hy,S⟩:=wC h hk;have k:da d y=aE:=acN
   have W:my d y:=R y adJ;have P:=nA x.op.toNat;have q:Av (d+1) x l=yS (y.k==5) (Av d y (xW (y.k==5) (qX l (eY x.op.toNat)))):=by rw[K,aP J,aP J,aP J,aV hk,hy]
   refine⟨λz=>∃e,Pq z b e (qX l (eY x.op.toNat))/\kc b sl w e z,?_,λho=>?_,λho=>?_⟩
   ·rintro z ⟨e,h5,m5⟩;obtain⟨p1,s,x,e2,_,_⟩:=sub (i:=0) m5 adI;refine⟨p1,x,λw6 dK=>?_⟩;have Y:=m5.trans (kc.only dK);obtain⟨am,aT,T,aS,b,V⟩:=sub (i:=0) Y (y:=y) adI;have:=cR.Cp T x;subst this;refine⟨_,_,_,_,_,_,b,am,x,y.k,b.dP 0 _ rfl,(II (CZ d) (y.k==5) k W V F (h5.only dK) (vm _ _ J N (aX _))).mono ?_⟩;rintro _ w7 ⟨aC,rfl,h7,m7⟩;exact⟨rfl,Y.sm o c a m7,aC,rfl,by rw[q];exact h7,(Y.trans m7).after f⟩
   ·have ho:x.op=14:=ahE
    refine(BZ M [45] ae7).mono ?_;rintro _ y ⟨b,rfl,i,d⟩;exact⟨rfl,r.sm o c a d,b,by rw[ho];exact i,d⟩
   have ho:x.op=15:=by
    have:x.op≠14:=ahE
    omega
   refine(BZ M [33] ae7).mono ?_;rintro _ y ⟨b,rfl,i,d⟩;exact⟨rfl,r.sm o c a d,b,by rw[ho];exact i,d⟩
  ·have k1:x.k≠1:=aeJ
   have k2:x.k≠2:=ahI
   have k3:x.k≠3:=aeM
   have k4:x.k≠4:=aeN
   obtain⟨hk,y,z,hy,YV,OB⟩:=rH h k1 k2 k3 k4;have BH:da d y=aE/\da d z=aE:=acN
   have FW:my d y:=R y adJ;have UO:my d z:=R z adJ;have Zb:=nA x.op.toNat;have fd:cN x=gq x.op:=by rw[cN,aV hk]
   obtain⟨r0,r5⟩:=CW YV OB;have gO:Av (d+1) x l=yS (decide (cN z<=cN x)) (Av d z (xW (decide (cN z<=cN x)) (qX (yS (decide (cN y<cN x)) (Av d y (xW (decide (cN y<cN x)) l))) ([32]++eY x.op.toNat++[32])))):=by rw[K,aP k1,aP k2,aP k3,aP k4,hy]
   refine(Au (show rF (d+1) _ t x (nR x.k x.n x.s x.op p x.a)from⟨p,rfl,C⟩)).mono ?_;rintro _ dz ⟨rfl,dX⟩;have z0:=f.size;have JG:=dX.size;refine⟨_,rfl,dX.same aah,(Oh dz).mono ?_⟩;rintro _ dF ⟨l2,rfl,hN,dT⟩;have C3:=dT.size;have m0:=hN.len;have m6:I fP=6:=rfl;obtain⟨kr,bV⟩:∃kr:Nat,cN x=(kr:Int):=⟨(cN x).toNat,J⟩
   have co:kr<6:=J
   obtain⟨p2,T,gT,e1,e2,e3,e4,e5,l3,rfl,hM⟩:=(SliceF.inHeap (xF oH) hN Z).get (i:=cN x) J J;have bY:(fP[kr]?).getD []=T:=by
    rw[bV,aW]at e2;rw[e2];rfl
   refine⟨l2,rfl,dT.same aah,p2,e1,l3,e5,λeZ eW=>?_⟩;have cC:kc b sl w sl eZ:=kc.only ((dX.cd dT).cd eW);have Zv:=M.only ((dX.cd dT).cd eW);have dO:=SliceF.only oH Z hM eW aag;have g8:=eW.size;obtain⟨p3,s,f1,f2,f3,f4⟩:=sub (i:=0) cC (y:=y) adI;refine⟨λk=>k<b∨k=m,.inr rfl,p3,f1,.inl f2,_,_,_,_,_,_,f3,p3,f1,_,_,_,_,_,_,f3,(Au f4).mono ?_⟩;rintro _ fl ⟨rfl,eE⟩;have T2:=eE.size;have cc:=cC.trans (kc.only eE);have gE:I (xW (decide (cN y<cN x)) l)<=16424:=Bm _ _ N (aX _);refine⟨_,rfl,eE.same aah,bT.only eE,(II (CZ d) (decide (cN y<cN x)) BH.1 FW (ix f4 eE) F (Zv.only eE) N).mono ?_⟩;rintro _ gw ⟨T7,rfl,UX,V⟩;have bv:=cc.trans V;have ip:=V.1.size;generalize hA:yS (decide (cN y<cN x)) (Av d y (xW (decide (cN y<cN x)) l))=ce at*
   have eQ:I ce<=16424:=by rw[<-hA];exact IH _ _ (LW d _ BH.1 FW gE (aX _)) (aX _)
   have el:∀{Y:av} {W:Sl},kc b T7 gw W Y->aA EI 1 Y (λk=>dz.heap.size<=k/\k<dF.heap.size) l3 T:=fun{Y W} S=>by
    have d:kc b sl eZ W Y:=((kc.only eE).trans V).trans S;refine SliceF.kU oH Z dO d.1 λk hk _ h=>?_;rcases h with e | e
    ·omega
    have:=(M.buf.lt e).2;omega
   have t1:=hM.len;have t2:=hM.cap;have t3:=hM.big;refine⟨rfl,cc.sm o c a V,cc.kp M o c a V,λnv i Y=>∃(P:Nat) (W:Sl),P<=I T/\i=(P:Int)/\nv=(I T)-P/\Pq Y b W (if x.op∈T.take P then qX ce ([32]++eY x.op.toNat++[32])else ce)/\kc b T7 gw W Y,I T,⟨0,T7,be _,rfl,rfl,by rw[cA,aP aag];exact UX,kc.refl _ _ _⟩,?_⟩;rintro nv _ Y ⟨P,W,hj,rfl,rfl,C6,S⟩;have gG:T.Nodup:=bY▸Om co;refine⟨λbU=>?_,λma nj jN=>?_⟩
   ·have bU:(P:Int)<(l3.n:Int):=aO bU;obtain⟨p5,q,iD,g1,y,g3,g4,g5,g6⟩:=(el S).get (ba P) bU;unfold EI at g6;subst g6;rw[aW]at y;refine⟨λjw=>∃d:Sl,Pq jw b d (if x.op∈T.take (P+1)then qX ce ([32]++eY x.op.toNat++[32])else ce)/\kc b T7 gw d jw,?_,p5,g1,q,g5,λhe iX z=>(XD iX).mono ?_,λhe kg lr=>⟨W,?_,S.trans (kc.only lr)⟩⟩
    ·rintro jw ⟨d,b,e⟩;exact⟨(I T)-(P+1),J,P+1,d,J,aaf,rfl,b,e⟩
    ·have he:q=x.op:=acT
     subst he;rintro _ ku ⟨l6,rfl,e,j9⟩;have n0:=e.len;have n6:I rP=6:=rfl;obtain⟨p6,x6,mK,u1,u2,u3,u4,u5,l7,rfl,hS⟩:=e.get (i:=cN x) J J;have mt:(rP[kr]?).getD []=x6:=by
      rw[bV,aW]at u2;rw[u2];rfl
     have b:=XP (k:=kr) (j:=P) co (by rw[bY];exact y);rw[mt]at b;have v0:=hS.len;obtain⟨p7,s7,nO,v1,v2,v3,v4,v5,v6⟩:=hS.get (i:=(P:Int)) (ba P) (by have:=(bc.1 b).1;omega);unfold mh at v6;subst v6;rw[aW,b]at v2;injection v2 with v2;subst v2;have wV:(ao #[32]).size=1:=rfl;have iF:=S.trans (kc.only (z.cd j9));have yW:I ([32]++eY x.op.toNat++[32]:aH)=I (eY x.op.toNat)+2:=by
      rw[aQ,aQ];simp only[aY,bC];omega
     have iS:x.op∉T.take P:=λhm=>by
      obtain⟨k,i⟩:=iA hm;rw[yh]at i;split at i
      ·rename_i q;have:=(List.getElem?_inj J gG).1 (i.trans y.symm);omega
      cases i
     rw[aP iS]at C6;refine⟨l6,rfl,j9.same (by
      have:=bv.1.size;have:=S.1.size;have:=z.size;simp;omega),p6,u1,l7,u5,p7,v1,_,v5,aa2,by rw[inz];omega,?_⟩
     rw[blb];refine(BZ (C6.only (z.cd j9)) _ J).mono ?_;rintro _ lZ ⟨lE,rfl,lT,iN⟩;refine⟨rfl,(bv.trans iF).sm o c a iN,lE,?_,iF.trans iN⟩;rw[aV (by rw[bh,y];simp)];exact lT
    have he:q≠x.op:=acT
    have:(x.op∈T.take (P+1))↔(x.op∈T.take P):=by
     rw[bh,y,ch];simp;intro e;exact absurd e.symm he
    simp only[this];exact C6.only lr
   have ma:¬(P:Int)<(l3.n:Int):=aU ma;have:P=I T:=J
   subst this;have O2:x.op∈T.take (I T):=by
    rw[bm (aX _)];have:=XQ YV OB;rw[<-fd,bV,aW,bY]at this;exact this
   rw[aV O2]at C6;have e:=(bv.trans S).trans (kc.only jN);obtain⟨p8,sz,f1,f2,f3,f4⟩:=sub (i:=1) e (y:=z) adI;refine⟨λk=>k<b∨k=m,.inr rfl,p8,f1,.inl f2,_,_,_,_,_,_,f3,p8,f1,_,_,_,_,_,_,f3,(Au f4).mono ?_⟩;rintro _ pI ⟨rfl,sF⟩;have q:=e.trans (kc.only sF);have oR:=e.1.size;have yW:I ([32]++eY x.op.toNat++[32]:aH)<=40:=by
    rw[aQ,aQ];simp only[aY,bC];omega
   refine⟨_,rfl,sF.same aah,bT.only sF,(II (CZ d) (decide (cN z<=cN x)) BH.2 UO (ix f4 sF) F ((C6.only jN).only sF) (vm _ _ yW eQ (aX _))).mono ?_⟩;rintro _ th ⟨oF,rfl,oN,n8⟩;exact⟨rfl,q.sm o c a n8,q.kp M o c a n8,oF,rfl,by rw[gO];exact oN,(q.trans n8).after f⟩
  have k1:x.k≠1:=aeJ
  have k2:x.k≠2:=ahI
  have k3:x.k≠3:=aeM
  have k4:x.k≠4:=aeN
  have L:x.k≠5:=by simpa using L
  exact absurd (rH h k1 k2 k3 k4).1 L
def Bf.bytes{w:av}{B:Nat}{s:Sl}{l:aH}(h:Bf w B s l):vD w s l:=by
 rcases h with⟨rfl,rfl⟩ | ⟨g,tail,a,d,b,e,c,f,i,j⟩
 ·exact⟨rfl,λh=>absurd rfl h⟩
 exact⟨c,λ_=>⟨⟨g,0,aaa⟩,a,b.cells 0 (l.map iT) λk v hj=>ac9⟩⟩
def abV{d:Nat}{w:av}{F:aJ}{x:Ex}{s:aI}(a:rF d w F x s)(l:∀e,yq e x)(n:my d x):
  az aq 221 #[ah s.toArray] w λe g=>e=ak (ai #[X (T (ql d x)),aj (Bl d x)])/\Q [] w g:=by
 obtain⟨A,rfl⟩:=mQ a;refine ret (atz _ _ _ _ _ _ ?_);intro p v m z q;have i:=(fD d).inHeap a;refine(LV d l (ix a q)).mono ?_;rintro _ y ⟨rfl,D⟩;have B:=q.size;have C:=D.size;have u:=q.cd D;refine⟨_,rfl,D.same aah,λhs=>?_,λhs f j r M b o=>?_⟩
 ·have hs:da d x=aL:=ahJ
  rw[Bl,ql,aP aec];exact⟨rfl,u⟩
 have hs:da d x=aE:=ahJ
 have z2:=b.size;have lG:=u.cd b;have S:Pq j f Sl.nil []:=⟨o,.inl ⟨rfl,rfl⟩⟩
 refine(CZ d hs n (ix i lG) (λk hk=>acL) S Z).mono ?_;rintro _ w3 ⟨K,rfl,H,T⟩;have z3:=T.1.size;have dh:Q [] w w3:=(lG.qz T.1).only λk hk=>by
  rcases hk with rfl | e
  ·omega
  cases e
 obtain⟨E,R0⟩:=Tv hs n;have ii:Av d x []≠[]:=by
  intro e;obtain⟨c,t,k,_⟩:=xz d aL hs n;have h:=Ol d (x:=x) [] hs;by_cases fN:I (nK d x aL)<=16384
  ·have:=h.1 acV;rw[e,k]at this;simp at this
  have:=h.2 acV;rw[e]at this;simp at this
 generalize hG:Av d x []=G at*
 refine⟨rfl,T.same J (λe=>aeZ) J,K,H.blk,G,H.buf.bytes,(abQ w3 G).mono ?_⟩;rintro _ w4 ⟨ys,rfl,hY,L⟩;have z4:=L.size;obtain⟨d2,V⟩:=hY.ex;obtain⟨yl,rfl,_⟩:=hY.cells;have sE:=L.blk H.blk aag;refine⟨_,_,_,_,_,_,_,_,rfl,L.same aah,K,sE,λk2 k3 w5 qG oL yZ ur R vQ=>?_⟩;have z5:=R.size;have Y:=(dh.cd L).cd R;refine(NR aL d (ix a Y) (ix V R)).mono ?_;rintro _ w6 ⟨rfl,P⟩;have FR:=Y.cd P;have W:((ao G.toArray).size:Int)=(I G:Int):=by
  have:(ao G.toArray).size=I G:=cM G;rw[this]
 refine⟨_,rfl,P.same aah,K,P.blk vQ aag,?_⟩;rw[W];by_cases N:16384<I G∨(iU G).2.1≠0
 ·have c:(decide ((I G:Int)>16384)||((iU G).2.1 !=0))=aE:=by
   rcases N with h | h
   ·rw[bF J,CB]
   have:((iU G).2.1 !=0)=aE:=acs
   rw[this,pM]
  rw[c,CB];rw[aV N]at E;refine⟨λ_=>?_,λh=>aal⟩;rw[Bl,E];exact⟨rfl,FR⟩
 have t:I G<=16384:=J
 have k:(iU G).2.1=0:=by
  refine bQ λh=>N (.inr h)
 have e:=R0 k t;have c:Sim x (iU G).1:=by
  have:=LD hs n (by rw[<-e];exact k);rw[<-e]at this;exact this.2
 rw[aP N]at E;rw[c.same d,k,bA J];refine⟨λh=>aal,λ_=>?_⟩;rw[Bl,E,bF ii];exact⟨rfl,FR⟩
section
variable {w:av} {F:aJ} {x:Ex} {cs:aI}
def LX(c:rE aL w F x cs)(n:SU x)(s:Eb x<=1759218604441):
  az aq 221 #[ah cs.toArray] w λe a=>e=ak (ai #[X (T (xT x)),aj (uc x)])/\Q [] w a:=by
 obtain⟨d,h⟩:=c;have h:=yL h;refine(abV h (λe=>NV e x J) (n d)).mono ?_;rintro _ a ⟨rfl,b⟩;rw[Bl,P6 (NT h)];exact⟨rfl,b⟩
def GL(h:rE aL w F x cs)(n:SU x)(s:Eb x<=1759218604441):
  az aq 219 #[ah cs.toArray] w λe a=>e=ak (aj (uc x))/\Q [] w a:=by
 obtain⟨sl,rfl⟩:=eU h;refine ret (am7 _ _ _ _ _ _ ?_);intro d g f z q;refine(LX ((jf aL).keep h λk _ b=>q.block k b aag) n s).mono ?_;rintro _ i ⟨rfl,c⟩;exact⟨_,_,rfl,c.same aah,rfl,q.cd c⟩
def IJ(h:rE aL w F x cs)(n:SU x)(s:Eb x<=1759218604441):
  az aq 197 #[ah cs.toArray] w λe a=>e=ak (X (T (xT x)))/\Q [] w a:=by
 obtain⟨sl,rfl⟩:=eU h;refine ret (am0 _ _ _ _ _ _ ?_);intro d g f z q;refine(LX ((jf aL).keep h λk _ b=>q.block k b aag) n s).mono ?_;rintro _ i ⟨rfl,c⟩;exact⟨_,_,rfl,c.same aah,rfl,q.cd c⟩
def Q5(h:rE aL w F x cs):
  az aq 220 #[ah cs.toArray] w λe a=>e=ak (aj (rI x))/\Q [] w a:=by
 obtain⟨d,h⟩:=h;have h:=yL h;cases d with
 | zero=>exact h.elim
 | succ d=>
 obtain⟨sl,rfl,s⟩:=h;refine ret (am8 _ _ _ _ _ _ ?_);intro k w f z c;have l:=s.len;have e:((T x.s).toList==((ao #[]).toList))=decide (x.s=[]):=iv x.s [];rw[e,l];exact⟨rfl,c⟩
end
def _root_.Go.Kt.Cells.part{w:av}{p:Addr}{c d:aI}(h:aB w p c)(n:Nat)(hd:∀j v,d[j]? =aM v->c[n+j]? =aM v):aB w (p.add n) d:=λj v a=>by
 rw[rq];exact h _ v (hd j v a)
def uj{c:aI}{n i:Nat}{v u:aw}(h:[u][i]? =aM v)(a:c[n]? =aM u):c[n+i]? =aM v:=by
 cases i with
 | zero=>
  rw[cG,bJ]at h;subst h;exact a
 | succ i=>simp at h
def LY{k:Int}{n:aH}{x:aI}{a:Int}{i:Nat}{v:aw}(h:x[i]? =aM v):(acv k n x a)[2+i]? =aM v:=by
 rw[jG];show(x++[Value.int U a])[i]? =aM v;rw[bX (bc.1 h).1];exact h
abbrev vp(w:av)(b:Nat)(n m a:Int):Prop:=aF w b 238 [O U n,O U m,O U a]
def only1{b:Nat}{w a:av}(h:Q [] w a):Q [b] w a:=h.weaken (bs':=[b]) λ_ h=>aal
def ig{b:Nat}{w a v:av}(h:Q [b] w a)(k:Q [b] a v):Q [b] w v:=h.trans k λx c=>.inl c
section
variable {w:av} {F:aJ} {b:Nat} {n m a:Int}
def Bn{l:Sl}{q:List Ac}(hc:vp w b n m a)(r:li aL (qy aL) 9 161 w F l q)(t:∀k,F k->k≠b)(x:∀y,y∈q->Gv y)(E:ki q<=8388608)(C:0<=a)(f:a<=1152921504606846976):
  az aq 194 #[ae (aM ⟨b,0,aaa⟩),l.v] w λe s=>e=ak (aj (q.all iZ))/\(∃c:Int,vp s b n m c/\(a<=c/\c<=a+I q)/\(q.all iZ=aE->c=a+I q))/\Q [b] w s:=by
 refine ret (amX _ _ ?_);have z:=r.1.len;have A:=gZ q;have kp:∀{u:av},Q [b] w u->aA (qy aL) 9 u F l q:=λd=>SliceF.only (cT aL) Z r.1 d λk hk _ hm=>t k hk ab2;refine⟨λo i u=>∃(j:Nat),i=(j:Int)/\o+j=I q/\j<=I q/\(q.take j).all iZ=aE/\vp u b n m (a+j)/\Q [b] w u,I q,⟨0,rfl,J,be _,rfl,aaj,Only.refl _ _⟩,?_⟩;rintro o _ u ⟨j,rfl,G,D,g,B,d⟩;refine⟨λY=>?_,λY=>?_⟩;rotate_left
 ·have Y:=aU Y;have a:j=I q:=J
  subst a;rw[fp]at g;rw[g];exact⟨rfl,⟨_,B,J,λ_=>rfl⟩,d⟩
 have Y:=aO Y;have mH:j<I q:=J
 obtain⟨y,P⟩:∃y,q[j]? =aM y:=⟨_,bf mH⟩
 have R:=bn P;have R7:=rJ R;unfold GA at R7;have at_:∀{v:av},Q [b] w v->∃ad L,cR l (j:Int) 9 ad/\aB v (ad.add 0) [O U y.k]/\aB v (ad.add 1) [X (T y.n)]/\aB v (ad.add 2) (nR y.x.k y.x.n y.x.s y.x.op L y.x.a)/\rE aL v F y.x (nR y.x.k y.x.n y.x.s y.x.op L y.x.a):=fun{v} hv=>by
  obtain⟨ad,y,e,M,H,q3,q4,K,b⟩:=(kp hv).get (ba j) J;rw[aW,P]at H;injection H with H;subst H;obtain⟨m,rfl,a⟩:=b;obtain⟨L,rfl⟩:=eU a;exact⟨ad,L,M,K.part 0 λi v h=>uj h rfl,K.part 1 λi v h=>uj h rfl,K.part 2 λi v h=>LY h,a⟩
 refine⟨a+j,Blk.dP B 2 rfl,b,2,_,_,rfl,B,aag,λw1 cD N=>?_⟩;rw[fh J J]at N;have N:vp w1 b n m (a+j+1):=N;have o1:=ig d cD;obtain⟨ad,L,g1,g2,g3,g4,g5⟩:=at_ o1;refine⟨ad,g1,_,g3,(sZ w1 y.n J).mono ?_⟩;rintro _ w2 ⟨rfl,V⟩;have o2:=ig o1 (only1 V);have od:=V.blk N aag;obtain⟨zi,am,p1,p2,p3,p4,p5⟩:=at_ o2;refine⟨_,rfl,zi,p1,_,_,_,_,_,_,p4,(GL p5 (x y R) J).mono ?_⟩;rintro _ w3 ⟨rfl,W⟩;have o3:=ig o2 (only1 W);have vR:=W.blk od aag;obtain⟨S,aC,M,H,q3,q4,K⟩:=at_ o3;have kf:∀k,k=(if y.k=2 then rI y.x else uc y.x)->((((decide (y.k<1))||(decide (y.k>3)))||(!dJ y.n))||(!k))=!iZ y:=λk e=>by
  rw[e];unfold iZ;by_cases f:y.k<1
  ·rw[bF f,bA (p:=1<=y.k/\y.k<=3) (λh=>J)];rfl
  by_cases a:y.k>3
  ·rw[bF a,bA (p:=1<=y.k/\y.k<=3) (λh=>J),pM];rfl
  rw[bA f,bA a,bF (p:=1<=y.k/\y.k<=3) J,kw,kw,cr,CD]
 refine⟨_,rfl,λk w4=>Q [] w3 w4/\k=(if y.k=2 then rI y.x else uc y.x),?_,S,M,_,H,λhk=>⟨S,M,_,_,_,_,_,_,q4,(Q5 K).mono ?_⟩,λhk=>⟨Only.refl _ _,by rw[aP aay]⟩⟩
 ·rintro k w4 ⟨p,n⟩;have m:=ig o3 (only1 p);have v:=p.blk vR aag;obtain⟨b,T,w,F,t3,t4,t5⟩:=at_ m;refine⟨b,w,y.k,F,b,λ_=>w,y.k,λ_=>F,λe=>?_,λe=>?_⟩
  ·rw[kf k n,de]at e;have:q.all iZ=aL:=by
    rw[zo];exact⟨y,R,by rw[e];simp⟩
   rw[this];exact⟨rfl,⟨_,v,J,λh=>aal⟩,m⟩
  rw[kf k n,jz]at e;refine⟨o-1,J,j+1,aaf,J,J,?_,by rw[show a+((j+1:Nat):Int)=a+j+1 by omega];exact v,m⟩;rw[bh,P,jc,g];simp[e]
 rintro _ w ⟨rfl,e⟩;exact⟨_,rfl,e,by rw[aV aay]⟩
end
section
variable {w:av} {F:aJ} {b:Nat} {n m a:Int}
def IK(x:Mv):((((((decide (x.k>=1)&&decide (x.k<=3))&&(if x.k=1 then dJ x.ev else decide (x.ev=[])))&&(if x.gd then uc x.g else rI x.g))&&x.acts.all iZ)&&((x.wt==0)||((x.k==3)&&(decide (x.wt>0)))))&&x.tg.all dJ)=mz x:=by
 unfold mz;rw[bL];simp only[aR,cE,bG,dB];constructor
 ·rintro⟨⟨⟨⟨⟨⟨h,a⟩,b⟩,c⟩,d⟩,e⟩,f⟩;exact⟨⟨⟨⟨⟨⟨h,a⟩,b⟩,c⟩,d⟩,f⟩,e⟩
 rintro⟨⟨⟨⟨⟨⟨h,a⟩,b⟩,c⟩,d⟩,f⟩,e⟩;exact⟨⟨⟨⟨⟨⟨h,a⟩,b⟩,c⟩,d⟩,e⟩,f⟩
def Tw{x:Mv}{d:aI}(t:vp w b n m a)(V:D7 aL w F x d)(f:∀k,F k->k≠b)(v:UQ x)(S:Fe x<=8388608)(P:0<=a)(R:a<=1152921504606846976)(h2:0<=m)(h3:m<=1152921504606846976):
  az aq 195 #[ae (aM ⟨b,0,aaa⟩),ah d.toArray] w λe E=>e=ak (aj (mz x))/\(∃y r:Int,vp E b n y r/\(mz x=aE->y=m+1/\r=a+I x.acts))/\Q [b] w E:=by
 obtain⟨gc,rh,tg,rfl,g,H,nL⟩:=V;obtain⟨N,rfl⟩:=eU g;unfold Fe at S;have Fh:=t.lt;refine ret (amY _ _ _ _ _ _ _ _ _ _ _ _ _ _ ?_);intro W o fZ ez q;have z0:=q.size;have M:=q.blk t aag;have G:∀{u:av},Q [b] w u->rE aL u F x.g (nR x.g.k x.g.n x.g.s x.g.op N x.g.a):=λc=>(jf aL).keep g λk hk l=>c.block k l (by simpa using f k hk);have Y:∀{u:av},Q [b] w u->li aL (qy aL) 9 161 u F rh x.acts:=λc=>H.keep (cT aL) Z λk hk l=>c.block k l (by simpa using f k hk);have i:∀{u:av},Q [b] w u->aA mh 1 u F tg x.tg:=λc=>SliceF.only du Z nL.1 c λk hk _ hm=>f k hk ab2;have sm:∀{u C:av},o.heap.size<=u.heap.size->Q [b] u C->cu [W] u C:=λhz c=>c.same aah;refine⟨m,Blk.dP M 1 rfl,b,1,_,_,rfl,M,aag,J,λp D B=>?_⟩;have z:Q [b] w p:=ig (only1 q) D;have z1:=D.size;rw[fh J J]at B;have B:vp p b n (m+1) a:=B;have K:((T x.ev).toList==((ao #[]).toList))=decide (x.ev=[]):=iv x.ev [];refine⟨λj u=>j=(if x.k=1 then dJ x.ev else decide (x.ev=[]))/\Q [b] w u/\o.heap.size<=u.heap.size/\vp u b n (m+1) a,λj w2 ⟨L,A,z2,od⟩=>?_,λhk=>(sZ p x.ev J).mono ?_,λhk=>⟨by rw[aP aay,K],z,J,B⟩⟩
 ·refine(Q5 (G A)).mono ?_;rintro _ w3 ⟨rfl,e⟩;have o3:=ig A (only1 e);have z3:=e.size;have vR:=e.blk od aag;refine⟨_,rfl,sm z2 (only1 e),λk u=>k=(if x.gd then uc x.g else rI x.g)/\Q [b] w u/\o.heap.size<=u.heap.size/\vp u b n (m+1) a,λk w4 ⟨F,o4,z4,sE⟩=>?_,λg=>(GL (G o3) v.1 J).mono ?_,λg=>⟨by rw[g];rfl,o3,J,vR⟩⟩
  ·refine(Bn sE (Y o4) f v.2 J P R).mono ?_;rintro _ w5 ⟨rfl,⟨a5,vQ,_,am⟩,w⟩;have n:=ig o4 w;have z5:=w.size;have G4:=(i n).len;have aC:=(i n).big;have aS:=(i n).cap;refine⟨_,rfl,sm z4 w,λkv aT u=>∃a:Nat,aT=(a:Int)/\kv+a=I x.tg/\a<=I x.tg/\(x.tg.take a).all dJ=aE/\Q [] w5 u,I x.tg,⟨0,rfl,J,be _,rfl,Only.refl _ _⟩,?_⟩;rintro kv _ w6 ⟨a,rfl,oX,hj,gQ,b⟩;have z6:=b.size;have o6:=ig n (only1 b);refine⟨λm=>?_,λm=>?_⟩
   ·have m:=aO m;obtain⟨ad,s,d,g1,g2,g3,g4,g5,g6⟩:=(i o6).get (ba a) J;rw[aW]at g2;have g6:d=[X (T s)]:=g6;subst g6;have xI:=bn g2;have se:I s<=Ld x.tg:=by
     have:=Ie xI;omega
    refine⟨ad,g1,_,g5,(sZ w6 s J).mono ?_⟩;rintro _ w7 ⟨rfl,fR⟩;refine⟨_,rfl,sm J (only1 fR),λhh=>?_,λhh=>⟨kv-1,J,a+1,aaf,J,J,?_,b.cd fR⟩⟩
    ·have hh:dJ s=aL:=adg
     have:mz x=aL:=by
      rw[<-IK,show x.tg.all dJ=aL by rw[zo];exact⟨s,xI,by rw[hh];simp⟩,gK]
     rw[this];exact⟨rfl,⟨_,_,(b.cd fR).blk vQ aag,λh=>aal⟩,ig o6 (only1 fR)⟩
    have hh:dJ s=aE:=adg
    rw[bh,g2,jc,gQ];simp[hh]
   have m:=aU m;have s:a=I x.tg:=J
   subst s;rw[fp]at gQ;have h:((((((decide (x.k>=1))&&(decide (x.k<=3)))&&j)&&k)&&x.acts.all iZ)&&((x.wt==0)||((x.k==3)&&(decide (x.wt>0)))))=mz x:=by
    rw[<-IK,gQ,L,F,eo]
   rw[h];refine⟨rfl,⟨_,_,b.blk vQ aag,λhm=>⟨rfl,am ?_⟩⟩,o6⟩;rw[<-IK]at hm;simp only[aR]at hm;exact hm.1.1.2
  rintro _ w ⟨rfl,a⟩;have b:=a.size;exact⟨_,rfl,sm J (only1 a),by rw[g];rfl,ig o3 (only1 a),J,a.blk vR aag⟩
 rintro _ w ⟨rfl,a⟩;have b:=a.size;exact⟨_,rfl,sm J (only1 a),by rw[aV aay],ig z (only1 a),J,a.blk B aag⟩
end
def lq(l:List Mv):Nat:=(l.map λm=>I m.acts).sum
def L0(l:List Mv)(m:Mv):lq (l++[m])=lq l+I m.acts:=by
 unfold lq;rw[cK,ZU];simp
def Bo:∀l:List Mv,lq l<=wH l
 | []=>be _
 | m::l=>by
  have a:=gZ m.acts;have b:=Bo l;have h:lq (m::l)=I m.acts+lq l:=rfl;rw[wH,h];unfold Fe;omega
def L1(l:List Mv)(j:Nat):lq (l.take j)<=lq l:=by
 induction l generalizing j with
 | nil=>simp[lq]
 | cons m l i=>
  cases j with
  | zero=>exact be _
  | succ j=>
   have:=i j;show (I m.acts)+lq (l.take j)<=I m.acts+lq l;omega
def XR(b:Nb):BR b<=yu b:=by
 have h:=gZ b.en;have a:=gZ b.lv;have c:=Bo b.mv;have d:BR b=I b.en+I b.lv+lq b.mv:=rfl;unfold yu;omega
mutual
def ahd:∀x:Nd,yt x<=mj x
 | .mk b l=>by
  have h:=XR b;have a:=IL l;rw[yt,mj];omega
def IL:∀l:List Nd,nS l<=jm l
 | []=>be _
 | x::l=>by
  have h:=ahd x;have a:=IL l;rw[nS,jm];omega
end
def L2:∀(l:List Nd) (j:Nat) {y:Nd},l[j]? =aM y->dR (l.take j)+iH y<=dR l
 | [],j,y,h=>acr
 | x::l,0,y,h=>by
  simp only[cG,bJ]at h;subst h;rw[cA,dR,dR];omega
 | x::l,j+1,y,h=>by
  have:=L2 l j (y:=y) acs;rw[gx,dR,dR];omega
def GM:∀(l:List Nd) (j:Nat) {y:Nd},l[j]? =aM y->jm (l.take j)+mj y<=jm l
 | [],j,y,h=>acr
 | x::l,0,y,h=>by
  simp only[cG,bJ]at h;subst h;rw[cA,jm,jm];omega
 | x::l,j+1,y,h=>by
  have:=GM l j (y:=y) acs;rw[gx,jm,jm];omega
def B0{d:Nat}{y:Nd}:∀{l:List Nd},y∈l->jY d y=aL->iL d l=aL
 | x::l,h,y=>by
  rw[iL];rcases aZ.1 h with rfl | h
  ·rw[y,db]
  rw[B0 h y,gK]
def tB(d:Nat)(n:Int)(x:Nd):Bool:=jY d x&&decide (n+iH x<=64)
def NcO(b:Nat)(w:av)(n e a:Int)(r:Bool)(x:Nd):Prop:=∃d m c:Int,vp w b d m c/\(r=aE->d=n+iH x/\m=e+zR x/\c=a+yt x)
def GN{F:aJ}{b:Nat}(h:∀k,F k->k≠b):∀(D:Nat) {w:av} {n m a:Int} {d:Nat} {x:Nd} {c:aI},vp w b n m a->lO aL D w F x c->Ci x->mj x<=8388608->0<=n->n<=64->d<=100->0<=m->m+mj x<=1152921504606846976->0<=a->a+mj x<=1152921504606846976->
  az aq 157 #[ae (aM ⟨b,0,aaa⟩),ah c.toArray,O U (d:Int)] w λe f=>e=ak (aj (tB d n x))/\NcO b f n m a (tB d n x) x/\Q [b] w f
 | 0,_,_,_,_,_,_,_,_,a,_,_,_,_,_,_,_,_,_=>a.elim
 | D+1,w,n,m,a,d,.mk g i,c,Y,⟨en,lv,mv,kids,iO,vX,G⟩,hn,N,aS,am,ZF,aC,Cs,H,K=>by
  dsimp only[Nd.kids,Nd.b]at iO vX G;subst iO;have hk:=G.1;rw[Ci]at hn;obtain⟨M,R8⟩:=hn;obtain⟨wV,AI,L⟩:=M;obtain⟨he,hl,oa⟩:=vX;rw[mj]at N Cs K;have aT:=N;have xM:BR g=I g.en+I g.lv+lq g.mv:=rfl;have sB:=XR g;unfold yu at N;have Fh:=Y.lt;refine ret (amB _ _ _ _ _ _ _ _ _ _ _ ?_);have eN:iH (.mk g i)=dR i+1:=by rw[iH]
  have V:jY d (.mk g i)=(decide (d<12)&&qm g (I i)&&iL (d+1) i):=by rw[jY]
  intro k0 C G ez E;have z0:=E.size;have v:=E.blk Y aag;have sm:∀{u u':av},C.heap.size<=u.heap.size->Q [b] u u'->cu [k0] u u':=λhz q=>q.same aah;have bad:tB d n (.mk g i)=aL->∀{u:av} {n' m' a':Int},Q [b] w u->vp u b n' m' a'->Value.bool aL=aj (tB d n (.mk g i))/\NcO b u n m a (tB d n (.mk g i)) (.mk g i)/\Q [b] w u:=λr {_ _ _ _} q hB=>⟨by rw[r],⟨_,_,_,hB,λj=>by rw[r]at j;cases j⟩,q⟩
  have kA:∀{u:av} {s:Sl} {t:List Ac},li aL (qy aL) 9 161 w F s t->Q [b] w u->li aL (qy aL) 9 161 u F s t:=λj q=>j.keep (cT aL) Z λk hk bU=>q.block k bU (by simpa using h k hk);have W:∀t:aH,((T t).toList==((ao #[]).toList))=decide (t=[]):=λt=>iv t [];rw[W,W];refine⟨n,Blk.dP v 0 rfl,b,0,_,_,rfl,v,aag,J,λP S l=>?_⟩;have o1:Q [b] w P:=ig (only1 E) S;have z1:=S.size;rw[fh J J]at l;have l:vp P b (n+1) m a:=l;refine(sZ P g.nm J).mono ?_;rintro _ R ⟨rfl,A⟩;have B:=ig o1 (only1 A);have z2:=A.size;have z:vp R b (n+1) m a:=A.blk l aag;refine⟨_,rfl,sm J (only1 A),n+1,λ_=>Blk.dP z 0 rfl,λo=>bad ?_ B z,λo=>?_⟩
  ·unfold tB;rw[V,eN];simp only[cE,de,bG]at o;rcases o with(j | j) | j
   ·unfold qm;rw[j];simp
   ·rw[bA (p:=d<12) J];rfl
   rw[bA (p:=n+((dR i+1:Nat):Int)<=64) J,gK]
  simp only[fy,jz]at o;have bV:n+1<=64:=by have:=aU o.2;omega
  have T:d<12:=by have:=aU o.1.2;omega
  have Ue:dJ g.nm=aE:=o.1.1;have Fj:=hk.len;have bv:=he.1.len;have Jh:=hl.1.len;have FV:=oa.1.len;have s:jY d (.mk g i)=(qm g (I i)&&iL (d+1) i):=by rw[V,bF T,cr]
  refine⟨λhh=>(sZ R g.dft J).mono ?_,λhh=>?_⟩
  ·rintro _ w3 ⟨rfl,b⟩;have p:fF g.k=aE:=by
    unfold fF;rw[cE,dB,dB]at hh;exact bF hh
   have x:(((((dJ g.dft&&decide (g.ini=[]))&&((en.n:Int)==0))&&((lv.n:Int)==0))&&((mv.n:Int)==0))&&((kids.n:Int)==0))=tB d n (.mk g i):=by
    unfold tB;rw[s,eN];unfold qm;rw[Ue,p,aV rfl,cr,bv,Jh,FV,Fj,bL];simp only[aR,bG,dB];constructor
    ·rintro⟨⟨⟨⟨⟨d,n⟩,e⟩,m⟩,y⟩,F⟩;have k:i=[]:=bH J;subst k;refine⟨⟨⟨d,n,bH J,bH J,J,rfl⟩,by rw[iL]⟩,by rw[dR];omega⟩
    rintro⟨⟨⟨d,n,e,m,y,F⟩,_⟩,_⟩;exact⟨⟨⟨⟨⟨d,n⟩,by rw[e];rfl⟩,by rw[m];rfl⟩,J⟩,J⟩
   refine⟨_,rfl,sm J (only1 b),by rw[x],⟨_,_,_,b.blk z aag,λr=>?_⟩,ig B (only1 b)⟩;rw[<-x]at r;simp only[aR,dB]at r;obtain⟨⟨⟨⟨_,e⟩,m⟩,y⟩,F⟩:=r;have k:i=[]:=bH J;subst k;have a:g.mv=[]:=bH J;rw[eN,zR,yt,dR,oT,nS,xM,a];refine⟨J,aag,?_⟩;have:lq []=0:=rfl;rw[this];omega
  have cc:fF g.k=aL:=by
   unfold fF;rw[fy,Js,Js]at hh;exact bA λe=>e.elim hh.1 hh.2
  have eB:qm g (I i)=(decide ((g.k=1∨g.k=2)/\g.dft=[])&&(decide (g.ini=[])||dJ g.ini)&&g.en.all iZ&&g.lv.all iZ&&g.mv.all mz):=by
   unfold qm;rw[Ue,cc,cr];rfl
  refine⟨λb2 u=>b2=(decide (g.ini=[])||dJ g.ini)/\Q [b] w u/\C.heap.size<=u.heap.size/\vp u b (n+1) m a,λb2 w4 ⟨bY,o4,z4,sE⟩=>?_,λhi=>(sZ R g.ini J).mono ?_,λhi=>⟨?_,B,J,z⟩⟩;rotate_left
  ·rintro _ F ⟨rfl,d⟩;have a:=d.size;refine⟨_,rfl,sm J (only1 d),?_,ig B (only1 d),J,d.blk z aag⟩;have:decide (g.ini=[])=aL:=acO
   rw[this,kw]
  ·have:decide (g.ini=[])=aE:=acO
   rw[this,CB]
  have cC:=gZ g.en;have dO:=gZ g.lv;refine(Bn sE (kA he o4) h wV J H J).mono ?_;rintro _ w5 ⟨rfl,⟨a5,vQ,el,ce⟩,eh⟩;have o5:=ig o4 eh;have z5:=eh.size;refine⟨_,rfl,sm z4 eh,(Bn vQ (kA hl o5) h AI J J J).mono ?_⟩;rintro _ w6 ⟨rfl,⟨a6,RW,eQ,co⟩,dK⟩;have o6:=ig o5 dK;have z6:=dK.size;have eC:((((((g.k !=1)&&(g.k !=2))||(!(decide (g.dft=[]))))||(!b2))||(!g.en.all iZ))||(!g.lv.all iZ))=!(decide ((g.k=1∨g.k=2)/\g.dft=[])&&(decide (g.ini=[])||dJ g.ini)&&g.en.all iZ&&g.lv.all iZ):=by
   rw[bY,CD,CD,CD];congr 3;rw[bL];simp only[cE,aR,bne_iff_ne,de,dl,ne_eq];by_cases a:g.k=1<;>by_cases b:g.k=2<;>by_cases d:g.dft=[]<;>simp[a,b,d]
  have kM:∀{u:av},Q [b] w u->aA (D7 aL) 13 u F mv g.mv:=λq=>SliceF.only (iJ aL) Z oa.1 q λk hk _ hm=>h k hk ab2;have kK:∀{u:av},Q [b] w u->aA (lO aL D) 9 u F kids i:=λq=>SliceF.only (cf aL D) Z hk q λk hk _ hm=>h k hk ab2;have Zl:=mA g.mv;refine⟨_,rfl,sm J dK,λe=>bad ?_ o6 RW,λe=>?_⟩
  ·rw[eC,de]at e;unfold tB;rw[s,eB,e];rfl
  rw[eC,jz]at e;have fd:qm g (I i)=g.mv.all mz:=by rw[eB,e,cr]
  simp only[aR]at e;have ce:=ce e.1.2;have co:=co e.2;have xI:=Bo g.mv;have MC:=oB i;have vR:I g.mv<=yu g:=by unfold yu;omega
  refine⟨λkv F u=>∃k:Nat,F=(k:Int)/\kv+k=I g.mv/\k<=I g.mv/\(g.mv.take k).all mz=aE/\Q [b] w u/\C.heap.size<=u.heap.size/\vp u b (n+1) (m+k) (a6+lq (g.mv.take k)),I g.mv,⟨0,rfl,J,be _,rfl,o6,J,by simpa[lq]using RW⟩,?_⟩;rintro kv _ w7 ⟨k,rfl,oX,hj,gQ,o7,z7,Zp⟩;have kY:=L1 g.mv k;refine⟨λmY=>?_,λmY=>?_⟩
  ·have mY:=aO mY;obtain⟨ad,y,c,g1,b,g3,g4,g5,n⟩:=(kM o7).get (ba k) J;rw[aW]at b;have d:=bn b;have R7:=oA d;have E4:=n;obtain⟨gc,rh,tg,rfl,hg,BJ,nL⟩:=n;obtain⟨gs,rfl⟩:=eU hg;have x:g.mv.take (k+1)=g.mv.take k++[y]:=by rw[bh,b];rfl
   refine⟨ad,g1,_,_,_,_,_,_,_,_,_,_,_,_,_,g5,(Tw Zp E4 h (L y d) J J J J J).mono ?_⟩;rintro _ w8 ⟨rfl,⟨m8,a8,yy,h8⟩,a⟩;have p:=ig o7 a;have z8:=a.size;refine⟨_,rfl,sm z7 a,λhh=>bad ?_ p yy,λhh=>?_⟩
   ·have hh:mz y=aL:=adg
    unfold tB;rw[s,fd,show g.mv.all mz=aL by rw[zo];exact⟨y,d,by rw[hh];simp⟩];rfl
   have hh:mz y=aE:=adg
   obtain⟨rfl,rfl⟩:=h8 hh;refine⟨kv-1,J,k+1,aaf,J,J,by rw[x,jc,gQ];simp[hh],p,J,?_⟩;rw[x,L0,show m+((k+1:Nat):Int)=m+k+1 by omega,show a6+((lq (g.mv.take k)+I y.acts:Nat):Int)=a6+lq (g.mv.take k)+(I y.acts) by omega];exact yy
  have mY:=aU mY;have lu:k=I g.mv:=J
  subst lu;rw[fp]at gQ Zp;have gE:jY d (.mk g i)=iL (d+1) i:=by rw[s,fd,gQ,cr]
  have eA:a6+(lq g.mv:Int)=a+(BR g:Int):=J
  rw[eA]at Zp;refine⟨λkv F u=>∃k:Nat,F=(k:Int)/\kv+k=I i/\k<=I i/\iL (d+1) (i.take k)=aE/\n+1+dR (i.take k)<=64/\Q [b] w u/\C.heap.size<=u.heap.size/\vp u b (n+1+dR (i.take k)) (m+I g.mv+oT (i.take k)) (a+BR g+nS (i.take k)),I i,⟨0,rfl,J,be _,by rw[cA,iL],by rw[cA,dR];omega,o7,z7,by rw[cA,dR,oT,nS];simpa using Zp⟩,?_⟩;rintro vC _ w9 ⟨F,rfl,Jn,hi,ZK,h9,o9,z9,Ud⟩;refine⟨λZL=>?_,λZL=>?_⟩
  ·have ZL:=aO ZL;obtain⟨ad,y,c,g1,g2,g3,g4,g5,g6⟩:=(kK o9).get (ba F) J;rw[aW]at g2;have uJ:=bn g2;have R7:=nB uJ;have E4:=g6;obtain⟨b,rfl⟩:∃b,D=b+1:=by
    cases D with
    | zero=>exact g6.elim
    | succ b=>exact⟨b,rfl⟩
   obtain⟨ri,rj,oM,gD,rfl,_⟩:=g6;have oP:i.take (F+1)=i.take F++[y]:=by rw[bh,g2];rfl
   have q1:=L2 i F g2;have q2:=GM i F g2;have q3:=Ah (i.take F);have q4:=IL (i.take F);refine⟨ad,g1,_,_,_,_,ri,rj,oM,gD,_,g5,?_⟩;rw[fh (x:=(d:Int)+1) J J,show(d:Int)+1=((d+1:Nat):Int) by omega];refine(GN h (b+1) (d:=d+1) Ud E4 (zZ R8 uJ) J J h9 J J J J J).mono ?_;rintro _ dz ⟨rfl,⟨g8,gT,gO,pK,r⟩,dX⟩;have gG:=ig o9 dX;have JG:=dX.size;refine⟨_,rfl,sm z9 dX,λHe=>bad ?_ gG pK,λHe=>?_⟩
   ·have He:tB (d+1) (n+1+dR (i.take F)) y=aL:=by simpa using He
    unfold tB at He⊢;rw[jq]at He;rcases He with j | j
    ·rw[gE,B0 uJ j,db]
    have j:=aU j;rw[eN,bA (p:=n+((dR i+1:Nat):Int)<=64) J,gK]
   have He:tB (d+1) (n+1+dR (i.take F)) y=aE:=by simpa using He
   obtain⟨rfl,rfl,rfl⟩:=r He;unfold tB at He;rw[aR]at He;have p:=aO He.2;refine⟨vC-1,J,F+1,aaf,J,J,by rw[oP,yP,ZK,He.1];rfl,by rw[oP,ug];omega,gG,J,?_⟩;rw[oP,ug,xw,Bb,show n+1+((dR (i.take F)+iH y:Nat):Int)=n+1+dR (i.take F)+iH y by omega,show m+I g.mv+((oT (i.take F)+zR y:Nat):Int)=m+I g.mv+oT (i.take F)+zR y by omega,show a+BR g+((nS (i.take F)+yt y:Nat):Int)=a+BR g+nS (i.take F)+yt y by omega];exact pK
  have ZL:=aU ZL;have a:F=I i:=J
  subst a;rw[fp]at h9 ZK Ud;have b:tB d n (.mk g i)=aE:=by
   unfold tB;rw[gE,ZK,eN,cr];exact bF J
  rw[b];refine⟨rfl,⟨_,_,_,Ud,λ_=>?_⟩,o9⟩;rw[eN,zR,yt];omega
def aoa{w:av}{F:aJ}{D:Nat}{c:Ch}{r:Sl}{s:aI}(h:ChR aL (D+1) w F c r s)(C:G8 c)(hs:nY c.vars+mj c.root<=8388608):
  az aq 112 #[ah (r.v::s).toArray] w λe K=>e=ak (aj (pC c))/\Q [] w K:=by
 obtain⟨S,lv,mv,kids,E,_⟩:=h.root;subst E;refine ret (al9 _ _ _ _ _ _ _ _ _ _ ?_);intro G B fZ W t;have z0:=t.size;have l:=h.vars.1.len;have P:I c.vars<=nY c.vars:=by
  have:∀b:List Vr,I b<=nY b:=λb=>by induction b with
   | nil=>exact be _
   | cons a b c=>rw[nY,aY];omega
  exact this _
 have V:∀{u:av},Q [] w u->aA AP 3 u F r c.vars:=λf=>SliceF.only dY Z h.vars.1 f aag;have sm:∀{u A:av},B.heap.size<=u.heap.size->Q [] u A->cu [G] u A:=λhz f=>f.same aah;refine⟨λo i u=>∃j:Nat,i=(j:Int)/\o+j=I c.vars/\j<=I c.vars/\(c.vars.take j).all xV=aE/\Q [] w u/\B.heap.size<=u.heap.size,I c.vars,⟨0,rfl,J,be _,rfl,t,aX _⟩,?_⟩;rintro o _ L ⟨j,rfl,oX,hj,g,q,N⟩;refine⟨λY=>?_,λY H M uw yg z R=>?_⟩
 ·have Y:=aO Y;obtain⟨ad,y,s,g1,b,g3,g4,g5,k⟩:=(V q).get (ba j) J;rw[aW]at b;have uJ:=bn b;have R7:=wK uJ;have k:s=[X (T y.n),O U y.v,O U y.a]:=k;subst k;refine⟨ad,g1,_,g5.part 0 λi v m=>uj m rfl,(sZ L y.n J).mono ?_⟩;rintro _ w2 ⟨rfl,d⟩;have n:=q.cd d;have z2:=d.size;obtain⟨C1,y',BC,p1,p,p3,p4,p5,x⟩:=(V n).get (ba j) J;rw[aW,b]at p;injection p with p;subst p;have x:BC=[X (T y.n),O U y.v,O U y.a]:=x;subst x;have ev:((!dJ y.n)||(y.v==(-9223372036854775808)))=!xV y:=by
   unfold xV;rw[CD];congr 1;rw[bL];simp
  refine⟨_,rfl,sm N d,C1,λ_=>p1,_,λ_=>p5.part 1 λi v m=>uj m rfl,λa=>⟨?_,n⟩,λa=>⟨o-1,J,j+1,aaf,J,J,?_,n,J⟩⟩
  ·rw[ev,de]at a;have:c.vars.all xV=aL:=by
    rw[zo];exact⟨y,uJ,by rw[a];simp⟩
   have e:pC c=aL:=by
    unfold pC;rw[show(c.vars.all λv=>dJ v.n&&decide (v.v≠ -9223372036854775808))=c.vars.all xV from rfl,this];rfl
   rw[e]
  rw[ev,jz]at a;rw[bh,b,jc,g];simp[a]
 have Y:=aU Y;have lu:j=I c.vars:=J
 subst lu;rw[fp]at g;have o3:=q.cd z;have z3:=z.size;have am:lO aL (D+1) M (λk=>F k/\k<w.heap.size) c.root _:=(cf aL _).keep ((cf aL _).inHeap h.root) λk _ bU=>o3.block k bU aag;refine(GN (F:=λk=>F k/\k<w.heap.size) (b:=H) (λk hk=>acL) (D+1) (n:=0) (m:=0) (a:=0) (d:=0) R am C.2 J J J J J J J J).mono ?_;rintro _ w4 ⟨rfl,⟨n',m',a',sE,hr⟩,dI⟩;have T:Q [] w w4:=(o3.qz (dI.p (F:=λk=>w.heap.size<=k) λx h=>by simp only[aN]at h;exact .inl J)).only λk hk=>hk;refine⟨_,rfl,dI.same aah,n',m',a',sE,?_,T⟩;congr 1;unfold pC;rw[show(c.vars.all λv=>dJ v.n&&decide (v.v≠ -9223372036854775808))=c.vars.all xV from rfl,g,cr,l];cases y:tB 0 0 c.root
 ·have:(jY 0 c.root&&decide (iH c.root<=64))=aL:=by
   unfold tB at y;rw[<-y];congr 1;rw[bL,bG,bG];omega
  rw[jq]at this;simp only[db];symm;rcases this with a | a
  ·rw[a,db]
  have a:=aU a;rw[bA (p:=c.root.b.k=1/\I c.vars<=16/\iH c.root<=64/\zR c.root<=200/\yt c.root<=400) (λe=>a e.2.2.1),gK]
 obtain⟨b,e,a⟩:=hr y;unfold tB at y;rw[aR,bG]at y;rw[y.1,cr,cr,e,a,bL];simp only[aR,bG,dB];omega
def aob{n}(h:0<=n)(a:n<=18446744073709551615):ar .u64 n=n:=by
 have e:ar .u64 n=n % 18446744073709551616:=rfl;omega
def Q6 w {n} (h:tn n):az aq 114 #[O U n] w λe a=>e=ak (X (T (Lib.itoa n)))/\Q [] w a:=by
 obtain⟨d,b⟩:=h;by_cases c:0<=n
 ·exact XN w c b
 refine ret (amb _ ?_);refine⟨λe=>absurd e aah,λe=>⟨λf=>?_,λp=>absurd (aU p) J⟩⟩;have s:=by
  refine ret (amC n (λv a=>v=.int .u64 (-n)/\a=w) w ?_);refine⟨λ_=>⟨?_,rfl⟩,λp=>absurd (aU p) J⟩;rw[fh (x:=n+1) J J,fh J J,aob (n:=0-_) J J,aob J J];congr 1;omega
 refine s.mono ?_;rintro _ g ⟨rfl,u⟩;obtain rfl:w=g:=u.symm;obtain⟨k,hk⟩:∃k:Nat, -n=k:=⟨(-n).toNat,J⟩
 rw[hk];refine⟨_,rfl,(GK k w J).mono ?_⟩;rintro _ i ⟨rfl,D⟩;have Z:¬k=0:=J
 have l:=vj k J;rw[aP Z];refine⟨_,rfl,aa2,?_,D⟩;unfold Lib.itoa;rw[aV J,show n.natAbs=k by omega];rfl
def Q7{n}(h:tn n):I (Lib.itoa n)<=41:=by
 obtain⟨a,b⟩:=h;unfold Lib.itoa;split
 ·rw[aY];have:=vj n.natAbs J;omega
 have:=vj n.toNat J;omega
section
variable {w:av} {F:aJ}
def Oo x:I (xT x)<=16384:=Ib x
def aoc{y}(h:y.k=1):[115,101,116,32]++y.n++[32,61,32]++xT y.x++[59]=CP y:=by
 unfold CP;rw[aP J,aV h];simp[sf]
def aod{y}(h:y.k=2):[114,97,105,115,101,32]++y.n++[59]=CP y:=by
 unfold CP;rw[aV h];simp[lh]
def aoe{y}(h:y.k≠1)(a:y.k≠2):[101,109,105,116,32]++y.n++[32,61,32]++xT y.x++[59]=CP y:=by
 unfold CP;rw[aP a,aP h];simp[mV]
def Oq y:I (CP y)<=GA y+16500:=by
 have:=Oo y.x;unfold GA;by_cases h:y.k=1
 ·rw[<-aoc h];simp;omega
 by_cases a:y.k=2
 ·rw[<-aod a];simp;omega
 rw[<-aoe h a];simp;omega
def GP a:∀l,zT (l++[a])=zT l++(32::CP a)
 | []=>by simp[zT]
 | b::l=>by rw[bZ,zT,zT,GP a l];simp
def ahe{y}{cs}(x:qy aL w F y cs)(n:Gv y)(s:GA y<=8388608):
  az aq 196 #[ah cs.toArray] w λe t=>e=ak (X (T (CP y)))/\Q [] w t:=by
 have a:=Oq y;obtain⟨H,rfl,M⟩:=x;obtain⟨K,rfl⟩:=eU M;unfold GA at s a;have z:=Oo y.x;refine ret (amZ _ _ _ _ _ _ _ _ _ ?_);have f:_=T [115,101,116,32]:=rfl;have g:_=T [32,61,32]:=rfl;have i:_=T [59]:=rfl;have j:_=T [114,97,105,115,101,32]:=rfl;have o:_=T [101,109,105,116,32]:=rfl;simp only[f,g,i,j,o,fJ,cM];have E:∀{u:av},Q [] w u->rE aL u F y.x _:=λh=>(jf aL).keep M λk _ p=>h.block k p aag;have l:∀{b m:aH},I (b++m)=I b+I m:=aQ;refine⟨λh1 q B Z v c=>⟨λk=>k=q,rfl,J,by rw[l];simp;omega,(IJ (E c) n J).mono ?_⟩,λh1=>⟨λh2=>⟨J,by rw[l];simp;omega,λA C _ _ h=>⟨by rw[aod adh],h⟩⟩,λh2 r D G L d=>⟨λk=>k=r,rfl,J,by rw[l];simp;omega,(IJ (E d) n J).mono ?_⟩⟩⟩
 ·rintro _ w ⟨rfl,e⟩;refine⟨_,rfl,e.same aah,bT.only e,?_,?_,by rw[fJ,fJ,aoc acJ],c.cd e⟩
  ·rw[cM];simp;omega
  rw[fJ,cM];simp;omega
 rintro _ w ⟨rfl,e⟩;refine⟨_,rfl,e.same aah,bT.only e,?_,?_,by rw[fJ,fJ,aoe acJ adh],d.cd e⟩
 ·rw[cM];simp;omega
 rw[fJ,cM];simp;omega
def IM:∀l,ki l<=1048576->I (zT l)<=I l*1065080
 | [],_=>be _
 | a::l,h=>by
  have b:=Oq a;have c:GA a<=ki (a::l):=rJ aag;have d:ki l<=ki (a::l):=by rw[ki];omega
  have e:=IM l J;rw[zT,aY,aQ,aY,jb];omega
def EK{l}{qA}(b:li aL (qy aL) 9 161 w F l qA)(n:∀y,y∈qA->Gv y)(o:ki qA<=1048576):
  az aq 160 #[l.v] w λe c=>e=ak (X (T (ze qA)))/\Q [] w c:=by
 refine ret (amD _ ?_);have d:=b.1.len;have f:=gZ qA;have kp:∀{u:av},Q [] w u->aA _ 9 u F l qA:=λh=>SliceF.only (cT aL) Z b.1 h aag;refine⟨λk s i u=>∃(j:Nat) (t:aH),s=T t/\t=123::zT (qA.take j)/\i=j/\k+j=I qA/\j<=I qA/\I t<=1+j*1065080/\Q [] w u,I qA,⟨0,[123],rfl,rfl,rfl,J,be _,aag,Only.refl _ _⟩,?_⟩;rintro k _ _ r ⟨j,t,rfl,a,rfl,q,g,p,h⟩;refine⟨λm=>?_,λm=>?_⟩
 ·have m:=aO m;obtain⟨ad,y,x,v,e,z,A,w,l⟩:=(kp h).get (ba j) J;rw[aW]at e;have s:=bn e;have R:=rJ s;have E:=l;obtain⟨G,rfl,M⟩:=l;obtain⟨H,rfl⟩:=eU M;refine⟨aa2,ad,v,_,_,_,_,_,_,_,_,_,w,(ahe E (n y s) J).mono ?_⟩;rintro _ C ⟨rfl,D⟩;have B:=Oq y;have F:I (t++[32]++CP y)<=1+(j+1)*1065080:=by
   rw[aQ,aQ,bB,jb];omega
  refine⟨_,rfl,?_,k-1,J,j+1,t++[32]++CP y,?_,by rw[bh,e,a];show _=123::zT (qA.take j++[y]);rw[GP];simp,aaf,J,J,F,h.cd D⟩
  ·rw[show(ao #[32])=T [32]from rfl,fJ,cM,cM,aQ,bB];omega
  rw[show(ao #[32])=T [32]from rfl,fJ,fJ]
 have m:=aU m;have l:j=I qA:=J
 subst l;refine⟨aa2,?_,h⟩;rw[show(ao #[32,125])=T [32,125]from rfl,fJ,a,fp];rfl
def Z3:List (aH)->aH
 | []=>[]
 | s::l=>32::45::62::32::(s++Gu l)
def L3 s:∀l,Gu (l++[s])=Gu l++[44,32]++s
 | []=>by simp[Gu]
 | b::l=>by rw[bZ,Gu,Gu,L3 s l];simp
def XS s:∀l,Z3 (l++[s])=Z3 l++(if l=[]then[32,45,62,32]else[44,32])++s
 | []=>by simp[Z3,Gu]
 | b::l=>by rw[bZ,Z3,Z3,L3 s l,aP aag];simp
def ahf m:ZY m++SW m++(if m.acts=[]then[]else 32::ze m.acts)++Z3 m.tg++[59]=Fb m:=by
 unfold Fb;cases m.tg<;>simp[Z3]
def abW{x}{d}(Y:D7 aL w F x d)(n:UQ x)(V:Fe x<=1048576):
  az aq 161 #[ah d.toArray] w λe c=>e=ak (X (T (Fb x)))/\I (Fb x)<=3000000000000/\Q [] w c:=by
 obtain⟨gc,rh,r,rfl,l,B,L⟩:=Y;obtain⟨P,rfl⟩:=eU l;unfold Fe at V;have b:tn x.wt:=n.w;refine((amE x.k (T x.ev) x.wt x.gd x.g.k x.g.n (T x.g.s) x.g.op P x.g.a rh r x.a (λv c=>v=X (T (Fb x))/\I (Fb x)<=3000000000000/\Q [] w c) w ?_)).mono (by rintro _ c ⟨v,rfl,rfl,a,R⟩;exact⟨rfl,a,R⟩);intro k0 C fZ ez q;have z0:=q.size;have sm:∀{u y:av},C.heap.size<=u.heap.size->Q [] u y->cu [k0] u y:=λhz h=>h.same aah;have kT:∀{u:av},Q [] w u->aA mh 1 u F r x.tg:=λh=>SliceF.only du Z L.1 h aag;have Jz:=Oo x.g;have S:=gZ x.acts;have G4:=ve x.tg;have E:=B.1.len;have W:=L.1.len;let St (K:Nat) (v:aH):aK->av->Prop:=λs u=>∃t:aH,s=T t/\I t<=K/\Q [] w u/\C.heap.size<=u.heap.size/\t=v
 refine⟨St 1048600 (if x.k=1 then CL++32::x.ev else iV),λs0 w1 ⟨t0,M,h0,o0,D,v0⟩=>⟨St 1048700 (ZY x),λs1 w2 ⟨m,i,h1,o,G,z⟩=>⟨St 1066000 (ZY x++SW x),λs2 w3 ⟨p,j,h2,f,H,A⟩=>⟨St 1117000000000 (ZY x++SW x++(if x.acts=[]then[]else 32::ze x.acts)),λs3 w4 ⟨g,N,h3,o3,y3,v3⟩=>?_,λhc=>?_,λhc=>⟨p,j,J,f,H,?_⟩⟩,λhc=>?_,λhc=>⟨m,i,J,o,G,?_⟩⟩,λhc=>?_,λhc=>⟨t0,M,J,o0,D,?_⟩⟩,λhc=>?_,λhc=>⟨[97,108,119,97,121,115],rfl,Z,q,aX _,by rw[aP aaj];rfl⟩⟩
 ·subst N;refine⟨λkv s am u=>∃(k:Nat) (t:aH),s=T t/\t=g++Z3 (x.tg.take k)/\am=(k:Int)/\kv+k=I x.tg/\k<=I x.tg/\I t<=1117000000000+k*1048590/\Q [] w u,I x.tg,⟨0,g,rfl,by rw[cA,Z3,bE],rfl,J,be _,J,o3⟩,?_⟩;rintro kv _ _ w5 ⟨k,t,rfl,et,rfl,oX,hj,ht,h⟩;refine⟨λv=>⟨λs u=>∃F:aH,s=T F/\I F<=I t+4/\u=w5/\F=t++(if k=0 then[32,45,62,32]else[44,32]),?_,λh0=>⟨aa2,t++[32,45,62,32],by rw[show(ao #[32,45,62,32])=T [32,45,62,32]from rfl,fJ],aag,rfl,by rw[aV agH]⟩,λh0=>⟨aa2,t++[44,32],by rw[show(ao #[44,32])=T [44,32]from rfl,fJ],aag,rfl,by rw[aP agH]⟩⟩,λv=>?_⟩
  ·have v:=aO v;rintro _ w6 ⟨F,rfl,aC,hw,t⟩;obtain rfl:w5=w6:=hw.symm;obtain⟨ad,s,d,g1,w,g3,g4,g5,T⟩:=(kT h).get (ba k) J;rw[aW]at w;have se:=Ie (bn w);have T:=T;subst T;refine⟨ad,g1,_,g5,by rw[cM,cM];omega,kv-1,J,k+1,F++s,by rw[fJ],?_,aaf,J,J,?_,h⟩
   ·rw[bh,w,t,et];show _=g++Z3 (x.tg.take k++[s]);rw[XS];have e:(x.tg.take k=[])↔k=0:=by
     constructor
     ·intro a;have:=bN List.length a;rw[cx,bC]at this;omega
     intro a;rw[a,cA]
    simp[e,bq]
   rw[aQ,jb];omega
  have v:=aU v;have s:k=I x.tg:=J
  subst s;rw[fp]at et;have e:t++[59]=Fb x:=by rw[et,v3,ahf]
  refine⟨aa2,by rw[show(ao #[59])=T [59]from rfl,fJ,e],?_,h⟩;rw[<-e,aQ,bB];have:I x.tg*1048590<=1048576*1048590:=fu _ J;omega
 ·subst j;have v:I x.acts*1065080<=1048576*1065080:=fu _ J;refine⟨aa2,(EK (B.keep (cT aL) Z λk _ t=>f.block k t aag) n.a J).mono ?_⟩;rintro _ F ⟨rfl,s⟩;have w:I (ze x.acts)<=3+I x.acts*1065080:=by
   have:=IM x.acts J;unfold ze;rw[aY,aQ];simp[aY,bC];omega
  have z7:=s.size;refine⟨_,rfl,sm H s,?_,p++[32]++ze x.acts,by rw[show(ao #[32])=T [32]from rfl,fJ,fJ],?_,f.cd s,J,?_⟩
  ·rw[show(ao #[32])=T [32]from rfl,fJ,cM,cM,aQ,bB];omega
  ·rw[aQ,aQ,bB];omega
  have hc:=aO hc;rw[A,aP (λe=>by rw[e]at E;simp at E;omega)];simp
 ·have hc:=aU hc;rw[A,aV (bH J),bE]
 ·subst i;refine⟨aa2,(IJ ((jf aL).keep l λk _ e=>o.block k e aag) n.1 J).mono ?_⟩;rintro _ w ⟨rfl,t⟩;have s:=t.size;refine⟨_,rfl,sm G t,?_,?_,m++[32,91]++xT x.g++[93],by rw[show(ao #[32,91])=T [32,91]from rfl,show(ao #[93])=T [93]from rfl,fJ,fJ,fJ],?_,o.cd t,J,by rw[z];unfold SW;rw[hc,aV rfl];simp⟩
  ·rw[show(ao #[32,91])=T [32,91]from rfl,fJ,cM,cM,aQ];simp[aY,bC];omega
  ·rw[show(ao #[32,91])=T [32,91]from rfl,fJ,fJ,cM,aQ,aQ];simp[aY,bC];omega
  simp;omega
 ·rw[z];unfold SW;rw[hc,aP aag,bE]
 ·refine(Q6 w1 b).mono ?_;rintro _ w ⟨rfl,e⟩;have k:=e.size;have:=Q7 b;refine⟨_,rfl,sm D e,aa2,[97,102,116,101,114,32]++Lib.itoa x.wt,by rw[show(ao #[97,102,116,101,114,32])=T [97,102,116,101,114,32]from rfl,fJ],?_,o0.cd e,J,?_⟩
  ·rw[aQ];simp[aY,bC];omega
  have hc:x.k=3:=aaj
  unfold ZY;rw[aP J,aV hc];simp[jD]
 ·have hc:¬x.k=3:=aaj
  rw[v0];unfold ZY;rw[aP hc]
 refine⟨aa2,[111,110,32]++x.ev,by rw[show(ao #[111,110,32])=T [111,110,32]from rfl,fJ],?_,q,aX _,?_⟩
 ·rw[aQ];simp[aY,bC];omega
 rw[aV aaj];simp[CL]
end
structure Prg (w:av) (b:Nat) (sl:Sl) (l:aH):Prop where
 blk:aF w b 199 [sl.v]
 buf:Bf w (b+1) sl l
section
variable {w w0 w1 w2 w':av} {b k0:Nat} {sl sl' T5:Sl} {l:aH}
def Prg.only(h:Prg w b sl l)(a:Q [] w w'):Prg w' b sl l:=⟨a.blk h.blk aag,h.buf.keep λg _ c=>a.block g c aag⟩
def Prg.lb(h:Prg w b sl l):b<w.heap.size:=h.blk.lt
def Prg.YA(h:Prg w b sl l){k:Nat}(hk:k<b):¬(k=b∨sl.a=aM ⟨k,0,aaa⟩):=by
 rintro(e | e)
 ·omega
 have:=(h.buf.lt e).1;omega
def Prg.put{s:Sl}{m:aH}{e:TypeId}(h:Prg w b sl l)(a:Bf w1 (b+1) s m)(k3:aD (λk=>sl.a=aM ⟨k,0,aaa⟩) w w1)(i:∀k,s.a=aM ⟨k,0,aaa⟩->sl.a=aM ⟨k,0,aaa⟩∨w.heap.size<=k):
  aF w1 b 199 [sl.v]/\∀w2,Q [b] w1 w2->aF w2 b 199 [s.v]->Prg w2 b s m/\kc b sl w s w2:=by
 have j:=h.lb;refine⟨k3.blk h.blk λe=>by have:=(h.buf.lt e).1;omega,λw2 c o=>⟨⟨o,a.keep λg d f=>c.block g f (by have:=(a.lt d).1;simp;omega)⟩,(k3.mono λk _ hk=>.inr hk).trans (c.p (F:=λk=>k=b) λx hx=>.inl acD) λk hk=>.inl (.inl hk),i⟩⟩
def aof{B:Nat}(h:Bf w B sl l)(c:aH){n:Nat}{parts:Array (Nat×aw)}(p:parts=(((c.map iT).zipIdx 0).map λx=>(x.2,x.1)).toArray)(f:I c=n)(a:0<n)(C:n*1<=16777216)(E:B<=w.heap.size)(G:I l+I c<=140737488355328):
  ∃y w1,(au 197 n parts).run aq w=.ok (Sl.v y) w1/\Q [] w w1/\∃s w2,(Builtin.append_ #[197,197] 197 #[Sl.v sl,Sl.v y]).run aq w1=.ok (Sl.v s) w2/\Bf w2 B s (l++c)/\
   aD (λk=>sl.a=aM ⟨k,0,aaa⟩) w w2/\∀k,s.a=aM ⟨k,0,aaa⟩->sl.a=aM ⟨k,0,aaa⟩∨w.heap.size<=k:=by
 obtain⟨y,w1,m,o,k3,_⟩:=uX w c p f a C;have H:=k3.size;have b:Bf w1 B sl l:=h.keep λg F d=>k3.block g d aag;obtain⟨s,w2,q,u,D,v,z,A⟩:=qO (P:=aq) (t:=197) (ty:=197) (e:=5) (i:=Tryz.t5) (bytes:=1) (size:=1) (r:=nq) D9 H6 rfl rfl rfl rfl tH (b.own λ_=>True) ((zK o).mono tH λk hk=>⟨trivial,λe=>by have:=(h.lt e).2;have:=hk.1;omega⟩) J J Z;refine⟨y,w1,m,k3,s,w2,q,Bf.of u ac4,k3.qz (v.p λx j=>.inl (z x j).1),λk hk=>?_⟩;rcases A with e | e
 ·rw[e]at hk;exact .inl hk
 rw[e]at hk;injection hk with hk;injection hk with hk;exact .inr J
def GQ:∀d,wE (d+1)=wE d++[32,32]
 | 0=>rfl
 | d+1=>by
  show 32::32::wE (d+1)=(32::32::wE d)++[32,32]
  rw[GQ d];rfl
def IP:∀d,I (wE d)=2*d
 | 0=>rfl
 | d+1=>by rw[wE,aY,aY,IP d];omega
def Q8{l m:aH}{d:Nat}(h:I l<=4000000000000)(hd:d<=4194304)(a:I m<=3000000000010):I (kJ l (d,m))<=4000000000000:=by
 unfold kJ;split
 ·exact h
 unfold lnT;rw[aQ,aQ,aQ,IP];simp only[aY,bC];omega
def Q9(h:Prg w b sl l){d:Nat}(F:d<=4194304)(m:aH)(c:I m<=3000000000010):
  az aq 113 #[ae (aM ⟨b,0,aaa⟩),O U (d:Int),X (T m)] w λe w'=>e=ak (ai #[])/\∃(sl':Sl),Prg w' b sl' (kJ l (d,m))/\kc b sl w sl' w':=by
 refine ret (ama _ _ _ ?_);have f:=h.buf.len;have a:=h.lb;refine⟨sl,Blk.dP h.blk 0 rfl,λhc=>⟨rfl,sl,?_,kc.refl _ _ _⟩,λhc=>?_⟩
 ·have hc:=aO hc;unfold kJ;rw[aV J];exact h
 have hc:I l<=16384:=aa6
 have p:kJ l (d,m)=l++wE d++m++[10]:=by
  unfold kJ lnT;rw[aP J];simp
 rw[p];refine⟨λv i u=>∃(j:Nat) (q:Sl),i=(j:Int)/\v+j=d/\Prg u b q (l++wE j)/\kc b sl w q u,d,⟨0,sl,rfl,J,by rw[wE,bE];exact h,kc.refl _ _ _⟩,?_⟩;rintro v _ w0 ⟨j,q,rfl,o,P,M⟩;have C:=P.lb;have t:I (l++wE j)<=16384+2*j:=by rw[aQ,IP];omega
 refine⟨λY=>?_,λY=>?_⟩
 ·have Y:=aO Y;obtain⟨y,w1,d,E,s,w2,g,k,l,r⟩:=aof P.buf [32,32] (n:=2) (parts:=#[.mk 0 (.int .u8 32),.mk 1 (.int .u8 32)]) rfl rfl Z Z J (by rw[aY,bB];omega);obtain⟨w,x⟩:=P.put (e:=0) k l r;refine⟨q,Blk.dP P.blk 0 rfl,y,w1,d,s,w2,g,b,0,_,_,rfl,w,aX 1,λD B R=>?_⟩;obtain⟨z,A⟩:=x D B R;exact⟨v-1,J,j+1,s,aaf,J,by rw[GQ,<-bq];exact z,M.trans A⟩
 have Y:=aU Y;have W:j=d:=J
 subst W;obtain⟨s,w1,S,T,k3,V⟩:=CN P.buf m J J;obtain⟨D,E⟩:=P.put (e:=0) T k3 λk hk=>by
  rcases V with e | e
  ·rw[e]at hk;exact .inl hk
  rw[e]at hk;injection hk with hk;injection hk with hk;exact .inr J
 refine⟨q,Blk.dP P.blk 0 rfl,s,w1,S,b,0,_,_,rfl,D,aX 1,λw2 G od=>?_⟩;obtain⟨g,l⟩:=E w2 G od;have AI:=g.lb;obtain⟨y,w3,w,a2,r,w4,x,z,A,B⟩:=aof g.buf [10] (n:=1) (parts:=#[.mk 0 (.int .u8 10)]) rfl rfl Z Z J acE;obtain⟨H,K⟩:=g.put (e:=0) z A B;refine⟨s,Blk.dP g.blk 0 rfl,y,w3,w,r,w4,x,b,0,_,_,rfl,H,aX 1,λw5 R vQ=>?_⟩;obtain⟨L,N⟩:=K w5 R vQ;exact⟨rfl,r,L,(M.trans l).trans N⟩
end
end Go.Proofs.YtfemabakfkliiaaGreatDoor.Con
