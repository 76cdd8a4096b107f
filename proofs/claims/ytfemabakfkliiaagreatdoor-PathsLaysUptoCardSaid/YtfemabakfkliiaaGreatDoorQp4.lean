import Derived.Test.YtfemabakfkliiaaGreatDoorQp3
set_option linter.defProp false
set_option linter.unusedSectionVars false
set_option linter.unusedSimpArgs false
set_option linter.unusedVariables false
set_option maxHeartbeats 4000000
open Bool renaming true->aE,false->aL
open Option renaming some->aM,none->aaa
open List renaming length->I
open Go.Value renaming int->O,string->X,pointer->ae,agg->ah,tuple->ai,bool->aj
open Go.IntKind renaming i64->U,wrap->ar
open Go.Ending renaming returned->ak
open _root_.ByteArray renaming mk->ao
open _root_.Go.Proofs.Tryz renaming prog->aq
open Go.Instr renaming buildSlice->au
open Go renaming World->av,Value->aw,Calls->az
open Go.Kt renaming Only->Q,SliceF->aA,Cells->aB,OnlyP->aD,Blk->aF
namespace Go.Proofs.YtfemabakfkliiaaGreatDoor.Con
open Go Go.RowKit Go.Kt Go.Kt.V Go.Proofs.YtfemabakfkliiaaGreatDoor.Vc
def uX(w:av)(l:aH){n:Nat}{parts:Array (Nat×aw)}(h:parts=(((l.map iT).zipIdx 0).map λx=>(x.2,x.1)).toArray)(hn:I l=n)(c:0<n)(k:n*1<=16777216):
  ∃s b,(au 197 n parts).run aq w=.ok (Sl.v s) b/\Own nq 1 5 w.heap.size b (λ_=>True) s l/\Q [] w b/\s.a=aM ⟨w.heap.size,0,aaa⟩:=by
 obtain⟨s,b,d,f,g,j,_⟩:=kz (P:=aq) (t:=197) (e:=5) (i:=Tryz.t5) (w:=w) (F:=λ_=>True) (r:=nq) (size:=1) (vs:=l.map iT) (xs:=l) (len:=n) aae aae rfl rfl Z h afG c k tH (by
  clear h hn
  induction l with
  | nil=>exact trivial
  | cons a l i=>exact⟨⟨rfl,rfl⟩,i⟩)
 exact⟨s,b,d,f,g,j⟩
def aa3(l:List (aH))(w:av):qB mh 1 w (λ_=>True) l ((l.map λx=>Value.string (T x)).map λv=>v.cells.toList):=by
 induction l with
 | nil=>exact trivial
 | cons a l i=>exact⟨⟨rfl,rfl⟩,i⟩
def ld(w:av)(l:List (aH)){n:Nat}{parts:Array (Nat×aw)}(p:parts=(((l.map λx=>Value.string (T x)).zipIdx 0).map λx=>(x.2,x.1)).toArray)(hn:I l=n)(h:0<n)(f:n*1<=16777216):
  ∃s a,(au 32 n parts).run aq w=.ok (Sl.v s) a/\Own mh 1 9 w.heap.size a (λ_=>True) s l/\Q [] w a:=by
 obtain⟨s,a,b,c,d,_⟩:=kz (P:=aq) (t:=32) (e:=9) (i:=Tryz.t9) (w:=w) (F:=λ_=>True) (r:=mh) (size:=1) (vs:=l.map λx=>Value.string (T x)) (xs:=l) (len:=n) aae aae rfl rfl Z p afG h f du (aa3 l w);exact⟨s,a,b,c,d⟩
def PI{f:Type}{r:Rp f}{size:Nat}{e:TypeId}{B:Nat}{w:av}{F:aJ}{s:Sl}{a:List f}(d:r.Ok)(t:∀w F G x b,r w F x b->r w G x b)(h:Own r size e B w F s a):aA r size w (λk=>B<=k/\s.a=aM ⟨k,0,aaa⟩) s a:=by
 rcases h with⟨rfl,rfl⟩ | ⟨q,c,tail,g,i,j,l,m,n,p,o⟩
 ·exact SliceF.nil _ _ _ _
 have u:Own r size e B w (λ_=>False) s a:=.inr ⟨q,c,tail,g,i,j,l,m,n,p,iI.imp (λ_ _ h=>⟨h.1,t _ _ _ _ _ h.2⟩) o⟩;exact(u.slice d).mono d λk hk=>hk.elim False.elim id
def zK{e:TypeId}{B:Nat}{w:av}{F:aJ}{s:Sl}{x:aH}(h:Own nq 1 e B w F s x):aA nq 1 w (λk=>B<=k/\s.a=aM ⟨k,0,aaa⟩) s x:=PI tH (λ_ _ _ _ _ h=>h) h
def vF{e:TypeId}{B:Nat}{w:av}{F:aJ}{s:Sl}{x:List (aH)}(h:Own mh 1 e B w F s x):aA mh 1 w (λk=>B<=k/\s.a=aM ⟨k,0,aaa⟩) s x:=PI du (λ_ _ _ _ _ h=>h) h
def lz:Bool->aH->Nat
 | _,[]=>0
 | true,c::r=>1+lz (c !=10) r
 | false,c::r=>if qD c then 1+lz aL r else if c==47&&r.head? ==aM 47 then 1+lz aE r else 0
def HR:∀{b:Bool} {l:aH},lz b l<=I l
 | b,[]=>by simp[lz]
 | true,c::r=>by
  rw[lz,aY];have:=HR (b:=c !=10) (l:=r);omega
 | false,c::r=>by
  rw[lz,aY];have h:=HR (b:=aL) (l:=r);have a:=HR (b:=aE) (l:=r);split
  ·omega
  split<;>omega
def KH:∀(l:aH),lz aE l=I (l.takeWhile (· !=10))+lz aL (l.drop (I (l.takeWhile (· !=10))))
 | []=>rfl
 | c::r=>by
  by_cases hc:c=10
  ·subst hc;rw[lz];simp[lz,qD]
  ·have h:(c !=10)=aE:=aaj
   rw[lz,h,KH r,dL,aV h,aY,qc];omega
def Gh{l:aH}(h:l.take 2=[47,47]):lz aL l=I (l.takeWhile (· !=10))+lz aL (l.drop (I (l.takeWhile (· !=10)))):=by
 match l,h with
 | a::b::r,h=>
  simp only[gx,cA,C9,and_true]at h;obtain⟨rfl,rfl⟩:=h;have e:lz aL (47::47::r)=1+lz aE (47::r):=by
   conv=>lhs;rw[lz]
   rw[aP Z,aV aag]
  have c:=KH (47::r);have d:(47::47::r:aH).takeWhile (· !=10)=47::(47::r:aH).takeWhile (· !=10):=by
   rw[dL,aV Z]
  rw[e,c,d,aY,qc];omega
def pv{l:aH}{j:Nat}{x:UInt8}(h:l[j]? =aM x):l.drop j=x::l.drop (j+1):=by
 obtain⟨a,b⟩:=bc.1 h;rw[jh a,b]
def V4{w:av}{b:Nat}{t:TypeId}{l:aH}{i:Nat}{r:aI}(m:Cur w b t l i r)(p:i<=I l)(A:I l<9223372036854775807):
  az aq 102 #[ae (aM ⟨b,0,aaa⟩)] w λe c=>e=ak (ai #[])/\Q [b] w c/\Cur c b t l (i+lz aL (l.drop i)) r:=by
 refine ret (alZ _ ?_);refine⟨λv c=>∃j:Nat,j<=I l/\v=(I l)-j/\i+lz aL (l.drop i)=j+lz aL (l.drop j)/\Q [b] w c/\Cur c b t l j r,(I l)-i,⟨i,p,rfl,rfl,Only.refl _ _,m⟩,?_⟩;rintro v B ⟨j,g,rfl,h,q,f⟩;have kp:∀{u k:av} {n:Nat},Q [] u k->Cur u b t l n r->Cur k b t l n r:=λo C=>(o.block b C.lt aag).trans C;refine(adV f).mono ?_;rintro _ E ⟨rfl,D⟩;have d:=kp D f;refine⟨_,rfl,λhc=>?_,λhc=>⟨rfl,q.trans D aag,?_⟩⟩
 ·have L:j<I l:=aaj
  have hx:l[j]? =aM l[j]:=bf L;generalize l[j]=x at hx;have hd:=pv hx;refine⟨T l,Blk.dP d 0 rfl,j,Blk.dP d 1 rfl,x,⟨ba j,adY⟩,λW M=>?_⟩;obtain⟨s,Y,R,V,k3,_⟩:=uX W [9,10,13,32] (n:=4) (parts:=#[(0,.int .u8 9),(1,.int .u8 10),(2,.int .u8 13),(3,.int .u8 32)]) rfl rfl Z Z;refine⟨s,Y,R,(KF (zK V) x).mono ?_⟩;rintro _ w4 ⟨rfl,N⟩;have S:=M.cd (k3.cd N);have G:=kp S d;have H:Q [b] w w4:=q.trans (D.cd S) aag;refine⟨_,rfl,λF=>⟨j,Blk.dP G 1 rfl,b,1,_,t,by rw[gC],G,aag,λw5 P K=>⟨(I l)-(j+1),J,j+1,J,rfl,?_,H.trans P aag,?_⟩⟩,λF=>(DQ G g).mono ?_⟩
  ·have e:qD x=aE:=F;rw[h,hd,lz,aV e];omega
  ·rw[fh J J]at K;exact K
  rintro _ w6 ⟨rfl,e⟩;have h6:=kp e G;have am:I (l.drop j)<=I l:=by rw[cJ];omega
  refine⟨_,rfl,(KG w6 (l.drop j) [47,47] J Z).mono ?_⟩;rintro _ w7 ⟨rfl,T⟩;have h7:=kp T h6;refine⟨_,rfl,λs=>(DQ h7 g).mono ?_,λs=>⟨rfl,H.trans (e.cd T) aag,?_⟩⟩
  ·rintro _ w8 ⟨rfl,z⟩;have h8:=kp z h7;refine⟨_,rfl,(anq w8 (l.drop j) 10 J).mono ?_⟩;rintro _ w9 ⟨s9,b9,rfl,y⟩;have h9:=kp y h8;have x:(l.drop j).take 2=[47,47]:=aO s;have hk:=Gh x;have fN:I ((l.drop j).takeWhile (· !=10))<=I (l.drop j):=by
    rw[pu,cx];exact Nat.min_le_right _ _
   have aC:0<I ((l.drop j).takeWhile (· !=10)):=by
    match b:l.drop j,x with
    | a::n,x=>
     have:a=47:=by
      match n,x with
      | t::a,x=>simp at x;exact x.1
     subst this;simp
   have aS:I (l.drop j)=(I l)-j:=cJ;generalize hn:I ((l.drop j).takeWhile (· !=10))=n at*
   refine⟨_,s9,b9,rfl,j,Blk.dP h9 1 rfl,b,1,_,t,by rw[gC],h9,aag,λdz dX pK=>⟨(I l)-(j+n),J,j+n,J,rfl,?_,(H.trans (e.cd (T.cd (z.cd y))) aag).trans dX aag,?_⟩⟩
   ·rw[h,hk,jH];omega
   ·rw[cM,hn,fh J J]at pK;exact pK
  ·have s:¬(l.drop j).take 2=[47,47]:=aU s;have F:qD x=aL:=F;have n:lz aL (l.drop j)=0:=by
    rw[hd,lz,aP (by simp[F]),aP];intro a;apply s;rw[hd];simp only[aR,dB]at a;obtain⟨rfl,a⟩:=a;cases b:l.drop (j+1)with
    | nil=>rw[b]at a;simp at a
    | cons y z=>
     rw[b]at a;simp only[j7,bJ]at a;rw[a];rfl
   rw[h,n];exact h7
 ·have a:I l<=j:=aaj
  have z:l.drop j=[]:=dV a;rw[h,z];exact d
def Er(w:av):Prop:=∃t p,w.var? aq "strconv.ErrRange" =aM #[.iface t p]
def er_num:Tryz.prog.globalNamed "strconv.ErrRange" =aM 4:=aae
def Er.keep{w w':av}(h:Er w)(hk:4<w.heap.size->w'.heap[4]? =w.heap[4]?):Er w':=by
 obtain⟨t,p,h⟩:=h;refine⟨t,p,?_⟩;unfold World.var? at h⊢;rw[er_num]at h⊢;simp only[Ui]at h⊢;rw[hk]
 ·exact h
 refine bQ λn=>?_;rw[iR J]at h;cases h
def Er.lt{w:av}(h:Er w):4<w.heap.size:=by
 obtain⟨t,p,h⟩:=h;unfold World.var? at h;rw[er_num]at h;simp only[Ui]at h;refine bQ λn=>?_;rw[iR J]at h;cases h
def Er.only{w w':av}(h:Er w)(a:Q [] w w'):Er w':=h.keep λb=>a.block _ b aag
def mP(a:Nat)(d:aH):Nat:=d.foldl (λa c=>a*10+(c.toNat-48)) a
def HS:∀(d:aH) (a:Nat),a<=mP a d
 | [],a=>aX _
 | c::r,a=>by
  have:=HS r (a*10+(c.toNat-48));show a<=mP (a*10+(c.toNat-48)) r;omega
def pum:∀(d:aH) (a:Nat),(∀c,c∈d->dw c=aE)->a<=18446744073709551615->
  Lib.parseUintM 18446744073709551615 a d=if mP a d<=18446744073709551615 then .ok (mP a d)else .range
 | [],a,_,h=>by rw[Lib.parseUintM];exact(aV h).symm
 | c::r,a,hd,b=>by
  have h:=hd c aag;simp only[dw,aR,bG]at h;have e:mP a (c::r)=mP (a*10+(c.toNat-48)) r:=rfl;have m:=HS r (a*10+(c.toNat-48));rw[Lib.parseUintM,aV h,e];split
  ·rw[aP J]
  split
  ·rw[aP J]
  rw[pum r _ (λx hx=>hd x adD) J]
def pib{d:aH}(hd:∀c,c∈d->dw c=aE)(i:d≠[]):Lib.parseIntB 64 d=if mP 0 d<9223372036854775808 then .ok (mP 0 d:Int)else .range:=by
 match d,i with
 | c::r,_=>
  have e:=hd c aag;simp only[dw,aR,bG]at e;have a:¬(c.toNat=43∨c.toNat=45):=J
  have h:¬c.toNat=45:=J
  have b:Lib.parseUintB 64 (c::r)=Lib.parseUintM 18446744073709551615 0 (c::r):=by
   rw[Lib.parseUintB,aP aag]
  unfold Lib.parseIntB;dsimp only;rw[aP a,b,pum _ _ hd Z];by_cases v:mP 0 (c::r)<=18446744073709551615
  ·rw[aV v];by_cases w:mP 0 (c::r)<9223372036854775808
   ·rw[aV w];simp[h];omega
   rw[aP w];simp[h];omega
  rw[aP v,aP J]
def gr(l:aH):Nat×Nat×Int:=
 if l=[]then(0,0,3)else if l.takeWhile dw=[]∨(1<I (l.takeWhile dw)/\l.head? =aM 48)then(0,0,4)
 else if mP 0 (l.takeWhile dw)<9223372036854775808 then(mP 0 (l.takeWhile dw),I (l.takeWhile dw),0)else(0,0,20)
def A8{p:UInt8->Bool}{l:aH}:∀c,c∈l.takeWhile p->p c=aE:=by
 have:=List.all_takeWhile (p:=p) (l:=l);rwa[dx]at this
def V5{a:av}{l:aH}(E:Er a)(i:I l<281474976710656):
  az aq 186 #[X (T l)] a λe w=>e=ak (ai #[O U (gr l).1,O U (gr l).2.1,O U (gr l).2.2])/\Q [] a w:=by
 refine ret (v0w _ ?_);refine⟨λv j w=>∃n:Nat,n<=I l/\j=(n:Int)/\v=(I l)-n/\(∀x,x∈l.take n->dw x=aE)/\Q [] a w,I l,⟨0,be _,rfl,rfl,aag,Only.refl _ _⟩,?_⟩;rintro v _ g ⟨n,d,rfl,rfl,f,c⟩;rw[cM];refine⟨λb w=>(b=aE->∃x,l[n]? =aM x/\dw x=aE)/\(b=aL->∀x,l[n]? =aM x->dw x=aL)/\Q [] a w,?_,λh=>?_,λh=>⟨λe=>aeZ,λ_ x hx=>?_,c⟩⟩
 ·rintro b q ⟨m,o,D⟩;refine⟨λk=>?_,λk=>?_⟩
  ·obtain⟨x,hx,e⟩:=m k;have p:=(bc.1 hx).1;refine⟨(I l)-(n+1),J,n+1,J,aaf,rfl,λy b=>?_,D⟩;rw[bh,hx]at b;simp only[fY,ch,aN]at b;rcases b with b | rfl
   ·exact f y b
   exact e
  have t:=nP d f (o k);have y:I (l.takeWhile dw)=n:=by rw[t,cx];omega
  have u:(ao #[])=T []:=rfl;rw[u,iv];refine⟨λr=>⟨?_,D⟩,λr=>?_⟩
  ·have r:l=[]:=aO r;rw[gr,aV r];rfl
  have r:¬l=[]:=aU r;refine⟨λb w=>b=decide (l.takeWhile dw=[]∨(1<I (l.takeWhile dw)/\l.head? =aM 48))/\Q [] a w,?_,λhz=>?_,λhz=>?_⟩
  ·rintro b z ⟨rfl,x⟩;refine⟨λk=>⟨?_,x⟩,λk=>⟨n,⟨rfl,d⟩,?_⟩⟩
   ·rw[gr,aP r,aV (aO k)];rfl
   have k:=aU k;have hx:(T l).extract 0 n=T (l.takeWhile dw):=by rw[wa,im,sI,t]
   rw[hx];have C:l.takeWhile dw≠[]:=λe=>k (.inl e);have b:=pib (A8 (p:=dw) (l:=l)) C;have A:(T (l.takeWhile dw)).size<=281474976710656:=aa2
   by_cases B:mP 0 (l.takeWhile dw)<9223372036854775808
   ·rw[aV B]at b;refine(Tryz.strconv_ParseInt_10_at64_ok (T (l.takeWhile dw)) (bD A Z) _ b z).mono ?_;rintro _ F ⟨rfl,p⟩;have n:Q [] z F:=by
     rcases p with rfl | ⟨s,rfl⟩
     ·exact Only.refl _ _
     exact Only.wS (Lib.bytesWorld_below _ _ _)
    refine⟨_,⟨.nilIface,rfl⟩,rfl,.inl rfl,λe=>aeZ,λ_=>⟨?_,x.cd n⟩⟩;rw[gr,aP r,aP k,aV B,y]
   rw[aP B]at b;obtain⟨F,p,n⟩:=E.only x;refine(Tryz.strconv_ParseInt_10_at64_range_var (T (l.takeWhile dw)) A b F p z n).mono ?_;rintro _ G ⟨N,rfl,_,_,s⟩;refine⟨_,⟨.iface _ _,rfl⟩,rfl,.inr ⟨_,_,rfl⟩,λ_=>⟨?_,x.cd (Only.wS s)⟩,λe=>aeZ⟩;rw[gr,aP r,aP k,aP B];rfl
  ·have hz:n=0:=ago
   subst hz;refine⟨?_,D⟩;symm;rw[bF (.inl (bH y))];rfl
  have hz:n≠0:=ago
  obtain⟨x,b,rfl⟩:∃x b,l=x::b:=by
   cases l with
   | nil=>exact absurd rfl r
   | cons x b=>exact⟨x,b,rfl⟩
  refine⟨x,λ_=>⟨ky _,afH⟩,?_,D⟩;have p:(x::b).takeWhile dw≠[]:=λe=>by rw[e]at y;exact hz y.symm
  rw[y,bL];simp only[aR,bG,dB,j7,bJ];constructor
  ·rintro⟨m,o⟩;exact .inr ⟨J,ZT.1 (by show x.toNat=48;omega)⟩
  rintro(e | ⟨m,rfl⟩)
  ·exact absurd e p
  exact⟨J,rfl⟩
 ·have m:(n:Int)<I l:=aO h;have hx:l[n]? =aM (l[n]' J):=bf J;generalize l[n]' J=x at hx;refine⟨x,⟨ba n,adY⟩,(V0 g x).mono ?_⟩;rintro _ o ⟨rfl,e⟩;refine⟨_,rfl,λk=>⟨x,hx,k⟩,λhd y b=>?_,c.cd e⟩;rw[hx]at b;injection b with b;subst b;exact hd
 have m:¬(n:Int)<I l:=aU h;have:=(bc.1 hx).1;omega
structure Tk where
 k:Int
 t:aH
 n:Int
 a:Int
deriving DecidableEq
def Tk.v(x:Tk):aw:=ah #[O U x.k,X (T x.t),O U x.n,O U x.a]
def Jv:Rp Tk:=λ_ _ x c=>c=[O U x.k,X (T x.t),O U x.n,O U x.a]
def ji:Jv.Ok where
 keep h _:=h
 inHeap h:=h
 mono h _:=h
 one:=by
  rintro w F x c h v a;unfold Jv at h;subst h;simp only[aZ,bp,ci]at a;rcases a with rfl | rfl | rfl | rfl<;>rfl
abbrev ou(B:Nat)(w:av)(s:Sl)(x:List Tk):Prop:=Own Jv 4 159 B w (λ_=>True) s x
def ou.of{B:Nat}{w:av}{F:aJ}{s:Sl}{x:List Tk}(h:Own Jv 4 159 B w F s x):ou B w s x:=h.mono ji λ_ _=>trivial
def ou.sl{B:Nat}{w:av}{s:Sl}{x:List Tk}(h:ou B w s x):aA Jv 4 w (λk=>B<=k/\s.a=aM ⟨k,0,aaa⟩) s x:=PI ji (λ_ _ _ _ _ h=>h) h
def ou.flat{B:Nat}{w:av}{s:Sl}{x:List Tk}(h:ou B w s x):Own Jv 4 159 B w (λ_=>False) s x:=by
 rcases h with h | ⟨k,c,tail,a,b,d,e,f,g,j,i⟩
 ·exact .inl h
 exact .inr ⟨k,c,tail,a,b,d,e,f,g,j,iI.imp (λ_ _ h=>h) i⟩
def ou.keep{B:Nat}{w w':av}{s:Sl}{x:List Tk}(h:ou B w s x)(hk:∀k,B<=k/\s.a=aM ⟨k,0,aaa⟩->k<w.heap.size->w'.heap[k]? =w.heap[k]?):ou B w' s x:=
 ou.of (h.flat.keep ji λk F b=>hk k (F.elim False.elim id) b)
def ou.only{B:Nat}{w w':av}{s:Sl}{x:List Tk}(h:ou B w s x)(a:Q [] w w'):ou B w' s x:=h.keep λk _ b=>a.block k b aag
def ou.p{B:Nat}{w a:av}{s:Sl}{x:List Tk}{D:aJ}(h:ou B w s x)(d:aD D w a)(c:∀k,B<=k->s.a=aM ⟨k,0,aaa⟩->¬D k):ou B a s x:=h.keep λk hk b=>d.block k b (c k hk.1 hk.2)
def V6{c:av}{B:Nat}{s:Sl}{d:List Tk}(t:Tk)(l:ou B c s d)(j:B<=c.heap.size)(m:(I d+1)*40<=140737488355328):
  ∃y w,(au 142 1 #[(0,t.v)]).run aq c=.ok (Sl.v y) w/\Q [] c w/\∃b a,(Builtin.append_ #[142,142] 142 #[Sl.v s,Sl.v y]).run aq w=.ok (Sl.v b) a/\ou B a b (d++[t])/\aD (λk=>B<=k/\s.a=aM ⟨k,0,aaa⟩) w a:=by
 obtain⟨y,w,n,o,b,a,k3,p,⟨r,q,f⟩,_⟩:=kj (P:=aq) (t:=142) (ty:=142) (e:=159) (i:=Tryz.t159) (bytes:=40) (size:=4) (v:=t.v) (x:=t) (G:=λ_=>False) aae aae rfl rfl rfl rfl Z Z Z ji l j rfl rfl (λk hk _=>hk.elim) m;exact⟨y,w,n,o,b,a,k3,ou.of p,q.p λg h=>.inl ⟨(f g h).2.1,(f g h).1⟩⟩
def lf:List (aH):=[[97,102,116,101,114],[97,108,119,97,121,115],[99,104,97,114,116],[100,101,101,112],[101,109,105,116],[101,110,116,101,114],[104,105,115,116,111,114,121],[105,110],[105,110,105,116,105,97,108],[108,101,97,118,101],[111,110],[112,97,114,97,108,108,101,108],[114,97,105,115,101],[115,101,116],[115,116,97,116,101],[118,97,114]]
def PJ(w:av):az aq 101 #[] w λe a=>∃s:Sl,e=ak s.v/\Own mh 1 9 w.heap.size a (λ_=>True) s lf/\Q [] w a:=by
 refine ik (alY ?_);obtain⟨s,a,h,b,c⟩:=ld w lf (n:=16) rfl rfl Z Z;exact⟨s,a,h,s,rfl,b,c⟩
structure Cut (w:av) (b:Nat) (l:aH) (i:Nat) (rs:Sl) (acc:List Tk):Prop where
 blk:∃ws:Sl,aF w b 185 [X (T l),O U (i:Int),ws.v,rs.v]/\aA mh 1 w (λk=>k<b) ws lf
 own:ou (b+1) w rs acc
 er:Er w
 gb:4<b
 il:i<=I l
 ll:I l<=16384
def Cut.lt{w:av}{b:Nat}{l:aH}{i:Nat}{r:Sl}{a:List Tk}(h:Cut w b l i r a):b<w.heap.size:=by
 obtain⟨s,c,_⟩:=h.blk;exact c.lt
def Cut.only{w w':av}{b:Nat}{l:aH}{i:Nat}{r:Sl}{a:List Tk}(h:Cut w b l i r a)(c:Q [] w w'):Cut w' b l i r a:=by
 obtain⟨s,d,e⟩:=h.blk;exact⟨⟨s,(c.block b d.lt aag).trans d,SliceF.only du Z e c aag⟩,h.own.only c,h.er.only c,h.gb,h.il,h.ll⟩
def Cut.move{e f:av}{b:Nat}{l:aH}{i j:Nat}{r:Sl}{a:List Tk}(h:Cut e b l i r a)(d:Q [b] e f)(n:j<=I l)(B:∀w:Sl,aF e b 185 [X (T l),O U (i:Int),w.v,r.v]->aF f b 185 [X (T l),O U (j:Int),w.v,r.v]):Cut f b l j r a:=by
 obtain⟨w,g,m⟩:=h.blk;exact⟨⟨w,B w g,SliceF.only du Z m d (by intro k hk _;simp only[aN];omega)⟩,h.own.keep λk hk c=>d.block k c aaR,h.er.keep λc=>d.block _ c (by simp only[aN];have:=h.gb;omega),h.gb,n,h.ll⟩
def PK{w:av}{b:Nat}{l:aH}{i:Nat}{r:Sl}{a:List Tk}(d:Cut w b l i r a)(k:Int)(t:aH)(z L:Int)(n:Nat)(R:i+n<=I l)(ha:I a<=16384):
  az aq 105 #[ae (aM ⟨b,0,aaa⟩),ah #[O U k,X (T t),O U z,O U L],O U (n:Int)] w λe G=>e=ak (ai #[])/\aD (λk=>b<=k) w G/\∃A,Cut G b l (i+n) A (a++[⟨k,t,z,i⟩]):=by
 refine ret (al2 _ _ _ _ _ _ ?_);intro v W fZ ez m;have H:=d.lt;have K:=d.ll;have E:=d.only m;obtain⟨j,C,S⟩:=E.blk;refine⟨i,Blk.dP C 1 rfl,λo D=>?_⟩;have B:=C.lt;have V:aF o b 185 _:=(D.block b B aaR).trans C;have Y:ou (b+1) o r a:=E.own.keep λq h c=>by
  refine D.block q c ?_;simp only[aN];rintro rfl;have:=(d.own.blk h.2).2;dsimp only at this;omega
 have z1:=D.size;obtain⟨y,w2,M,f,s,p,N,P,g⟩:=V6 ⟨k,t,z,i⟩ Y J (bD (fu 40 (show (I a)+1<=16385 by omega)) Z);have z2:=f.size;have z3:=g.size;have u:∀q,r.a=aM ⟨q,0,aaa⟩->q≠v:=λq h=>by
  have:=(d.own.blk h).2;dsimp only at this;omega
 refine⟨λq=>q=b,rfl,r,Blk.dP V 3 rfl,y,w2,M,f.same aah,bT.only f,s,p,N,?_,?_,?_⟩
 ·exact g.same (by intro x b;simp only[aN]at b;subst b;exact⟨J,λe=>u _ e.2 rfl⟩)
 ·intro q h c;exact g.block q c J
 have am:aF p b 185 [X (T l),O U (i:Int),j.v,r.v]:=(g.block b J J).trans ((f.block b J aag).trans V);refine⟨b,3,_,185,by rw[gC],am,aag,J,λy x e=>?_⟩;have e:aF y b 185 [X (T l),O U (i:Int),j.v,s.v]:=e;refine⟨i,Blk.dP e 1 rfl,b,1,_,185,by rw[Sm,gC],e,aag,J,λw5 eh t=>⟨rfl,?_,s,?_⟩⟩
 ·have n:aD (λk=>b<=k) w o:=m.p0.trans (D.p (F:=λq=>q=v) λb hb=>.inl abS) λq h=>J
  have T:aD (λk=>b<=k) w p:=(n.cd f).trans g λq h=>.inl J;have e3:aD (λk=>b<=k) w y:=T.trans (x.p (F:=λq=>q=b) λb hb=>.inl abS) λq h=>.inl J;exact e3.trans (eh.p (F:=λq=>q=b) λb hb=>.inl abS) λq h=>.inl J
 have z4:=x.size;have t:aF w5 b 185 [X (T l),O U (IntKind.i64.wrap ((i:Int)+n)),j.v,s.v]:=t;rw[fh J J]at t;have up:aD (λk=>b<=k) w w5:=by
  have n:aD (λk=>b<=k) w o:=m.p0.trans (D.p (F:=λq=>q=v) λb hb=>.inl abS) λq h=>J
  have T:aD (λk=>b<=k) w p:=(n.cd f).trans g λq h=>.inl J;have e3:aD (λk=>b<=k) w y:=T.trans (x.p (F:=λq=>q=b) λb hb=>.inl abS) λq h=>.inl J;exact e3.trans (eh.p (F:=λq=>q=b) λb hb=>.inl abS) λq h=>.inl J
 have aC:=d.gb;obtain⟨T0,oV,aS⟩:=d.blk;have aT:T0=j:=by
  have:aF W b 185 [X (T l),O U (i:Int),T0.v,r.v]:=(m.block b H aag).trans oV;unfold aF at this C;rw[this]at C;simp[Sl.v]at C;cases j;cases T0;simp_all
 subst aT;refine⟨⟨T0,t,SliceF.kU du Z aS up λq h _ hd=>J⟩,?_,d.er.keep λc=>up.block _ c J,aC,R,K⟩;have e4:ou (b+1) y s _:=P.keep λq h c=>x.block q c aaR;exact e4.keep λq h c=>eh.block q c aaR
abbrev Tq:=Int×aH×Int×Nat
def ov(m:aH):Except Int Tq:=
 if 24<I (m.takeWhile fA) then .error 2 else .ok (if lf.contains (m.takeWhile fA)then 2 else 1,m.takeWhile fA,0,I (m.takeWhile fA))
def uY(m:aH):Except Int Tq:=
 if(gr m).2.2≠0 then .error (gr m).2.2 else if(gr m).2.1<I (m.takeWhile fA) then .error 4 else .ok (3,[],(gr m).1,(gr m).2.1)
def qE:aH:=[123,125,40,41,91,93,59,44,61,43,45,42,47,37,60,62,33]
def tS(m:aH):Bool:=match m with
 | c::d::_=>(d==61&&[60,62,61,33].contains c)||(d==c&&[38,124].contains c)||(c==45&&d==62)
 | _=>aL
def jU(m:aH):Nat:=if tS m then 2 else match m with
 | c::_=>if qE.contains c then 1 else 0
 | []=>0
def qj(m:aH):Except Int Tq:=if jU m=0 then .error 4 else .ok (4,m.take (jU m),0,jU m)
def nQ(m:aH):Except Int Tq:=match m with
 | []=>.error 4
 | c::_=>if fS c then ov m else if dw c then uY m else qj m
def Us(w:av)(b:Nat)(l:aH)(i:Nat)(a:List Tk)(r:Except Int Tq)(v:aw):Prop:=match r with
 | .error e=>v=O U e/\∃s,Cut w b l i s a
 | .ok q=>v=O U 0/\∃s,Cut w b l (i+q.2.2.2) s (a++[⟨q.1,q.2.1,q.2.2.1,i⟩])
def tT{p:UInt8->Bool}{l:aH}:I (l.takeWhile p)<=I l:=by
 rw[pu,cx];exact Nat.min_le_right _ _
def agj{c:av}{b:Nat}{l:aH}{i:Nat}{r:Sl}{a:List Tk}(h:Cut c b l i r a)(g:I a<=16384):
  az aq 148 #[ae (aM ⟨b,0,aaa⟩)] c λe w=>∃v,e=ak v/\aD (λk=>b<=k) c w/\Us w b l i a (ov (l.drop i)) v:=by
 refine amu ⟨b,0,aaa⟩ (λv w=>aD (λk=>b<=k) c w/\Us w b l i a (ov (l.drop i)) v) c ?_;obtain⟨s,d,f⟩:=h.blk;have m:=h.ll;refine(V3 d h.il J).mono ?_;rintro _ n ⟨rfl,q⟩;have j:I ((l.drop i).takeWhile fA)<=(I l)-i:=by
  have:=tT (p:=fA) (l:=l.drop i);rwa[cJ]at this
 have R:=h.il;refine⟨_,rfl,λhc=>⟨q.p0,?_⟩,λhc=>?_⟩
 ·rw[cM]at hc;rw[ov,aV aa1];exact⟨rfl,r,h.only q⟩
 rw[cM]at hc;have hc:¬24<I ((l.drop i).takeWhile fA):=aa6
 rw[ov,aP hc];generalize t:(l.drop i).takeWhile fA=b at*
 have p:=h.only q;obtain⟨o,V,e⟩:=p.blk;refine⟨λk w=>k=(if lf.contains b then 2 else 1)/\Q [] c w,?_,o,Blk.dP V 2 rfl,(wm e b).mono ?_⟩
 ·rintro _ k ⟨rfl,D⟩;refine(ret (adS (T b) (λv w=>v=X (T b)/\Q [] k w) k ?_)).mono ?_
  ·refine(Tryz.stringslite_Clone (T b) k aa2).mono ?_;rintro _ u ⟨rfl,f⟩;exact⟨_,rfl,rfl,Only.wS f⟩
  rintro _ y ⟨rfl,v⟩;rw[cM];refine⟨_,rfl,(PK (h.only (D.cd v)) _ b 0 0 (I b) J g).mono ?_⟩;rintro _ z ⟨rfl,x,u,C⟩;exact⟨rfl,(D.cd v).qz x,rfl,u,C⟩
 rintro _ u ⟨rfl,k⟩;refine⟨_,rfl,λd=>⟨by rw[aV d],q.cd k⟩,λd=>⟨by rw[d];rfl,q.cd k⟩⟩
def V7{w:av}{b:Nat}{l:aH}{i:Nat}{r:Sl}{a:List Tk}(h:Cut w b l i r a)(d:I a<=16384):
  az aq 150 #[ae (aM ⟨b,0,aaa⟩)] w λe c=>∃v,e=ak v/\aD (λk=>b<=k) w c/\Us c b l i a (uY (l.drop i)) v:=by
 refine amw ⟨b,0,aaa⟩ (λv c=>aD (λk=>b<=k) w c/\Us c b l i a (uY (l.drop i)) v) w ?_;obtain⟨s,f,j⟩:=h.blk;have g:=h.ll;have R:=h.il;refine(DQ f h.il).mono ?_;rintro _ m ⟨rfl,q⟩;have y:I (l.drop i)=(I l)-i:=cJ;refine⟨_,rfl,(V5 (h.er.only q) J).mono ?_⟩;rintro _ n ⟨rfl,D⟩;have u:=q.cd D;refine⟨_,_,_,rfl,λhe=>⟨u.p0,?_⟩,λhe=>?_⟩
 ·rw[uY,aV acT];exact⟨rfl,r,h.only u⟩
 have he:¬(gr (l.drop i)).2.2≠0:=acT
 have hk:(gr (l.drop i)).2.1<=I (l.drop i):=by
  have:=tT (p:=dw) (l:=l.drop i);unfold gr;split
  ·exact be _
  split
  ·exact be _
  split
  ·exact this
  exact be _
 obtain⟨T,o,e⟩:=(h.only u).blk;refine(V3 o h.il J).mono ?_;rintro _ k ⟨rfl,b⟩;have G:=u.cd b;refine⟨_,rfl,?_⟩;dsimp only;rw[cM];refine⟨λhc=>⟨G.p0,?_⟩,λhc=>?_⟩
 ·rw[uY,aP he,aV aa1];exact⟨rfl,r,h.only G⟩
 rw[uY,aP he,aP aa6];refine(PK (h.only G) 3 [] _ 0 (gr (l.drop i)).2.1 J d).mono ?_;rintro _ v ⟨rfl,t,p,C⟩;exact⟨rfl,G.qz t,rfl,p,C⟩
def wo(w:av)(p:Addr)(n:Nat)(a:Addr):(w.freeze p n).cell? a=w.cell? a:=by
 unfold World.freeze;split
 ·rfl
 unfold World.cell?;simp only[E8];by_cases b:p.block=a.block
 ·rw[aV b];rcases h:w.heap[a.block]? with _|o
  ·rfl
  cases o with
  | cells c e f=>obtain⟨l,h⟩:=f;rfl
  | _=>rfl
 rw[aP b]
def wq(w:av)(p:Addr)(n:Nat):aD (λk=>k=p.block) w (w.freeze p n):=by
 unfold World.freeze;split
 ·exact OnlyP.refl _ _
 exact⟨rfl,rfl,rfl,aag,λk hk h=>by
  simp only[E8];rw[aP λe=>h e.symm]⟩
def agk{w:av}{F:aJ}{s:Sl}{g B:Nat}{l:aH}(b:s.a=aM ⟨g,0,aaa⟩)(i:Own nq 1 5 B w F s l)(p:g<w.heap.size):
  ∃d,(convert 197 197 (Sl.v s)).run aq w=.ok (Sl.v s) d/\aA nq 1 d (λ_=>True) s l/\aD (λk=>k=g) w d:=by
 have h:=zK i;obtain⟨r,c,tail,a,o,f,_⟩:=i.resolve_left (λe=>by rw[e.1]at b;cases b);rw[b]at a;injection a with a;injection a with a;subst a;have J:w.shape? g=aM (5,(c.flatten++tail).toArray.size):=by
  unfold World.shape?;unfold aF at f;rw[f]
 have m:Tryz.prog.underlying 197=aM (.slice 5):=aae
 have u:Tryz.prog.underlying 5=aM (.int .u8):=aae
 refine⟨w.freeze ⟨g,(c.flatten++tail).toArray.size,aaa⟩ 1,?_,⟨h.len,h.cap,h.nil0,h.big,λn x j=>?_⟩,wq w ⟨g,(c.flatten++tail).toArray.size,aaa⟩ 1⟩
 ·unfold Sl.v;rw[b];simp[convert,run_underlying m,run_underlying u,markStringish,J,Result.andThen]
 obtain⟨s,e,k,C,t,y,z⟩:=h.at_ n x j;exact⟨s,e,k,trivial,t,λq v A=>by rw[wo];exact y q v A,z⟩
def PL{c d:UInt8}:((c.toNat:Int)==(d.toNat:Int))=(c==d):=by
 rw[bL];simp only[dB];constructor
 ·intro h;exact ZT.1 J
 rintro rfl;rfl
def SI{m:aH}(h:tS m=aE):2<=I m:=by
 match m,h with
 | _::_::_,_=>simp
def zL{m:aH}:jU m<=I m:=by
 unfold jU;split
 ·exact SI (by assumption)
 split
 ·split
  ·simp
  exact be _
 exact be _
def agl{f:av}{b:Nat}{l:aH}{i:Nat}{q:Sl}{a:List Tk}(j:Cut f b l i q a)(u:I a<=16384)(B:i<I l):
  az aq 151 #[ae (aM ⟨b,0,aaa⟩)] f λe w=>∃v,e=ak v/\aD (λk=>b<=k) f w/\Us w b l i a (qj (l.drop i)) v:=by
 refine amx ⟨b,0,aaa⟩ (λv w=>aD (λk=>b<=k) f w/\Us w b l i a (qj (l.drop i)) v) f ?_;obtain⟨C,h,p⟩:=j.blk;have z:=j.ll;have R:=j.il;refine(DQ h j.il).mono ?_;rintro _ o ⟨rfl,t⟩;have y:I (l.drop i)=(I l)-i:=cJ;generalize A:l.drop i=m at*
 obtain⟨c,r,rfl⟩:∃c r,m=c::r:=by
  cases m with
  | nil=>simp at y;omega
  | cons c r=>exact⟨c,r,rfl⟩
 have g:(0:Int)<=0/\(T (c::r))[0]? =aM c:=⟨ky _,afH⟩
 refine⟨T (c::r),rfl,λx w=>x=(if qE.contains c then 1 else 0:Int)/\Q [] f w,?_,c,g,?_⟩
 ·rintro _ E ⟨rfl,D⟩;refine⟨λk w=>k=(jU (c::r):Int)/\Q [] f w,?_,λb w=>b=tS (c::r)/\Q [] f w,?_,?_,?_⟩
  ·rintro _ d ⟨rfl,b⟩;refine⟨λhz=>⟨b.p0,?_⟩,λhz=>⟨jU (c::r),⟨rfl,by rw[cM];exact zL⟩,?_⟩⟩
   ·rw[qj,aV (by have:(jU (c::r):Int)=0:=ago;omega)];exact⟨rfl,q,j.only b⟩
   have hz:¬jU (c::r)=0:=by
    intro e;rw[e]at hz;simp at hz
   rw[qj,aP hz,wa,im,sI];have n:=zL (m:=c::r);refine(ret (adS (T _) (λv w=>v=X (T ((c::r).take (jU (c::r))))/\Q [] d w) d ?_)).mono ?_
   ·refine(Tryz.stringslite_Clone (T _) d (by rw[cM,cx];omega)).mono ?_;rintro _ c ⟨rfl,p⟩;exact⟨_,rfl,rfl,Only.wS p⟩
   rintro _ G ⟨rfl,e⟩;refine⟨_,rfl,(PK (j.only (b.cd e)) 4 _ 0 0 (jU (c::r)) J u).mono ?_⟩;rintro _ H ⟨rfl,v,s,F⟩;exact⟨rfl,(b.cd e).qz v,rfl,s,F⟩
  ·rintro _ d ⟨rfl,b⟩;refine⟨λhs=>⟨by rw[jU,aV hs];rfl,b⟩,λhs=>⟨?_,b⟩⟩;have e:jU (c::r)=if qE.contains c then 1 else 0:=by rw[jU,aP aec]
   rw[e];split<;>rfl
  ·intro b;rw[cM]at b;obtain⟨d,r,rfl⟩:∃d e,r=d::e:=by
    cases r with
    | nil=>simp at b
    | cons d r=>exact⟨d,r,rfl⟩
   have L:(0:Int)<=1/\(T (c::d::r))[1]? =aM d:=⟨Z,afH⟩
   have ex:(T (c::d::r)).extract 0 2=T [c,d]:=by rw[wa];rfl
   have sz:2<=(T (c::d::r)).size:=by rw[cM];simp
   have M:(ao #[45,62])=T [45,62]:=rfl;have K:((T [c,d]).toList==(T [45,62]).toList)=(c==45&&d==62):=by
    rw[iv,bL];simp
   have G:((d.toNat:Int)==61)=(d==61):=PL (d:=61);have N:tS (c::d::r)=((d==61&&[60,62,61,33].contains c)||(d==c&&[38,124].contains c)||(c==45&&d==62)):=rfl;rw[N];generalize P:([60,62,61,33]:aH).contains c=p1;generalize Y:([38,124]:aH).contains c=p2;have H:((((T (c::d::r)).extract 0 2).toList)==((ao #[45,62]).toList))=(c==45&&d==62):=by rw[ex,M,K]
   refine⟨d,L,λF=>⟨c,g,λw6 V=>?_⟩,λF=>⟨d,L,c,g,λv=>⟨c,g,λS W=>?_⟩,λv=>⟨sz,λgw eS=>⟨?_,D.cd eS⟩⟩⟩⟩
   ·rw[G]at F;obtain⟨s,w7,k1,k2,k3,_⟩:=uX w6 [60,62,61,33] (n:=4) (parts:=#[(0,.int .u8 60),(1,.int .u8 62),(2,.int .u8 61),(3,.int .u8 33)]) rfl rfl Z Z;refine⟨s,w7,k1,(KF (zK k2) c).mono ?_⟩;rintro _ w8 ⟨rfl,ft⟩;have T:=D.cd (V.cd (k3.cd ft));rw[P];refine⟨_,rfl,λh=>⟨by rw[F,h];rfl,T⟩,λh=>⟨d,L,c,g,λv=>⟨c,g,?_⟩,λv=>⟨sz,?_,T⟩⟩⟩
    ·rw[PL]at v;obtain⟨s,w9,k1,k2,k3,_⟩:=uX w8 [38,124] (n:=2) (parts:=#[(0,.int .u8 38),(1,.int .u8 124)]) rfl rfl Z Z;refine⟨s,w9,k1,(KF (zK k2) c).mono ?_⟩;rintro _ dz ⟨rfl,dX⟩;have hO:=T.cd (k3.cd dX);rw[Y];exact⟨_,rfl,λd=>⟨by rw[F,h,v,d];rfl,hO⟩,λd=>⟨sz,by rw[H,F,h,v,d];rfl,hO⟩⟩
    rw[PL]at v;rw[H,F,h,v];rfl
   ·rw[G]at F;rw[PL]at v;obtain⟨s,eZ,k1,k2,k3,_⟩:=uX S [38,124] (n:=2) (parts:=#[(0,.int .u8 38),(1,.int .u8 124)]) rfl rfl Z Z;refine⟨s,eZ,k1,(KF (zK k2) c).mono ?_⟩;rintro _ fl ⟨rfl,eE⟩;have T:=D.cd (W.cd (k3.cd eE));rw[Y];exact⟨_,rfl,λd=>⟨by rw[F,v,d];rfl,T⟩,λd=>⟨sz,by rw[H,F,v,d];rfl,T⟩⟩
   rw[G]at F;rw[PL]at v;rw[H,F,v];rfl
  intro c e G;rw[cM]at c;have b:r=[]:=by
   cases r with
   | nil=>rfl
   | cons d r=>exact absurd (aU c) (by simp only[aY];omega)
  subst b;exact⟨rfl,D.cd G⟩
 obtain⟨s,K,L,e,k3,v⟩:=uX o qE (n:=17) (parts:=#[(0,.int .u8 123),(1,.int .u8 125),(2,.int .u8 40),(3,.int .u8 41),(4,.int .u8 91),(5,.int .u8 93),(6,.int .u8 59),(7,.int .u8 44),(8,.int .u8 61),(9,.int .u8 43),(10,.int .u8 45),(11,.int .u8 42),(12,.int .u8 47),(13,.int .u8 37),(14,.int .u8 60),(15,.int .u8 62),(16,.int .u8 33)]) rfl rfl Z Z;obtain⟨d,D,E,G⟩:=agk v e (e.blk v).2;have P:Q [] o d:=((k3.p0 (F:=λk=>o.heap.size<=k)).trans G λk hk=>.inl J).only λk hk=>hk;refine⟨s,K,L,s,d,D,(KF E c).mono ?_⟩;rintro _ M ⟨rfl,H⟩;have b:=t.cd (P.cd H);exact⟨_,rfl,λh=>⟨by rw[aV h],b⟩,λh=>⟨by rw[h];rfl,b⟩⟩
def Us.int{w:av}{b:Nat}{l:aH}{i:Nat}{a:List Tk}{r:Except Int Tq}{v:aw}(h:Us w b l i a r v):∃k:Int,v=O U k:=by
 unfold Us at h;split at h
 ·exact⟨_,h.1⟩
 exact⟨_,h.1⟩
def aa4{w:av}{b:Nat}{l:aH}{i:Nat}{r:Sl}{a:List Tk}(h:Cut w b l i r a)(d:I a<=16384)(j:i<I l):
  az aq 104 #[ae (aM ⟨b,0,aaa⟩)] w λe c=>∃v,e=ak v/\aD (λk=>b<=k) w c/\Us c b l i a (nQ (l.drop i)) v:=by
 refine al1 ⟨b,0,aaa⟩ (λv c=>aD (λk=>b<=k) w c/\Us c b l i a (nQ (l.drop i)) v) w ?_;obtain⟨s,g,o⟩:=h.blk;have hx:l[i]? =aM l[i]:=bf j;generalize l[i]=x at hx;have t:nQ (l.drop i)=if fS x then ov (l.drop i)else if dw x then uY (l.drop i)else qj (l.drop i):=by
  rw[pv hx];rfl
 rw[t];refine⟨T l,Blk.dP g 0 rfl,i,Blk.dP g 1 rfl,x,⟨ba i,adY⟩,λm q=>(DP m x).mono ?_⟩;rintro _ n ⟨rfl,D⟩;have u:=q.cd D;refine⟨_,rfl,λf=>?_,λf=>(PH n x).mono ?_⟩
 ·rw[aV f];refine(agj (h.only u) d).mono ?_;rintro _ e ⟨v,rfl,b,hd⟩;obtain⟨k,rfl⟩:=hd.int;exact⟨k,rfl,u.qz b,hd⟩
 rintro _ e ⟨rfl,b⟩;have p:=u.cd b;rw[aP (by rw[f];decide)];refine⟨_,rfl,λhd=>?_,λhd=>?_⟩
 ·rw[aV hd];refine(V7 (h.only p) d).mono ?_;rintro _ y ⟨v,rfl,x,hd⟩;obtain⟨k,rfl⟩:=hd.int;exact⟨k,rfl,p.qz x,hd⟩
 rw[aP (by rw[hd];decide)];refine(agl (h.only p) d j).mono ?_;rintro _ y ⟨v,rfl,x,hd⟩;obtain⟨k,rfl⟩:=hd.int;exact⟨k,rfl,p.qz x,hd⟩
def xt{m:aH}{q:Tq}(h:nQ m=.ok q):1<=q.2.2.2:=by
 cases m with
 | nil=>cases h
 | cons c r=>
  simp only[nQ]at h;split at h
  ·rename_i a;unfold ov at h;split at h
   ·cases h
   injection h with h;subst h;have:fA c=aE:=by unfold fA;rw[a];rfl
   dsimp only;rw[dL,aV this,aY];omega
  split at h
  ·rename_i c;unfold uY at h;split at h
   ·cases h
   split at h
   ·cases h
   rename_i b a;injection h with h;subst h;dsimp only;rw[dL,aV (by unfold fA;rw[c,pM]),aY]at a;omega
  unfold qj at h;split at h
  ·cases h
  injection h with h;subst h;dsimp only;omega
def HT{m:aH}{e:Int}(h:nQ m=.error e):e≠0:=by
 cases m with
 | nil=>injection h with h;omega
 | cons c r=>
  simp only[nQ]at h;split at h
  ·unfold ov at h;split at h
   ·injection h with h;omega
   cases h
  split at h
  ·unfold uY at h;split at h
   ·injection h with h;omega
   split at h
   ·injection h with h;omega
   cases h
  unfold qj at h;split at h
  ·injection h with h;omega
  cases h
def DS(l:aH):Nat->Nat->Except (Int×Nat) (List Tk)
 | 0,_=>.ok []
 | f+1,i=>
  if (I l)<=i+lz aL (l.drop i)then .ok [⟨5,[],0,(i+lz aL (l.drop i):Nat)⟩]
  else match nQ (l.drop (i+lz aL (l.drop i)))with
   | .error e=>.error (e,i+lz aL (l.drop i))
   | .ok q=>match DS l f (i+lz aL (l.drop i)+q.2.2.2)with
    | .error x=>.error x
    | .ok r=>.ok (⟨q.1,q.2.1,q.2.2.1,(i+lz aL (l.drop i):Nat)⟩::r)
def V8{l:aH}:(gr l).2.1<=I l:=by
 have:=tT (p:=dw) (l:=l);unfold gr;split
 ·exact be _
 split
 ·exact be _
 split
 ·exact this
 exact be _
def DT{m:aH}{q:Tq}(h:nQ m=.ok q):q.2.2.2<=I m:=by
 cases m with
 | nil=>cases h
 | cons c r=>
  simp only[nQ]at h;split at h
  ·unfold ov at h;split at h
   ·cases h
   injection h with h;subst h;exact tT
  split at h
  ·unfold uY at h;split at h
   ·cases h
   split at h
   ·cases h
   injection h with h;subst h;exact V8
  unfold qj at h;split at h
  ·cases h
  injection h with h;subst h;exact zL
def KI{l:aH}{i:Nat}(h:i<=I l):i+lz aL (l.drop i)<=I l:=by
 have:=HR (b:=aL) (l:=l.drop i);rw[cJ]at this;omega
def KJ(l:aH):∀(f g i:Nat),i<=(I l)->I l<i+f->I l<i+g->DS l f i=DS l g i
 | 0,_,i,a,h,_=>J
 | _,0,i,a,_,h=>J
 | f+1,g+1,i,b,h,a=>by
  rw[DS,DS];split
  ·rfl
  split
  ·rfl
  rename_i q c;have e:=xt c;have d:=DT c;rw[cJ]at d;rw[KJ l f g _ J J J]
def lJ(l:aH)(i:Nat):Except (Int×Nat) (List Tk):=DS l (I l+1) i
def lH{l:aH}{i:Nat}(h:i<=I l):lJ l i=if (I l)<=i+lz aL (l.drop i)then .ok [⟨5,[],0,(i+lz aL (l.drop i):Nat)⟩]
  else match nQ (l.drop (i+lz aL (l.drop i)))with
   | .error e=>.error (e,i+lz aL (l.drop i))
   | .ok q=>match lJ l (i+lz aL (l.drop i)+q.2.2.2)with
    | .error x=>.error x
    | .ok r=>.ok (⟨q.1,q.2.1,q.2.2.1,(i+lz aL (l.drop i):Nat)⟩::r):=by
 unfold lJ;rw[DS];split
 ·rfl
 split
 ·rfl
 rename_i q a;have c:=xt a;have b:=DT a;rw[cJ]at b;rw[KJ l (I l) (I l+1) _ J J J]
def di(l:aH):List Tk×Int×Int:=if 16384<I l then([],2, -1)else match lJ l 0 with
 | .error x=>([],x.1,(x.2:Nat))
 | .ok r=>(r,0,0)
def lg(a:List Tk):Except (Int×Nat) (List Tk)->Except (Int×Nat) (List Tk)
 | .error x=>.error x
 | .ok r=>.ok (a++r)
def sO(b:Bool):∀(l:aH),lz aL (l.drop (lz b l))=0
 | []=>by simp[lz]
 | c::r=>by
  cases b
  ·rw[lz];split
   ·rw[jG,qc];exact sO _ r
   split
   ·rw[jG,qc];exact sO _ r
   rename_i h a;rw[im,lz,aP h,aP a]
  rw[lz,jG,qc];exact sO _ r
def pw{l:aH}{i:Nat}(h:i<=I l):lJ l i=lJ l (i+lz aL (l.drop i)):=by
 have a:=KI h;have b:lz aL (l.drop (i+lz aL (l.drop i)))=0:=by
  rw[<-jH];exact sO aL (l.drop i)
 rw[lH h,lH a,b,gy]
def PM{a b:List Tk}{x:Except (Int×Nat) (List Tk)}:lg a (lg b x)=lg (a++b) x:=by
 cases x with
 | error _=>rfl
 | ok r=>simp[lg]
def KK{w:av}(l:aH)(E:Er w):
  az aq 70 #[X (T l)] w λe a=>∃r:Sl,e=ak (ai #[r.v,ah #[O U (di l).2.1,O U (di l).2.2]])/\ou w.heap.size a r (di l).1/\Q [] w a:=by
 refine ik (alI _ ?_);rw[cM];refine⟨λhc f g _ _ h=>⟨Sl.nil,?_,?_,h⟩,λhc c d m j D=>(PJ d).mono ?_⟩
 ·rw[di,aV aa1]
 ·rw[di,aV aa1];exact Own.nil _ _ _ _ _ _
 have Y:I l<=16384:=aa6
 have M:di l=match lJ l 0 with
  | .error x=>([],x.1,(x.2:Nat))
  | .ok b=>(b,0,0):=by rw[di,aP J]
 rintro _ w2 ⟨u,rfl,H,z⟩;refine⟨u,rfl,z.same aah,λb t hb oV A K=>?_⟩;have B:=D.cd (z.cd A);have z1:=D.size;have z2:=z.size;have z3:=A.size;have C:Cut t b l 0 Sl.nil []:=⟨⟨u,K,(SliceF.only du Z ((vF H).inHeap du Z) A aag).mono du λk hk=>J⟩,Own.nil _ _ _ _ _ _,E.only B,by have:=E.lt;omega,be _,Y⟩
 have sm:∀{L V:av},w2.heap.size<=L.heap.size->aD (λk=>b<=k) L V->cu [c] L V:=λhu h=>h.same (by intro x hx;simp only[aN]at hx;subst hx;omega);refine(V4 K (be _) J).mono ?_;rintro _ W ⟨rfl,N,o⟩;have S:aD (λk=>b<=k) t W:=N.p λx hx=>.inl aak;have G:Cut W b l (0+lz aL (l.drop 0)) Sl.nil []:=C.move N (KI (be _)) λp s=>by
  have:p=u:=by
   unfold aF at s K;rw[s]at K;simp[Sl.v]at K;cases u;cases p;simp_all
  subst this;exact o
 refine⟨rfl,sm J S,T l,_,u,Sl.nil,o,λR e1 e2 s0 i0 y P a=>e1=0/\e2=0/\s0=T l/\∃(i:Nat) (n:List Tk),i0=(i:Int)/\Cut a b l i P n/\I n<=i/\lz aL (l.drop i)=0/\lJ l 0=lg n (lJ l i)/\R=(I l)-i/\aD (λk=>b<=k) t a/\aF a b 185 [X (T l),O U (i:Int),y.v,P.v],(I l)-(0+lz aL (l.drop 0)),?_,?_⟩
 ·refine⟨rfl,rfl,rfl,_,[],rfl,G,be _,?_,?_,rfl,S,o⟩
  ·rw[<-jH];exact sO aL (l.drop 0)
  rw[<-pw (be _)];cases lJ l 0<;>rfl
 rintro R _ _ _ _ y r w5 ⟨rfl,rfl,rfl,i,n,rfl,hC,fN,aS,oP,rfl,eh,UG⟩;have z5:=eh.size;have RS:=hC.il;refine(adV UG).mono ?_;rintro _ w6 ⟨rfl,dK⟩;have am:=hC.only dK;have aC:aF w6 b 185 [X (T l),O U (i:Int),y.v,r.v]:=(dK.block b UG.lt aag).trans UG;have z6:=dK.size;have kY:=lH hC.il;rw[aS,gy]at kY;refine⟨_,rfl,dK.same aah,T l,i,y,r,aC,λhc=>?_,λhc=>?_⟩
 ·have bU:i<I l:=aaj
  rw[aP J]at kY;refine(aa4 am J bU).mono ?_;rintro _ w7 ⟨v,rfl,fR,hd⟩;have p7:aD (λk=>b<=k) t w7:=(eh.cd dK).trans fR λk hk=>.inl hk;have z7:=fR.size;unfold Us at hd;cases hq:nQ (l.drop i)with
  | error e=>
   rw[hq]at hd kY;obtain⟨rfl,v,b⟩:=hd;obtain⟨aT,q,_⟩:=b.blk;refine⟨e,rfl,sm J fR,T l,i,aT,v,q,λ_ w8 ft _=>⟨Sl.nil,?_,?_,?_⟩,λhe=>absurd (HT hq) acT⟩
   ·rw[M,oP,kY];rfl
   ·rw[M,oP,kY];exact Own.nil _ _ _ _ _ _
   exact(((B.p0 (F:=λk=>w.heap.size<=k)).trans p7 λk hk=>.inl J).trans (ft.p (F:=λk=>k=c) λx hx=>.inl acD) λk hk=>.inl J).only λk hk=>hk
  | ok q=>
   rw[hq]at hd kY;obtain⟨rfl,bY,bv⟩:=hd;obtain⟨v,e,_⟩:=bv.blk;have ce:=xt hq;have F:=bv.il;refine⟨0,rfl,sm J fR,T l,(i+q.2.2.2:Nat),v,bY,e,λhe=>(by simp at he),λ_=>(V4 e F J).mono ?_⟩;rintro _ w9 ⟨rfl,fU,bV⟩;have p9:aD (λk=>b<=k) w7 w9:=fU.p λx hx=>.inl aak;have cc:=bv.move fU (KI F) λp s=>by
    have:p=v:=by
     unfold aF at s e;rw[s]at e;simp[Sl.v]at e;cases v;cases p;simp_all
    subst this;exact bV
   refine⟨rfl,sm J p9,T l,_,v,bY,bV,(I l)-(i+q.2.2.2+lz aL (l.drop (i+q.2.2.2))),J,rfl,rfl,rfl,_,_,rfl,cc,?_,?_,?_,rfl,p7.trans p9 λk hk=>.inl hk,bV⟩
   ·rw[aQ,bB];omega
   ·rw[<-jH];exact sO aL _
   rw[oP,kY,<-pw F,<-PM];dsimp only;cases lJ l (i+q.2.2.2)<;>rfl
 have ma:I l<=i:=aaj
 rw[aV ma]at kY;refine(PK am 5 [] 0 0 0 J J).mono ?_;rintro _ dz ⟨rfl,dX,e,q⟩;obtain⟨co,cC,_⟩:=q.blk;have dO:aD (λk=>b<=k) t dz:=(eh.cd dK).trans dX λk hk=>.inl hk;have v:di l=(n++[⟨5,[],0,(i:Nat)⟩],0,0):=by
  rw[M,oP,kY];rfl
 refine⟨rfl,sm J dX,T l,_,co,e,cC,λdF dT _=>⟨e,?_,?_,?_⟩⟩
 ·rw[v]
 ·rw[v];have:ou (b+1) dF e _:=q.own.keep λk hk x=>dT.block k x aaR;exact Own.low this J
 exact(((B.p0 (F:=λk=>w.heap.size<=k)).trans dO λk hk=>.inl J).trans (dT.p (F:=λk=>k=c) λx hx=>.inl acD) λk hk=>.inl J).only λk hk=>hk
inductive Ex where
 | mk (k n:Int) (s:aH) (op:Int) (subs:List Ex) (a:Int)
def Ex.k:Ex->Int | .mk k _ _ _ _ _=>k
def Ex.n:Ex->Int | .mk _ n _ _ _ _=>n
def Ex.s:Ex->aH | .mk _ _ s _ _ _=>s
def Ex.op:Ex->Int | .mk _ _ _ op _ _=>op
def Ex.dD:Ex->List Ex | .mk _ _ _ _ l _=>l
def Ex.a:Ex->Int | .mk _ _ _ _ _ a=>a
def tk0:Tk:=⟨5,[],0, -1⟩
def tk(t:List Tk)(i:Nat):Tk:=(t[i]?).getD tk0
def sg(t:List Tk)(i:Nat)(s:aH):Bool:=(tk t i).k==4&&decide ((tk t i).t=s)
def gX(t:List Tk)(i:Nat):Int×Int:=(if(tk t i).k=5 then 3 else 4,(tk t i).a)
def DU{t:List Tk}{i:Nat}(h:i<I t):t[i]? =aM (tk t i):=by
 unfold tk;rw[bf h];rfl
def tU(t:List Tk):Prop:=∀i,i<(I t)->((tk t i).k=5↔i+1=I t)
def tU.next{t:List Tk}(h:tU t){i:Nat}(a:i<I t)(hk:(tk t i).k≠5):i+1<I t:=by
 have b:¬(i+1=I t):=λe=>hk ((h i a).2 e);omega
def xS{t:List Tk}{i:Nat}{s:aH}(h:sg t i s=aE):(tk t i).k≠5:=by
 simp only[sg,aR,dB]at h;rw[h.1];decide
def yH:List (aH):=[[],[43],[45],[42],[47],[37],[60],[60,61],[62],[62,61],[61,61],[33,61],[38,38],[124,124],[45],[33]]
def gq(op:Int):Int:=if 3<=op/\op<=5 then 5 else if op=1∨op=2 then 4 else if 6<=op/\op<=9 then 3 else if op=10∨op=11 then 2 else if op=12 then 1 else if op=13 then 0 else 6
def eY(op:Nat):aH:=(yH[op]?).getD []
def kH(t:List Tk)(k:Int)(i:Nat):Nat->Nat->Int
 | 0,_=>0
 | f+1,op=>if gq (op:Int)=k/\sg t i (eY op)=aE then(op:Int)else kH t k i f (op+1)
def lK(t:List Tk)(k:Int)(i:Nat):Int:=kH t k i 13 1
def ra{t:List Tk}{k:Int}{i:Nat}:∀(f op:Nat),kH t k i f op≠0->(tk t i).k≠5
 | 0,_,h=>absurd rfl h
 | f+1,op,h=>by
  rw[kH]at h;split at h
  ·rename_i c;exact xS c.2
  exact ra f _ h
abbrev Pr:=Except (Int×Int) (Ex×Nat)
def KL(g:Ex->Ex):Pr->Pr
 | .error e=>.error e
 | .ok (x,j)=>.ok (g x,j)
def FB:Pr->(Ex->Nat->Pr)->Pr
 | .error e,_=>.error e
 | .ok (x,j),g=>g x j
def uZ(t:List Tk):Pr->Pr
 | .error e=>.error e
 | .ok (x,j)=>if sg t j [41]then .ok (x,j+1)else .error (gX t j)
def kb(d:Nat)(a:Int)(r:Pr):Pr:=if d=20 then .error (21,a)else r
def E9(t:List Tk)(i:Nat):Pr:=
 if sg t (i+1) [40]then
  (if(tk t (i+2)).k=1 then
   (if sg t (i+3) [41]then .ok (.mk 3 0 (tk t (i+2)).t 0 [] (tk t i).a,i+4)else .error (gX t (i+3)))
  else .error (gX t (i+2)))
 else .error (gX t (i+1))
def qU(t:List Tk)(E EN:Nat->Pr)(d i:Nat):Pr:=
 if(sg t i [45]||sg t i [33])=aE then KL (λx=>.mk 4 0 [] (if(tk t i).t=[33]then 15 else 14) [x] (tk t i).a) (kb d (tk t i).a (EN (i+1)))
 else if sg t i [40]=aE then kb d (tk t i).a (uZ t (E (i+1)))
 else if(tk t i).k=3 then .ok (.mk 1 (tk t i).n [] 0 [] (tk t i).a,i+1)
 else if(tk t i).k=1 then .ok (.mk 2 0 (tk t i).t 0 [] (tk t i).a,i+1)
 else if(tk t i).k=2/\(tk t i).t=[105,110]then E9 t i
 else .error (gX t i)
def jV(t:List Tk)(E:Nat->Pr)(k:Int):Nat->Ex->Nat->Pr
 | 0,x,j=>.ok (x,j)
 | g+1,x,j=>if lK t k j=0 then .ok (x,j)else FB (E (j+1)) λy a=>jV t E k g (.mk 5 0 [] (lK t k j) [x,y] x.a) a
def dE(t:List Tk):Nat->Nat->Nat->Nat->Pr
 | 0,_,_,_=>.error (1,0)
 | f+1,k,d,i=>if k=6 then qU t (dE t f 0 (d+1)) (dE t f 6 (d+1)) d i else FB (dE t f (k+1) d i) λx j=>jV t (dE t f (k+1) d) (k:Int) ((I t)-j) x j
def CJ{g:Ex->Ex}{r:Pr}{x:Ex}{j:Nat}(h:KL g r=.ok (x,j)):∃y,r=.ok (y,j)/\x=g y:=by
 cases r with
 | error e=>cases h
 | ok q=>
  obtain⟨y,a⟩:=q;simp only[KL,gp,io]at h;obtain⟨rfl,rfl⟩:=h;exact⟨y,rfl,rfl⟩
def tV{d:Nat}{a:Int}{r:Pr}{q:Ex×Nat}(h:kb d a r=.ok q):r=.ok q/\d≠20:=by
 unfold kb at h;split at h
 ·cases h
 exact⟨h,by assumption⟩
def CK{t:List Tk}{r:Pr}{x:Ex}{a:Nat}(h:uZ t r=.ok (x,a)):∃j,r=.ok (x,j)/\sg t j [41]=aE/\a=j+1:=by
 cases r with
 | error e=>cases h
 | ok q=>
  obtain⟨y,j⟩:=q;simp only[uZ]at h;split at h
  ·simp only[gp,io]at h;obtain⟨rfl,rfl⟩:=h;exact⟨j,rfl,by assumption,rfl⟩
  cases h
def zM{r:Pr}{g:Ex->Nat->Pr}{q:Ex×Nat}(h:FB r g=.ok q):∃x j,r=.ok (x,j)/\g x j=.ok q:=by
 cases r with
 | error e=>cases h
 | ok p=>exact⟨p.1,p.2,rfl,h⟩
def NJ{t:List Tk}{i:Nat}{x:Ex}{j:Nat}(h:E9 t i=.ok (x,j)):j=i+4/\x=.mk 3 0 (tk t (i+2)).t 0 [] (tk t i).a:=by
 unfold E9 at h;split at h
 ·split at h
  ·split at h
   ·simp only[gp,io]at h;exact⟨h.2.symm,h.1.symm⟩
   cases h
  cases h
 cases h
def SJ{t:List Tk}{E EN:Nat->Pr}{d i:Nat}{x:Ex}{j:Nat}(a:∀i x j,E i=.ok (x,j)->i<j)(b:∀i x j,EN i=.ok (x,j)->i<j)(h:qU t E EN d i=.ok (x,j)):i<j:=by
 unfold qU at h;split at h
 ·obtain⟨y,c,_⟩:=CJ h;have:=b _ _ _ (tV c).1;omega
 split at h
 ·obtain⟨d,c,_,rfl⟩:=CK (tV h).1;have:=a _ _ _ c;omega
 split at h
 ·simp only[gp,io]at h;omega
 split at h
 ·simp only[gp,io]at h;omega
 split at h
 ·have:=(NJ h).1;omega
 cases h
def DV{t:List Tk}{E:Nat->Pr}{k:Int}(h:∀i x j,E i=.ok (x,j)->i<j):∀(g:Nat) (x:Ex) (j:Nat) {b:Ex} {a:Nat},jV t E k g x j=.ok (b,a)->j<=a
 | 0,x,j,b,a,c=>by
  simp only[jV,gp,io]at c;omega
 | g+1,x,j,b,a,c=>by
  rw[jV]at c;split at c
  ·simp only[gp,io]at c;omega
  obtain⟨y,m,d,e⟩:=zM c;have:=h _ _ _ d;have:=DV h g _ _ e;omega
def mq{t:List Tk}:∀(f k d i:Nat) {x:Ex} {j:Nat},dE t f k d i=.ok (x,j)->i<j
 | 0,_,_,_,_,_,h=>aal
 | f+1,k,d,i,x,j,h=>by
  rw[dE]at h;split at h
  ·exact SJ (λi x j h=>mq f _ _ i h) (λi x j h=>mq f _ _ i h) h
  obtain⟨y,m,a,b⟩:=zM h;have:=mq f _ _ _ a;have:=DV (λi x j h=>mq f _ _ i h) _ _ _ b;omega
def gY(k d:Nat):Nat:=(20-d)*8+(7-k)
def tu(t:List Tk)(i:Nat):Pr:=dE t (gY 0 0) 0 0 i
structure Rd (F G:aJ) (ts:List Tk) (w:av) (b:Nat) (l sn:Sl) (i:Nat) (fc fa d:Int):Prop where
 blk:aF w b 310 [l.v,O U (i:Int),O U fc,O U fa,O U d,sn.v]
 tok:aA Jv 4 w F l ts
 sig:aA mh 1 w G sn yH
 hF:∀k,F k->k<b
 hG:∀k,G k->k<b
 en:tU ts
 lt:i<I ts
section
variable {F G:aJ} {ts:List Tk} {w w':av} {b:Nat} {l sn:Sl} {i:Nat} {fc fa d:Int}
def Rd.only(h:Rd F G ts w b l sn i fc fa d)(a:Q [] w w'):Rd F G ts w' b l sn i fc fa d:=
 ⟨a.blk h.blk aag,SliceF.only ji Z h.tok a aag,SliceF.only du Z h.sig a aag,h.hF,h.hG,h.en,h.lt⟩
def Rd.lF(h:Rd F G ts w b l sn i fc fa d)(g:Q [b] w w'){a:Nat}{c f e:Int}(B:aF w' b 310 [l.v,O U (a:Int),O U c,O U f,O U e,sn.v])(j:a<I ts):Rd F G ts w' b l sn a c f e:=
 ⟨B,SliceF.only ji Z h.tok g λk hk _ hm=>by have:=h.hF k hk;simp only[aN]at hm;omega,SliceF.only du Z h.sig g λk hk _ hm=>acH,h.hF,h.hG,h.en,j⟩
def Rd.own(h:Rd F G ts w b l sn i fc fa d){s:List Nat}(a:Q s w w')(hb:∀x,x∈s->b<x):Rd F G ts w' b l sn i fc fa d:=
 ⟨a.blk h.blk λhm=>by have:=hb b hm;omega,SliceF.only ji Z h.tok a λk hk _ hm=>ado,SliceF.only du Z h.sig a λk hk _ hm=>(by have:=h.hG k hk;have:=hb k hm;omega),h.hF,h.hG,h.en,h.lt⟩
def Rd.lb(h:Rd F G ts w b l sn i fc fa d):b<w.heap.size:=h.blk.lt
def Rd.big(h:Rd F G ts w b l sn i fc fa d):I ts<=9223372036854775807:=by
 have a:=h.tok.len;have c:=h.tok.cap;have e:=h.tok.big;omega
def Rd.now(h:Rd F G ts w b l sn i fc fa d):∃ad,cR l (i:Int) 4 ad/\aB w ad [O U (tk ts i).k,X (T (tk ts i).t),O U (tk ts i).n,O U (tk ts i).a]:=by
 have m:=h.tok.len;have f:=h.lt;obtain⟨ad,x,s,c,g,j,k,e,a⟩:=h.tok.get (ba i) J;rw[aW,DU h.lt]at g;injection g with g;subst g;unfold Jv at a;subst a;exact⟨ad,c,e⟩
def KM(j:Rd F G ts w b l sn i fc fa d):az aq 297 #[ae (aM ⟨b,0,aaa⟩)] w λe w'=>e=ak (tk ts i).v/\Q [] w w':=by
 refine ret (atS _ ?_);intro m n hk k a;have h:=j.only a;obtain⟨ad,g,f⟩:=h.now;exact⟨l,Blk.dP h.blk 0 rfl,_,Blk.dP h.blk 1 rfl,ad,g,_,_,_,_,f,λo c=>⟨rfl,a.new c hk⟩⟩
def Gi(h:Rd F G ts w b l sn i fc fa d):az aq 250 #[ae (aM ⟨b,0,aaa⟩)] w λe w'=>e=ak (aj (fc !=0))/\Q [] w w':=by
 refine ret (v7w _ ?_);exact⟨fc,Blk.dP h.blk 2 rfl,rfl,Only.refl _ _⟩
def HU(h:Rd F G ts w b l sn i fc fa d)(c:Int):az aq 309 #[ae (aM ⟨b,0,aaa⟩),O U c] w λe w'=>e=ak (ai #[])/\Q [b] w w'/\
  Rd F G ts w' b l sn i (if fc=0 then c else fc) (if fc=0 then(tk ts i).a else fa) d:=by
 refine ret (atZ _ _ ?_);refine(Gi h).mono ?_;rintro _ f ⟨rfl,q⟩;have a:=h.only q;refine⟨_,rfl,λhc=>(KM a).mono ?_,λhc=>?_⟩
 ·have hc:fc=0:=aaj
  subst hc;rintro _ w ⟨rfl,c⟩;have e:=a.only c;refine⟨_,_,_,_,rfl,b,2,_,_,rfl,e.blk,aag,λi d o=>⟨rfl,(q.cd c).weaken (λ_ h=>aal) |>.trans d (λx g=>.inl g),?_⟩⟩;rw[aV rfl,aV rfl];exact e.lF d o h.lt
 have hc:fc≠0:=aaj
 rw[aP hc,aP hc];exact⟨rfl,q.weaken λ_ h=>aal,a⟩
def HV(h:Rd F G ts w b l sn i fc fa d):az aq 303 #[ae (aM ⟨b,0,aaa⟩)] w λe w'=>e=ak (ai #[])/\Q [b] w w'/\
  Rd F G ts w' b l sn i (if fc=0 then(gX ts i).1 else fc) (if fc=0 then(gX ts i).2 else fa) d:=by
 refine ret (atW _ ?_);refine⟨λw'=>Q [b] w w'/\((tk ts i).k=5->Rd F G ts w' b l sn i (if fc=0 then 3 else fc) (if fc=0 then(tk ts i).a else fa) d)/\((tk ts i).k≠5->Rd F G ts w' b l sn i fc fa d),?_,(KM h).mono ?_⟩
 ·rintro w ⟨c,h,a⟩;by_cases hk:(tk ts i).k=5
  ·refine(HU (h hk) 4).mono ?_;rintro _ d ⟨rfl,D,R⟩;refine⟨rfl,rfl,c.trans D (λx b=>.inl b),?_⟩;unfold gX;rw[aV hk];by_cases hc:fc=0
   ·rw[aV hc,aV hc,aP Z,aP Z]at R;rw[aV hc,aV hc];exact R
   rw[aP hc,aP hc,aP hc,aP hc]at R;rw[aP hc,aP hc];exact R
  refine(HU (a hk) 4).mono ?_;rintro _ d ⟨rfl,D,R⟩;refine⟨rfl,rfl,c.trans D (λx b=>.inl b),?_⟩;unfold gX;rw[aP hk];exact R
 rintro _ w ⟨rfl,c⟩;have a:=h.only c;refine⟨_,_,_,_,rfl,λhc=>(HU a 3).mono ?_,λhc=>⟨c.weaken λ_ h=>aal,λe=>?_,λ_=>a⟩⟩
 ·rintro _ f ⟨rfl,d,R⟩;exact⟨rfl,c.weaken (λ_ h=>aal) |>.trans d (λx b=>.inl b),λ_=>R,λe=>absurd aaj e⟩
 rw[e]at hc;simp at hc
def anr(a:Rd F G ts w b l sn i fc fa d){H:aJ}{s:Sl}{g:List (aH)}(k:aA mh 1 w H s g):az aq 298 #[ae (aM ⟨b,0,aaa⟩),s.v] w λe w'=>
  e=ak (aj (fc==0&&(tk ts i).k==4&&g.contains (tk ts i).t))/\Q [] w w':=by
 refine ret (v8w _ _ ?_);refine(KM a).mono ?_;rintro _ o ⟨rfl,q⟩;refine⟨_,_,_,_,rfl,λn p hk m D=>⟨λc w'=>c=(fc==0&&(tk ts i).k==4&&g.contains (tk ts i).t)/\Q [] w w',λc r j=>⟨by rw[j.1],j.2⟩,?_⟩⟩;have u:=q.cd D;refine(Gi (a.only u)).mono ?_;rintro _ t ⟨rfl,h⟩;have e:(!(fc !=0))=(fc==0):=by cases a:(fc==0)<;>simp[bne,a]
 refine⟨_,rfl,h.same aah,λf=>(wm (SliceF.only du Z k (u.cd h) aag) _).mono ?_,λf=>⟨?_,u.cd h⟩⟩
 ·rintro _ w ⟨rfl,d⟩;rw[e]at f;have l:=a.lb;have z:=h.size;exact⟨_,rfl,d.same aah,by rw[f,cr],u.cd (h.cd d)⟩
 rw[e]at f;rw[f,db]
def is1(h:Rd F G ts w b l sn i fc fa d)(s:aH):∃(c:Sl) (a:av),(au 32 1 #[.mk 0 (X (T s))]).run aq w=.ok c.v a/\Q [] w a/\
  az aq 298 #[ae (aM ⟨b,0,aaa⟩),c.v] a λe w'=>e=ak (aj (fc==0&&sg ts i s))/\Q [] a w':=by
 obtain⟨c,a,k,f,k3⟩:=ld w [s] (n:=1) (parts:=#[(0,X (T s))]) rfl rfl Z Z;refine⟨c,a,k,k3,(anr (h.only k3) (vF f)).mono ?_⟩;rintro _ g ⟨rfl,D⟩;have e:[s].contains (tk ts i).t=decide ((tk ts i).t=s):=by
  by_cases e:(tk ts i).t=s
  ·rw[bF e,e];simp
  rw[bA e];simp[e]
 refine⟨?_,D⟩;unfold sg;rw[sJ,e]
def is2(h:Rd F G ts w b l sn i fc fa d):∃(s:Sl) (a:av),(au 32 2 #[.mk 0 (X (ao #[45])),.mk 1 (X (ao #[33]))]).run aq w=.ok s.v a/\Q [] w a/\
  az aq 298 #[ae (aM ⟨b,0,aaa⟩),s.v] a λe w'=>e=ak (aj (fc==0&&(sg ts i [45]||sg ts i [33])))/\Q [] a w':=by
 obtain⟨s,a,k,f,k3⟩:=ld w [[45],[33]] (n:=2) (parts:=#[(0,X (T [45])),(1,X (T [33]))]) rfl rfl Z Z;refine⟨s,a,k,k3,(anr (h.only k3) (vF f)).mono ?_⟩;rintro _ g ⟨rfl,c⟩;have e:[[45],[33]].contains (tk ts i).t=(decide ((tk ts i).t=[45])||decide ((tk ts i).t=[33])):=by
  rw[bL];simp
 refine⟨?_,c⟩;unfold sg;rw[sJ,<-Bool.and_or_distrib_left,e]
def DW(h:Rd F G ts w b l sn i fc fa d)(s:aH):az aq 301 #[ae (aM ⟨b,0,aaa⟩),X (T s)] w λe w'=>e=ak (ai #[])/\Q [b] w w'/\
  (if fc==0&&sg ts i s then Rd F G ts w' b l sn (i+1) fc fa d else Rd F G ts w' b l sn i (if fc=0 then(gX ts i).1 else fc) (if fc=0 then(gX ts i).2 else fa) d):=by
 refine ret (v9w _ _ ?_);obtain⟨g,j,f,k,k3⟩:=is1 h s;refine⟨g,j,f,k3.mono ?_⟩;rintro _ m ⟨rfl,D⟩;have a:=h.only (k.cd D);have u:Q [b] w m:=(k.cd D).weaken λ_ h=>aal
 refine⟨_,rfl,λc=>(HV a).mono ?_,λc=>?_⟩
 ·rintro _ w ⟨rfl,b,h⟩;have c:(fc==0&&sg ts i s)=aL:=by rwa[de]at c
  rw[c];exact⟨rfl,rfl,u.trans b (λx d=>.inl d),h⟩
 have c:(fc==0&&sg ts i s)=aE:=by rwa[jz]at c
 rw[c];simp only[aR]at c;have n:=h.en.next h.lt (xS c.2);have l:=h.big;refine⟨(i:Int),Blk.dP a.blk 1 rfl,b,1,_,_,rfl,a.blk,aag,λw d v=>⟨rfl,u.trans d (λx e=>.inl e),a.lF d ?_ n⟩⟩;rw[fh J J]at v;exact v
def PN(h:Rd F G ts w b l sn i fc fa d):az aq 302 #[ae (aM ⟨b,0,aaa⟩)] w λe w'=>Q [b] w w'/\
  (if fc=0/\(tk ts i).k=1 then e=ak (X (T (tk ts i).t))/\Rd F G ts w' b l sn (i+1) fc fa d else e=ak (X (T []))/\Rd F G ts w' b l sn i (if fc=0 then(gX ts i).1 else fc) (if fc=0 then(gX ts i).2 else fa) d):=by
 refine(atV ⟨b,0,aaa⟩ (λv w'=>Q [b] w w'/\(if fc=0/\(tk ts i).k=1 then v=(X (T (tk ts i).t))/\Rd F G ts w' b l sn (i+1) fc fa d else v=(X (T []))/\Rd F G ts w' b l sn i (if fc=0 then(gX ts i).1 else fc) (if fc=0 then(gX ts i).2 else fa) d)) w ?_).mono (by
  rintro e w' ⟨v,rfl,b,h⟩;refine⟨b,?_⟩;split at h
  ·rename_i hc;rw[aV hc];exact⟨by rw[h.1],h.2⟩
  rename_i hc;rw[aP hc];exact⟨by rw[h.1],h.2⟩)
 refine(KM h).mono ?_;rintro _ n ⟨rfl,q⟩;refine⟨_,_,_,_,rfl,λm o hk k D=>?_⟩;have u:=q.cd D;have z:=q.size;have j:=h.lb;refine(Gi (h.only u)).mono ?_;rintro _ g ⟨rfl,c⟩;have p:=c.size;have a:=h.only (u.cd c);have f:Q [b] w g:=(u.cd c).weaken λ_ h=>aal
 refine⟨_,rfl,c.same aah,λhc=>(HV a).mono ?_,λhc=>?_⟩
 ·rintro _ w ⟨rfl,d,R⟩;refine⟨rfl,d.same aah,f.trans d (λx b=>.inl b),?_⟩;rw[aP (λh=>by rw[h.1,h.2]at hc;simp at hc)];exact⟨rfl,R⟩
 have hc:fc=0/\(tk ts i).k=1:=aaj
 have e:=h.en.next h.lt (by rw[hc.2];decide);have r:=h.big;refine⟨(i:Int),Blk.dP a.blk 1 rfl,b,1,_,_,rfl,a.blk,aag,J,λw d v=>⟨f.trans d (λx l=>.inl l),?_⟩⟩;rw[aV hc];refine⟨rfl,a.lF d ?_ e⟩;rw[fh J J]at v;exact v
end
def NK(a:av)(op:Int):az aq 289 #[O U op] a λe c=>e=ak (O U (gq op))/\c=a:=by
 refine ret (atO _ ?_);have f:∀{k:Int} {w:av},gq op=k->(Value.int U k=O U (gq op)/\w=w):=λe=>⟨by rw[e],rfl⟩
 refine⟨λh=>f ?_,λh=>⟨λb c=>b=decide (op=1∨op=2)/\c=a,?_,λh1=>⟨?_,rfl⟩,λh1=>⟨?_,rfl⟩⟩⟩
 ·simp only[aR,bG]at h;unfold gq;rw[aV J]
 ·rintro _ w ⟨rfl,rfl⟩;have h:¬(3<=op/\op<=5):=λg=>by rw[bF g.1,bF g.2]at h;cases h
  refine⟨λh1=>f ?_,λh1=>⟨λe=>f ?_,λe=>⟨λb i=>b=decide (op=10∨op=11)/\i=w,?_,λd=>⟨?_,rfl⟩,λd=>⟨?_,rfl⟩⟩⟩⟩
  ·have h1:=aO h1;unfold gq;rw[aP h,aV h1]
  ·have h1:=aU h1;simp only[aR,bG]at e;unfold gq;rw[aP h,aP h1,aV J]
  ·rintro _ _ ⟨rfl,rfl⟩;have h1:=aU h1;have e:¬(6<=op/\op<=9):=λg=>by rw[bF g.1,bF g.2]at e;cases e
   refine⟨λd=>f ?_,λd=>⟨λh4=>f ?_,λh4=>⟨λb=>f ?_,λb=>f ?_⟩⟩⟩
   ·have d:=aO d;unfold gq;rw[aP h,aP h1,aP e,aV d]
   ·have d:=aU d;have h4:op=12:=aff
    unfold gq;rw[aP h,aP h1,aP e,aP d,aV h4]
   ·have d:=aU d;have h4:¬op=12:=aff
    have b:op=13:=by simpa using b
    unfold gq;rw[aP h,aP h1,aP e,aP d,aP h4,aV b]
   have d:=aU d;have h4:¬op=12:=aff
   have b:¬op=13:=by simpa using b
   unfold gq;rw[aP h,aP h1,aP e,aP d,aP h4,aP b]
  ·have d:op=10:=by simpa using d
   rw[d];rfl
  have d:¬op=10:=by simpa using d
  rw[bL];simp[d]
 ·have h1:op=1:=acJ
  rw[h1];rfl
 have h1:¬op=1:=acJ
 rw[bL];simp[h1]
section
variable {F G:aJ} {ts:List Tk} {w w':av} {b:Nat} {l sn:Sl} {i:Nat} {fc fa d:Int}
def DX(a:Rd F G ts w b l sn i fc fa d)(k:Int):az aq 276 #[ae (aM ⟨b,0,aaa⟩),O U k] w λe w'=>e=ak (O U (if fc=0 then lK ts k i else 0))/\Q [] w w':=by
 refine ret (atG _ _ ?_);refine⟨λn f w'=>∃op:Nat,1<=op/\op<=14/\f=(op:Int)/\n=14-op/\(if fc=0 then lK ts k i else 0)=(if fc=0 then kH ts k i (14-op) op else 0)/\Q [] w w',13,⟨1,Z,Z,rfl,rfl,rfl,Only.refl _ _⟩,?_⟩;rintro n _ m ⟨op,g,j,rfl,rfl,V,q⟩;refine⟨λh=>?_,λh=>?_⟩
 ·have h:(op:Int)<=13:=aO h;obtain⟨b,e⟩:∃b,14-op=b+1:=⟨13-op,J⟩
  rw[e,kH]at V;refine⟨λc w'=>c=(decide (gq (op:Int)=k)&&(fc==0&&sg ts i (eY op)))/\Q [] w w',?_,λl d=>(NK l _).mono ?_⟩
  ·rintro _ w ⟨rfl,D⟩;refine⟨λc=>⟨?_,D⟩,λc=>⟨b,J,op+1,J,J,aaf,J,?_,D⟩⟩
   ·simp only[aR,bG,dB]at c;rw[V,aV c.2.1,aV ⟨c.1,c.2.2⟩]
   rw[V,show 14-(op+1)=b by omega];by_cases i:fc=0
   ·rw[aV i,aV i,aP];rintro⟨k,o⟩;rw[bF k,o,i]at c;simp at c
   rw[aP i,aP i]
  rintro _ w ⟨rfl,rfl⟩;have c:=a.only (q.cd d);refine⟨_,rfl,λhk=>?_,λhk=>?_⟩
  ·have hk:gq (op:Int)=k:=aay
   have F:=c.sig.len;have u:I yH=16:=rfl;obtain⟨ad,x,C,s,o,D,E,t,p⟩:=c.sig.get (i:=(op:Int)) J J;unfold mh at p;subst p;rw[aW]at o;have v:eY op=x:=by unfold eY;rw[o];rfl
   subst v;obtain⟨A,B,y,z,k3⟩:=is1 c (eY op);refine⟨sn,Blk.dP c.blk 5 rfl,ad,s,_,t,A,B,y,k3.mono ?_⟩;rintro _ G ⟨rfl,r⟩;exact⟨_,rfl,by rw[bF hk,cr],q.cd (d.cd (z.cd r))⟩
  have hk:¬gq (op:Int)=k:=aay
  exact⟨by rw[bA hk,db],q.cd d⟩
 have h:¬(op:Int)<=13:=aU h;have:op=14:=J
 subst this;rw[V];refine⟨?_,q⟩;split<;>rfl
end
abbrev nR(k n:Int)(s:aH)(op:Int)(sl:Sl)(a:Int):aI:=[O U k,O U n,X (T s),O U op,sl.v,O U a]
inductive RXN (w:av) (N:aJ):Nat->Nat->Ex->aI->Prop
 | leaf (lo hi:Nat) (k n:Int) (s:aH) (op a:Int):RXN w N lo hi (.mk k n s op [] a) (nR k n s op Sl.nil a)
 | one (lo m g hi:Nat) (k n:Int) (s:aH) (op a:Int) (x:Ex) (cs:aI):RXN w N lo m x cs->lo<=g->m<=g->g<hi->¬N g->aF w g 68 cs->RXN w N lo hi (.mk k n s op [x] a) (nR k n s op ⟨aM ⟨g,0,aaa⟩,1,1⟩ a)
 | two (lo m m' m2 g hi:Nat) (k n:Int) (s:aH) (op a:Int) (x y:Ex) (cs ds:aI):RXN w N lo m x cs->m<=m'->RXN w N m' m2 y ds->lo<=m'->m<=g->m'<=g->m2<=g->g<hi->¬N g->aF w g 68 (cs++ds)->RXN w N lo hi (.mk k n s op [x,y] a) (nR k n s op ⟨aM ⟨g,0,aaa⟩,2,2⟩ a)
abbrev RX(w:av):Nat->Nat->Ex->aI->Prop:=RXN w λ_=>False
section
variable {w w':av} {N N':aJ} {lo hi:Nat} {x:Ex} {cs:aI}
def RXN.keep(h:RXN w N lo hi x cs):(∀k,lo<=k->k<hi->¬N k->k<w.heap.size->w'.heap[k]? =w.heap[k]?)->RXN w' N lo hi x cs:=by
 induction h with
 | leaf lo hi k n s op a=>exact λ_=>.leaf ..
 | one lo o g hi k n s op a x cs p b f c e d l=>
  intro hk;exact .one lo o g hi k n s op a x cs (l λm i q j=>hk m i J j) b f c e ((hk g b c e d.lt).trans d)
 | two lo t u v g hi k n s op a x y cs l w m z o p q r d f e F H=>
  intro hk;exact .two lo t u v g hi k n s op a x y cs l (F λj c i b=>hk j c J b) m (H λj c i b=>hk j J J b) o p q r d f ((hk g J d f e.lt).trans e)
def RXN.wide(h:RXN w N lo hi x cs):∀{l E:Nat},l<=lo->hi<=E->RXN w N l E x cs:=by
 induction h with
 | leaf lo hi k n s op a=>exact λ_ _=>.leaf ..
 | one lo m g hi k n s op a x cs j o c p e d i=>
  intro l E b f;exact .one l m g E k n s op a x cs (i b (aX _)) J c J e d
 | two lo p q r g hi k n s op a x y cs d u c e v f i j w o m F H=>
  intro l E b t;exact .two l p q r g E k n s op a x y cs d (F b (aX _)) c e J f i j J o m
def RXN.G0(h:RXN w N lo hi x cs):(∀k,lo<=k->k<hi->¬N k->¬N' k)->RXN w N' lo hi x cs:=by
 induction h with
 | leaf lo hi k n s op a=>exact λ_=>.leaf ..
 | one lo m g hi k n s op a x cs o b d c i e j=>
  intro hk;exact .one lo m g hi k n s op a x cs (j λl f p=>hk l f J) b d c (hk g b c i) e
 | two lo r t u g hi k n s op a x y cs e v f w i l m o c q p F H=>
  intro hk;exact .two lo r t u g hi k n s op a x y cs e (F λj b d=>hk j b J) f (H λj b d=>hk j J J) i l m o c (hk g J c q) p
def RXN.cells(h:RXN w N lo hi x cs):∃sl:Sl,cs=nR x.k x.n x.s x.op sl x.a/\(sl.n=I x.dD):=by
 cases h with
 | leaf=>exact⟨_,rfl,rfl⟩
 | one=>exact⟨_,rfl,rfl⟩
 | two=>exact⟨_,rfl,rfl⟩
def RXN.only(h:RXN w N lo hi x cs){b:List Nat}(c:Q b w w')(d:∀k,k∈b->k<lo∨hi<=k∨N k):RXN w' N lo hi x cs:=
 h.keep λk f g n a=>c.block k a λm=>by
  rcases d k m with e | e | e
  ·omega
  ·omega
  exact n e
end
def DY(w:av)(a:List (aI))(d:∀v,v∈a->I v=6)(e:0<I a)(h:I a<=100){parts:Array (Nat×aw)}(p:parts=(((a.map λv=>Value.agg v.toArray).zipIdx 0).map λx=>(x.2,x.1)).toArray):
  ∃c,(au 66 (I a) parts).run aq w=.ok (Sl.v ⟨aM ⟨w.heap.size,0,aaa⟩,I a,I a⟩) c/\aF c w.heap.size 68 a.flatten/\Q [] w c:=by
 have f:((a.map λv=>Value.agg v.toArray).flatMap λv=>v.cells.toList)=a.flatten:=by
  clear d e h p
  induction a with
  | nil=>rfl
  | cons v a i=>rw[bS,zl,i,eH];rfl
 have b:Tryz.t68.size=6:=rfl;have B:=run_buildSlice (P:=aq) w 66 68 (I a) parts ((a.map λv=>Value.agg v.toArray).flatMap λv=>v.cells.toList).toArray Tryz.t68 _ aae aae rfl (by rw[b];omega) (by rw[b];omega)
  (by
   subst p;rw[mL,b];refine Go.Great.fill_whole (s:=6) Z (a.map λv=>Value.agg v.toArray) _ (λv h=>?_) ?_
   ·obtain⟨x,g,rfl⟩:=dv.1 h;have:=d x g;simpa[Value.cells]using this
   simp)
 rw[f]at B;exact⟨_,B,Blk.alloc w _ _,Only.alloc _ _⟩
def exT(v:aw):Prop:=∃(k n:Int) (s:aH) (op:Int) (sl:Sl) (a:Int),v=ah (nR k n s op sl a).toArray
def tv(F G:aJ)(t:List Tk)(a w:av)(b:Nat)(l sn:Sl)(d:Nat)(r:Pr)(v:aw):Prop:=Q [b] a w/\match r with
 | .ok (x,j)=>∃c,v=ah c.toArray/\RX w a.heap.size w.heap.size x c/\Rd F G t w b l sn j 0 0 (d:Int)
 | .error e=>e.1≠0/\exT v/\∃j,Rd F G t w b l sn j e.1 e.2 (d:Int)
section
variable {F G:aJ} {ts:List Tk} {w w':av} {b:Nat} {l sn:Sl} {i:Nat} {fc fa d:Int}
def gN:(gX ts i).1≠0:=by
 unfold gX;dsimp only;split<;>decide
def KN{d:Nat}(hd:d<=20)(h:Rd F G ts w b l sn i 0 0 (d:Int))(p:i+1<I ts){g:Nat}{z1 z2:aI}(u:∀(x:Array aw) (w:av),(callFunc g x).run aq w=.ok (.enter g x) w)(f:OV)(t:f.v=.func (.func g) z1.toArray z2.toArray){r:Pr}
  (y:d≠20->∀m,Q [b] w m->Rd F G ts m b l sn (i+1) 0 0 ((d+1:Nat):Int)->az aq g (z1++z2).toArray m λe w'=>∃v,e=ak v/\tv F G ts m w' b l sn (d+1) r v):
  az aq 299 #[ae (aM ⟨b,0,aaa⟩),f.v] w λe w'=>∃v,e=ak v/\tv F G ts w w' b l sn d (kb d (tk ts i).a r) v:=by
 refine atT ⟨b,0,aaa⟩ f (λv w'=>tv F G ts w w' b l sn d (kb d (tk ts i).a r) v) w ?_;intro j C hk B o;have A:=h.lb;have c:=h.only o;refine⟨(d:Int),Blk.dP c.blk 4 rfl,λhc=>(HU c 21).mono ?_,λhc=>?_⟩
 ·have hc:d=20:=by have:(d:Int)=20:=aaj;omega
  rintro _ m ⟨rfl,D,R⟩;rw[aV rfl,aV rfl]at R;have z1:=D.size;refine⟨rfl,D.same aah,λw a=>⟨?_,?_⟩⟩
  ·exact((o.weaken (bs':=[b]) λ_ h=>aal).trans D λx hx=>.inl hx).new a hk
  rw[kb,aV hc];exact⟨(by decide:(21:Int)≠0),⟨0,0,[],0,Sl.nil,0,rfl⟩,i,R.own a aah⟩
 have hc:d≠20:=λe=>ae6
 have Mz:=h.big;refine⟨(i:Int),Blk.dP c.blk 1 rfl,b,1,_,_,rfl,c.blk,aag,J,λw3 S vR=>?_⟩;rw[fh J J]at vR;have D:Rd F G ts w3 b l sn (i+1) 0 0 (d:Int):=c.lF S vR p;have z3:=S.size;refine⟨(d:Int),Blk.dP D.blk 4 rfl,b,4,_,_,rfl,D.blk,aag,J,λV P sE=>?_⟩;rw[fh J J]at sE;have h4:Rd F G ts V b l sn (i+1) 0 0 ((d+1:Nat):Int):=D.lF P sE p;have N:=P.size;have tC:Q [b] w V:=((o.weaken (bs':=[b]) λ_ h=>aal).trans S λx hx=>.inl hx).trans P λx hx=>.inl hx;refine⟨g,z1,z2,t,u,?_⟩;have e:A3 (A3 z1 []) z2=z1++z2:=by unfold A3;rw[bE]
 rw[e];refine(y hc V tC h4).mono ?_;rintro _ W ⟨v,rfl,R,hd⟩;have z6:=R.size;rw[kb,aP hc];have hv:∃(k n:Int) (s:aH) (op:Int) (sl:Sl) (a:Int),v=ah (nR k n s op sl a).toArray:=by
  cases r with
  | error e=>exact hd.2.1
  | ok q=>
   obtain⟨s,rfl,hx,_⟩:=hd;obtain⟨sl,rfl,_⟩:=hx.cells;exact⟨_,_,_,_,_,_,rfl⟩
 obtain⟨vk,vn,vs,vo,aS,va,rfl⟩:=hv;refine⟨_,_,_,_,_,_,rfl,R.same aah,λk8 Z aC am T=>?_⟩;have z7:=T.size;have M:∀{E:Nat} {fc fa:Int},Rd F G ts W b l sn E fc fa ((d+1:Nat):Int)->∃K:Int,aB Z (Addr.add ⟨b,0,aaa⟩ 4) [O U K]/\∃f H:Nat,∃N:aI,∃Y:Nat,(Addr.add ⟨b,0,aaa⟩ 4)=⟨f,H,aaa⟩/\aF Z f Y N/\(H+1)<=I N/\j≠f/\k8≠f/\
   ∀g:av,Q [f] Z g->aF g f Y (fE N H [O U (ar U (K-1))])->∀a:av,Q [j] g a->Q [b] w a/\Q [b,j] W a/\Rd F G ts a b l sn E fc fa (d:Int):=fun{E fc fa} h6=>by
  have i:=h6.only T;refine⟨((d+1:Nat):Int),Blk.dP i.blk 4 rfl,b,4,_,_,rfl,i.blk,aag,J,J,λg n q a k=>?_⟩;have r:((d+1:Nat):Int)-1=d:=J
  rw[r,fh J J]at q;have s:Rd F G ts g b l sn E fc fa (d:Int):=i.lF n q i.lt;have e:Q [b,j] W a:=((T.weaken (bs':=[b,j]) λ_ h=>aal).trans n λx hx=>.inl aaz).trans k λx hx=>.inl aaz;exact⟨(tC.trans R λx hx=>.inl hx).trans e (λx hx=>by
   simp only[aZ,bp,ci]at hx;rcases hx with rfl | rfl
   ·exact .inl aag
   exact .inr hk),e,s.own k aah⟩
 have L:=hd;cases r with
 | error e=>
  obtain⟨h,i,E,D⟩:=L;obtain⟨K,k,f,H,z,Y,l,k3,n,q,r,s⟩:=M D;refine⟨K,k,f,H,z,Y,l,k3,n,q,r,λw g x v d=>?_⟩;obtain⟨a,F,b⟩:=s w g x v d;exact⟨a,h,i,E,b⟩
 | ok q=>
  obtain⟨x,E⟩:=q;obtain⟨s,h,i,D⟩:=L;obtain⟨K,l,f,H,z,Y,n,k3,r,v,w,F⟩:=M D;refine⟨K,l,f,H,z,Y,n,k3,r,v,w,λG g yy w9 e=>?_⟩;obtain⟨b,a,d⟩:=F G g yy w9 e;have z9:=a.size;exact⟨b,s,h,(i.only a λk hk=>.inl (by simp only[aZ,bp,ci]at hk;omega)).wide J z9,d⟩
end
section
variable {F G:aJ} {ts:List Tk} {w w':av} {b:Nat} {l sn:Sl} {i:Nat} {fc fa d:Int}
def tv.rU{w a:av}{d:Nat}{r:Pr}{v:aw}(h:tv F G ts w a b l sn d r v):exT v:=by
 obtain⟨_,h⟩:=h;cases r with
 | error e=>exact h.2.1
 | ok q=>
  obtain⟨c,rfl,x,_⟩:=h;obtain⟨sl,rfl,_⟩:=x.cells;exact⟨_,_,_,_,_,_,rfl⟩
def tv.EV{w g k m:av}{d:Nat}{r:Pr}{v:aw}(a:tv F G ts g k b l sn d r v)(i:Q [b] w g){s:List Nat}(c:Q s k m)(f:∀x,x∈s->b<x/\w.heap.size<=x/\x<g.heap.size):tv F G ts w m b l sn d r v:=by
 obtain⟨j,a⟩:=a;have z:=i.size;have o:=j.size;have n:=c.size;refine⟨(i.trans j λx h=>.inl h).trans c λx h=>.inr (f x h).2.1,?_⟩;cases r with
 | error e=>
  obtain⟨b,d,p,l⟩:=a;exact⟨b,d,p,l.own c λx h=>(f x h).1⟩
 | ok q=>
  obtain⟨b,d,e,l⟩:=a;exact⟨b,d,(e.only c λx h=>.inl (f x h).2.2).wide z n,l.own c λx h=>(f x h).1⟩
def ant{d:Nat}{r:Pr}{f:Nat}(h:Rd F G ts w b l sn i 0 0 (d:Int))(hk:b<f)(B:aF w f 306 [ae (aM ⟨b,0,aaa⟩)])
  (E:∀j,Q [] w j->az aq 249 #[ae (aM ⟨b,0,aaa⟩),O U 0] j λe w'=>∃v,e=ak v/\tv F G ts j w' b l sn d r v):
  az aq 300 #[ae (aM ⟨f,0,aaa⟩)] w λe w'=>∃v,e=ak v/\tv F G ts w w' b l sn d (uZ ts r) v:=by
 refine atU ⟨f,0,aaa⟩ (λv w'=>tv F G ts w w' b l sn d (uZ ts r) v) w ?_;intro H t p C m;have A:=h.lb;have M:aF t f 306 [ae (aM ⟨b,0,aaa⟩)]:=m.blk B aag;have z:=B.lt;refine⟨_,Blk.dP M 0 rfl,(E t m).mono ?_⟩;rintro _ j ⟨v,rfl,hd⟩;obtain⟨k,n,s,op,sl,a,rfl⟩:=hd.rU;have P:=hd.1.size;refine⟨_,_,_,_,_,_,rfl,hd.1.same aah,λK u N L c=>?_⟩;have R:=c.size;have y:aF u f 306 [ae (aM ⟨b,0,aaa⟩)]:=c.blk (hd.1.blk M aah) aag;refine⟨_,Blk.dP y 0 rfl,_,rfl,?_⟩;obtain⟨D,hd⟩:=hd;have o:Q [b] w u:=((m.weaken λ_ h=>aal).trans D λx g=>.inl g).cd c;cases r with
 | error e=>
  obtain⟨h,l,k,a⟩:=hd;have a:=a.only c;refine(DW a [41]).mono ?_;rintro _ w ⟨rfl,b,i⟩;rw[aP (by simp[h]),aP h,aP h]at i;refine⟨rfl,b.same aah,λn d=>⟨((o.trans b λx g=>.inl g).new d p),h,⟨_,_,_,_,_,_,rfl⟩,k,i.own d aah⟩⟩
 | ok q=>
  obtain⟨x,e⟩:=q;obtain⟨i,l,n,b⟩:=hd;have b:=b.only c;refine(DW b [41]).mono ?_;rintro _ w ⟨rfl,h,a⟩;have F:=h.size;refine⟨rfl,h.same aah,λv d=>⟨((o.trans h λx g=>.inl g).new d p),?_⟩⟩;have G:=d.size;by_cases s:sg ts e [41]=aE
  ·rw[aV (by simp[s])]at a;simp only[uZ,s,Cy];exact⟨i,l,(((n.only c aag).only h λk hk=>.inl acK).only d λk hk=>.inl acK).wide J J,a.own d aah⟩
  rw[aP (by simp[s]),aV rfl,aV rfl]at a;simp only[uZ,s,lS];exact⟨gN,⟨_,_,_,_,_,_,rfl⟩,e,a.own d aah⟩
def agm{f d:Nat}(hd:d<=20)(h:Rd F G ts w b l sn i 0 0 (d:Int))
  (hE:d≠20->∀w i,Rd F G ts w b l sn i 0 0 ((d+1:Nat):Int)->az aq 249 #[ae (aM ⟨b,0,aaa⟩),O U 0] w λe w'=>∃v,e=ak v/\tv F G ts w w' b l sn (d+1) (dE ts f 0 (d+1) i) v)
  (P:d≠20->∀w i,Rd F G ts w b l sn i 0 0 ((d+1:Nat):Int)->az aq 275 #[ae (aM ⟨b,0,aaa⟩)] w λe w'=>∃v,e=ak v/\tv F G ts w w' b l sn (d+1) (dE ts f 6 (d+1) i) v):
  az aq 275 #[ae (aM ⟨b,0,aaa⟩)] w λe w'=>∃v,e=ak v/\tv F G ts w w' b l sn d (dE ts (f+1) 6 d i) v:=by
 have eR:dE ts (f+1) 6 d i=qU ts (dE ts f 0 (d+1)) (dE ts f 6 (d+1)) d i:=by rw[dE,aV rfl]
 rw[eR];generalize am:dE ts f 0 (d+1)=Y at*
 generalize aC:dE ts f 6 (d+1)=EN at*
 generalize R:qU ts Y EN d i=L;rw[qU]at R;refine atF ⟨b,0,aaa⟩ (λv w'=>tv F G ts w w' b l sn d L v) w ?_;intro E A w0 fZ ez mc jM S;have hb:=h.lb;refine(KM (h.only S)).mono ?_;rintro _ W ⟨rfl,D⟩;have z1:=D.size;have iu:=S.cd D;refine⟨_,_,_,_,rfl,D.same aah,λH k3 M qG oL yZ ur Z=>?_⟩;have z2:=Z.size;have z0:=S.size;have lG:=iu.cd Z;have j:=h.only lG;have Mz:=h.big;have sm:∀{u K:av},M.heap.size<=u.heap.size->Q [b] u K->cu [E,A,H,k3] u K:=λhu V=>V.same ac2;have m:∀{u K:av},M.heap.size<=u.heap.size->Q [] u K->cu [E,A,H,k3] u K:=λhu V=>V.same (by intro x hx;simp only[aZ,bp,ci]at hx;exact⟨J,aag⟩);refine⟨λq _ _ _ _ _ _ p y C z B o w'=>q=aM ⟨b,0,aaa⟩/\Q [] w w'/\(tk ts i).k≠5/\∃t,C=T t/\B=Sl.nil/\L=.ok (.mk p y t z [] o,i+1),?_,?_⟩
 ·rintro _ _ _ _ _ _ _ p y _ z _ o q ⟨rfl,e,k,t,rfl,rfl,N⟩;have a:=h.only e;have n:=h.en.next h.lt k;refine⟨_,rfl,(i:Int),Blk.dP a.blk 1 rfl,_,rfl,b,1,_,_,rfl,a.blk,aag,J,J,J,J,λw c s r f=>?_⟩;rw[fh J J]at s;have g:Rd F G ts w b l sn (i+1) 0 0 (d:Int):=a.lF c s n;rw[N];refine⟨((e.weaken (bs':=[b]) λ_ h=>aal).trans c λx hx=>.inl hx).new f J,_,rfl,.leaf ..,g.own f aah⟩
 refine(Gi j).mono ?_;rintro _ w6 ⟨rfl,dK⟩;have z6:=dK.size;have h6:=j.only dK;refine⟨_,rfl,m J dK,λf=>(by simp at f),λ_=>?_⟩;obtain⟨s8,w8,k8,ft,aS⟩:=is2 h6;have z8:=ft.size;refine⟨s8,w8,k8,m J ft,aS.mono ?_⟩;rintro _ w9 ⟨rfl,fU⟩;have z9:=fU.size;have t:=dK.cd (ft.cd fU);have h9:=j.only t;rw[show((0:Int)==0)=aE from rfl,cr];have YX:=lG.cd t;refine⟨_,rfl,m J fU,λf dz dX=>?_,λf=>?_⟩
 ·rw[aV f]at R;have ii:(tk ts i).k≠5:=by
   rcases cE _ _▸f with e | e<;>exact xS e
  have hn:=h.en.next h.lt ii;have aT:∀op:Int,op=(if(tk ts i).t=[33]then 15 else 14)->∀F,Q [] w F->M.heap.size<=F.heap.size->_:=λop rZ F l c=>KN hd (h.only l) hn (g:=275) (z1:=[ae (aM ⟨b,0,aaa⟩)]) (z2:=[]) (jR aae) ⟨.func (.func 275) #[ae (aM ⟨b,0,aaa⟩)] #[],rfl⟩ rfl (r:=EN (i+1)) λG W _ h1=>P G W (i+1) h1;refine⟨λk n s op sl a w'=>k=4/\n=0/\s=T []/\op=(if(tk ts i).t=[33]then 15 else 14)/\sl=Sl.nil/\a=(tk ts i).a/\Q [] w w'/\M.heap.size<=w'.heap.size,?_,?_,?_⟩
  ·rintro _ _ _ _ _ _ F ⟨rfl,rfl,rfl,rZ,rfl,rfl,l,c⟩;refine(aT _ rZ F l c).mono ?_;rintro _ r ⟨v,rfl,a⟩;obtain⟨p,y,C,z,B,o,rfl⟩:=a.rU;have bV:=a.1.size;obtain⟨fl,xX,wY,g⟩:=DY r [nR p y C z B o] aag aag aag (parts:=#[(0,ah (nR p y C z B o).toArray)]) rfl;refine⟨_,_,_,_,_,_,rfl,sm c a.1,⟨aM ⟨r.heap.size,0,aaa⟩,1,1⟩,fl,xX,m J g,λgw n=>?_⟩;have T2:=g.size;have bY:=n.size;have bv:Q [b] w gw:=(((l.weaken (bs':=[b]) λ_ h=>aal).trans a.1 λx hx=>.inl hx).cd g).trans n λx hx=>.inr aam;have s:∀x,x∈[A,k3]->b<x:=aah
   have T:∀x,x∈[A,k3]->x<F.heap.size:=aah
   refine⟨bv,?_⟩;obtain⟨_,a⟩:=a;rw[<-R];cases hN:kb d (tk ts i).a (EN (i+1))with
   | error e=>
    rw[hN]at a;obtain⟨b,i,h,d⟩:=a;exact⟨b,⟨_,_,_,_,_,_,rfl⟩,h,(d.only g).own n s⟩
   | ok q=>
    obtain⟨x,cc⟩:=q;rw[hN]at a;obtain⟨b,e,h,i⟩:=a;refine⟨_,rfl,?_,(i.only g).own n s⟩;have iO:(nR p y C z B o)=b:=bN Array.toList (Value.agg.inj e);rw[rZ];have v:RX gw F.heap.size r.heap.size x b:=(h.only g aag).only n λk hk=>.inl (T k hk);have d:aF gw r.heap.size 68 b:=by
     have:=n.blk wY λk=>by have:=T _ k;omega
     rw[eH,Uk,bE]at this;rw[<-iO];exact this
    exact .one w.heap.size r.heap.size r.heap.size _ _ _ _ _ _ x b (v.wide J (aX _)) J (aX _) afl id d
  ·rw[show(ao #[33])=T [33]from rfl,iv];intro h a i;have h:=aO h;exact⟨rfl,rfl,rfl,by rw[aV h],rfl,rfl,(YX.new dX J).new i J,by have:=i.size;have:=dX.size;omega⟩
  rw[show(ao #[33])=T [33]from rfl,iv];intro h;have h:=aU h;exact⟨rfl,rfl,rfl,by rw[aP h],rfl,rfl,YX.new dX J,by have:=dX.size;omega⟩
 rw[aP (by rw[f];decide)]at R;obtain⟨RR,jw,AU,jF,ce⟩:=is1 h9 [40];have co:=jF.size;refine⟨RR,jw,AU,m J jF,ce.mono ?_⟩;rintro _ iX ⟨rfl,iP⟩;have cC:=iP.size;have q:=YX.cd (jF.cd iP);have n:=h.only q;have s:Q [b] w iX:=q.weaken λ_ h=>aal
 rw[show((0:Int)==0)=aE from rfl,cr];refine⟨_,rfl,m J iP,λhp hB _ _ _=>?_,λhp=>?_⟩
 ·rw[aV hp]at R;have e:=h.en.next h.lt (xS hp);subst R;refine(KN hd n e (g:=300) (z1:=[]) (z2:=[ae (aM ⟨E,0,aaa⟩)]) (jR aae) ⟨.func (.func 300) #[] #[ae (aM ⟨E,0,aaa⟩)],rfl⟩ rfl (r:=uZ ts (Y (i+1))) λb W D d=>ant d J (D.blk hB aah) λw c=>hE b w (i+1) (d.only c)).mono ?_;rintro _ x ⟨v,rfl,a⟩;obtain⟨p,y,C,z,B,o,rfl⟩:=a.rU;have k:=a.1.size;refine⟨_,_,_,_,_,_,rfl,a.1.same aah,_,a.1.blk hB aah,λF l _=>?_⟩;exact a.EV s l aah
 rw[aP ahO]at R;have v:(tk ts i).k≠5->i+1<I ts:=h.en.next h.lt;refine⟨λhi kg lr _ _ _ _ _ r=>⟨λk=>k=H,rfl,λe=>r e.symm,λe=>r e.symm,λnj jN=>?_⟩,λhi=>⟨λhv pI sF _ _ _ _ _ r=>⟨λk=>k=H,rfl,λe=>r e.symm,λe=>r e.symm,λth uu=>?_⟩,λhv=>⟨λg=>?_,λg=>?_⟩⟩⟩
 ·have hi:(tk ts i).k=3:=acO
  rw[aV hi]at R;exact⟨rfl,(q.cd lr).new jN J,by rw[hi];decide,[],rfl,rfl,R.symm⟩
 ·have hi:¬(tk ts i).k=3:=acO
  have hv:(tk ts i).k=1:=afh
  rw[aP hi,aV hv]at R;exact⟨rfl,(q.cd sF).new uu J,by rw[hv];decide,_,rfl,rfl,R.symm⟩
 ·have hi:¬(tk ts i).k=3:=acO
  have hv:¬(tk ts i).k=1:=afh
  rw[show(ao #[105,110])=T [105,110]from rfl,iv]at g;have g:(tk ts i).k=2/\(tk ts i).t=[105,110]:=by simpa using g
  rw[aP hi,aP hv,aV g]at R;have hn:=v (by rw[g.1];decide);refine⟨(i:Int),Blk.dP n.blk 1 rfl,b,1,_,_,rfl,n.blk,aag,J,J,J,J,λuF FP fd=>?_⟩;rw[fh J J]at fd;have gG:Rd F G ts uF b l sn (i+1) 0 0 (d:Int):=n.lF FP fd hn;have gO:=FP.size;refine(DW gG [40]).mono ?_;rintro _ qL ⟨rfl,wZ,dO⟩;have gT:=wZ.size;refine⟨rfl,sm J wZ,?_⟩;have eQ:Q [b] w qL:=(s.trans FP λx hx=>.inl hx).trans wZ λx hx=>.inl hx;have bad:∀{el:Nat} {c a:Int},Rd F G ts qL b l sn el c a (d:Int)->c≠0->az aq 302 #[ae (aM ⟨b,0,aaa⟩)] qL λe w'=>e=ak (X (T []))/\Q [b] qL w'/\Rd F G ts w' b l sn el c a (d:Int):=fun{el c a} h25 f=>by
   refine(PN h25).mono ?_;rintro e sC ⟨h,a⟩;rw[aP (λa=>f a.1),aP f,aP f]at a;exact⟨a.1,h,a.2⟩
  have gE:∀{sC vP:av} {el:Nat} {c a:Int},Q [b] qL sC->Q [k3] sC vP->Rd F G ts sC b l sn el c a (d:Int)->c≠0->L=.error (c,a)->∀s6:aK,az aq 301 #[ae (aM (Addr.add ⟨b,0,aaa⟩ 0)),X (ao #[41])] vP λe8 zh=>e8=(ak (ai #[]))/\cu [E,A,H,k3] vP zh/\∀EZ:av,Q [A] zh EZ->tv F G ts w EZ b l sn d L (ah #[O U 3,O U 0,X s6,O U 0,Sl.nil.v,O U (tk ts i).a]):=fun{sC vP el c a} h k h26 f N s6=>by
   have c:=h.size;have d:=k.size;refine(DW (h26.own k aah) [41]).mono ?_;rintro _ zh ⟨rfl,b,a⟩;rw[aP (by simp[f]),aP f,aP f]at a;refine⟨rfl,sm J b,λEZ t=>?_⟩;rw[N];refine⟨((((eQ.trans h λx hx=>.inl hx).new k J).trans b λx hx=>.inl hx).new t J),f,⟨3,0,s6.data.toList,0,Sl.nil,_,by unfold nR;rw[<-JZ]⟩,el,a.own t aah⟩
  by_cases h1:sg ts (i+1) [40]=aE
  ·rw[aV (by simp[h1])]at dO;rw[E9,aV h1]at R;refine(PN dO).mono ?_;rintro _ sC ⟨h,a⟩;have c:=h.size;by_cases j:(tk ts (i+2)).k=1
   ·rw[aV ⟨rfl,j⟩]at a;obtain⟨rfl,T⟩:=a;rw[aV j]at R;refine⟨_,rfl,sm J h,λvP k=>?_⟩;have g8:=k.size;have l:=T.own k aah;refine(DW l [41]).mono ?_;rintro _ zh ⟨rfl,G,d⟩;refine⟨rfl,sm J G,λEZ t=>?_⟩;have F:Q [b] w EZ:=(((eQ.trans h λx hx=>.inl hx).new k J).trans G λx hx=>.inl hx).new t J;refine⟨F,?_⟩;by_cases e:sg ts (i+3) [41]=aE
    ·rw[aV (by simp[e])]at d;rw[aV e]at R;rw[<-R];exact⟨_,rfl,.leaf ..,d.own t aah⟩
    rw[aP (by simp[e]),aV rfl,aV rfl]at d;rw[aP e]at R;rw[<-R];exact⟨gN,⟨_,_,_,_,_,_,rfl⟩,_,d.own t aah⟩
   rw[aP (λa=>j a.2),aV rfl,aV rfl]at a;obtain⟨rfl,b⟩:=a;rw[aP j]at R;exact⟨_,rfl,sm J h,λvP k=>gE h k b gN R.symm _⟩
  rw[aP (by simp[h1]),aV rfl,aV rfl]at dO;rw[E9,aP h1]at R;refine(bad dO gN).mono ?_;rintro _ sC ⟨rfl,h,a⟩;exact⟨_,rfl,sm J h,λvP k=>gE h k a gN R.symm _⟩
 have hi:¬(tk ts i).k=3:=acO
 have hv:¬(tk ts i).k=1:=afh
 rw[show(ao #[105,110])=T [105,110]from rfl,iv]at g;rw[aP hi,aP hv,aP (λh=>by rw[h.1,h.2]at g;simp at g)]at R;refine(HV n).mono ?_;rintro _ d ⟨rfl,a,b⟩;rw[aV rfl,aV rfl]at b;refine⟨rfl,sm J a,λe c=>⟨(s.trans a λx hx=>.inl hx).new c J,?_⟩⟩;rw[<-R];exact⟨gN,⟨0,0,[],0,Sl.nil,_,rfl⟩,i,b.own c aah⟩
end
section
variable {F G:aJ} {ts:List Tk} {w w':av} {b:Nat} {l sn:Sl} {i:Nat} {fc fa d:Int}
def Gj{E}{k}{g}{x}{j}(h:lK ts k j=0):jV ts E k g x j=.ok (x,j):=by
 cases g with
 | zero=>rfl
 | succ g=>rw[jV,aV h]
def At5(F G:aJ)(t:List Tk)(e:av)(b:Nat)(l sn:Sl)(d:Nat)(N:aJ)(E:Nat->Pr)(k:Int)(R:Pr)(n:Nat)(op:Int)(s:aI)(w:av):Prop:=Q [b] e w/\
 ((∃(c a:Int) (j:Nat),op=0/\c≠0/\R=.error (c,a)/\Rd F G t w b l sn j c a d)∨
  (∃(x:Ex) (j:Nat),op=lK t k j/\RXN w N e.heap.size w.heap.size x s/\Rd F G t w b l sn j 0 0 d/\R=jV t E k n x j/\(I t)-j<=n))
def SK{f k d:Nat}(Y1:k<6)(h:Rd F G ts w b l sn i 0 0 (d:Int))
  (V:∀w i,Rd F G ts w b l sn i 0 0 (d:Int)->az aq 249 #[ae (aM ⟨b,0,aaa⟩),O U ((k+1:Nat):Int)] w λe w'=>∃v,e=ak v/\tv F G ts w w' b l sn d (dE ts f (k+1) d i) v):
  az aq 249 #[ae (aM ⟨b,0,aaa⟩),O U (k:Int)] w λe w'=>∃v,e=ak v/\tv F G ts w w' b l sn d (dE ts (f+1) k d i) v:=by
 have eR:dE ts (f+1) k d i=FB (dE ts f (k+1) d i) λx j=>jV ts (dE ts f (k+1) d) (k:Int) ((I ts)-j) x j:=by rw[dE,aP J]
 rw[eR];have Y2:∀i x j,dE ts f (k+1) d i=.ok (x,j)->i<j:=λi x j h=>mq f _ _ i h;generalize am:dE ts f (k+1) d=E at*
 generalize R:(FB (E i) λx j=>jV ts E (k:Int) _ x j)=B;refine anb _ _ _ w ?_;have ek:ar U ((k:Int)+1)=((k+1:Nat):Int):=aaf
 refine⟨λhc=>absurd aaj (by omega:¬(k:Int)=6),λ_ z w3 mc jM A=>?_⟩;have hb:=h.lb;rw[ek];refine(V w3 i (h.only A)).mono ?_;rintro _ w4 ⟨v,rfl,D⟩;obtain⟨vk,vn,vs,vo,vl,Z,rfl⟩:=D.rU;have z3:=A.size;have z4:=D.1.size;refine⟨_,_,_,_,_,_,rfl,D.1.same aah,λr w5 qG oL C=>?_⟩;have BG:=((A.weaken (bs':=[b]) λ_ h=>aal).trans D.1 λx hx=>.inl hx).cd C;have sm:∀{N W:av},w5.heap.size<=N.heap.size->Q [b] N W->cu [z,r] N W:=λhu hO=>hO.same (by intro x hx;simp at hx⊢;omega);have Mz:=h.big;have Y:∃(j:Nat) (c a:Int),Rd F G ts w4 b l sn j c a (d:Int)/\∀u,Q [] w4 u->∃p,At5 F G ts w b l sn d (λq=>q=z∨q=r) E (k:Int) B p (if c=0 then lK ts (k:Int) j else 0) (nR vk vn vs vo vl Z) u:=by
  obtain⟨k,d⟩:=D;have f:=(A.weaken (bs':=[b]) λ_ h=>aal).trans k λx hx=>.inl hx;cases G:E i with
  | error e=>
   rw[G]at d R;obtain⟨c,a⟩:=e;obtain⟨b,i,j,h⟩:=d;exact⟨j,c,a,h,λu K=>⟨0,f.cd K,.inl ⟨c,a,j,aP b,b,R.symm,h.only K⟩⟩⟩
  | ok q=>
   obtain⟨x,j⟩:=q;rw[G]at d R;obtain⟨e,b,c,a⟩:=d;have i:(nR vk vn vs vo vl Z)=e:=bN Array.toList (Value.agg.inj b);rw[i];exact⟨j,0,0,a,λu K=>⟨(I ts)-j,f.cd K,.inr ⟨x,j,aV rfl,((c.only K aag).G0 λq h l _=>J).wide z3 K.size,a.only K,R.symm,aX _⟩⟩⟩
 obtain⟨j0,c0,a0,L,Y⟩:=Y;refine(DX (L.only C) (k:Int)).mono ?_;rintro _ u ⟨rfl,K⟩;have z6:=K.size;obtain⟨M,H⟩:=Y u (C.cd K);refine⟨_,rfl,K.same aah,λp op m n t o s g w'=>w5.heap.size<=w'.heap.size/\At5 F G ts w b l sn d _ E (k:Int) B p op [O U m,O U n,X t,O U o,s.v,O U g] w',M,⟨z6,H⟩,?_⟩;rintro p op m n t o s g w7 ⟨z7,P,T⟩;refine⟨λrZ=>?_,λrZ gw S=>?_⟩
 ·have rZ:op≠0:=agw
  rcases T with⟨_,_,_,e,_⟩ | ⟨x,j,rfl,hX,i,f,aC⟩
  ·exact absurd e rZ
  have hn:=i.en.next i.lt (ra _ _ rZ);obtain⟨aS,rfl⟩:∃aS,p=aS+1:=⟨p-1,J⟩
  rw[jV,aP rZ]at f;refine⟨(j:Int),Blk.dP i.blk 1 rfl,b,1,_,_,rfl,i.blk,aag,J,J,λw8 ft yy=>?_⟩;rw[fh J J]at yy;have h8:=i.lF ft yy hn;have z8:=ft.size;refine(V w8 (j+1) h8).mono ?_;rintro _ w9 ⟨v,rfl,Y3⟩;obtain⟨yk,yn,ys,yo,yl,ya,rfl⟩:=Y3.rU;have z9:=Y3.1.size;refine⟨_,_,_,_,_,_,rfl,sm J Y3.1,λk8 dz ce cc dX=>?_⟩;have JG:=dX.size;obtain⟨dF,pY,FQ,dT⟩:=DY dz [[O U m,O U n,X t,O U o,s.v,O U g],nR yk yn ys yo yl ya] aag aag aag (parts:=#[_,_]) rfl;have C3:=dT.size;refine⟨⟨aM _,2,2⟩,dF,pY,dT.same aah,λeZ eW=>?_⟩;have co:=eW.size;have MA:Q [b] w eZ:=((((P.trans ft λx hx=>.inl hx).trans Y3.1 λx hx=>.inl hx).cd dX).cd dT).new eW J;have xa:Q [r] w9 eZ:=((dX.cd dT).weaken (bs':=[r]) λ_ h=>aal).trans eW λx hx=>.inl hx;have OO:∃(j':Nat) (c a:Int),Rd F G ts w9 b l sn j' c a (d:Int)/\∀fl,Q [] eZ fl->∃p,p<aS+1/\At5 F G ts w b l sn d (λq=>q=z∨q=r) E (k:Int) B p (if c=0 then lK ts (k:Int) j' else 0) (nR 5 0 [] (lK ts (k:Int) j) ⟨aM ⟨dz.heap.size,0,aaa⟩,2,2⟩ g) fl:=by
   obtain⟨h,d⟩:=Y3;cases G:E (j+1)with
   | error e=>
    rw[G]at d f;obtain⟨c,a⟩:=e;obtain⟨b,l,j',k⟩:=d;exact⟨j',c,a,k,λfl eE=>⟨0,J,MA.cd eE,.inl ⟨c,a,j',aP b,b,f,(k.own xa aah).only eE⟩⟩⟩
   | ok q=>
    obtain⟨y,j'⟩:=q;rw[G]at d f;obtain⟨c,v,F,l⟩:=d;have iO:_=c:=bN Array.toList (Value.agg.inj v);have cC:=Y2 _ _ _ G;obtain⟨xl,e,_⟩:=hX.cells;have a:=by
     simp only[nR,C9,Value.int.injEq]at e;exact e.2.2.2.2.2.1.2
    refine⟨j',0,0,l,λfl eE=>⟨aS,J,MA.cd eE,.inr ⟨.mk 5 0 [] (lK ts (k:Int) j) [x,y] x.a,j',aV rfl,?_,(l.own xa aah).only eE,f,?_⟩⟩⟩
    ·have dO:=(((((ft.weaken (bs':=[b,r]) λx hx=>.inl aaz).trans h λx hx=>.inl aaz).trans xa λx hx=>.inl aaz).cd eE))
     have Y4:=xa.cd eE;have wY:aF fl dz.heap.size 68 ([O U m,O U n,X t,O U o,s.v,O U g]++c):=by
      have:=eE.blk (eW.blk FQ aah) aag;rw[<-iO];simpa using this
     have Y5:RXN fl (λq=>q=z∨q=r) w.heap.size w7.heap.size x [O U m,O U n,X t,O U o,s.v,O U g]:=by
      exact hX.only dO λq hq=>by
       simp only[aZ,bp,ci]at hq;rcases hq with rfl | rfl
       ·exact .inl hb
       exact .inr (.inr (.inr rfl))
     have k:RXN fl (λq=>q=z∨q=r) w8.heap.size w9.heap.size y c:=(F.only Y4 λq hq=>.inl (by simp only[aN]at hq;omega)).G0 λq h1 h2 _=>J
     rw[a];exact .two w.heap.size w7.heap.size w8.heap.size w9.heap.size dz.heap.size _ _ _ _ _ _ x y _ c Y5 z8 k J J J J afl J wY
    omega
  obtain⟨j',c',a',bV,OO⟩:=OO;refine(DX (bV.own xa aah) (k:Int)).mono ?_;rintro _ fl ⟨rfl,eE⟩;obtain⟨bY,aT,bv⟩:=OO fl eE;exact⟨_,rfl,eE.same aah,bY,aT,by have:=eE.size;omega,bv⟩
 have rZ:op=0:=agw
 refine⟨P.new S J,?_⟩;rcases T with⟨c,a,j,_,hc,b,F⟩ | ⟨x,j,d,e,F,b,v⟩
 ·rw[b];exact⟨hc,⟨m,n,t.data.toList,o,s,g,rfl⟩,j,F.own S aah⟩
 rw[b,Gj (by rw[<-d,rZ])];exact⟨_,rfl,((e.only S λq hq=>.inr (.inr (.inl aev))).G0 λ_ _ _ _ h=>h).wide (aX _) S.size,F.own S aah⟩
def KO:∀f,(∀k d i w,k<=6->d<=20->gY k d<=f->Rd F G ts w b l sn i 0 0 d->az aq 249 #[ae (aM ⟨b,0,aaa⟩),O U k] w λe w'=>∃v,e=ak v/\tv F G ts w w' b l sn d (dE ts f k d i) v)/\
  (∀d i w,d<=20->gY 6 d<=f->Rd F G ts w b l sn i 0 0 d->
   az aq 275 #[ae (aM ⟨b,0,aaa⟩)] w λe w'=>∃v,e=ak v/\tv F G ts w w' b l sn d (dE ts f 6 d i) v)
 | 0=>⟨λk d i w hk hd hn=>aeE,λd i w hd hn=>aeE⟩
 | f+1=>by
  obtain⟨N,H⟩:=KO f;have one:∀(d i) w,d<=20->gY 6 d<=f+1->Rd F G ts w b l sn i 0 0 d->
   az aq 275 #[ae _] w λe w'=>∃v,e=ak v/\tv F G ts w w' b l sn d _ v:=λd i w hd hn h=>by
   unfold gY at hn;exact agm hd h (λC w i h=>N 0 _ i w J J ac7 h) (λC w i h=>H _ i w J ac7 h)
  refine⟨λk d i w hk hd hn h=>?_,one⟩;by_cases a:k=6
  ·subst a;refine anb _ _ _ w ?_;refine⟨λ_ k f g z c=>?_,λe=>absurd e Z⟩;refine(one d i f hd hn (h.only c)).mono ?_;rintro _ q ⟨v,rfl,D⟩;obtain⟨m,o,s,p,n,l,rfl⟩:=D.rU;have j:=h.lb;exact⟨_,_,_,_,_,_,rfl,D.1.same aah,λr b=>D.EV (c.weaken λ_ h=>aal) b aah⟩
  unfold gY at hn;exact SK J h λw i h=>N _ d i w J hd ac7 h
end
def SL(w:av):∃(s:Sl) (a:av),(au 32 16 #[.mk 1 (X (ao #[43])),.mk 2 (X (ao #[45])),.mk 3 (X (ao #[42])),.mk 4 (X (ao #[47])),.mk 5 (X (ao #[37])),.mk 6 (X (ao #[60])),.mk 7 (X (ao #[60,61])),.mk 8 (X (ao #[62])),.mk 9 (X (ao #[62,61])),.mk 10 (X (ao #[61,61])),.mk 11 (X (ao #[33,61])),.mk 12 (X (ao #[38,38])),.mk 13 (X (ao #[124,124])),.mk 14 (X (ao #[45])),.mk 15 (X (ao #[33]))]).run aq w=.ok (Sl.v s) a/\
  aA mh 1 a (λk=>w.heap.size<=k/\k<a.heap.size) s yH/\Q [] w a:=by
 have D:=run_buildSlice (P:=aq) w 32 9 16 #[.mk 1 (X (ao #[43])),.mk 2 (X (ao #[45])),.mk 3 (X (ao #[42])),.mk 4 (X (ao #[47])),.mk 5 (X (ao #[37])),.mk 6 (X (ao #[60])),.mk 7 (X (ao #[60,61])),.mk 8 (X (ao #[62])),.mk 9 (X (ao #[62,61])),.mk 10 (X (ao #[61,61])),.mk 11 (X (ao #[33,61])),.mk 12 (X (ao #[38,38])),.mk 13 (X (ao #[124,124])),.mk 14 (X (ao #[45])),.mk 15 (X (ao #[33]))]
  (yH.map λx=>Value.string (T x)).toArray Tryz.t9 _ aae aae rfl Z Z aae
 refine⟨⟨aM ⟨w.heap.size,0,aaa⟩,16,16⟩,_,D,⟨rfl,aX _,λh=>aal,(by decide:(16:Nat)<=9223372036854775807),λj x hx=>?_⟩,Only.alloc _ _⟩;have B:=Blk.alloc w 9 (yH.map λx=>Value.string (T x));have b:=B.lt;refine⟨⟨w.heap.size,0,aaa⟩,[X (T x)],rfl,⟨aX _,b⟩,rfl,?_,rfl⟩;rw[rm];exact Blk.dP B j ahN
def adW(a:av):az aq 248 #[] a λe w=>∃s:Sl,e=ak s.v/\aA mh 1 w (λk=>a.heap.size<=k/\k<w.heap.size) s yH/\Q [] a w:=by
 refine ik (atA ?_);obtain⟨s,w,h,b,c⟩:=SL a;exact⟨s,w,h,s,rfl,b,c⟩
def mr(s:List Tk):Nat:=I (s.takeWhile λt=>t.k !=5)
def HW(t:List Tk):mr t<=I t:=by
 unfold mr;exact(List.takeWhile_sublist _).length_le
def Gk{t:Tk}{s:List Tk}{i:Nat}:tk (t::s) (i+1)=tk s i:=by unfold tk;rw[cY]
def Gl{t:Tk}{s:List Tk}:tk (t::s) 0=t:=rfl
def zN:∀(s:List Tk) (i:Nat),i<mr s->(tk s i).k≠5
 | [],_,h=>by simp[mr]at h
 | t::s,i,h=>by
  unfold mr at h;rw[dL]at h;split at h
  ·rename_i t;cases i with
   | zero=>rw[Gl];simpa using t
   | succ i=>rw[Gk];exact zN s i (by simpa[mr]using h)
  simp at h
def zO:∀(s:List Tk),mr s<(I s)->(tk s (mr s)).k=5
 | [],h=>acr
 | t::s,h=>by
  unfold mr at h⊢;rw[dL]at h⊢;split
  ·rename_i t;rw[aV t]at h;rw[aY,Gk];exact zO s (by simpa[mr]using h)
  rename_i h;rw[bC,Gl];simpa using h
def KP{t:List Tk}(h:mr t+1=I t):tU t:=λi a=>by
 constructor
 ·intro hk;refine bQ λn=>zN t i J hk
 intro n;have:i=mr t:=J
 rw[this];exact zO t J
def V9{t:List Tk}(a:tU t)(b:0<I t):mr t+1=I t:=by
 have c:=HW t;rcases pN (mr t) (I t) with h | h
 ·exact(a _ h).1 (zO t h)
 have:=zN t ((I t)-1) J;exact absurd ((a ((I t)-1) J).2 J) this
def aa5(w:av)(t:Tk):az aq 247 #[t.v] w λe a=>e=ak (aj (t.k==5))/\Q [] w a:=by
 refine ret (v3w t.k (T t.t) t.n t.a (λv a=>v=aj (t.k==5)/\Q [] w a) w ?_);exact λk b _ _ h=>⟨rfl,h⟩
def Wa{w:av}{F:aJ}{l:Sl}{t:List Tk}(h:aA Jv 4 w F l t):az aq 246 #[l.v,.func (.func 247) #[] #[]] w λe a=>e=ak (O U (if mr t<I t then(mr t:Int)else -1))/\Q [] w a:=by
 refine ret (ana l ⟨.func (.func 247) #[] #[],rfl⟩ (λv a=>v=O U (if mr t<I t then(mr t:Int)else -1)/\Q [] w a) w ?_);have N:=h.len;have s:=h.big;have p:=h.cap;refine⟨λd i a=>∃n:Nat,n<=mr t/\i=(n:Int)/\d=(I t)-n/\Q [] w a,I t,⟨0,be _,rfl,rfl,Only.refl _ _⟩,?_⟩;rintro d _ f ⟨n,g,rfl,rfl,c⟩;have u:=HW t;refine⟨λb=>?_,λb=>?_⟩
 ·have k:(n:Int)<l.n:=aO b;obtain⟨ad,x,q,m,e,r,v,o,j⟩:=(SliceF.only ji Z h c aag).get (ba n) k;rw[aW,DU J]at e;injection e with e;subst e;unfold Jv at j;subst j;refine⟨ad,m,_,_,_,_,o,247,[],[],rfl,jR aae,?_⟩;refine(aa5 f (tk t n)).mono ?_;rintro _ y ⟨rfl,D⟩;refine⟨_,rfl,λhb=>⟨?_,c.cd D⟩,λhb=>⟨(I t)-(n+1),J,n+1,?_,aaf,rfl,c.cd D⟩⟩
  ·have hb:(tk t n).k=5:=abS
   have:n=mr t:=by
    refine bQ λx=>zN t n J hb
   rw[aV J,this]
  have hb:¬(tk t n).k=5:=abS
  refine bQ λx=>hb ?_;have:n=mr t:=J
  rw[this];exact zO t J
 have m:¬(n:Int)<l.n:=aU b;rw[aP J];exact⟨rfl,c⟩
def yI:Ex:=.mk 0 0 [] 0 [] 0
def cO(t:List Tk)(a:Int):Ex×Int×Int×Int:=
 if 0<=a/\a<I t/\mr t+1=I t then(match tu t a.toNat with
  | .error (c,p)=>(yI,0,c,p)
  | .ok (x,j)=>(x,(j:Int),0,0))
 else(yI,0,1, -1)
def rx0(w:av)(l h:Nat):RX w l h yI [O U 0,O U 0,X (ao #[]),O U 0,Sl.nil.v,O U 0]:=.leaf ..
def PO{w:av}{F:aJ}{l:Sl}{t:List Tk}(h:aA Jv 4 w F l t)(a:Int)(y:tn a):az aq 216 #[l.v,O U a] w λe g=>
  ∃s,e=ak (ai #[ah s.toArray,O U (cO t a).2.1,ah #[O U (cO t a).2.2.1,O U (cO t a).2.2.2]])/\RX g w.heap.size g.heap.size (cO t a).1 s/\((cO t a).2.2.1=0->0<=(cO t a).2.1/\(cO t a).2.1<I t)/\Q [] w g:=by
 refine ik (v4w _ _ ?_);intro m n G r z A M f;have N:=h.len;have B:=h.cap;have C:=h.big;have K:=f.size;have h:=(h.inHeap ji Z)
 refine(Wa (SliceF.only ji Z h f aag)).mono ?_;rintro _ i ⟨rfl,D⟩;have L:=D.size;have u:=f.cd D;have E:=HW t;have o:(((decide (a<0))||(decide (a>=(l.n:Int))))||((if mr t<I t then(mr t:Int)else -1) !=(ar U ((l.n:Int)-1))))=!decide (0<=a/\a<I t/\mr t+1=I t):=by
  rw[fh J J,N];by_cases h:mr t<I t
  ·rw[aV h,bL];simp;omega
  rw[aP h,bL];simp;omega
 refine⟨_,rfl,D.same aah,?_⟩;dsimp only;rw[o];refine⟨λd H j=>?_,λd=>?_⟩
 ·have d:¬(0<=a/\a<I t/\mr t+1=I t):=by
   rw[de,dl]at d;exact d
  rw[cO,aP d];exact⟨_,rfl,rx0 _ _ _,λh=>aal,(u.weaken (bs':=[]) λ_ h=>aal).trans j λx hx=>.inr aam⟩
 have d:0<=a/\a<I t/\mr t+1=I t:=by
  rw[jz,bG]at d;exact d
 rw[cO,aV d];obtain⟨R,rfl⟩:∃R:Nat,a=(R:Int):=⟨a.toNat,J⟩
 refine(adW i).mono ?_;rintro _ w3 ⟨sn,rfl,TT,dh⟩;have z3:=dh.size;refine⟨sn,rfl,dh.same aah,λb w4 hb oV W sE=>?_⟩;have z4:=W.size;have pL:=u.cd dh;have hR:Rd (λk=>F k/\k<w.heap.size) (λk=>i.heap.size<=k/\k<w3.heap.size) t w4 b l sn R 0 0 ((0:Nat):Int):=
  ⟨sE,SliceF.only ji Z h (pL.cd W) aag,SliceF.only du Z TT W aag,λk hk=>acL,λk hk=>acL,KP d.2.2,J⟩
 refine((KO (gY 0 0)).1 0 0 R w4 Z Z (aX _) hR).mono ?_;rintro _ w5 ⟨v,rfl,P⟩;obtain⟨vk,vn,vs,vo,vl,va,rfl⟩:=P.rU;have z5:=P.1.size;obtain⟨eh,P⟩:=P;rw[aW];have am:tu t R=dE t (gY 0 0) 0 0 R:=rfl;rw[am];have S:∀{Y:Nat} {c p:Int},Rd (λk=>F k/\k<w.heap.size) (λk=>i.heap.size<=k/\k<w3.heap.size) t w5 b l sn Y c p ((0:Nat):Int)->∀T,Q [] w5 T->∀V,Q [n,m] T V->Q [] w V:=λhR T ft V fU=>(((pL.cd W).trans eh λx hx=>.inr aak).cd ft).trans fU λx hx=>.inr aam;refine⟨_,_,_,_,_,_,rfl,eh.same aah,?_⟩;cases hE:dE t (gY 0 0) 0 0 R with
 | error e=>
  rw[hE]at P;obtain⟨c,p⟩:=e;obtain⟨x,a2,Y,a⟩:=P;refine⟨_,_,_,_,_,_,a.blk,λk3 w6 yZ ur q RW=>?_⟩;have z6:=q.size;refine(Gi (a.only q)).mono ?_;rintro _ w7 ⟨rfl,v⟩;have h7:=(a.only q).only v;have ii:(c !=0)=aE:=by simpa using x
  refine⟨_,rfl,v.same aah,_,_,_,_,_,_,h7.blk,λ_ T ft yy n1 n2 n3 n4 n5 n6=>⟨λk=>k=b,rfl,λe=>n2 e,λe=>n4 e,λV fU _=>⟨_,rfl,rx0 _ _ _,λh=>absurd h x,S a T (q.cd (v.cd ft)) V fU⟩⟩,λd=>by rw[ii]at d;cases d⟩
 | ok q=>
  rw[hE]at P;obtain⟨x,Y⟩:=q;obtain⟨s,a1,a2,a⟩:=P;refine⟨_,_,_,_,_,_,a.blk,λk3 w6 yZ ur c RW=>?_⟩;have z6:=c.size;refine(Gi (a.only c)).mono ?_;rintro _ w7 ⟨rfl,h⟩;have z7:=h.size;have h7:=(a.only c).only h;refine⟨_,rfl,h.same aah,_,_,_,_,_,_,h7.blk,λd=>(by simp at d),λ_ dz v pK n1 n2 n3 n4 n5 n6=>⟨λk=>k=b,rfl,λe=>n2 e,λe=>n4 e,λdF p _=>?_⟩⟩;have JG:=v.size;have C3:=p.size;have iO:(nR vk vn vs vo vl va)=s:=bN Array.toList (Value.agg.inj a1);refine⟨nR vk vn vs vo vl va,rfl,?_,λ_=>⟨ba Y,by have:=a.lt;dsimp only;omega⟩,S a dz (c.cd (h.cd v)) dF p⟩;rw[iO];exact((a2.only (c.cd (h.cd v)) aag).only p λq hq=>.inl ac8).wide J J
def iU(l:aH):Ex×Int×Int:=
 if(di l).2.1≠0 then(yI,(di l).2.1,(di l).2.2)
 else if(cO (di l).1 0).2.2.1≠0 then(yI,(cO (di l).1 0).2.2.1,(cO (di l).1 0).2.2.2)
 else if(tk (di l).1 (cO (di l).1 0).2.1.toNat).k≠5 then(yI,4,(tk (di l).1 (cO (di l).1 0).2.1.toNat).a)
 else((cO (di l).1 0).1,0,(cO (di l).1 0).2.2.2)
def agn{w:av}(l:aH)(E:Er w):az aq 267 #[X (T l)] w λe b=>
  ∃a,e=ak (ai #[ah a.toArray,ah #[O U (iU l).2.1,O U (iU l).2.2]])/\RX b w.heap.size b.heap.size (iU l).1 a/\Q [] w b:=by
 refine ik (v5w _ ?_);intro g i K C B F M f;have z0:=f.size;refine(KK l (E.only f)).mono ?_;rintro _ N ⟨z,rfl,h,D⟩;have z1:=D.size;have u:=f.cd D;generalize P:di l=A at*
 obtain⟨s,c,p⟩:=A;dsimp only at h⊢;have R:iU l=if c≠0 then(yI,c,p)else if(cO s 0).2.2.1≠0 then(yI,(cO s 0).2.2.1,(cO s 0).2.2.2)else if(tk s (cO s 0).2.1.toNat).k≠5 then(yI,4,(tk s (cO s 0).2.1.toNat).a)else((cO s 0).1,0,(cO s 0).2.2.2):=by
  unfold iU;rw[P]
 refine⟨z,_,_,rfl,D.same aah,λhc y S G L r o j m=>⟨λk=>k=y,rfl,λe=>j e,λe=>m e,λV v=>?_⟩,λhc k3 W Y H d=>?_⟩
 ·have hc:c≠0:=aaj
  rw[R,aV hc];exact⟨_,rfl,rx0 _ _ _,((u.cd r).trans v λx hx=>.inr aam)⟩
 have hc:c=0:=aaj
 rw[aP (by simp[hc])]at R;have z4:=d.size;refine(PO (h.only d).sl 0 ⟨Z,Z⟩).mono ?_;rintro _ w5 ⟨a,rfl,hX,hj,eh⟩;have z5:=eh.size;generalize aT:cO s 0=pa at*
 obtain⟨x,aC,c',p'⟩:=pa;dsimp only at hX hj R⊢;obtain⟨xl,rfl,_⟩:=hX.cells;refine⟨_,_,_,_,_,_,_,_,_,rfl,eh.same aah,λk4 w6 uw yg dK=>?_⟩;have z6:=dK.size;have h6:=((h.only (d.cd eh)).keep (w':=w6) λk hk bU=>dK.block k bU (by
  have:=h.blk hk.2;simp only[aN];dsimp only at this;omega))
 have aS:=h6.len;have FR:Q [] w w6:=((u.cd d).cd eh).new dK J;have am:∀{w8 w9:av},Q [k3] w6 w8->Q [i,g] w8 w9->Q [] w w9:=λh8 h9=>(FR.new h8 J).trans h9 λx hx=>.inr aam;refine⟨λT p w7=>Q [k3] w6 w7/\((c'≠0/\T=c'/\p=p')∨(c'=0/\(tk s aC.toNat).k≠5/\T=4/\p=(tk s aC.toNat).a)∨(c'=0/\(tk s aC.toNat).k=5/\T=0/\p=p')),?_,?_⟩
 ·rintro T p w7 ⟨n,c⟩;have z7:=n.size;refine⟨λhi w8 ft o j m n4 n5 n6=>⟨λk=>k=k3,rfl,?_,?_,λw9 fU=>?_⟩,λhi dz dX o j m n4 n5 n6=>⟨λk=>k=k3,rfl,?_,?_,λdF t=>?_⟩⟩
  ·intro e;omega
  ·intro e;omega
  ·have hi:T≠0:=acO
   have e:iU l=(yI,T,p):=by
    rw[R];rcases c with⟨k,rfl,rfl⟩ | ⟨k,q,rfl,rfl⟩ | ⟨k,q,rfl,rfl⟩
    ·rw[aV k]
    ·rw[aP (by simp[k]),aV q]
    exact absurd rfl hi
   rw[e];exact⟨_,rfl,rx0 _ _ _,am (n.cd ft) fU⟩
  ·intro e;omega
  ·intro e;omega
  have hi:T=0:=acO
  have hr:iU l=(x,T,p):=by
   rw[R];rcases c with⟨q,rfl,rfl⟩ | ⟨q,x,rfl,rfl⟩ | ⟨q,x,rfl,rfl⟩
   ·exact absurd hi q
   ·exact absurd hi Z
   rw[aP (by simp[q]),aP (by simp[x])]
  rw[hr];have e:Q [k3,i,g] w5 dF:=(((dK.trans n λx hx=>.inl hx).cd dX).weaken (bs':=[k3,i,g]) λx hx=>.inl aaz).trans t λx hx=>.inl acS;have k:=e.size;exact⟨_,rfl,(hX.only e λq hq=>.inl ac8).wide J k,am (n.cd dX) t⟩
 by_cases c:c'=0
 ·obtain⟨UN,Jc⟩:=hj c;obtain⟨n,rfl⟩:∃n:Nat,aC=(n:Int):=⟨aC.toNat,J⟩
  obtain⟨ad,t,a,k,e,g3,g4,q,x⟩:=h6.sl.get UN J;rw[aW,DU J]at e;injection e with e;subst e;unfold Jv at x;subst x;rw[aW];refine⟨ad,λ_=>k,(tk s n).k,λ_=>q.dP 0 _ rfl,λhh=>⟨ad,k,(tk s n).a,q.dP 3 _ rfl,λeZ eW=>⟨eW,.inr (.inl ⟨c,?_,rfl,rfl⟩)⟩⟩,λhh=>⟨Only.refl _ _,.inr (.inr ⟨c,?_,c,rfl⟩)⟩⟩
  ·simpa[c]using hh
  simpa[c]using hh
 have hb:(c'==0)=aL:=by simpa using c
 refine⟨⟨0,0,aaa⟩,λhh=>afT,0,λhh=>afT,λhh=>afT,λ_=>⟨Only.refl _ _,.inl ⟨c,rfl,rfl⟩⟩⟩
def aa7{t:List Tk}{i:Nat}{e:Int×Int}(h:E9 t i=.error e):e.1≠0:=by
 unfold E9 at h;split at h
 ·split at h
  ·split at h
   ·cases h
   injection h with h;subst h;exact gN
  injection h with h;subst h;exact gN
 injection h with h;subst h;exact gN
def KQ{r:Pr}{g:Ex->Nat->Pr}{e:Int×Int}(h:FB r g=.error e):r=.error e∨∃x j,r=.ok (x,j)/\g x j=.error e:=by
 cases r with
 | error e=>exact .inl h
 | ok p=>exact .inr ⟨p.1,p.2,rfl,h⟩
def Gm{d:Nat}{a:Int}{r:Pr}{e:Int×Int}(h:kb d a r=.error e):r=.error e∨e.1=21:=by
 unfold kb at h;split at h
 ·injection h with h;subst h;exact .inr rfl
 exact .inl h
def Gn{t:List Tk}{E:Nat->Pr}{k:Int}{e:Int×Int}(a:∀i,E i=.error e->e.1≠0):∀(g:Nat) (x:Ex) (j:Nat),jV t E k g x j=.error e->e.1≠0
 | 0,x,j,h=>aal
 | g+1,x,j,h=>by
  rw[jV]at h;split at h
  ·cases h
  rcases KQ h with b | ⟨y,m,b,c⟩
  ·exact a _ b
  exact Gn a g _ _ c
def pz{t:List Tk}{e:Int×Int}:∀(f k d i:Nat),dE t f k d i=.error e->e.1≠0
 | 0,k,d,i,h=>by
  rw[dE]at h;injection h with h;subst h;decide
 | f+1,k,d,i,h=>by
  rw[dE]at h;split at h
  ·unfold qU at h;split at h
   ·generalize n:kb d (tk t i).a (dE t f 6 (d+1) (i+1))=r at h;cases r with
    | ok q=>cases h
    | error e=>
     simp only[KL]at h;injection h with h;subst h;rcases Gm n with a | a
     ·exact pz f _ _ _ a
     rw[a];decide
   split at h
   ·rcases Gm h with a | a
    ·cases r:dE t f 0 (d+1) (i+1)with
     | error e=>
      rw[r]at a;simp only[uZ]at a;injection a with a;subst a;exact pz f _ _ _ r
     | ok q=>
      rw[r]at a;simp only[uZ]at a;split at a
      ·cases a
      injection a with a;subst a;exact gN
    rw[a];decide
   split at h
   ·cases h
   split at h
   ·cases h
   split at h
   ·exact aa7 h
   injection h with h;subst h;exact gN
  rcases KQ h with a | ⟨y,m,a,b⟩
  ·exact pz f _ _ _ a
  exact Gn (λi c=>pz f _ _ _ c) _ _ _ b
structure Ac where
 k:Int
 n:aH
 x:Ex
 a:Int
structure Mv where
 k:Int
 ev:aH
 wt:Int
 gd:Bool
 g:Ex
 acts:List Ac
 tg:List (aH)
 a:Int
structure Nb where
 k:Int
 nm:aH
 ini:aH
 dft:aH
 en:List Ac
 lv:List Ac
 mv:List Mv
 a:Int
inductive Nd where
 | mk (b:Nb) (kids:List Nd)
def Nd.b:Nd->Nb | .mk b _=>b
def Nd.kids:Nd->List Nd | .mk _ l=>l
structure Vr where
 n:aH
 v:Int
 a:Int
structure Ch where
 vars:List Vr
 root:Nd
def nb0:Nb:=⟨0,[],[],[],[],[],[],0⟩
def SM:Nd:=.mk nb0 []
def ch0:Ch:=⟨[],SM⟩
def ac0:Ac:=⟨0,[],yI,0⟩
def tkZ:Tk:=⟨0,[],0,0⟩
structure Sx where
 i:Nat
 fc:Int
 fa:Int
 v:Int
 n:Int
 d:Int
 m:Int
 a:Int
section
variable (ts:List Tk)
def jW(s:Sx)(c:Int):Sx:=if s.fc=0 then{s with fc:=c,fa:=(tk ts s.i).a}else s
def lM(s:Sx):Sx:=if(tk ts s.i).k=5 then jW ts (jW ts s 3) 4 else jW ts s 4
def xu(c:aH):List (aH)->Nat
 | []=>0
 | x::l=>if c=x then 0 else xu c l+1
def dc(s:Sx)(l:List (aH)):Nat:=
 if s.fc≠0∨((tk ts s.i).k≠2/\(tk ts s.i).k≠4)then 0 else if xu (tk ts s.i).t l<I l then xu (tk ts s.i).t l+1 else 0
def eF(s:Sx):Sx:={s with i:=s.i+1}
def fH(s:Sx)(x:aH):Sx:=if dc ts s [x]=0 then lM ts s else eF s
def iq(s:Sx)(k:Int):Tk×Sx:=if s.fc≠0∨(tk ts s.i).k≠k then(tkZ,lM ts s)else(tk ts s.i,eF s)
def kR(s:Sx):aH×Sx:=((iq ts s 1).1.t,(iq ts s 1).2)
def rB(s:Sx):Ex×Sx:=
 if s.fc≠0 then(yI,s)
 else if(cO ts s.i).2.2.1≠0 then((cO ts s.i).1,{s with fc:=(cO ts s.i).2.2.1,fa:=(cO ts s.i).2.2.2})
 else((cO ts s.i).1,{s with i:=(cO ts s.i).2.1.toNat})
def A9(x:Int):Int:=ar U (x-1)
def inc(x:Int):Int:=ar U (x+1)
def wv(s:Sx):Sx:=if s.a=0 then{jW ts s 2 with a:=A9 s.a}else{s with a:=A9 s.a}
def u6(s:Sx):Sx:=if s.m=0 then{jW ts s 2 with m:=A9 s.m}else{s with m:=A9 s.m}
def FC(s:Sx):Sx:=if s.n=0 then{jW ts s 2 with n:=A9 s.n}else{s with n:=A9 s.n}
def FD(s:Sx):Sx:=if s.v=0 then{jW ts s 2 with v:=A9 s.v}else{s with v:=A9 s.v}
def sf:aH:=[115,101,116]
def lh:aH:=[114,97,105,115,101]
def mV:aH:=[101,109,105,116]
def CL:aH:=[111,110]
def iV:aH:=[97,108,119,97,121,115]
def jD:aH:=[97,102,116,101,114]
def fT:aH:=[105,110,105,116,105,97,108]
def jk:aH:=[101,110,116,101,114]
def jl:aH:=[108,101,97,118,101]
def DZ:aH:=[115,116,97,116,101]
def tW:aH:=[112,97,114,97,108,108,101,108]
def ww:aH:=[104,105,115,116,111,114,121]
def KR:aH:=[100,101,101,112]
def gf:aH:=[99,104,97,114,116]
def yJ:aH:=[118,97,114]
def NL(s:Sx)(k:Nat)(n:aH)(a:Int):Ac×Sx:=
 if k=2 then(⟨k,n,yI,a⟩,fH ts s [59])
 else(⟨k,n,(rB ts (fH ts s [61])).1,a⟩,fH ts (rB ts (fH ts s [61])).2 [59])
def tX(s:Sx):Ac×Sx:=
 if dc ts s [sf,lh,mV]=0 then(⟨0,[],yI,(tk ts s.i).a⟩,lM ts s)
 else if(wv ts s).fc≠0 then(⟨(dc ts s [sf,lh,mV]),[],yI,(tk ts s.i).a⟩,wv ts s)
 else NL ts (kR ts (eF (wv ts s))).2 (dc ts s [sf,lh,mV]) (kR ts (eF (wv ts s))).1 (tk ts s.i).a
def qk:Nat->List Ac->Sx->List Ac×Sx
 | 0,a,s=>(a,s)
 | f+1,a,s=>if s.fc≠0 then(a,s)else if dc ts s [[125]]≠0 then(a,eF s)else qk f (a++[(tX ts s).1]) (tX ts s).2
def lN(s:Sx):List Ac×Sx:=qk ts (I ts+1) [] (fH ts s [123])
def tY:Nat->aH->List (aH)->Sx->List (aH)×Sx
 | 0,_,a,s=>(a,s)
 | f+1,x,a,s=>if dc ts s [x]=0 then(a,s)else tY f [44] (a++[(kR ts (eF s)).1]) (kR ts (eF s)).2
def D1(m:Mv)(s:Sx):Mv×Sx:=
 ({m with tg:=(tY ts (I ts+1) [45,62] [] s).1},fH ts (tY ts (I ts+1) [45,62] [] s).2 [59])
def BQ(m:Mv)(s:Sx):Mv×Sx:=
 if dc ts s [[123]]=0 then D1 ts m s else D1 ts {m with acts:=(lN ts s).1} (lN ts s).2
def rC(m:Mv)(s:Sx):Mv×Sx:=
 if dc ts s [[91]]=0 then BQ ts m s else BQ ts {m with gd:=aE,g:=(rB ts (eF s)).1} (fH ts (rB ts (eF s)).2 [93])
def Wb(k a:Int):Mv:=⟨k,[],0,aL,yI,[],[],a⟩
def qJ(k:Int)(s:Sx):Mv×Sx:=
 if(u6 ts s).fc≠0 then(Wb k (tk ts s.i).a,u6 ts s)
 else if k=1 then rC ts {Wb k (tk ts s.i).a with ev:=(kR ts (eF (u6 ts s))).1} (kR ts (eF (u6 ts s))).2
 else if k=3 then rC ts {Wb k (tk ts s.i).a with wt:=(iq ts (eF (u6 ts s)) 3).1.n} (iq ts (eF (u6 ts s)) 3).2
 else rC ts (Wb k (tk ts s.i).a) (eF (u6 ts s))
structure T3 where
 i:Bool
 e:Bool
 l:Bool
def eJ(n:Nb)(h:T3)(s:Sx):Bool×Nb×T3×Sx:=
 if dc ts s [CL,iV,jD]≠0 then(aE,{n with mv:=n.mv++[(qJ ts (dc ts s [CL,iV,jD]) s).1]},h,(qJ ts (dc ts s [CL,iV,jD]) s).2)
 else match dc ts s [fT,jk,jl]with
  | 0=>(aL,n,h,s)
  | 1=>if h.i then(aL,n,h,lM ts s)else(aE,{n with ini:=(kR ts (eF s)).1},{h with i:=aE},fH ts (kR ts (eF s)).2 [59])
  | 2=>if h.e then(aL,n,h,lM ts s)else(aE,{n with en:=(lN ts (eF s)).1},{h with e:=aE},(lN ts (eF s)).2)
  | _=>if h.l then(aL,n,h,lM ts s)else(aE,{n with lv:=(lN ts (eF s)).1},{h with l:=aE},(lN ts (eF s)).2)
def iw:Nat->Nb->T3->Sx->Nb×Sx
 | 0,n,_,s=>(n,s)
 | f+1,n,h,s=>if s.fc≠0 then(n,s)
  else if(eJ ts n h s).1 then iw f (eJ ts n h s).2.1 (eJ ts n h s).2.2.1 (eJ ts n h s).2.2.2 else((eJ ts n h s).2.1,(eJ ts n h s).2.2.2)
def rD:List (aH):=[DZ,tW,ww,KR]
def vG(N:Int->Sx->Nd×Sx):Nat->List Nd->Sx->List Nd×Sx
 | 0,a,s=>(a,s)
 | f+1,a,s=>if dc ts s rD=0 then(a,s)else vG N f (a++[(N (dc ts s rD) (eF s)).1]) (N (dc ts s rD) (eF s)).2
def tZ(N:Int->Sx->Nd×Sx)(n:Nb)(s:Sx):Nd×Sx:=
 let c:=iw ts (I ts+1) n ⟨aL,aL,aL⟩ {s with d:=A9 s.d}
 let k:=vG ts N (I ts+1) [] c.2
 (.mk c.1 k.1,fH ts {k.2 with d:=inc k.2.d} [125])
def sP(s:Sx):Sx:=if(tk ts s.i).k=1 then(if(FC ts s).d=0 then jW ts (FC ts s) 21 else FC ts s)else s
def fQ(k:Int)(s:Sx):Nb×Sx:=({nb0 with k:=k,nm:=(iq ts (sP ts s) 1).1.t,a:=(iq ts (sP ts s) 1).1.a},(iq ts (sP ts s) 1).2)
def mX:Nat->Int->Sx->Nd×Sx
 | 0,_,s=>(SM,s)
 | f+1,k,s=>
  if 3<=k then(.mk {(fQ ts k s).1 with dft:=(kR ts (fH ts (fQ ts k s).2 [45,62])).1} [],fH ts (kR ts (fH ts (fQ ts k s).2 [45,62])).2 [59])
  else tZ ts (mX f) (fQ ts k s).1 (fH ts (fQ ts k s).2 [123])
def wx(s:Sx):Vr×Sx:=
 let b:=if(tk ts s.i).k=1 then FD ts s else s
 let t:=iq ts b 1
 let a:=fH ts t.2 [61]
 let g:=dc ts a [[45]]
 let q:=iq ts (if g=0 then a else eF a) 3
 (⟨t.1.t,if g=0 then q.1.n else ar U (-q.1.n),t.1.a⟩,fH ts q.2 [59])
def wy:Nat->List Vr->Sx->List Vr×Sx
 | 0,a,s=>(a,s)
 | f+1,a,s=>if dc ts s [yJ]=0 then(a,s)else wy f (a++[(wx ts (eF s)).1]) (wx ts (eF s)).2
def yp:Sx:=⟨0,0,0,16,64,12,200,400⟩
def NM(s:Sx):Sx:=if s.fc=0/\(tk ts s.i).k≠5 then lM ts s else s
def wz:Ch×Sx:=
 let n:=fQ ts 1 (fH ts yp gf)
 let v:=wy ts (I ts+1) [] (fH ts n.2 [123])
 let b:=tZ ts (mX ts 14) n.1 v.2
 (⟨v.1,b.1⟩,NM ts b.2)
end
def eP(l:aH):Ch×Int×Int:=
 if(di l).2.1≠0 then(ch0,(di l).2.1,(di l).2.2)
 else if(wz (di l).1).2.fc≠0 then(ch0,(wz (di l).1).2.fc,(wz (di l).1).2.fa)
 else((wz (di l).1).1,0,0)
def mu(t:List Tk)(s:Sx):Nat:=if s.fc=0 then (I t)-s.i else 0
structure On0 (ts:List Tk) (s s':Sx):Prop where
 lt:s.i<(I ts)->s'.i<I ts
 le:s'.fc=0->s.fc=0/\s.i<=s'.i
structure On (ts:List Tk) (s s':Sx):Prop extends On0 ts s s' where
 d:s'.d=s.d
section
variable {ts:List Tk} {s s' s'':Sx}
def On0.refl ts s:On0 ts s s:=⟨id,λh=>⟨h,aX _⟩⟩
def On.refl ts s:On ts s s:=⟨On0.refl ts s,rfl⟩
def On0.trans(h:On0 ts s s')(k:On0 ts s' s''):On0 ts s s'':=⟨λx=>k.lt (h.lt x),λe=>by
 obtain⟨a,b⟩:=k.le e;obtain⟨c,d⟩:=h.le a;exact⟨c,bD d b⟩⟩
def On.trans(h:On ts s s')(k:On ts s' s''):On ts s s'':=⟨h.toOn0.trans k.toOn0,k.d.trans h.d⟩
def On0.mu(h:On0 ts s s'):mu ts s'<=mu ts s:=by
 unfold Con.mu;by_cases e:s'.fc=0
 ·obtain⟨a,b⟩:=h.le e;rw[aV e,aV a];omega
 rw[aP e];exact be _
def sQ c:On ts s (jW ts s c):=by
 unfold jW;by_cases e:s.fc=0
 ·rw[aV e];exact⟨⟨id,λ_=>⟨e,aX _⟩⟩,rfl⟩
 rw[aP e];exact On.refl _ _
def PQ{c}(h:c≠0):(jW ts s c).fc≠0:=by
 unfold jW;by_cases e:s.fc=0
 ·rw[aV e];exact h
 rw[aP e];exact e
def HX c:(jW ts s c).i=s.i:=by
 unfold jW;split<;>rfl
def ua:(lM ts s).fc≠0:=by
 unfold lM;split<;>exact PQ Z
def ub:On ts s (lM ts s):=by
 unfold lM;split
 ·exact(sQ 3).trans (sQ 4)
 exact sQ 4
def KS l:dc ts s l<=I l:=by
 unfold dc;split
 ·exact be _
 split<;>omega
def eu{l}(h:dc ts s l≠0):s.fc=0/\(tk ts s.i).k≠5:=by
 unfold dc at h;split at h
 ·exact absurd rfl h
 rename_i c;by_cases e:s.fc=0
 ·refine⟨e,λa=>c (.inr ?_)⟩;rw[a];exact⟨Z,Z⟩
 exact absurd (.inl e) c
def oy(E:tU ts)(a:s.fc=0)(hk:(tk ts s.i).k≠5):On ts s (eF s):=⟨⟨λh=>E.next h hk,λ_=>⟨a,kx _⟩⟩,rfl⟩
def jX(E:tU ts) x:On ts s (fH ts s x):=by
 unfold fH;by_cases h:dc ts s [x]=0
 ·rw[aV h];exact ub
 rw[aP h];exact oy E (eu h).1 (eu h).2
def zP(E:tU ts){k}(hk:k≠5):On ts s (iq ts s k).2:=by
 unfold iq;by_cases h:s.fc≠0∨(tk ts s.i).k≠k
 ·rw[aV h];exact ub
 rw[aP h];simp at h;exact oy E h.1 (by rw[h.2];exact hk)
def sR(h:tU ts):On ts s (kR ts s).2:=zP h Z
end
section
variable {ts:List Tk} (hE:tU ts)
include hE
theorem agp{i}{x}{j}(a:i<I ts)(hk:(tk ts i).k≠5)(h:E9 ts i=.ok (x,j)):j<I ts:=by
 unfold E9 at h;split at h
 ·rename_i b;split at h
  ·rename_i c;split at h
   ·rename_i d;have l:=hE.next (hE.next (hE.next (hE.next a hk) (xS b)) (by rw[c];decide)) (xS d);simp at h;omega
   cases h
  cases h
 cases h
theorem aa8{E0 EN}{d i}{x}{j}(E:∀i x j,i<(I ts)->E0 i=.ok (x,j)->j<I ts)(b:∀i x j,i<(I ts)->EN i=.ok (x,j)->j<I ts)(a:i<I ts)(h:qU ts E0 EN d i=.ok (x,j)):j<I ts:=by
 unfold qU at h;split at h
 ·rename_i s;obtain⟨y,c,_⟩:=CJ h;refine b _ _ _ (hE.next a ?_) (tV c).1;rcases cE _ _▸s with s | s<;>exact xS s
 split at h
 ·rename_i s;obtain⟨e,c,d,rfl⟩:=CK (tV h).1;exact hE.next (E _ _ _ (hE.next a (xS s)) c) (xS d)
 split at h
 ·rename_i hk;simp at h;have:=hE.next a (by rw[hk];decide);omega
 split at h
 ·rename_i hk;simp at h;have:=hE.next a (by rw[hk];decide);omega
 split at h
 ·rename_i hk;exact agp hE a (by rw[hk.1];decide) h
 cases h
theorem KT{E}{k}(h:∀i x j,i<(I ts)->E i=.ok (x,j)->j<I ts):∀g x j {b:Ex} {a:Nat},j<(I ts)->jV ts E k g x j=.ok (b,a)->a<I ts
 | 0,x,j,b,a,d,c=>by
  simp[jV,gp,io]at c;omega
 | g+1,x,j,b,a,d,c=>by
  rw[jV]at c;split at c
  ·simp at c;omega
  rename_i o;obtain⟨y,m,e,f⟩:=zM c;exact KT h g _ _ (h _ _ _ (hE.next d (ra _ _ o)) e) f
theorem wA:∀f k d i {x:Ex} {j:Nat},i<(I ts)->dE ts f k d i=.ok (x,j)->j<I ts
 | 0,_,_,_,_,_,_,h=>aal
 | f+1,k,d,i,x,j,a,h=>by
  rw[dE]at h;split at h
  ·exact aa8 hE (λi x j a h=>wA f _ _ i a h) (λi x j a h=>wA f _ _ i a h) a h
  obtain⟨y,m,b,c⟩:=zM h;exact KT hE (λi x j a h=>wA f _ _ i a h) _ _ _ (wA f _ _ _ a b) c
theorem SN{i:Nat}(h:(cO ts i).2.2.1=0):∃j:Nat,(cO ts i).2.1=j/\i<j/\j<I ts:=by
 unfold cO at h⊢;split at h
 ·rename_i c;rw[aV c];have b:i<I ts:=by have:=c.2.1;omega
  rw[aW]at h⊢;unfold tu at h⊢;cases a:dE ts _ 0 0 i with
  | error e=>
   rw[a]at h;exact absurd h (pz _ _ _ _ a)
  | ok q=>
   obtain⟨x,j⟩:=q;exact⟨j,rfl,mq _ _ _ _ a,wA hE _ _ _ _ b a⟩
 cases h
theorem sU{s s'}(h:s.fc=0)(i:s.i<I ts)(hk:(tk ts s.i).k≠5)(a:On0 ts (eF s) s'):mu ts s'<mu ts s:=by
 have c:=a.mu;have e:mu ts s=(I ts)-s.i:=by unfold mu;rw[aV h]
 have b:mu ts (eF s)=(I ts)-(s.i+1):=by unfold mu eF;rw[aV h]
 omega
set_option linter.unusedSectionVars false in
theorem Ba {s s':Sx} (h0:s.fc=0) (hi:s.i<ts.length) (h:s'.fc≠0):mu ts s'<mu ts s:=by
 unfold mu;rw[aP h,aV h0];omega
theorem PR s:On ts s (rB ts s).2:=by
 unfold rB;by_cases h:s.fc≠0
 ·rw[aV h];exact On.refl _ _
 rw[aP h];by_cases h1:(cO ts s.i).2.2.1≠0
 ·rw[aV h1];exact⟨⟨id,λa=>absurd a h1⟩,rfl⟩
 rw[aP h1];obtain⟨j,e,l,b⟩:=SN hE (i:=s.i) acJ;rw[e,aW];exact⟨⟨λ_=>b,λa=>⟨a,Nat.le_of_lt l⟩⟩,rfl⟩
omit hE in
theorem HY (s:Sx):On ts s (wv ts s):=by
 unfold wv;split
 ·have h:=sQ (ts:=ts) (s:=s) 2;exact⟨⟨h.lt,h.le⟩,h.d⟩
 exact⟨⟨id,λh=>⟨h,aX _⟩⟩,rfl⟩
omit hE in
theorem HZ (s:Sx):On ts s (u6 ts s):=by
 unfold u6;split
 ·have h:=sQ (ts:=ts) (s:=s) 2;exact⟨⟨h.lt,h.le⟩,h.d⟩
 exact⟨⟨id,λh=>⟨h,aX _⟩⟩,rfl⟩
omit hE in
theorem H0 (s:Sx):On ts s (FC ts s):=by
 unfold FC;split
 ·have h:=sQ (ts:=ts) (s:=s) 2;exact⟨⟨h.lt,h.le⟩,h.d⟩
 exact⟨⟨id,λh=>⟨h,aX _⟩⟩,rfl⟩
omit hE in
theorem aa9 (s:Sx):On ts s (FD ts s):=by
 unfold FD;split
 ·have h:=sQ (ts:=ts) (s:=s) 2;exact⟨⟨h.lt,h.le⟩,h.d⟩
 exact⟨⟨id,λh=>⟨h,aX _⟩⟩,rfl⟩
omit hE in
theorem H2 (s:Sx):(wv ts s).i=s.i:=by
 unfold wv;split
 ·exact HX 2
 rfl
omit hE in
theorem H3 (s:Sx):(u6 ts s).i=s.i:=by
 unfold u6;split
 ·exact HX 2
 rfl
theorem PS s k n a:On ts s (NL ts s k n a).2:=by
 unfold NL;split
 ·exact jX hE _
 exact((jX hE _).trans (PR hE _)).trans (jX hE _)
theorem Wc s u (a:On ts s u) (i:u.i=s.i) (h:u.fc=0) (hk:(tk ts s.i).k≠5):On ts s (eF u):=a.trans (oy hE h (by rw[i];exact hk))
theorem agq s:On ts s (tX ts s).2:=by
 unfold tX;split
 ·exact ub
 rename_i h;split
 ·exact HY s
 rename_i h0;exact(Wc hE s _ (HY s) (H2 s) agH (eu h).2).trans ((sR hE).trans (PS hE _ _ _ _))
theorem agr{s}(a:s.fc=0)(h:s.i<I ts):mu ts (tX ts s).2<mu ts s:=by
 unfold tX;split
 ·exact Ba hE a h ua
 rename_i b;split
 ·rename_i h1;exact Ba hE a h h1
 rename_i h1;have e:=H2 (ts:=ts) s;exact cV (sU hE acJ (by rw[e];exact h) (by rw[e];exact(eu b).2) ((sR hE).trans (PS hE _ _ _ _)).toOn0) (HY (ts:=ts) s).mu
theorem PT:∀f a s,On ts s (qk ts f a s).2
 | 0,_,s=>On.refl _ _
 | f+1,a,s=>by
  rw[qk];split
  ·exact On.refl _ _
  split
  ·rename_i h;exact oy hE (eu h).1 (eu h).2
  exact(agq hE s).trans (PT f _ _)
theorem wB s:On ts s (lN ts s).2:=(jX hE _).trans (PT hE _ _ _)
theorem PU:∀f x a s,On ts s (tY ts f x a s).2
 | 0,_,_,s=>On.refl _ _
 | f+1,x,a,s=>by
  rw[tY];split
  ·exact On.refl _ _
  rename_i h;exact((oy hE (eu h).1 (eu h).2).trans (sR hE)).trans (PU f _ _ _)
theorem KU m s:On ts s (D1 ts m s).2:=(PU hE _ _ _ _).trans (jX hE _)
theorem KV m s:On ts s (BQ ts m s).2:=by
 unfold BQ;split
 ·exact KU hE _ _
 exact(wB hE _).trans (KU hE _ _)
theorem D2 m s:On ts s (rC ts m s).2:=by
 unfold rC;split
 ·exact KV hE _ _
 rename_i h;exact(((oy hE (eu h).1 (eu h).2).trans (PR hE _)).trans (jX hE _)).trans (KV hE _ _)
theorem KW(k:Int)(s u:Sx) m:On ts u (if k=1 then rC ts {m with ev:=(kR ts u).1} (kR ts u).2 else if k=3 then rC ts {m with wt:=(iq ts u 3).1.n} (iq ts u 3).2 else rC ts m u).2:=by
 split
 ·exact(sR hE).trans (D2 hE _ _)
 split
 ·exact(zP hE Z).trans (D2 hE _ _)
 exact D2 hE _ _
theorem aba k s (hk:(tk ts s.i).k≠5):On ts s (qJ ts k s).2:=by
 unfold qJ;split
 ·exact HZ s
 rename_i h1;exact(Wc hE s _ (HZ s) (H3 s) acJ hk).trans (KW hE k s _ _)
theorem abb k {s} (a:s.fc=0) (h:s.i<I ts) (hk:(tk ts s.i).k≠5):mu ts (qJ ts k s).2<mu ts s:=by
 unfold qJ;split
 ·rename_i h1;exact Ba hE a h h1
 rename_i h1;have e:=H3 (ts:=ts) s;exact cV (sU hE acJ (by rw[e];exact h) (by rw[e];exact hk) (KW hE k s _ _).toOn0) (HZ (ts:=ts) s).mu
theorem Gp n h s:On ts s (eJ ts n h s).2.2.2:=by
 unfold eJ;split
 ·rename_i hw;exact aba hE _ s (eu hw).2
 split
 ·exact On.refl _ _
 ·rename_i hw;have hw:dc ts s [fT,jk,jl]≠0:=afr
  split
  ·exact ub
  exact((oy hE (eu hw).1 (eu hw).2).trans (sR hE)).trans (jX hE _)
 ·rename_i hw;have hw:dc ts s [fT,jk,jl]≠0:=afr
  split
  ·exact ub
  exact(oy hE (eu hw).1 (eu hw).2).trans (wB hE _)
 rename_i h a b;have hw:=h;split
 ·exact ub
 exact(oy hE (eu hw).1 (eu hw).2).trans (wB hE _)
theorem SO n h {s} (a:s.fc=0) (i:s.i<I ts) (t:(eJ ts n h s).1=aE):mu ts (eJ ts n h s).2.2.2<mu ts s:=by
 unfold eJ at t⊢;split
 ·rename_i hw;exact abb hE _ a i (eu hw).2
 rename_i h;rw[aP h]at t;split
 ·rename_i hw;rw[hw]at t;cases t
 ·rename_i hw;have hw:dc ts s [fT,jk,jl]≠0:=afr
  split
  ·exact Ba hE a i ua
  exact sU hE a i (eu hw).2 ((sR hE).trans (jX hE _)).toOn0
 ·rename_i hw;have hw:dc ts s [fT,jk,jl]≠0:=afr
  split
  ·exact Ba hE a i ua
  exact sU hE a i (eu hw).2 (wB hE _).toOn0
 rename_i b _ _;split
 ·exact Ba hE a i ua
 exact sU hE a i (eu b).2 (wB hE _).toOn0
theorem yK:∀f n h s,On ts s (iw ts f n h s).2
 | 0,_,_,s=>On.refl _ _
 | f+1,n,h,s=>by
  rw[iw];split
  ·exact On.refl _ _
  split
  ·exact(Gp hE n h s).trans (yK f _ _ _)
  exact Gp hE n h s
theorem PV{N} d (h:∀k s,s.d=d->s.fc=0->On ts s (N k s).2):∀f a s,s.d=d->On ts s (vG ts N f a s).2
 | 0,_,s,_=>On.refl _ _
 | f+1,a,s,hd=>by
  rw[vG];split
  ·exact On.refl _ _
  rename_i b;have c:=(oy hE (eu b).1 (eu b).2).trans (h (dc ts s rD) _ hd (eu b).1);exact c.trans (PV d h f _ _ (c.d.trans hd))
theorem abc{N}{n}{s}(hd:tn s.d)(j:∀k u,u.d=A9 s.d->u.fc=0->On ts u (N k u).2):On ts s (tZ ts N n s).2:=by
 have g:=yK hE (I ts+1) n ⟨aL,aL,aL⟩ {s with d:=A9 s.d};have h:=g.trans (PV hE _ j (I ts+1) [] _ g.d);have f:=jX hE [125] (s:={(vG ts N (I ts+1) [] (iw ts (I ts+1) n ⟨aL,aL,aL⟩ {s with d:=A9 s.d}).2).2 with d:=inc (vG ts N (I ts+1) [] (iw ts (I ts+1) n ⟨aL,aL,aL⟩ {s with d:=A9 s.d}).2).2.d});refine⟨⟨λi=>f.lt (h.lt i),λe=>?_⟩,f.d.trans ?_⟩
 ·obtain⟨a,b⟩:=f.le e;obtain⟨c,d⟩:=h.le a;exact⟨c,bD d b⟩
 rw[h.d];unfold inc A9;have:=hd.1;have:=hd.2;simp[IntKind.wrap_i64];omega
omit hE in
theorem abd (s:Sx):On ts s (sP ts s):=by
 unfold sP;split
 ·split
  ·exact(H0 s).trans (sQ _)
  exact H0 s
 exact On.refl _ _
theorem D3 k s:On ts s (fQ ts k s).2:=(abd s).trans (zP hE Z)
omit hE in
theorem abe {k:Int} {s:Sx} (h:(fQ ts k s).2.fc=0):s.d≠0:=λe=>by
 revert h;unfold fQ iq;dsimp only;by_cases h1:(tk ts s.i).k=1
 ·have hf:(sP ts s).fc≠0:=by
   unfold sP;rw[aV h1,aV ((H0 s).d.trans e)];exact PQ Z
  rw[aV (.inl hf)];exact ua
 have e2:sP ts s=s:=by unfold sP;rw[aP h1]
 rw[e2,aV (.inr h1)];exact ua
theorem PW:∀(f:Nat) (k:Int) (s:Sx),tn s.d->On ts s (mX ts f k s).2
 | 0,_,s,_=>On.refl _ _
 | f+1,k,s,hd=>by
  rw[mX];have h:=D3 hE k s;split
  ·exact((h.trans (jX hE _)).trans (sR hE)).trans (jX hE _)
  have a:=h.trans (jX hE [123]);refine a.trans (abc hE (by rw[a.d];exact hd) λk b u _=>PW f k b ?_);rw[u];exact Va _
theorem Wd(s:Sx):On ts s (wx ts s).2:=by
 unfold wx;dsimp only;have h:On ts s (if(tk ts s.i).k=1 then FD ts s else s):=by
  split
  ·exact aa9 s
  exact On.refl _ _
 have a:∀u:Sx,On ts u (if dc ts u [[45]]=0 then u else eF u):=λu=>by
  split
  ·exact On.refl _ _
  rename_i b;exact oy hE (eu b).1 (eu b).2
 exact((((h.trans (zP hE Z)).trans (jX hE _)).trans (a _)).trans (zP hE Z)).trans (jX hE _)
end
def rF:Nat->Rp Ex
 | 0=>λ_ _ _ _=>False
 | d+1=>λw F x c=>∃sl:Sl,c=nR x.k x.n x.s x.op sl x.a/\aA (rF d) 6 w F sl x.dD
def fD:∀d,(rF d).Ok
 | 0=>⟨λh _=>h.elim,λh=>h.elim,λh _=>h.elim,λh=>h.elim⟩
 | d+1=>⟨λ⟨sl,h,a⟩ hk=>⟨sl,h,SliceF.keep (fD d) a Z hk⟩,λ⟨sl,h,a⟩=>⟨sl,h,SliceF.inHeap (fD d) a Z⟩,λ⟨sl,h,a⟩ hk=>⟨sl,h,SliceF.mono (fD d) a hk⟩,λ⟨sl,h,a⟩=>by
  subst h;intro v b;simp only[aZ,bp,ci]at b;rcases b with rfl | rfl | rfl | rfl | rfl | rfl<;>rfl⟩
def D4{d:Type}{r q:Rp d}{size:Nat}{w:av}{F:aJ}{s:Sl}{a:List d}(h:aA r size w F s a)(i:∀x c,x∈a->r w F x c->q w F x c):aA q size w F s a:=
 ⟨h.len,h.cap,h.nil0,h.big,λj x b=>by
  obtain⟨s,c,e,f,g,k,l⟩:=h.at_ j x b;exact⟨s,c,e,f,g,k,i x c (bn b) l⟩⟩
section
variable {w w':av} {F:aJ} {x y:Ex} {cs ds:aI}
def We:∀{d:Nat} {x:Ex} {cs:aI},rF d w F x cs->rF (d+1) w F x cs
 | 0,_,_,h=>h.elim
 | d+1,x,cs,⟨sl,a,b⟩=>⟨sl,a,D4 b λx cs _ h=>We h⟩
def Wf{d e:Nat}(a:d<=e)(h:rF d w F x cs):rF e w F x cs:=by
 induction e with
 | zero=>have:d=0:=J;subst this;exact h
 | succ e i=>
  by_cases b:d=e+1
  ·subst b;exact h
  exact We (i J)
def ix{d:Nat}(h:rF d w F x cs)(a:Q [] w w'):rF d w' F x cs:=(fD d).only h a aag
def RXN.ex{N:aJ}{l i:Nat}(h:RXN w N l i x cs):∃d,rF d w (λk=>l<=k/\k<i) x cs:=by
 induction h with
 | leaf l i k n s op a=>exact⟨1,Sl.nil,rfl,SliceF.nil _ _ _ _⟩
 | one l w g i k n s op a x cs f m t o u p b=>
  obtain⟨d,b⟩:=b;obtain⟨sl,r,_⟩:=f.cells;refine⟨d+1,_,rfl,rfl,aX _,λh=>aal,(by decide:(1:Nat)<=9223372036854775807),λc y j=>?_⟩;have e:c=0:=by
   have:=(bc.1 j).1;simp only[Ex.dD,bB]at this;omega
  subst e;simp only[Ex.dD,cG,bJ]at j;subst j;exact⟨⟨g,0,aaa⟩,cs,rfl,⟨m,o⟩,by rw[r];rfl,by rw[xd];exact p.cells 0 cs λc v q=>by rw[bP];exact q,(fD d).mono b λk hk=>⟨hk.1,J⟩⟩
 | two l D E G g i k n s op a x y cs ds p u q w z A B c C d F H=>
  obtain⟨f,F⟩:=F;obtain⟨m,H⟩:=H;obtain⟨sl,r,_⟩:=p.cells;obtain⟨t,T,_⟩:=q.cells;have e:I cs=6:=by rw[r];rfl
  have o:I ds=6:=by rw[T];rfl
  refine⟨max f m+1,_,rfl,rfl,aX _,λh=>aal,(by decide:(2:Nat)<=9223372036854775807),λb y j=>?_⟩;rcases b with _ | _ | b
  ·simp only[Ex.dD,cG,bJ]at j;subst j;exact⟨⟨g,0,aaa⟩,cs,rfl,⟨abI,c⟩,e,by rw[xd];exact d.cells 0 cs λb v h=>by rw[bP,bX (bc.1 h).1];exact h,(fD _).mono (Wf (Da _ _) F) λk hk=>⟨hk.1,J⟩⟩
  ·simp only[Ex.dD,cY,cG,bJ]at j;subst j;exact⟨⟨g,0,aaa⟩,ds,rfl,⟨abI,c⟩,o,by
    rw[gC];exact d.cells 6 ds λb v h=>by rw[cj J,e,dN];exact h,(fD _).mono (Wf (BL _ _) H) λk hk=>⟨J,J⟩⟩
  simp[Ex.dD]at j
end
def D5(f:Ex->Ex->Bool):List Ex->List Ex->Bool
 | x::s,y::a=>f x y&&D5 f s a
 | _,_=>aE
def D6(t:Bool)(x y:Ex):Bool:=(((((x.k !=y.k)||(x.n !=y.n))||(!decide (x.s=y.s)))||(x.op !=y.op))||(t&&(x.a !=y.a)))||((I x.dD:Int) !=(I y.dD:Int))
def oY(t:Bool):Nat->Ex->Ex->Bool
 | 0,_,_=>aE
 | d+1,x,y=>if D6 t x y then aL else D5 (oY t d) x.dD y.dD
def SP{f:Ex->Ex->Bool}{s a:List Ex}{n:Nat}{x y:Ex}(b:s[n]? =aM x)(c:a[n]? =aM y):D5 f (s.drop n) (a.drop n)=(f x y&&D5 f (s.drop (n+1)) (a.drop (n+1))):=by
 have e:∀{l:List Ex} {z:Ex},l[n]? =aM z->l.drop n=z::l.drop (n+1):=λh=>by
  rw[jh (bc.1 h).1,(bc.1 h).2]
 rw[e b,e c,D5]
def iv(l m:aH):((T l).toList==(T m).toList)=decide (l=m):=ads l m
def Mk(w:av)(F:aJ)(e:TypeId)(size:Nat)(s:Sl):Prop:=s.n=0∨∃g c,s.a=aM ⟨g,0,aaa⟩/\F g/\aF w g e c/\s.n*size<=I c
def li{a:Type}(t:Bool)(r:Rp a)(size:Nat)(e:TypeId)(w:av)(F:aJ)(s:Sl)(x:List a):Prop:=aA r size w F s x/\(t=aE->Mk w F e size s)
section
variable {α:Type} {t:Bool} {r q:Rp α} {size:Nat} {e:TypeId} {w w':av} {F G:aJ} {s:Sl} {xs:List α} {B:Nat}
def Mk.keep(h:Mk w F e size s)(hk:∀k,F k->k<w.heap.size->w'.heap[k]? =w.heap[k]?):Mk w' F e size s:=by
 rcases h with h | ⟨g,c,d,a,b,f⟩
 ·exact .inl h
 exact .inr ⟨g,c,d,a,(hk g a b.lt).trans b,f⟩
def Mk.mono(h:Mk w F e size s)(hk:∀k,F k->k<w.heap.size->G k):Mk w G e size s:=by
 rcases h with h | ⟨g,c,b,d,a,f⟩
 ·exact .inl h
 exact .inr ⟨g,c,b,hk g d a.lt,a,f⟩
def li.keep(a:r.Ok)(h:li t r size e w F s xs)(b:0<size)(hk:∀k,F k->k<w.heap.size->w'.heap[k]? =w.heap[k]?):li t r size e w' F s xs:=⟨h.1.keep a b hk,λx=>(h.2 x).keep hk⟩
def li.inHeap(c:r.Ok)(h:li t r size e w F s xs)(d:0<size):li t r size e w (λk=>F k/\k<w.heap.size) s xs:=⟨h.1.inHeap c d,λx=>(h.2 x).mono λk a b=>⟨a,b⟩⟩
def li.mono(b:r.Ok)(h:li t r size e w F s xs)(hk:∀k,F k->G k):li t r size e w G s xs:=⟨h.1.mono b hk,λx=>(h.2 x).mono λk a _=>hk k a⟩
def li.nil(t:Bool)(r:Rp α)(size:Nat)(e:TypeId)(w:av)(F:aJ):li t r size e w F Sl.nil []:=⟨SliceF.nil _ _ _ _,λ_=>.inl rfl⟩
def li.imp(h:li t r size e w F s xs)(i:∀x c,x∈xs->r w F x c->q w F x c):li t q size e w F s xs:=⟨D4 h.1 i,h.2⟩
def li.off(h:li t r size e w F s xs)(i:∀x c,x∈xs->r w F x c->q w F x c):li aL q size e w F s xs:=⟨D4 h.1 i,λh=>aal⟩
def _root_.Go.Kt.Own.sl(b:r.Ok)(h:Own r size e B w F s xs)(a:∀k,B<=k->F k):li aE r size e w F s xs:=by
 refine⟨(h.slice b).mono b λk hk=>hk.elim id λx=>a k x.1,λ_=>?_⟩;rcases h with⟨rfl,rfl⟩ | ⟨g,c,tail,d,f,i,m,j,n,o,l⟩
 ·exact .inl rfl
 exact .inr ⟨g,_,d,a g f,i,by rw[aQ,qB.Mo l,<-j];omega⟩
end
def NN(t:Bool):Nat->Rp Ex
 | 0=>λ_ _ _ _=>False
 | d+1=>λw F x c=>∃sl:Sl,c=nR x.k x.n x.s x.op sl x.a/\li t (NN t d) 6 68 w F sl x.dD
def mw(t:Bool):∀d,(NN t d).Ok
 | 0=>⟨λh _=>h.elim,λh=>h.elim,λh _=>h.elim,λh=>h.elim⟩
 | d+1=>⟨λ⟨sl,h,a⟩ hk=>⟨sl,h,li.keep (mw t d) a Z hk⟩,λ⟨sl,h,a⟩=>⟨sl,h,li.inHeap (mw t d) a Z⟩,λ⟨sl,h,a⟩ hk=>⟨sl,h,li.mono (mw t d) a hk⟩,λ⟨sl,h,a⟩=>by
  subst h;intro v b;simp only[aZ,bp,ci]at b;rcases b with rfl | rfl | rfl | rfl | rfl | rfl<;>rfl⟩
def Wg{t:Bool}{w:av}{F:aJ}:∀{d:Nat} {x:Ex} {c:aI},NN t d w F x c->NN t (d+1) w F x c
 | 0,_,_,h=>h.elim
 | d+1,x,c,⟨sl,a,b⟩=>⟨sl,a,b.imp λx c _ h=>Wg h⟩
def NP{t:Bool}{w:av}{F:aJ}{d e:Nat}{x:Ex}{c:aI}(a:d<=e)(h:NN t d w F x c):NN t e w F x c:=by
 induction e with
 | zero=>have:d=0:=J;subst this;exact h
 | succ e i=>
  by_cases b:d=e+1
  ·subst b;exact h
  exact Wg (i J)
def yL{t:Bool}{w:av}{F:aJ}:∀{d:Nat} {x:Ex} {c:aI},NN t d w F x c->rF d w F x c
 | 0,_,_,h=>h.elim
 | d+1,x,c,⟨sl,a,b⟩=>⟨sl,a,D4 b.1 λx c _ h=>yL h⟩
def NQ{w:av}{F:aJ}:∀{d:Nat} {x:Ex} {c:aI},rF d w F x c->NN aL d w F x c
 | 0,_,_,h=>h.elim
 | d+1,x,c,⟨sl,a,b⟩=>⟨sl,a,D4 b λx c _ h=>NQ h,λh=>aal⟩
def RXN.xg{w:av}{x:Ex}{c:aI}{N:aJ}{l i:Nat}(h:RXN w N l i x c):∃d,NN aE d w (λk=>l<=k/\k<i) x c:=by
 induction h with
 | leaf l i k n s op a=>exact⟨1,Sl.nil,rfl,li.nil _ _ _ _ _ _⟩
 | one l A g i k n s op a x c r e u f z m b=>
  obtain⟨d,b⟩:=b;obtain⟨sl,o,_⟩:=r.cells;refine⟨d+1,_,rfl,⟨rfl,aX _,λh=>aal,(by decide:(1:Nat)<=9223372036854775807),λp y j=>?_⟩,λ_=>.inr ⟨g,c,rfl,⟨e,f⟩,m,by rw[o];exact aX _⟩⟩;have q:p=0:=by
   have:=(bc.1 j).1;simp only[Ex.dD,bB]at this;omega
  subst q;simp only[Ex.dD,cG,bJ]at j;subst j;exact⟨⟨g,0,aaa⟩,c,rfl,⟨e,f⟩,by rw[o];rfl,by rw[xd];exact m.cells 0 c λp v t=>by rw[bP];exact t,(mw aE d).mono b λk hk=>⟨hk.1,J⟩⟩
 | two l K L M g i k n s op a x y c d r A t B C D E f G m F H=>
  obtain⟨p,F⟩:=F;obtain⟨q,H⟩:=H;obtain⟨sl,u,_⟩:=r.cells;obtain⟨z,T,_⟩:=t.cells;have e:I c=6:=by rw[u];rfl
  have o:I d=6:=by rw[T];rfl
  refine⟨max p q+1,_,rfl,⟨rfl,aX _,λh=>aal,(by decide:(2:Nat)<=9223372036854775807),λb y j=>?_⟩,λ_=>.inr ⟨g,c++d,rfl,⟨J,f⟩,m,by rw[aQ,e,o];exact aX _⟩⟩;rcases b with _ | _ | b
  ·simp only[Ex.dD,cG,bJ]at j;subst j;exact⟨⟨g,0,aaa⟩,c,rfl,⟨abI,f⟩,e,by rw[xd];exact m.cells 0 c λb v h=>by rw[bP,bX (bc.1 h).1];exact h,(mw aE _).mono (NP (Da _ _) F) λk hk=>⟨hk.1,J⟩⟩
  ·simp only[Ex.dD,cY,cG,bJ]at j;subst j;exact⟨⟨g,0,aaa⟩,d,rfl,⟨abI,f⟩,o,by
    rw[gC];exact m.cells 6 d λb v h=>by rw[cj J,e,dN];exact h,(mw aE _).mono (NP (BL _ _) H) λk hk=>⟨J,J⟩⟩
  simp[Ex.dD]at j
def rE(t:Bool):Rp Ex:=λw F x c=>∃d,NN t d w F x c
def jf(t:Bool):(rE t).Ok:=⟨λ⟨d,h⟩ hk=>⟨d,(mw t d).keep h hk⟩,λ⟨d,h⟩=>⟨d,(mw t d).inHeap h⟩,λ⟨d,h⟩ hk=>⟨d,(mw t d).mono h hk⟩,λ⟨d,h⟩=>(mw t d).one h⟩
def eU{t:Bool}{w:av}{F:aJ}{x:Ex}{c:aI}(h:rE t w F x c):∃sl,c=nR x.k x.n x.s x.op sl x.a:=by
 obtain⟨d,h⟩:=h;cases d with
 | zero=>exact h.elim
 | succ d=>obtain⟨sl,h,_⟩:=h;exact⟨sl,h⟩
def Wh{t:Bool}{w:av}{F:aJ}{x:Ex}{c:aI}(h:rE t w F x c):rE aL w F x c:=by
 obtain⟨d,h⟩:=h;exact⟨d,NQ (yL h)⟩
def rE0(t:Bool)(w:av)(F:aJ):rE t w F yI (nR 0 0 [] 0 Sl.nil 0):=⟨1,Sl.nil,rfl,li.nil _ _ _ _ _ _⟩
def acv(k:Int)(n:aH)(x:aI)(a:Int):aI:=O U k::X (T n)::(x++[O U a])
def qy(t:Bool):Rp Ac:=λw F x s=>∃c,s=acv x.k x.n c x.a/\rE t w F x.x c
def cT(t:Bool):(qy t).Ok:=⟨λ⟨c,h,a⟩ hk=>⟨c,h,(jf t).keep a hk⟩,λ⟨c,h,a⟩=>⟨c,h,(jf t).inHeap a⟩,λ⟨c,h,a⟩ hk=>⟨c,h,(jf t).mono a hk⟩,λ⟨c,h,a⟩=>by
 subst h;intro v b;simp only[acv,aZ,ch,bp,ci]at b;rcases b with rfl | rfl | d | rfl
 ·rfl
 ·rfl
 ·exact(jf t).one a v d
 rfl⟩
def mvv(k:Int)(ev:aH)(wt:Int)(d:Bool)(g:aI)(r t:Sl)(a:Int):aI:=O U k::X (T ev)::O U wt::aj d::(g++[r.v,t.v,O U a])
def D7(t:Bool):Rp Mv:=λw F x c=>∃g r a,c=mvv x.k x.ev x.wt x.gd g r a x.a/\rE t w F x.g g/\li t (qy t) 9 161 w F r x.acts/\li t mh 1 9 w F a x.tg
def iJ(t:Bool):(D7 t).Ok:=⟨λ⟨c,r,g,h,a,b,d⟩ hk=>⟨c,r,g,h,(jf t).keep a hk,b.keep (cT t) Z hk,d.keep du Z hk⟩,
 λ⟨c,r,g,h,a,b,d⟩=>⟨c,r,g,h,(jf t).inHeap a,b.inHeap (cT t) Z,d.inHeap du Z⟩,
 λ⟨c,r,g,h,a,b,d⟩ hk=>⟨c,r,g,h,(jf t).mono a hk,b.mono (cT t) hk,d.mono du hk⟩,
 λ⟨c,r,g,h,a,b,d⟩=>by
  subst h;intro v c;simp only[mvv,aZ,ch,bp,ci]at c;rcases c with rfl | rfl | rfl | rfl | e | rfl | rfl | rfl
  ·rfl
  ·rfl
  ·rfl
  ·rfl
  ·exact(jf t).one a v e
  ·rfl
  ·rfl
  rfl⟩
def AP:Rp Vr:=λ_ _ x c=>c=[X (T x.n),O U x.v,O U x.a]
def dY:AP.Ok:=⟨λh _=>h,λh=>h,λh _=>h,λh=>by
 unfold AP at h;subst h;intro v a;simp only[aZ,bp,ci]at a;rcases a with rfl | rfl | rfl<;>rfl⟩
abbrev ob(k:Int)(n ini dft:aH)(e l mv kids:Sl)(a:Int):aI:=[O U k,X (T n),X (T ini),X (T dft),e.v,l.v,mv.v,kids.v,O U a]
def H4(t:Bool)(w:av)(F:aJ)(x:Nb)(e l mv:Sl):Prop:=li t (qy t) 9 161 w F e x.en/\li t (qy t) 9 161 w F l x.lv/\li t (D7 t) 13 83 w F mv x.mv
def lO(t:Bool):Nat->Rp Nd
 | 0=>λ_ _ _ _=>False
 | d+1=>λw F x c=>∃e l mv kids:Sl,c=ob x.b.k x.b.nm x.b.ini x.b.dft e l mv kids x.b.a/\H4 t w F x.b e l mv/\li t (lO t d) 9 27 w F kids x.kids
section
variable {t:Bool} {w w':av} {F G:aJ} {x:Nb} {en lv mv:Sl}
def H4.keep(h:H4 t w F x en lv mv)(hk:∀k,F k->k<w.heap.size->w'.heap[k]? =w.heap[k]?):H4 t w' F x en lv mv:=⟨h.1.keep (cT t) Z hk,h.2.1.keep (cT t) Z hk,h.2.2.keep (iJ t) Z hk⟩
def H4.inHeap(h:H4 t w F x en lv mv):H4 t w (λk=>F k/\k<w.heap.size) x en lv mv:=⟨h.1.inHeap (cT t) Z,h.2.1.inHeap (cT t) Z,h.2.2.inHeap (iJ t) Z⟩
def H4.mono(h:H4 t w F x en lv mv)(hk:∀k,F k->G k):H4 t w G x en lv mv:=⟨h.1.mono (cT t) hk,h.2.1.mono (cT t) hk,h.2.2.mono (iJ t) hk⟩
end
def cf(t:Bool):∀d,(lO t d).Ok
 | 0=>⟨λh _=>h.elim,λh=>h.elim,λh _=>h.elim,λh=>h.elim⟩
 | d+1=>⟨λ⟨e,l,mv,kids,h,a,b⟩ hk=>⟨e,l,mv,kids,h,a.keep hk,li.keep (cf t d) b Z hk⟩,
  λ⟨e,l,mv,kids,h,a,b⟩=>⟨e,l,mv,kids,h,a.inHeap,li.inHeap (cf t d) b Z⟩,
  λ⟨e,l,mv,kids,h,a,b⟩ hk=>⟨e,l,mv,kids,h,a.mono hk,li.mono (cf t d) b hk⟩,λ⟨e,l,mv,kids,h,a,b⟩=>by
  subst h;intro v c;simp only[aZ,bp,ci]at c;rcases c with rfl | rfl | rfl | rfl | rfl | rfl | rfl | rfl | rfl<;>rfl⟩
def Wi{t:Bool}{w:av}{F:aJ}:∀{d:Nat} {x:Nd} {c:aI},lO t d w F x c->lO t (d+1) w F x c
 | 0,_,_,h=>h.elim
 | d+1,x,c,⟨e,l,mv,kids,a,b,f⟩=>⟨e,l,mv,kids,a,b,f.imp λx c _ h=>Wi h⟩
def ags{t:Bool}{w:av}{F:aJ}{d e:Nat}{x:Nd}{c:aI}(a:d<=e)(h:lO t d w F x c):lO t e w F x c:=by
 induction e with
 | zero=>have:d=0:=J;subst this;exact h
 | succ e i=>
  by_cases b:d=e+1
  ·subst b;exact h
  exact Wi (i J)
def H5{t:Bool}{w:av}{F:aJ}{x:Ac}{s:aI}(h:qy t w F x s):qy aL w F x s:=by
 obtain⟨c,a,b⟩:=h;exact⟨c,a,Wh b⟩
def abf{t:Bool}{w:av}{F:aJ}{x:Mv}{s:aI}(h:D7 t w F x s):D7 aL w F x s:=by
 obtain⟨c,r,g,a,b,d,e⟩:=h;exact⟨c,r,g,a,Wh b,d.off λ_ _ _ h=>H5 h,e.off λ_ _ _ h=>h⟩
def H4.off{t:Bool}{w:av}{F:aJ}{x:Nb}{e l mv:Sl}(h:H4 t w F x e l mv):H4 aL w F x e l mv:=⟨h.1.off λ_ _ _ h=>H5 h,h.2.1.off λ_ _ _ h=>H5 h,h.2.2.off λ_ _ _ h=>abf h⟩
def PX{t:Bool}{w:av}{F:aJ}:∀{d:Nat} {x:Nd} {c:aI},lO t d w F x c->lO aL d w F x c
 | 0,_,_,h=>h.elim
 | d+1,x,c,⟨e,l,mv,kids,a,b,f⟩=>⟨e,l,mv,kids,a,b.off,f.off λx c _ h=>PX h⟩
structure ChR (t:Bool) (d:Nat) (w:av) (F:aJ) (c:Ch) (vs:Sl) (cs:aI):Prop where
 vars:li t AP 3 76 w F vs c.vars
 root:lO t d w F c.root cs
abbrev Fr(B:Nat):aJ:=λk=>B<=k
section
variable {α:Type} {r:Rp α} {size:Nat} {e:TypeId} {w w':av} {s:Sl} {xs:List α} {B:Nat}
def _root_.Go.Kt.Own.stay(a:r.Ok)(h:Own r size e B w (Fr B) s xs){c:List Nat}(d:Q c w w')(f:∀x,x∈c->x<B∨w.heap.size<=x):Own r size e B w' (Fr B) s xs:=by
 refine((h.inHeap a).keep a λk hk b=>d.block k b λm=>?_).mono a λk hk=>hk.1;have j:B<=k/\k<w.heap.size:=by
  rcases hk with hk | hk
  ·exact hk
  exact⟨hk.1,b⟩
 rcases f k m with h | h<;>omega
def _root_.Go.Kt.Own.new(h:Own r size e B w (Fr B) s xs){k:Nat}(hk:w.heap.size<=k):s.a≠aM ⟨k,0,aaa⟩:=λe=>by
 have:=(h.blk e).2;dsimp only at this;omega
end
def NR(t:Bool):∀(d:Nat) {e:Nat} {w:av} {F G:aJ} {x y:Ex} {c g:aI},rF d w F x c->rF e w G y g->
  az aq 99 #[ah c.toArray,ah g.toArray,aj t] w λr b=>r=ak (aj (oY t d x y))/\Q [] w b
 | 0,_,_,_,_,_,_,_,_,h,_=>h.elim
 | d+1,0,_,_,_,_,_,_,_,_,h=>h.elim
 | d+1,e+1,w,F,G,x,y,c,g,⟨sl,B,j⟩,⟨sl',C,o⟩=>by
  subst B C;refine ret (ate _ _ _ _ _ _ _ _ _ _ _ _ _ ?_);intro V W K P M Y S q;have E:=j.len;have H:=o.len;have L:=j.cap;have A:=j.big;have h:((((((x.k !=y.k)||(x.n !=y.n))||(!((T x.s).toList==(T y.s).toList)))||(x.op !=y.op))||(t&&(x.a !=y.a)))||((sl.n:Int) !=(sl'.n:Int)))=D6 t x y:=by
   rw[iv,E,H];rfl
  rw[h];refine⟨λi=>⟨by rw[oY,aV i],q⟩,λi=>?_⟩;have N:I x.dD=I y.dD:=by
   unfold D6 at i;rw[fy]at i;have:=i.2;simp only[bne_eq_false_iff_eq]at this;omega
  rw[oY,aP (by rw[i];decide)];refine⟨λz u b=>∃n:Nat,n<=I x.dD/\u=(n:Int)/\z=(I x.dD)-n/\D5 (oY t d) x.dD y.dD=D5 (oY t d) (x.dD.drop n) (y.dD.drop n)/\Q [] w b/\K.heap.size<=b.heap.size,I x.dD,⟨0,be _,rfl,rfl,rfl,q,aX _⟩,?_⟩;rintro z _ w1 ⟨n,R,rfl,rfl,m,D,z1⟩;refine⟨λl=>?_,λv=>?_⟩
  ·have l:(n:Int)<(sl.n:Int):=aO l;obtain⟨p,x1,aC,g1,g2,g3,g4,g5,g6⟩:=(SliceF.only (fD d) Z j D aag).get (ba n) l;obtain⟨p',y1,aS,m1,m2,m3,m4,m5,m6⟩:=(SliceF.only (fD e) Z o D aag).get (i:=(n:Int)) (ba n) J;rw[aW]at g2 m2;refine⟨p,g1,λw2 T=>?_⟩;have am:=D.cd T;have E4:=ix g6 T;have aT:=ix m6 T;have tc:∃(k n:Int) (s:aH) (bv:Int) (y:Sl) (a:Int),aC=nR k n s bv y a:=by
    cases d with
    | zero=>exact g6.elim
    | succ d=>obtain⟨y,a,_⟩:=g6;exact⟨_,_,_,_,y,_,a⟩
   have td:∃(k n:Int) (s:aH) (bv:Int) (y:Sl) (a:Int),aS=nR k n s bv y a:=by
    cases e with
    | zero=>exact m6.elim
    | succ e=>obtain⟨y,a,_⟩:=m6;exact⟨_,_,_,_,y,_,a⟩
   obtain⟨a1,a2,a3,a4,a5,a6,rfl⟩:=tc;obtain⟨A,b2,b3,b4,b5,b6,rfl⟩:=td;have bV:=g5.keep (T.block _ g5.lt aag);have bY:=m5.keep (T.block _ m5.lt aag);refine⟨_,_,_,_,_,_,bV,p',m1,_,_,_,_,_,_,bY,(NR t d E4 aT).mono ?_⟩;rintro _ w3 ⟨rfl,p⟩;have z2:=T.size;have z3:=p.size;have kY:=SP (f:=oY t d) g2 m2;refine⟨_,rfl,p.same (by
    simp;omega),λhb=>⟨?_,am.cd p⟩,λhb=>⟨(I x.dD)-(n+1),J,n+1,J,aaf,rfl,?_,am.cd p,J⟩⟩
   ·rw[m,kY];have hb:oY t d x1 y1=aL:=abS
    rw[hb,db]
   have hb:oY t d x1 y1=aE:=abS
   rw[m,kY,hb,cr]
  have v:¬(n:Int)<(sl.n:Int):=aU v;have:n=I x.dD:=J
  subst this;rw[m,dV (aX _)];exact⟨rfl,D⟩
def mQ{d:Nat}{w:av}{F:aJ}{x:Ex}{c:aI}(h:rF d w F x c):∃sl:Sl,c=nR x.k x.n x.s x.op sl x.a:=by
 cases d with
 | zero=>exact h.elim
 | succ d=>obtain⟨l,i,_⟩:=h;exact⟨l,i⟩
def yq:Nat->Ex->Prop
 | 0,_=>True
 | d+1,x=>I x.s<4611686018427387903/\∀y,y∈x.dD->yq d y
def qV(f:Ex->Nat):List Ex->Nat
 | []=>0
 | x::s=>f x+qV f s
def oz:Nat->Ex->Nat
 | 0,_=>0
 | d+1,x=>1+qV (oz d) x.dD
def my:Nat->Ex->Prop
 | 0,_=>True
 | d+1,x=>tn x.n/\∀y,y∈x.dD->my d y
def PY{d:Nat}:∀{xs:List Ex},I xs<=qV (oz (d+1)) xs
 | []=>aX _
 | x::xs=>by
  rw[qV,aY];have:=PY (d:=d) (xs:=xs);rw[oz];omega
def Wj{d:Nat}:∀{s:List Ex} {x:Ex},x∈s->oz d x<=qV (oz d) s
 | [],_,h=>acr
 | y::s,x,h=>by
  rw[qV];rcases aZ.1 h with rfl | h
  ·omega
  have:=Wj (d:=d) h;omega
def SQ(t:Bool)(x:Ex):D6 t x x=aL:=by simp[D6]
def Gq(t:Bool):∀(d:Nat) (x:Ex),oY t d x x=aE
 | 0,_=>rfl
 | d+1,x=>by
  rw[oY,aP (by rw[SQ];decide)];have:∀l:List Ex,D5 (oY t d) l l=aE:=λl=>by
   induction l with
   | nil=>rfl
   | cons y l i=>rw[D5,Gq t d y,i];rfl
  exact this _
def abg{w:av}{F G:aJ}{s t:Sl}{l m:List (aH)}(h:aA mh 1 w F s l)(k:aA mh 1 w G t m):
  az aq 100 #[s.v,t.v] w λe a=>e=ak (aj (decide (l=m)))/\Q [] w a:=by
 refine ret (alX _ _ ?_);have b:=h.len;have d:=h.cap;have f:=h.big;have c:=k.len;refine⟨λhc=>?_,λhc=>?_⟩
 ·have hc:¬(s.n:Int)=(t.n:Int):=aaj
  rw[bA (λe=>hc (by rw[b,c,e]))];exact⟨rfl,Only.refl _ _⟩
 have hc:(s.n:Int)=(t.n:Int):=aaj
 have u:I l=I m:=J
 refine⟨λv o a=>∃n:Nat,n<=I l/\o=(n:Int)/\v=(I l)-n/\l.take n=m.take n/\Q [] w a,I l,⟨0,be _,rfl,rfl,aag,Only.refl _ _⟩,?_⟩;rintro v _ A ⟨n,z,rfl,rfl,j,g⟩;refine⟨λi=>?_,λr=>?_⟩
 ·have i:(n:Int)<(s.n:Int):=aO i;obtain⟨p,x,Y,K,B,S,T,L,E⟩:=(SliceF.only du Z h g aag).get (ba n) i;obtain⟨q,y,ds,M,C,V,W,N,H⟩:=(SliceF.only du Z k g aag).get (i:=(n:Int)) (ba n) J;rw[aW]at B C;unfold mh at E H;subst E H;refine⟨p,K,_,L,q,M,_,N,?_⟩;dsimp only;rw[iv];refine⟨λD w1 P=>?_,λt w2 R=>⟨(I l)-(n+1),J,n+1,J,aaf,rfl,?_,g.cd R⟩⟩
  ·have D:x≠y:=by simpa using D
   rw[bA (λe=>D (by rw[e,C]at B;exact(Db B).symm))];exact⟨rfl,g.cd P⟩
  have t:x=y:=by simpa using t
  rw[bh,bh,j,B,C,t]
 have r:¬(n:Int)<(s.n:Int):=aU r;rw[bm J,bm J]at j;rw[bF j];exact⟨rfl,g⟩
def kQ{a:Type}(R:a->a->Prop)(s b:List a):Prop:=I s=I b/\∀(i:Nat) (x y:a),s[i]? =aM x->b[i]? =aM y->R x y
def kQ.refl{a:Type}{R:a->a->Prop}{s:List a}(c:∀x,x∈s->R x x):kQ R s s:=⟨rfl,λi x y b h=>by
 rw[b]at h;injection h with h;subst h;exact c x (bn b)⟩
def ZX(t:Bool)(x y:Ex):Prop:=∀d,oY t d x y=aE
structure AcE (t:Bool) (x y:Ac):Prop where
 k:x.k=y.k
 n:x.n=y.n
 e:ZX t x.x y.x
 a:t=aE->x.a=y.a
structure MvE (t:Bool) (x y:Mv):Prop where
 k:x.k=y.k
 ev:x.ev=y.ev
 wt:x.wt=y.wt
 gd:x.gd=y.gd
 g:ZX t x.g y.g
 acts:kQ (AcE t) x.acts y.acts
 tg:x.tg=y.tg
 a:t=aE->x.a=y.a
structure NbE (t:Bool) (x y:Nb):Prop where
 k:x.k=y.k
 nm:x.nm=y.nm
 ini:x.ini=y.ini
 dft:x.dft=y.dft
 en:kQ (AcE t) x.en y.en
 lv:kQ (AcE t) x.lv y.lv
 mv:kQ (MvE t) x.mv y.mv
 a:t=aE->x.a=y.a
def NdE(t:Bool):Nat->Nd->Nd->Prop
 | 0,_,_=>True
 | d+1,x,y=>NbE t x.b y.b/\kQ (NdE t d) x.kids y.kids
structure VrE (t:Bool) (x y:Vr):Prop where
 n:x.n=y.n
 v:x.v=y.v
 a:t=aE->x.a=y.a
structure ChE (t:Bool) (d:Nat) (x y:Ch):Prop where
 vars:kQ (VrE t) x.vars y.vars
 root:NdE t d x.root y.root
def ZX.refl(t:Bool)(x:Ex):ZX t x x:=λd=>Gq t d x
def AcE.refl(t:Bool)(x:Ac):AcE t x x:=⟨rfl,rfl,ZX.refl t _,λ_=>rfl⟩
def MvE.refl(t:Bool)(x:Mv):MvE t x x:=⟨rfl,rfl,rfl,rfl,ZX.refl t _,kQ.refl λy _=>AcE.refl t y,rfl,λ_=>rfl⟩
def NbE.refl(t:Bool)(x:Nb):NbE t x x:=⟨rfl,rfl,rfl,rfl,kQ.refl λy _=>AcE.refl t y,kQ.refl λy _=>AcE.refl t y,kQ.refl λy _=>MvE.refl t y,λ_=>rfl⟩
def NdE.refl(t:Bool):∀(d:Nat) (x:Nd),NdE t d x x
 | 0,_=>trivial
 | d+1,x=>⟨NbE.refl t _,kQ.refl λy _=>NdE.refl t d y⟩
def ChE.refl(t:Bool)(d:Nat)(x:Ch):ChE t d x x:=⟨kQ.refl λy _=>⟨rfl,rfl,λ_=>rfl⟩,NdE.refl t d _⟩
section
variable {w w':av} {F G:aJ} {t:Bool}
def ad0{x:Ex}{c:aI}(h:rE aL w F x c):∃d,rF d w F x c:=by
 obtain⟨d,h⟩:=h;exact⟨d,yL h⟩
def PZ{x y:Ex}{c s:aI}(h:rE aL w F x c)(a:rE aL w G y s)(E:ZX t x y):az aq 99 #[ah c.toArray,ah s.toArray,aj t] w λr w'=>r=ak (aj aE)/\Q [] w w':=by
 obtain⟨d,h⟩:=ad0 h;obtain⟨e,a⟩:=ad0 a;refine(NR t d h a).mono ?_;rintro _ f ⟨rfl,b⟩;rw[E d];exact⟨rfl,b⟩
def Wl{k:Int}{n:aH}{x:aI}{a:Int}{ad:Addr}(b:aB w ad (acv k n x a)):aB w (ad.add 2) x:=b.sub 2 λj v h=>by
 have l:=(bc.1 h).1;rw[jG];show(acv k n x a)[j+2]? =_;unfold acv;rw[cY,cY,bX l];exact h
def P0{k:Int}{n:aH}{c d:Int}{s:aH}{op:Int}{sl:Sl}{b a:Int}{ad:Addr}(h:aB w ad (acv k n (nR c d s op sl b) a)):aB w (ad.add 8) [O U a]:=h.dP 8 _ rfl
def yM{a b:Sl}{s d:List Ac}(h:aA (qy aL) 9 w F a s)(c:aA (qy aL) 9 w G b d)(E:kQ (AcE t) s d):az aq 68 #[a.v,b.v,aj t] w λr w'=>r=ak (aj aE)/\Q [] w w':=by
 refine ret (alG _ _ _ ?_);have l:=h.len;have i:=c.len;have j:=E.1;have f:=h.cap;have g:=h.big;refine⟨λhc=>?_,λhc=>?_⟩
 ·have:¬(a.n:Int)=(b.n:Int):=aaj
  omega
 refine⟨λnv u w'=>∃n:Nat,u=(n:Int)/\n<=I s/\nv=(I s)-n/\Q [] w w',I s,⟨0,rfl,be _,rfl,Only.refl _ _⟩,?_⟩;rintro nv _ w0 ⟨n,rfl,hn,rfl,L⟩;refine⟨λbU=>?_,λma=>⟨rfl,L⟩⟩;have bU:n<a.n:=afm
 obtain⟨p,x,cs,o,C,g3,g4,_,N⟩:=h.get (i:=(n:Int)) J J;obtain⟨q,y,ds,z,G,k3,k4,_,Y⟩:=c.get (i:=(n:Int)) J J;rw[aW]at C G;have b:=E.2 n x y C G;refine⟨p,o,λw1 cD=>?_⟩;have F:=L.cd cD;obtain⟨p',x',BC,q1,A,_,_,M,N⟩:=(SliceF.only (cT aL) Z h F aag).get (i:=(n:Int)) J J;obtain⟨q',y',am,q3,B,_,_,W,Y⟩:=(SliceF.only (cT aL) Z c F aag).get (i:=(n:Int)) J J;rw[aW]at A B;rw[C]at A;rw[G]at B;injection A with A;injection B with B;subst A B;obtain rfl:=o.Cp q1;obtain rfl:=z.Cp q3;obtain⟨xc,rfl,S⟩:=N;obtain⟨yc,rfl,V⟩:=Y;have C5:=S;have D:=V;obtain⟨sx,rfl⟩:=eU S;obtain⟨sy,rfl⟩:=eU V;refine⟨_,_,_,_,sx,_,Wl M,q,z,_,_,_,_,sy,_,Wl W,(PZ C5 D b.e).mono ?_⟩;rintro _ w2 ⟨rfl,K⟩;have kp:∀{ad:Addr} {H:aI} {v:aw} {vt:aI},H=v::vt->aB w1 ad H->aB w2 ad H:=λAH P=>by
  subst AH;exact P.keep (K.block _ P.lt aag)
 have k:=kp rfl M;have m:=kp rfl W;have e:(((((!true)||(x.k !=y.k))||(!((T x.n).toList==(T y.n).toList)))||(t&&(x.a !=y.a))))=aL:=by
  rw[iv,b.k,b.n];cases a:t
  ·simp
  rw[b.a a];simp
 refine⟨aE,rfl,p,λ_=>o,x.k,λ_=>k.dP 0 _ rfl,q,λ_=>z,y.k,λ_=>m.dP 0 _ rfl,p,λ_=>o,_,λ_=>k.dP 1 _ rfl,q,λ_=>z,_,λ_=>m.dP 1 _ rfl,p,λ_ _=>o,_,λ_ _=>P0 k,q,λ_ _=>z,_,λ_ _=>P0 m,λR=>?_,λ_ w4 dI=>⟨(I s)-(n+1),J,n+1,aaf,J,rfl,(F.cd K).cd dI⟩⟩;rw[e]at R;cases R
def NS{x y:Mv}{s f:aI}(q:D7 aL w F x s)(r:D7 aL w G y f)(h:MvE t x y):az aq 69 #[ah s.toArray,ah f.toArray,aj t] w λv w'=>v=ak (aj aE)/\Q [] w w':=by
 obtain⟨C,J,N,rfl,g,n,o⟩:=q;obtain⟨m,j,z,rfl,k,u,k3⟩:=r;have b:=g;have d:=k;obtain⟨K,rfl⟩:=eU g;obtain⟨L,rfl⟩:=eU k;refine ret (alH _ _ _ _ _ _ _ _ _ _ _ _ _ _ _ _ _ _ _ _ _ _ _ _ _ _ _ ?_);intro E k P B A H M c;refine(PZ ((jf aL).only b c aag) ((jf aL).only d c aag) h.g).mono ?_;rintro _ R ⟨rfl,D⟩;have V:=c.size;have W:=D.size;have i:=c.cd D;refine⟨_,rfl,D.same aah,(yM (SliceF.only (cT aL) Z n.1 i aag) (SliceF.only (cT aL) Z u.1 i aag) h.acts).mono ?_⟩;rintro _ S ⟨rfl,a⟩;have Y:=a.size;have l:=i.cd a;refine⟨_,rfl,a.same aah,(abg (SliceF.only du Z o.1 l aag) (SliceF.only du Z k3.1 l aag)).mono ?_⟩;rintro _ T ⟨rfl,e⟩;refine⟨_,rfl,e.same aah,?_,l.cd e⟩;rw[iv,bF h.tg,h.k,h.ev,h.wt,h.gd];cases p:t
 ·simp
 rw[h.a p];simp
def D8:∀(d:Nat) {w:av} {F G:aJ} {x y:Nd} {c s:aI},lO aL d w F x c->lO aL d w G y s->NdE t d x y->az aq 37 #[ah c.toArray,ah s.toArray,aj t] w λr w'=>r=ak (aj aE)/\Q [] w w'
 | 0,_,_,_,_,_,_,_,h,_,_=>h.elim
 | d+1,w,F,G,x,y,c,s,⟨N,W,mv,kids,C,a,b⟩,⟨ri,rj,o,l,B,k,j⟩,h=>by
  subst C B;obtain⟨h,K⟩:=h;refine ret (alv _ _ _ _ _ _ _ _ _ _ _ _ _ _ _ _ _ _ _ ?_);intro V E w0 R P mc S f;have z0:=f.size;have Y:=a.2.2.1.len;have m2:=k.2.2.1.len;have m3:=h.mv.1;have m4:=a.2.2.1.cap;have m5:=a.2.2.1.big;have n1:=b.1.len;have n2:=j.1.len;have n3:=K.1;have n4:=b.1.cap;have n5:=b.1.big;have e:((((((((x.b.k !=y.b.k)||(!((T x.b.nm).toList==(T y.b.nm).toList)))||(!((T x.b.ini).toList==(T y.b.ini).toList)))||(!((T x.b.dft).toList==(T y.b.dft).toList)))||(t&&(x.b.a !=y.b.a)))||((mv.n:Int) !=(o.n:Int)))||((kids.n:Int) !=(l.n:Int))))=aL:=by
   rw[iv,iv,iv,h.k,h.nm,h.ini,h.dft,show mv.n=o.n by omega,show kids.n=l.n by omega];cases d:t
   ·simp
   rw[h.a d];simp
  refine⟨λhh=>(by rw[e]at hh;cases hh),λ_=>(yM (SliceF.only (cT aL) Z a.1.1 f aag) (SliceF.only (cT aL) Z k.1.1 f aag) h.en).mono ?_⟩;rintro _ w1 ⟨rfl,D⟩;have z1:=D.size;have u:=f.cd D;refine⟨_,rfl,D.same aah,(yM (SliceF.only (cT aL) Z a.2.1.1 u aag) (SliceF.only (cT aL) Z k.2.1.1 u aag) h.lv).mono ?_⟩;rintro _ z ⟨rfl,g⟩;have z2:=g.size;have H:=u.cd g;refine⟨_,rfl,g.same aah,λhh=>ahy,λ_=>?_⟩;refine⟨λv i w'=>∃n:Nat,i=(n:Int)/\n<=mv.n/\v=mv.n-n/\Q [] w w'/\z.heap.size<=w'.heap.size,mv.n,⟨0,rfl,be _,rfl,H,aX _⟩,?_⟩;rintro v _ w3 ⟨n,rfl,m,rfl,L,A⟩;refine⟨λbU=>?_,λM=>?_⟩
  ·have bU:n<mv.n:=afm
   obtain⟨p,xm,ms,g1,y,_⟩:=a.2.2.1.get (i:=(n:Int)) J J;obtain⟨q,ym,ns,q1,F,_⟩:=k.2.2.1.get (i:=(n:Int)) J J;rw[aW]at y F;refine⟨p,g1,λw4 dI=>?_⟩;have G:=L.cd dI;have z4:=dI.size;obtain⟨p',x',BC,a1,d,_,_,a5,a6⟩:=(SliceF.only (iJ aL) Z a.2.2.1 G aag).get (i:=(n:Int)) J J;obtain⟨q',y',am,b1,e,_,_,b5,b6⟩:=(SliceF.only (iJ aL) Z k.2.2.1 G aag).get (i:=(n:Int)) J J;rw[aW,y]at d;rw[aW,F]at e;injection d with d;injection e with e;subst d e;obtain rfl:=g1.Cp a1;obtain rfl:=q1.Cp b1;have FT:=a6;have w:=b6;obtain⟨gc,rh,tg,rfl,c1,_,_⟩:=a6;obtain⟨aC,t,T,rfl,c2,_,_⟩:=b6;obtain⟨sx,rfl⟩:=eU c1;obtain⟨sy,rfl⟩:=eU c2;refine⟨_,_,_,_,_,_,_,_,sx,_,rh,tg,_,a5,q,q1,_,_,_,_,_,_,_,_,sy,_,t,T,_,b5,(NS FT w (h.mv.2 n _ _ y F)).mono ?_⟩;rintro _ w5 ⟨rfl,x⟩;exact⟨aE,rfl,x.same aah,λhh=>ahy,λ_=>⟨mv.n-(n+1),J,n+1,aaf,J,rfl,G.cd x,bD J x.size⟩⟩
  refine⟨λv i w'=>∃n:Nat,i=(n:Int)/\n<=kids.n/\v=kids.n-n/\Q [] w w'/\z.heap.size<=w'.heap.size,kids.n,⟨0,rfl,be _,rfl,L,A⟩,?_⟩;clear M m A L;rintro v _ w6 ⟨n,rfl,m,rfl,FR,z6⟩;refine⟨λbU=>?_,λ_=>⟨rfl,FR⟩⟩;have bU:n<kids.n:=afm
  obtain⟨p,xm,ms,g1,F,_⟩:=b.1.get (i:=(n:Int)) J J;obtain⟨q,ym,ns,q1,T,_⟩:=j.1.get (i:=(n:Int)) J J;rw[aW]at F T;refine⟨p,g1,λw7 fR=>?_⟩;have e:=FR.cd fR;have z7:=fR.size;obtain⟨p',x',BC,a1,t,_,_,a5,y⟩:=(SliceF.only (cf aL d) Z b.1 e aag).get (i:=(n:Int)) J J;obtain⟨q',y',aS,b1,x,_,_,b5,b6⟩:=(SliceF.only (cf aL d) Z j.1 e aag).get (i:=(n:Int)) J J;rw[aW,F]at t;rw[aW,T]at x;injection t with t;injection x with x;subst t x;obtain rfl:=g1.Cp a1;obtain rfl:=q1.Cp b1;have G:=K.2 n _ _ F T;cases d with
  | zero=>exact y.elim
  | succ d=>
   have FT:=y;have p:=b6;obtain⟨xe,xl,aT,xk,rfl,_⟩:=y;obtain⟨ye,yl,bv,yk,rfl,_⟩:=b6;refine⟨_,_,_,_,xe,xl,aT,xk,_,a5,q,q1,_,_,_,_,ye,yl,bv,yk,_,b5,(D8 (d+1) FT p G).mono ?_⟩;rintro _ w8 ⟨rfl,w⟩;exact⟨aE,rfl,w.same aah,λhh=>ahy,λ_=>⟨kids.n-(n+1),J,n+1,aaf,J,rfl,e.cd w,bD J w.size⟩⟩
def Wm{d:Nat}{x y:Ch}{v Y:Sl}{s f:aI}(h:ChR aL d w F x v s)(c:ChR aL d w G y Y f)(E:ChE t d x y):az aq 14 #[ah (v.v::s).toArray,ah (Y.v::f).toArray,aj t] w λi w'=>i=ak (aj aE)/\Q [] w w':=by
 have g:=h.root;have r:=c.root;cases d with
 | zero=>exact g.elim
 | succ d=>
  obtain⟨k,o,mv,kids,rfl,_⟩:=h.root;obtain⟨B,C,M,l,rfl,_⟩:=c.root;refine ret (alm _ _ _ _ _ _ _ _ _ _ _ _ _ _ _ _ _ _ _ _ _ ?_);have u:=h.vars.1.len;have x:=c.vars.1.len;have y:=E.vars.1;have z:=h.vars.1.cap;have A:=h.vars.1.big;refine⟨λhc=>?_,λ_ m k3 j G L H F D=>?_⟩
  ·have:¬(v.n:Int)=(Y.n:Int):=aaj
   omega
  have W:=D.size;refine⟨λP N w'=>∃n:Nat,N=(n:Int)/\n<=v.n/\P=v.n-n/\Q [] w w'/\j.heap.size<=w'.heap.size,v.n,⟨0,rfl,be _,rfl,D,aX _⟩,?_⟩;rintro P _ V ⟨n,rfl,S,rfl,K,R⟩;refine⟨λbU=>?_,λ_=>?_⟩
  ·have bU:n<v.n:=afm
   obtain⟨p,a,ms,d,g2,_,_,w,g6⟩:=(SliceF.only dY Z h.vars.1 K aag).get (i:=(n:Int)) J J;obtain⟨q,b,ns,q1,q2,_,_,q5,q6⟩:=(SliceF.only dY Z c.vars.1 K aag).get (i:=(n:Int)) J J;rw[aW]at g2 q2;unfold AP at g6 q6;subst g6 q6;have hv:=E.vars.2 n _ _ g2 q2;have e:((((!((T a.n).toList==(T b.n).toList))||(a.v !=b.v))||(t&&(a.a !=b.a))))=aL:=by
    rw[iv,hv.n,hv.v];cases a:t
    ·simp
    rw[hv.a a];simp
   refine⟨p,d,_,w.dP 0 _ rfl,q,q1,_,q5.dP 0 _ rfl,p,λ_=>d,_,λ_=>w.dP 1 _ rfl,q,λ_=>q1,_,λ_=>q5.dP 1 _ rfl,p,λ_ _=>d,_,λ_ _=>w.dP 2 _ rfl,q,λ_ _=>q1,_,λ_ _=>q5.dP 2 _ rfl,λhh=>(by rw[e]at hh;cases hh),λ_ w4 dI=>⟨v.n-(n+1),J,n+1,aaf,J,rfl,K.cd dI,bD R dI.size⟩⟩
  refine(D8 (d+1) ((cf aL _).only g K aag) ((cf aL _).only r K aag) E.root).mono ?_;rintro _ w ⟨rfl,e⟩;exact⟨aE,rfl,e.same aah,rfl,K.cd e⟩
end
def KX:∀(d:Nat) {w:av} {F:aJ} {sl:Sl} {a:List Ex},aA (rF d) 6 w F sl a->qV (oz d) a<=1099511627776->
  az aq 89 #[sl.v] w λe b=>∃s:Sl,e=ak s.v/\aA (rF d) 6 b (λk=>w.heap.size<=k/\k<b.heap.size) s a/\Q [] w b:=by
 intro d
 induction d with
 | zero=>
  intro w F sl a h d;have hx:a=[]:=by
   cases a with
   | nil=>rfl
   | cons x a=>
    obtain⟨s,g,_,_,_,_,f⟩:=h.at_ 0 x rfl;exact f.elim
  subst hx;have e:sl.n=0:=h.len;refine ik (alU _ ?_);refine⟨λn s i b=>s=Sl.nil/\i=0/\b=w,0,⟨rfl,rfl,rfl⟩,?_⟩;rintro n _ _ _ ⟨rfl,rfl,rfl⟩;exact⟨λc=>absurd (aO c) J,λ_=>⟨_,rfl,SliceF.nil _ _ _ _,Only.refl _ _⟩⟩
 | succ d j=>
  intro w F sl a h l;have N:=h.len;have u:=h.cap;have D:=h.big;have z:=PY (d:=d) (xs:=a);refine ik (alU _ ?_);refine⟨λf s i b=>∃n:Nat,n<=I a/\i=(n:Int)/\f=(I a)-n/\Own (rF (d+1)) 6 68 w.heap.size b (λk=>w.heap.size<=k) s (a.take n)/\Q [] w b,I a,⟨0,be _,rfl,rfl,Own.nil _ _ _ _ _ _,Only.refl _ _⟩,?_⟩;rintro f out _ g ⟨n,o,rfl,rfl,E,q⟩;have A:=q.size;refine⟨λc=>?_,λm=>?_⟩
  ·have c:(n:Int)<(sl.n:Int):=aO c;obtain⟨p,x,cs,g1,V,g3,g4,g5,sx,rfl,g6⟩:=(SliceF.only (fD (d+1)) Z h q aag).get (ba n) c;rw[aW]at V;have am:qV (oz d) x.dD<=1099511627776:=by
    have:=Wj (d:=d+1) (bn V);rw[oz]at this;omega
   refine⟨p,g1,_,_,_,_,_,_,g5,λk2 w1 qG oL C=>(j (SliceF.only (fD d) Z g6 C aag) am).mono ?_⟩;rintro _ w2 ⟨s,rfl,W,G⟩;have z1:=C.size;have z2:=G.size;refine⟨s,rfl,G.same aah,λL H=>?_⟩;have z3:=H.size;obtain⟨M,k4,sE,B⟩:=DY L [nR x.k x.n x.s x.op s x.a] aag aag aag (parts:=#[(0,ah (nR x.k x.n x.s x.op s x.a).toArray)]) rfl;rw[eH,Uk,bE]at sE;have z4:=B.size;refine⟨⟨aM ⟨L.heap.size,0,aaa⟩,1,1⟩,M,k4,B.same aah,?_⟩;have R:=E.inHeap (fD (d+1));have K:∀T,out.a=aM ⟨T,0,aaa⟩->T<g.heap.size:=λT e=>(E.blk e).2;have S:Own (rF (d+1)) 6 68 w.heap.size M (λk=>w.heap.size<=k) out (a.take n):=by
    refine(R.keep (fD (d+1)) λk hk c=>?_).mono (fD (d+1)) λk hk=>hk.1;have e:k<g.heap.size:=by
     rcases hk with hk | hk
     ·exact hk.2
     exact K k hk.2
    rw[B.block k J aag,H.block k J aah,G.block k J aag,C.block k e aag]
   have Y:aA (rF d) 6 M (λk=>w1.heap.size<=k/\k<w2.heap.size) s x.dD:=SliceF.only (fD d) Z (SliceF.only (fD d) Z W H λk hk _ hm=>aaV) B aag;have hy:aA (rF (d+1)) 6 M (λk=>w.heap.size<=k/\out.a≠aM ⟨k,0,aaa⟩) ⟨aM ⟨L.heap.size,0,aaa⟩,1,1⟩ [x]:=by
    refine⟨rfl,aX _,λh=>aal,(by decide:(1:Nat)<=9223372036854775807),λp y n=>?_⟩;have r:p=0:=by
     have:=(bc.1 n).1;simp only[bB]at this;omega
    subst r;simp only[cG,bJ]at n;subst n;refine⟨⟨L.heap.size,0,aaa⟩,nR x.k x.n x.s x.op s x.a,rfl,⟨abI,λe=>?_⟩,rfl,?_,s,rfl,SliceF.mono (fD d) Y λk hk=>⟨J,λe=>?_⟩⟩
    ·have:=K _ e;dsimp only at this;omega
    ·rw[xd];exact sE.cells 0 _ λp v h=>by rw[bP];exact h
    have:=K _ e;omega
   obtain⟨s',w5,m1,m2,gs,m3,m4,_⟩:=qO (P:=aq) (t:=66) (ty:=66) (e:=68) (i:=Tryz.t68) (bytes:=72) (size:=6) (r:=rF (d+1)) aae aae rfl rfl rfl rfl (fD (d+1)) S hy J (by
    rw[cx,bB];have:min n (I a)<=1099511627776:=J
    omega) Z
   refine⟨s',w5,m1,m3.same λk hk=>?_,(I a)-(n+1),J,n+1,J,aaf,rfl,?_,?_⟩
   ·simp only[aN]at hk;subst hk;refine⟨J,λhm=>?_⟩;have:=K _ (m4 _ hm).1;omega
   ·rw[bh,V];exact m2
   refine((((q.cd C).cd G).trans H λx hx=>.inr aak).cd B).trans m3 λx hx=>.inr (m4 x hx).2.1
  have m:¬(n:Int)<(sl.n:Int):=aU m;have:n=I a:=J
  subst this;rw[bm (aX _)]at E;refine⟨out,rfl,(SliceF.inHeap (fD (d+1)) (E.slice (fD (d+1))) Z).mono (fD (d+1)) λk hk=>⟨?_,hk.2⟩,q⟩;rcases hk.1 with e | e
  ·exact e
  exact e.1
def dJ(l:aH):Bool:=decide (l≠[]/\I l<=24)&&(match l with
 | c::_=>fS c
 | []=>aL)&&decide (l.takeWhile fA=l)&&!lf.contains l
def Wn{a:av}(l:aH)(g:I l<9223372036854775807):
  az aq 173 #[X (T l)] a λe w=>e=ak (aj (dJ l))/\Q [] a w:=by
 refine ret (amL _ ?_);intro k j Z z q;have f:(ao #[])=T []:=rfl;rw[cM,f,iv];refine⟨λb s i w=>b=dJ l/\Q [] a w,λb s i w d=>⟨by rw[d.1],d.2⟩,λh=>?_,λh=>⟨?_,q⟩⟩
 ·simp only[aR,de,dl,bG]at h;obtain⟨p,t⟩:=h;have t:I l<=24:=J
  obtain⟨c,r,rfl⟩:∃c r,l=c::r:=by
   cases l with
   | nil=>exact absurd rfl p
   | cons c r=>exact⟨c,r,rfl⟩
  have n:dJ (c::r)=(fS c&&decide ((c::r).takeWhile fA=c::r)&&!lf.contains (c::r)):=by
   unfold dJ;rw[bF ⟨p,t⟩,cr]
  refine⟨c,⟨ky _,afH⟩,(DP j c).mono ?_⟩;rintro _ x ⟨rfl,o⟩;have G:=q.cd o;refine⟨_,rfl,o.same aah,λb B=>?_,λb=>⟨by rw[n,b];rfl,G⟩⟩;refine(V3 (i:=0) (r:=[]) B (be _) g).mono ?_;rintro _ u ⟨rfl,e⟩;rw[im];have v:aF u k 182 [X (T (c::r)),O U 0]:=(e.block k B.lt aag).trans B;refine⟨_,rfl,T (c::r),0,v,?_⟩;rw[iv];refine⟨λm=>(PJ u).mono ?_,λm=>⟨?_,G.cd e⟩⟩
  ·rintro _ F ⟨s,rfl,C,y⟩;have E:aF F k 182 [X (T (c::r)),O U 0]:=(y.block k v.lt aag).trans v;refine⟨s,rfl,T (c::r),0,E,(wm (vF C) (c::r)).mono ?_⟩;rintro _ H ⟨rfl,A⟩;have D:aF H k 182 [X (T (c::r)),O U 0]:=(A.block k E.lt aag).trans E;exact⟨_,rfl,_,_,D,by rw[n,b,m];rfl,G.cd (e.cd (y.cd A))⟩
  rw[n,b,m];rfl
 unfold dJ;rw[bA]
 ·rfl
 rintro⟨b,c⟩;rw[bA b,bF J]at h;cases h
def cN(x:Ex):Int:=if x.k=5 then gq x.op else 6
def sV{w}{F}{x}{cs}{d}(h:rF d w F x cs):az aq 293 #[ah cs.toArray] w λe a=>e=ak (O U (cN x))/\Q [] w a:=by
 cases d with
 | zero=>exact h.elim
 | succ d=>
  obtain⟨sl,rfl,h⟩:=h;refine ret (atQ _ _ _ _ _ _ ?_);refine⟨λhc k e _ _ b=>?_,λhc c w hk j b=>(NK w x.op).mono ?_⟩
  ·have hc:=aaj
   rw[cN,aP hc];exact⟨rfl,b⟩
  rintro _ d ⟨rfl,rfl⟩;rw[cN,aV aaj];exact⟨_,rfl,λ_ _=>rfl,rfl,b⟩
def SR(n:Int)(s:aH)(op len:Int)(x:Ex):Bool:=((((x.n==n)&&decide (x.s=s))&&(x.op==op))&&(I x.dD==len))
def iK(x:Ex):Bool:=
 if x.k=1 then SR (if 0>x.n then 0 else x.n) [] 0 0 x
 else if x.k=2∨x.k=3 then dJ x.s&&SR 0 x.s 0 0 x
 else if x.k=4 then SR 0 [] (if x.op=15 then 15 else 14) 1 x
 else if x.k=5 then !(gq x.op==6)&&SR 0 [] x.op 2 x
 else aL
def lj(f:Ex->Bool):List Ex->Bool
 | []=>aE
 | x::s=>f x&&lj f s
def da:Nat->Ex->Bool
 | 0,_=>aL
 | d+1,x=>iK x&&lj (da d) x.dD
def Gs{f}{s:List Ex}{n}{x}(h:s[n]? =aM x):lj f (s.drop n)=(f x&&lj f (s.drop (n+1))):=by
 rw[jh (bc.1 h).1,(bc.1 h).2,lj]
abbrev ShD(d:Nat):Prop:=∀{w:av} {F:aJ} {x:Ex} {c:aI},yq d x->rF d w F x c->az aq 265 #[ah c.toArray] w λe a=>e=ak (aj (da d x))/\Q [] w a
def Wo{d}(S:ShD d){w}{F}{x}{cs}(l:yq d x)(h:rF d w F x cs):az aq 291 #[ah cs.toArray] w λe b=>e=ak (aj (!da d x))/\Q [] w b:=by
 obtain⟨sl,rfl⟩:=mQ h;refine ret (atP _ _ _ _ _ _ ?_);intro k f hk j a;refine(S l (ix h a)).mono ?_;rintro _ g ⟨rfl,c⟩;exact⟨_,rfl,c.same aah,rfl,a.cd c⟩
def Wp{d:Nat}(S:ShD d){w}{F}{l}{xs}(k:∀y,y∈xs->yq d y)(h:aA (rF d) 6 w F l xs):az aq 308 #[l.v,.func (.func 291) #[] #[]] w λe a=>∃i,e=ak (O U i)/\decide (i>=0)=!lj (da d) xs/\Q [] w a:=by
 refine(anh l ⟨.func (.func 291) #[] #[],rfl⟩ (λv a=>∃i,v=O U i/\decide (i>=0)=!lj (da d) xs/\Q [] w a) w ?_).mono (by
  rintro e a ⟨v,rfl,i,rfl,h⟩;exact⟨i,rfl,h⟩)
 have N:=h.len;have s:=h.big;have p:=h.cap;refine⟨λj i a=>∃n,n<=I xs/\i=n/\j=(I xs)-n/\lj (da d) xs=lj _ (xs.drop n)/\Q [] w a,I xs,⟨0,be _,rfl,rfl,rfl,Only.refl _ _⟩,?_⟩;rintro j _ o ⟨n,m,rfl,rfl,g,c⟩;refine⟨λb=>?_,λb=>?_⟩
 ·have r:(n:Int)<l.n:=aO b;obtain⟨ad,x,v,t,e,w,y,u,q⟩:=(SliceF.only (fD d) Z h c aag).get (ba n) r;rw[aW]at e;obtain⟨sl,rfl⟩:=mQ q;refine⟨ad,t,_,_,_,_,_,_,u,291,[],[],rfl,jR aae,?_⟩;refine(Wo S (k x (bn e)) q).mono ?_;rintro _ z ⟨rfl,D⟩;have Y:=Gs (f:=da d) e;refine⟨_,rfl,λhb=>⟨_,rfl,?_,c.cd D⟩,λhb=>⟨(I xs)-_,J,n+1,J,aaf,rfl,?_,c.cd D⟩⟩
  ·have hb:da d x=aL:=abS
   rw[g,Y,hb,db,FY];exact bF (ba n)
  have hb:da d x=aE:=abS
  rw[g,Y,hb,cr]
 have d:=aU b;refine⟨_,rfl,?_,c⟩;rw[g,dV J];rfl
def KY{d}(S:ShD d){w}{F}{l}{xs}(c:∀y,y∈xs->yq d y)(h:aA (rF d) 6 w F l xs):az aq 290 #[l.v,.func (.func 291) #[] #[]] w λe f=>e=ak (aj (!lj (da d) xs))/\Q [] w f:=by
 refine ret (anf l ⟨.func _ #[] #[],rfl⟩ _ w ?_);refine(Wp S c h).mono ?_;rintro _ g ⟨i,rfl,a,b⟩;exact⟨_,rfl,by rw[a],b⟩
def P1:∀d,ShD d
 | 0,_,_,_,_,_,h=>h.elim
 | d+1,f,F,x,z,⟨q,p⟩,⟨sl,g,a⟩=>by
  subst g;refine ret (atD _ _ _ _ _ _ ?_);intro C u o B A m M c;have h:∀{b:Bool},iK x=b->da (d+1) x=_:=λe=>by rw[da,e]
  have own:∀{w l:av},Q [] f w->Q [u] w l->Q [] f l:=λg a=>g.new a m;refine⟨λi r j y k v t w=>∃s,y=T s/\iK x=SR j s k i x/\Q [] f w/\o.heap.size<=w.heap.size,?_,λhk D n=>⟨[],rfl,?_,own c n,n.size⟩,λhk=>?_⟩
  ·rintro i r j _ k v t w ⟨s,rfl,H,e,L⟩;have G:((((x.n==j)&&((T x.s).toList==(T s).toList))&&(x.op==k))&&((sl.n:Int)==i))=iK x:=by
    rw[H,iv,a.len];rfl
   rw[G];refine⟨λb K=>b=da _ x/\Q [] f K,?_,λE=>(KY (P1 d) p (SliceF.only (fD d) Z a e aag)).mono ?_,λE=>⟨by rw[h E,db],e⟩⟩
   ·rintro _ l ⟨rfl,b⟩;exact⟨rfl,b⟩
   rintro _ b ⟨rfl,d⟩;exact⟨_,rfl,d.same aah,by rw[h E,cr,O4],e.cd d⟩
  ·have hk:=aay
   rw[iK,aV hk]
  have m:=aay
  refine⟨λb d=>b=decide (x.k=2∨x.k=3)/\d=o,?_,λqG=>⟨?_,rfl⟩,λqG=>⟨?_,rfl⟩⟩
  ·rintro _ _ ⟨rfl,rfl⟩;refine⟨λhk=>(Wn x.s J).mono ?_,λhk=>⟨λuw=>⟨λho E s=>⟨[],rfl,?_,own c s,s.size⟩,λho G e=>⟨[],rfl,?_,own c e,e.size⟩⟩,λuw=>⟨λrl=>(NK _ x.op).mono ?_,λrl=>⟨?_,c⟩⟩⟩⟩
   ·rintro _ H ⟨rfl,K⟩;have N:=K.size;have hk:=aO hk;refine⟨_,rfl,K.same aah,λhb=>⟨?_,c.cd K⟩,λhb L R=>⟨x.s,rfl,?_,own (c.cd K) R,by have:=R.size;omega⟩⟩
    ·have hb:=abS
     rw[h (b:=aL) (by rw[iK,aP m,aV hk,hb,db]),db]
    have hb:=abS
    rw[iK,aP m,aV hk,hb,cr]
   ·have hk:=aU hk;have uw:=adX
    have ho:=ahE
    rw[iK,aP m,aP hk,aV uw,aV ho]
   ·have hk:=aU hk;have uw:=adX
    rw[iK,aP m,aP hk,aV uw,aP ahE]
   ·rintro _ H ⟨rfl,rfl⟩;have hk:=aU hk;have uw:=adX
    have rl:=ahG
    refine⟨_,rfl,λ_ _=>rfl,λhb=>⟨?_,c⟩,λhb x T=>⟨[],rfl,?_,own c T,T.size⟩⟩
    ·rw[h (b:=aL) (by rw[iK,aP m,aP hk,aP uw,aV rl,hb,Bool.not_true,db]),db]
    rw[iK,aP m,aP hk,aP uw,aV rl,hb,FY,cr]
   have uw:=adX
   have rl:=ahG
   rw[h (b:=aL) (by rw[iK,aP m,aP (aU hk),aP uw,aP rl]),db]
  ·have qG:=ahH
   rw[qG];rfl
  rw[bL];simp[by simpa using qG]
def Tb(w:av):Prop:=Lib.TabIs aq w "internal/strconv.uint64pow10" .u64 Lib.pow10Tab
def tb_num:Tryz.prog.globalNamed "internal/strconv.uint64pow10" =aM 2:=aae
def Tb.keep{w w'}(h:Tb w)(hk:2<w.heap.size->w'.heap[2]? =w.heap[2]?):Tb w':=by
 unfold Tb Lib.TabIs World.var? at h⊢;rw[tb_num]at h⊢;simp at h⊢;rw[hk]
 ·exact h
 refine bQ λn=>?_;rw[iR J]at h;cases h
def Tb.lt{w}(h:Tb w):2<w.heap.size:=by
 unfold Tb Lib.TabIs World.var? at h;rw[tb_num]at h;simp at h;refine bQ λn=>?_;rw[iR J]at h;cases h
def Tb.only{w w'}(h:Tb w)(a:Q [] w w'):Tb w':=h.keep λb=>a.block _ b aag
def Only.grown w k os:Q [] w (Go.Sort.grow (w.drewN k) os):=⟨rfl,rfl,rfl,aag,λq h _=>by
 simp[Go.Sort.grow,World.heap_drewN];rw[Array.getElem?_append_left h]⟩
def CM{w} n (h:tn n) (a:Tb w):az aq 134 #[O U n] w λe b=>e=ak (X (T (Lib.itoa n)))/\Q [] w b:=by
 refine ret (v1w _ ?_);refine(Tryz.strconv_Itoa n h.1 h.2 w a).mono ?_;rintro _ c ⟨rfl,k,o,rfl⟩;exact⟨_,rfl,rfl,Only.grown _ _ _⟩
def Bf(w:av)(B:Nat)(s:Sl)(l:aH):Prop:=
 (s=Sl.nil/\l=[])∨∃g tail,s.a=aM ⟨g,0,aaa⟩/\B<=g/\aF w g 5 (l.map iT++tail)/\I tail=s.c-s.n/\s.n=I l/\s.n<=s.c/\s.c<=9223372036854775807/\0<s.c
def Bf.len{w:av}{B:Nat}{s:Sl}{l:aH}(h:Bf w B s l):s.n=I l:=by
 rcases h with⟨rfl,rfl⟩ | ⟨g,tail,_,_,_,_,h,_⟩
 ·rfl
 exact h
def Bf.lt{w:av}{B:Nat}{s:Sl}{l:aH}(b:Bf w B s l){g:Nat}(a:s.a=aM ⟨g,0,aaa⟩):B<=g/\g<w.heap.size:=by
 rcases b with⟨rfl,rfl⟩ | ⟨e,tail,h,c,d,_⟩
 ·cases a
 rw[a]at h;injection h with h;injection h with h;subst h;exact⟨c,d.lt⟩
def Bf.keep{w w':av}{B:Nat}{s:Sl}{l:aH}(h:Bf w B s l)(hk:∀g,s.a=aM ⟨g,0,aaa⟩->g<w.heap.size->w'.heap[g]? =w.heap[g]?):Bf w' B s l:=by
 rcases h with h | ⟨g,tail,a,c,b,d⟩
 ·exact .inl h
 exact .inr ⟨g,tail,a,c,(hk g a b.lt).trans b,d⟩
def anu(l:aH):Lib.strCells (T l)=l.map iT:=rfl
def D9:Tryz.prog.underlying 197=aM (.slice 5):=aae
def agt:Tryz.prog.underlying 9=aM .string:=aae
def H6:Tryz.prog.info? 5=aM Tryz.t5:=aae
def CN{w:av}{B:Nat}{s:Sl}{l:aH}(q:Bf w B s l)(m:aH)(C:B<=w.heap.size)(F:I l+I m<=140737488355328):
  ∃a d,(Builtin.append_ #[197,9] 197 #[s.v,X (T m)]).run aq w=.ok a.v d/\Bf d B a (l++m)/\aD (λk=>s.a=aM ⟨k,0,aaa⟩) w d/\(a.a=s.a∨a.a=aM ⟨w.heap.size,0,aaa⟩):=by
 have t:=D9;have u:=agt;have i:=H6;have E:Tryz.t5.size=1:=rfl;have V:Tryz.t5.bytes=1:=rfl;have p:Tryz.t5.zero=aM (.int .u8 0):=rfl;have hsz:(T m).size=I m:=cM m;have grown:∀(gY D:Nat),gY=I l+(I m)->0<I l+(I m)->∀cells:Array aw,cells=((l++m).map iT).toArray++Builtin.zeroCells (Value.int .u8 0).cells (grownCap w gY D 5-gY)->
   Bf (w.drew.alloc (.cells cells 5)) B ⟨aM ⟨w.heap.size,0,aaa⟩,gY,grownCap w gY D 5⟩ (l++m)/\aD (λk=>s.a=aM ⟨k,0,aaa⟩) w (w.drew.alloc (.cells cells 5)):=by
  rintro gY D rfl b cells rfl;have c:Q [] w (w.drew.alloc (.cells (((l++m).map iT).toArray++Builtin.zeroCells (Value.int .u8 0).cells (grownCap w (I l+I m) D 5-(I l+I m))) 5)):=(Only.drew w).cd (Only.alloc _ _);refine⟨.inr ⟨w.heap.size,(Builtin.zeroCells (Value.int .u8 0).cells (grownCap w (I l+I m) D 5-(I l+I m))).toList,rfl,C,?_,?_,aag,grownCap_ge _ _ _ _,grownCap_le_maxLen _ _ _ _ (by simp only[maxLen];omega),cV b (grownCap_ge _ _ _ _)⟩,c.p0⟩
  ·have e:∀(x:aI) (z:Array aw),x.toArray++z=(x++z.toList).toArray:=λx z=>aag
   rw[e];exact Blk.alloc w.drew 5 _
  exact(zv w _ (size:=1) rfl).trans (rm _)
 rcases q with⟨rfl,rfl⟩ | ⟨g,tail,f,r,h,y,j,A,n,o⟩
 ·cases m with
  | nil=>
   refine⟨Sl.nil,w,?_,.inl ⟨rfl,rfl⟩,OnlyP.refl _ _,.inl rfl⟩;have c:=Lib.run_firstCells_string (P:=aq) w 1 (T []);have b:(T []).size=0:=rfl;rw[b]at c;simp[Sl.nil,Sl.v,Builtin.append_,run_underlying t,run_underlying u,sizeOf,typeInfo,i,E,Builtin.lenOf,b,c]
  | cons c m=>
   have e:=run_append_nil_string (P:=aq) w 197 9 197 5 Tryz.t5 (.int .u8 0) t u i p (T (c::m)) (by rw[hsz];simp) ahP (by rw[hsz,V];omega);rw[hsz]at e;obtain⟨s,v⟩:=grown (I (c::m)) 0 aag aag _ rfl;have k:(T (c::m)).data.map (λb=>Value.int .u8 b.toNat)=(List.map iT ([]++c::m)).toArray:=by
    apply Uj.1;rw[Array.toList_map,mL];rfl
   rw[k]at e;exact⟨_,_,e,s,v,.inr rfl⟩
 obtain⟨c,sn,sc⟩:=s;dsimp only at f y j A n o;subst f;by_cases b:sn+I m<=sc
 ·have k:=h;unfold aF at h;have s:=Lib.run_append_room_string (P:=aq) w 197 9 197 5 Tryz.t5 t u i E g sn sc _ h (T m) (by rw[hsz];exact b) (by
   rw[hsz,zj,aQ,bK];omega)
  rw[hsz,anu]at s;refine⟨⟨aM ⟨g,0,aaa⟩,sn+I m,sc⟩,_,s,.inr ⟨g,tail.drop (I m),rfl,r,?_,?_,by dsimp only;rw[aQ];omega,b,n,o⟩,(Only.setRow w g _).p λx v=>.inl (by simp only[aN]at v;rw[v]),.inl rfl⟩
  ·have:=k.setRow ((l++m).map iT++tail.drop (I m));have e:((l.map iT++tail).toArray.toList.take sn++m.map iT++(l.map iT++tail).toArray.toList.drop (sn+I m))=(l++m).map iT++tail.drop (I m):=by
    rw[mL,U0 aeH,bm aeH,List.drop_append,dV aeH,bR,bK,cK,j,dN]
   rw[e];exact this
  rw[cJ];dsimp only;omega
 have Y:∀e v,(l.map iT)[e]? =aM v->w.cell? ((⟨g,0,aaa⟩:Addr).add e)=aM v:=λe v hj=>h.cells 0 (l.map iT) (λe v hj=>ac9) e v hj;have k:=Lib.run_append_grow_string (P:=aq) w 197 9 197 5 Tryz.t5 (.int .u8 0) t u i p ⟨g,0,aaa⟩ sn sc (l.map iT) (by rw[E,bK];omega) Y (T m) ahP ahP (growslice_fits ahP (by rw[hsz,V];omega));rw[hsz,anu]at k;obtain⟨s,x⟩:=grown (sn+I m) sc J J _ rfl;refine⟨_,_,k.trans ?_,s,x,.inr rfl⟩;simp[cK]
def ad5(w:av)(F:aJ):∀l:aH,qB nq 1 w F l (l.map λb=>[iT b])
 | []=>trivial
 | c::l=>⟨⟨rfl,rfl⟩,ad5 w F l⟩
def Wq:∀l:aH,(l.map λb=>[iT b]).flatten=l.map iT
 | []=>rfl
 | c::l=>by rw[bS,eH,Wq l];rfl
def KZ{w:av}{F:aJ}:∀{l:aH} {s:List (aI)},qB nq 1 w F l s->s.flatten=l.map iT
 | [],[],_=>rfl
 | c::l,d::s,a=>by
  obtain⟨⟨_,h⟩,b⟩:=a;unfold nq at h;subst h;rw[eH,KZ b];rfl
def Bf.own{w:av}{B:Nat}{s:Sl}{l:aH}(h:Bf w B s l)(F:aJ):Own nq 1 5 B w F s l:=by
 rcases h with h | ⟨g,tail,a,c,d,e,f,i,j,_⟩
 ·exact .inl h
 exact .inr ⟨g,l.map λb=>[iT b],tail,a,c,by rw[Wq];exact d,by rw[rm];exact e,f,i,j,ad5 _ _ _⟩
def Bf.of{w:av}{B:Nat}{s:Sl}{l:aH}{F:aJ}(h:Own nq 1 5 B w F s l)(m:0<I l):Bf w B s l:=by
 rcases h with h | ⟨g,c,tail,a,b,d,e,f,i,j,k⟩
 ·exact .inl h
 exact .inr ⟨g,tail,a,b,by rw[<-KZ k];exact d,by rw[e,rm],f,i,j,J⟩
structure Pg (G:aJ) (w:av) (b:Nat) (sl sn:Sl) (l:aH):Prop where
 blk:∃q:Option Addr,(q=aaa∨q=aM ⟨b,0,aaa⟩)/\aF w b 329 [ae q,sl.v,sn.v]
 buf:Bf w (b+1) sl l
 sig:aA mh 1 w G sn yH
 hG:∀k,G k->k<b
def kc(b:Nat)(sl:Sl)(w:av)(sl':Sl)(a:av):Prop:=aD (λk=>k=b∨sl.a=aM ⟨k,0,aaa⟩) w a/\∀k,sl'.a=aM ⟨k,0,aaa⟩->sl.a=aM ⟨k,0,aaa⟩∨w.heap.size<=k
def kc.refl(b:Nat)(sl:Sl)(w:av):kc b sl w sl w:=⟨OnlyP.refl _ _,λ_ h=>.inl h⟩
def kc.trans{b:Nat}{sl sl' T:Sl}{w c v:av}(a:kc b sl w sl' c)(k:kc b sl' c T v):kc b sl w T v:=by
 have z:=a.1.size;refine⟨a.1.trans k.1 λx h=>?_,λx h=>?_⟩
 ·rcases h with h | h
  ·exact .inl (.inl h)
  rcases a.2 x h with e | e
  ·exact .inl (.inr e)
  exact .inr e
 rcases k.2 x h with e | e
 ·exact a.2 x e
 exact .inr J
def kc.only{b:Nat}{sl:Sl}{w w':av}(h:Q [] w w'):kc b sl w sl w':=⟨h.p0,λ_ h=>.inl h⟩
def kc.same{b:Nat}{sl sl':Sl}{w a:av}(c:kc b sl w sl' a){k:Nat}(hk:k≠b)(s:sl.a≠aM ⟨k,0,aaa⟩)(l:k<w.heap.size):cu [k] w a:=c.1.same (by
 intro x h;simp only[aN]at h;subst h;exact⟨l,λe=>e.elim hk s⟩)
def Pg.only{G:aJ}{w w':av}{b:Nat}{sl sn:Sl}{l:aH}(h:Pg G w b sl sn l)(a:Q [] w w'):Pg G w' b sl sn l:=by
 obtain⟨q,d,B⟩:=h.blk;exact⟨⟨q,d,a.blk B aag⟩,h.buf.keep λg _ c=>a.block g c aag,SliceF.only du Z h.sig a aag,h.hG⟩
def Pg.lb{G:aJ}{w:av}{b:Nat}{sl sn:Sl}{l:aH}(h:Pg G w b sl sn l):b<w.heap.size:=by
 obtain⟨q,a,B⟩:=h.blk;exact B.lt
def ad6(v:aw)(w:av):(Sz 233 #[v]).run aq w=.ok v w:=by
 unfold Sz;rw[Sem.run_bind,run_callFunc_extern Tryz.func233 aae aae aae (e:=Extern.AbiNoEscape.same) aae];rw[Lib.run_noEscape];rfl
def P2{w:av}{b:Nat}{q:Option Addr}{sl sn:Sl}(c:q=aaa∨q=aM ⟨b,0,aaa⟩)(h:aF w b 329 [ae q,sl.v,sn.v]):
  az aq 201 #[ae (aM ⟨b,0,aaa⟩)] w λe a=>e=ak (ai #[])/\Q [b] w a/\aF a b 329 [ae (aM ⟨b,0,aaa⟩),sl.v,sn.v]:=by
 refine ret (adT _ ?_);have v:w.shape? b=aM (329,3):=by
  unfold World.shape?;unfold aF at h;rw[h];rfl
 refine⟨q,Blk.dP h 0 rfl,λn=>?_,λn=>⟨q,Blk.dP h 0 rfl,?_⟩⟩
 ·have r:=Lib.run_to_unsafe (P:=aq) (src:=212) (dst:=293) w ⟨b,0,aaa⟩ (t:=214) (j:=Tryz.t214) aae aae aae Z v (by decide:(0:Nat)<3);have d:=Lib.run_from_unsafe (P:=aq) (src:=293) (dst:=212) w ⟨b,0,aaa⟩ (u:=214) (j:=Tryz.t214) aae aae aae v aae;exact⟨⟨ae (aM ⟨b,0,aaa⟩),rfl⟩,w,r,⟨ae (aM ⟨b,0,aaa⟩),rfl⟩,w,ad6 _ w,aM ⟨b,0,aaa⟩,w,d,b,0,_,_,rfl,h,aag,λf e B=>⟨rfl,e,B⟩⟩
 rcases c with rfl | rfl
 ·cases n
 exact⟨aL,w,Lib.run_neq_ptr_same w _ (te:=214) (j:=Tryz.t214) aae aae,λe=>aeZ,λ_=>⟨rfl,Only.refl _ _,h⟩⟩
section
variable {G:aJ} {w:av} {b:Nat} {sl sn:Sl} {l:aH}
def agu(h:Pg G w b sl sn l):az aq 179 #[ae (aM ⟨b,0,aaa⟩)] w λe a=>e=ak (O U (I l:Int))/\a=w:=by
 refine ret (adR _ _ _ ?_);obtain⟨q,c,B⟩:=h.blk;exact⟨sl,Blk.dP B 1 rfl,by rw[h.buf.len],rfl⟩
def tw(h:Pg G w b sl sn l)(m:aH)(hm:I l+I m<=140737488355328):az aq 170 #[ae (aM ⟨b,0,aaa⟩),X (T m)] w λe i=>
  ∃sl',e=ak (ai #[O U (I m:Int),.nilIface])/\Pg G i b sl' sn (l++m)/\kc b sl w sl' i:=by
 refine ik (adQ _ _ ?_);obtain⟨q,n,B⟩:=h.blk;refine(P2 n B).mono ?_;rintro _ u ⟨rfl,c,M⟩;have z:=c.size;have v:=B.lt;have AM:Bf u (b+1) sl l:=h.buf.keep λg hg d=>c.block g d (by have:=(h.buf.lt hg).1;simp;omega);obtain⟨s,j,o,p,k3,f⟩:=CN AM m J hm;have A:=k3.size;have t:aF j b 329 [ae (aM ⟨b,0,aaa⟩),sl.v,sn.v]:=k3.blk M λe=>afi
 have AK:∀g,s.a=aM ⟨g,0,aaa⟩->b<g:=λg hg=>by
  rcases f with e | e
  ·rw[e]at hg;exact(AM.lt hg).1
  rw[e]at hg;injection hg with hg;injection hg with hg;omega
 refine⟨rfl,sl,Blk.dP M 1 rfl,s,j,o,b,1,_,_,rfl,t,aag,λy a r=>⟨s,by rw[cM],⟨⟨_,.inr rfl,r⟩,p.keep λg hg d=>a.block g d adZ,?_,h.hG⟩,?_,?_⟩⟩
 ·have b:=SliceF.only du Z h.sig c λk hk _ hm=>acH
  have e:=SliceF.kU du Z b k3 λk hk _ hm=>by have:=h.hG k hk;have:=(AM.lt hm).1;omega
  exact SliceF.only du Z e a λk hk _ hm=>acH
 ·refine((c.p (F:=λk=>k=b∨sl.a=aM ⟨k,0,aaa⟩) λx hx=>.inl (.inl acD)).trans k3 λk hk=>.inl (.inr hk)).trans (a.p (F:=λk=>k=b) λx hx=>.inl acD) λk hk=>.inl (.inl hk)
 intro k hk;rcases f with e | e
 ·rw[e]at hk;exact .inl hk
 rw[e]at hk;injection hk with hk;injection hk with hk;exact .inr J
def ad7(h:Pg G w b sl sn l)(c:UInt8)(hm:I l+1<=140737488355328):PG ⟨b,0,aaa⟩ (c.toNat:Int) (λv A=>∃sl',v=.nilIface/\Pg G A b sl' sn (l++[c])/\kc b sl w sl' A) w:=by
 unfold PG;obtain⟨q,D,B⟩:=h.blk;refine(P2 D B).mono ?_;rintro _ C ⟨rfl,d,M⟩;have Y:=d.size;have V:=B.lt;have AM:Bf C (b+1) sl l:=h.buf.keep λg hg a=>d.block g a (by have:=(h.buf.lt hg).1;simp;omega);obtain⟨y,m,E,H,k3,_⟩:=uX C [c] (n:=1) (parts:=#[(0,.int .u8 (c.toNat:Int))]) rfl rfl Z Z;have z1:=k3.size;have p:Bf m (b+1) sl l:=AM.keep λg hg a=>k3.block g a aag;obtain⟨s,o,K,L,T,u,N,z⟩:=qO (P:=aq) (t:=197) (ty:=197) (e:=5) (i:=Tryz.t5) (bytes:=1) (size:=1) (r:=nq) D9 H6 rfl rfl rfl rfl tH (p.own λ_=>True) ((zK H).mono tH λk hk=>⟨trivial,λe=>by have:=(AM.lt e).2;have:=hk.1;omega⟩) J ae7 Z;have z2:=u.size;have f:aD (λk=>sl.a=aM ⟨k,0,aaa⟩) m o:=u.p λx hx=>.inl (N x hx).1;have R:aF o b 329 [ae (aM ⟨b,0,aaa⟩),sl.v,sn.v]:=f.blk (k3.blk M aag) λe=>afi
 have AK:∀g,s.a=aM ⟨g,0,aaa⟩->b<g:=λg hg=>by
  rcases z with e | e
  ·rw[e]at hg;exact(AM.lt hg).1
  rw[e]at hg;injection hg with hg;injection hg with hg;omega
 refine⟨rfl,sl,Blk.dP M 1 rfl,y,m,E,s,o,K,b,1,_,_,rfl,R,aag,λW j S=>⟨s,rfl,⟨⟨_,.inr rfl,S⟩,(Bf.of L aag).keep λg hg a=>j.block g a adZ,?_,h.hG⟩,?_,?_⟩⟩
 ·have b:=SliceF.only du Z h.sig (d.cd k3) λk hk _ hm=>acH
  have c:=SliceF.kU du Z b f λk hk _ hm=>by have:=h.hG k hk;have:=(AM.lt hm).1;omega
  exact SliceF.only du Z c j λk hk _ hm=>acH
 ·refine(((d.cd k3).p (F:=λk=>k=b∨sl.a=aM ⟨k,0,aaa⟩) λx hx=>.inl (.inl acD)).trans f λk hk=>.inl (.inr hk)).trans (j.p (F:=λk=>k=b) λx hx=>.inl acD) λk hk=>.inl (.inl hk)
 intro k hk;rcases z with e | e
 ·rw[e]at hk;exact .inl hk
 rw[e]at hk;injection hk with hk;injection hk with hk;exact .inr J
def abh(h:Pg G w b sl sn l)(c:UInt8)(m:I l+1<=140737488355328):az aq 292 #[ae (aM ⟨b,0,aaa⟩),.int .u8 (c.toNat:Int)] w λe a=>
 ∃sl',e=ak .nilIface/\Pg G a b sl' sn (l++[c])/\kc b sl w sl' a:=(ang _ _ _ w (ad7 h c m)).mono (by
 rintro e a ⟨v,rfl,s,rfl,h⟩;exact⟨s,rfl,h⟩)
def abi(h:Pg G w b sl sn l)(c:UInt8)(m:I l+1<=140737488355328):nN aq 292 #[ae (aM ⟨b,0,aaa⟩),.int .u8 (c.toNat:Int)] w λv a=>
 ∃sl',v=.nilIface/\Pg G a b sl' sn (l++[c])/\kc b sl w sl' a:=qh _ _ _ w (ad7 h c m)
structure Pt (w:av) (b:Nat) (sl:Sl) (l:aH):Prop where
 blk:∃q sn:aw,aF w b 329 [q,sl.v,sn]
 len:sl.n=I l
 aM:l≠[]->∃g,sl.a=.some ⟨g,0,aaa⟩/\b<g/\sl.c≠0/\(∃n,w.shape? g=.some (5,n)/\I l<=n)/\aB w ⟨g,0,aaa⟩ (l.map iT)
 cap:sl.a=aaa∨sl.c≠0
 big:I l<=9223372036854775807
def Ea{w a:av}{g:Nat}(h:a.heap[g]? =w.heap[g]?):a.shape? g=w.shape? g:=by
 unfold World.shape?;rw[h]
def Pt.only{w':av}(j:Pt w b sl l)(h:Q [] w w'):Pt w' b sl l:=by
 obtain⟨⟨q,sn,k⟩,m,o,p,r⟩:=j;refine⟨⟨q,sn,h.blk k aag⟩,m,λt=>?_,p,r⟩;obtain⟨g,c,d,e,⟨n,a,f⟩,i⟩:=o t;have s:g<w.heap.size:=by
  refine bQ λn=>?_;unfold World.shape? at a;rw[iR J]at a;cases a
 have hk:=h.block g s aag;exact⟨g,c,d,e,⟨n,(Ea hk).trans a,f⟩,i.keep hk⟩
def Pg.pt(h:Pg G w b sl sn l):Pt w b sl l:=by
 obtain⟨q,c,B⟩:=h.blk;refine⟨⟨_,_,B⟩,h.buf.len,λa=>?_,?_,?_⟩
 ·rcases h.buf with⟨_,e⟩ | ⟨g,tail,d,f,b,i,j,k,m,n⟩
  ·exact absurd e a
  have o:I l≠0:=λe=>a (bH e);refine⟨g,d,f,J,⟨_,by unfold World.shape?;unfold aF at b;rw[b],aag⟩,b.cells 0 (l.map iT) λp v hj=>ac9⟩
 ·rcases h.buf with⟨e,_⟩ | ⟨g,tail,b,d,f,i,j,k,l,m⟩
  ·exact .inl (by rw[e])
  exact .inr J
 rcases h.buf with⟨_,e⟩ | ⟨g,tail,b,d,f,i,j,k,l⟩
 ·subst e;simp
 omega
end
def zQ(w:av)(p:Addr)(n:Nat)(a:Nat):(w.freeze p n).shape? a=w.shape? a:=by
 unfold World.freeze;split
 ·rfl
 unfold World.shape?;simp only[E8];by_cases b:p.block=a
 ·rw[aV b];rcases h:w.heap[a]? with _|o
  ·rfl
  cases o with
  | cells c e f=>obtain⟨l,h⟩:=f;rfl
  | _=>rfl
 rw[aP b]
section
variable {w:av} {b:Nat} {sl:Sl} {l:aH}
def Ws(i:Pt w b sl l):az aq 137 #[ae (aM ⟨b,0,aaa⟩)] w λe g=>e=ak (X (T l))/\Pt g b sl l/\aD (λk=>b<k/\sl.a=aM ⟨k,0,aaa⟩) w g:=by
 refine ret (adO _ ?_);intro c d;have j:=i.only d;obtain⟨⟨q,sn,h⟩,f,M,p,s⟩:=j;refine⟨λk=>k=b,sl,Blk.dP h 1 rfl,rfl,sl,Blk.dP h 1 rfl,sl.a,c,?_,λk _ _=>rfl,?_⟩
 ·obtain⟨b,n,sc⟩:=sl;rcases b with _|a
  ·exact Lib.run_unsafeSliceData_nil _ _ _ _ _
  rcases p with e | e
  ·cases e
  exact Lib.run_unsafeSliceData_row _ _ _ _ _ _ e
 by_cases a:l=[]
 ·subst a;have n:sl.n=0:=f;refine⟨T [],c,?_,λk _ _=>rfl,rfl,⟨⟨q,sn,h⟩,f,M,p,s⟩,d.p0⟩;rw[n];exact Lib.run_unsafeString_none _ _ _ _ _
 obtain⟨e,m,z,w,⟨t,J,r⟩,y⟩:=M a;have F:=wq c ⟨e,0,aaa⟩ (I l);have A:b<c.heap.size:=h.lt;refine⟨T l,c.freeze ⟨e,0,aaa⟩ (I l),?_,λk hk u=>F.block k u abI,rfl,⟨⟨q,sn,F.blk h abI⟩,f,λ_=>⟨e,m,z,w,⟨t,(zQ _ _ _ _).trans J,r⟩,λo v n=>by rw[wo];exact y o v n⟩,p,s⟩,d.qz (F.mono λk _ hk=>by dsimp only at hk;subst hk;exact⟨z,m⟩)⟩;rw[m,f];exact Lib.run_unsafeString_row _ _ _ _ 5 aae aae e t J l a r s λo x n=>y o (iT x) (by rw[cF,n];rfl)
end
def opn(wr:Bool)(l:aH):aH:=if wr then l++[40]else l
def clo(wr:Bool)(l:aH):aH:=if wr then l++[41]else l
def rG:Nat->Ex->Bool->aH->aH
 | 0,_,_,l=>l
 | d+1,x,wr,l=>if 16384<I l then l else clo wr (
  if x.k=1 then opn wr l++Lib.itoa x.n
  else if x.k=2 then opn wr l++x.s
  else if x.k=3 then opn wr l++([105,110,40]++x.s++[41])
  else if x.k=4 then(match x.dD with
   | [y]=>rG d y (decide (cN y<6)) (opn wr l++eY x.op.toNat)
   | _=>l)
  else(match x.dD with
   | [y,z]=>rG d z (decide (cN z<=cN x)) (rG d y (decide (cN y<cN x)) (opn wr l)++([32]++eY x.op.toNat++[32]))
   | _=>l))
section
variable {x:Ex}
def yr{n}{s}{op len}(h:SR n s op len x=aE):x.n=n/\x.s=s/\x.op=op/\I x.dD=len:=by
 simp[SR,aR,dB,bG]at h;exact⟨h.1.1.1,h.1.1.2,h.1.2,h.2⟩
def lm(h:iK x=aE)(hk:x.k=2∨x.k=3):dJ x.s=aE:=by
 have a:x.k≠1:=J
 rw[iK,aP a,aV hk,aR]at h;exact h.1
def wC(h:iK x=aE)(hk:x.k=4):∃y,x.dD=[y]/\(x.op=14∨x.op=15):=by
 rw[iK,aP J,aP J,aV hk]at h;obtain⟨_,_,a,c⟩:=yr h;obtain⟨y,b⟩:=List.length_eq_one_iff.1 (show (I x.dD)=1 by omega);refine⟨y,b,?_⟩;by_cases C:x.op=15
 ·exact .inr C
 rw[aP C]at a;exact .inl a
def rH(h:iK x=aE)(a:x.k≠1)(c:x.k≠2)(d:x.k≠3)(b:x.k≠4):x.k=5/\∃y z,x.dD=[y,z]/\1<=x.op/\x.op<=13:=by
 rw[iK,aP a,aP J,aP b]at h;split at h
 ·rename_i f;rw[aR]at h;obtain⟨e,g⟩:=h;obtain _:=yr g;have e:=by simpa using e
  have l:I x.dD=2:=J
  obtain⟨y,z,i⟩:∃y z,x.dD=[y,z]:=by
   match m:x.dD,l with
   | [y,z],_=>exact⟨y,z,rfl⟩
  refine⟨f,y,z,i,?_⟩;unfold gq at e;refine bQ λn=>e ?_;rw[aP J,aP J,aP J,aP J,aP J,aP J]
 cases h
def jg{s}(h:dJ s=aE):I s<=24:=by
 unfold dJ at h;simp only[aR]at h;exact(aO h.1.1.1).2
def nA n:I (eY n)<=2:=by
 rcases pN n 16 with h | h
 ·have:∀q,q<16->I (eY q)<=2:=Z
  exact this n h
 unfold eY;rw[dG (h)];decide
def P4 wr l:I (opn wr l)<=I l+1:=by
 unfold opn;cases wr<;>simp
def abj wr l:I (clo wr l)<=I l+1:=by
 unfold clo;cases wr<;>simp
def u7:∀d {x:Ex} wr l,da d x=aE->my d x->I (rG d x wr l)<=I l+40*oz d x
 | 0,x,wr,l,h,_=>aal
 | d+1,x,wr,l,h,⟨n,s⟩=>by
  rw[da,aR]at h;obtain⟨b,a⟩:=h;have c:=P4 wr l;rw[rG,oz];split
  ·omega
  refine bD (abj _ _) ?_;split
  ·rw[aQ];have:=Lib.itoa_length_le x.n n.1 n.2;omega
  split
  ·rename_i hk;rw[aQ];have:=jg (lm b (.inl hk));omega
  split
  ·rename_i hk;rw[aQ,aQ,aQ];have:=jg (lm b (.inr hk));simp;omega
  split
  ·rename_i hk;obtain⟨y,h,_⟩:=wC b hk;rw[h]at a s⊢;dsimp only;simp[lj,eo,qV]at a⊢;have:=u7 d (decide (cN y<6)) (opn wr l++eY x.op.toNat) a (s y aag);rw[aQ]at this;have:=nA x.op.toNat;omega
  rename_i k f k3 g;obtain⟨hk,y,z,h,_⟩:=rH b k f k3 g;rw[h]at a s⊢;dsimp only;simp only[lj,eo,qV,aR]at a⊢;have i:=u7 d (decide (cN y<cN x)) (opn wr l) a.1 (s y aag);have e:=u7 d (decide (cN z<=cN x)) (rG d y (decide (cN y<cN x)) (opn wr l)++([32]++eY x.op.toNat++[32])) a.2 (s z aag);rw[aQ,aQ,aQ]at e;have:=nA x.op.toNat;simp only[aY,bC]at e;omega
end
structure Pz (d:Nat) (F G:aJ) (k0 b:Nat) (sub sn:Sl) (subs:List Ex) (w:av) (sl:Sl) (l:aH):Prop where
 pg:Pg G w b sl sn l
 tb:Tb w
 own:k0≠b/\sl.a≠aM ⟨k0,0,aaa⟩/\k0<w.heap.size
 sb:aA (rF d) 6 w F sub subs
 hF:∀k,F k->k<b
 hT:2<b
section
variable {d:Nat} {F G:aJ} {k0 b:Nat} {sx sn sl sl':Sl} {subs:List Ex} {w w' vO:av} {l l':aH}
def Pg.out(h:Pg G w b sl sn l){k}(hk:k<b):¬(k=b∨sl.a=aM ⟨k,0,aaa⟩):=by
 rintro(e | e)
 ·omega
 have:=(h.buf.lt e).1;omega
def Pz.only(h:Pz d F G k0 b sx sn subs w sl l)(a:Q [] w w'):Pz d F G k0 b sx sn subs w' sl l:=by
 have z:=a.size;exact⟨h.pg.only a,h.tb.only a,⟨h.own.1,h.own.2.1,by have:=h.own.2.2;omega⟩,SliceF.only (fD d) Z h.sb a aag,h.hF,h.hT⟩
def Pz.mv(h:Pz d F G k0 b sx sn subs w sl l)(p:Pg G w' b sl' sn l')(m:kc b sl w sl' w'):Pz d F G k0 b sx sn subs w' sl' l'/\cu [k0] w w'/\bT (λk=>k<b∨k=k0) w w':=by
 have z:=m.1.size;obtain⟨o,c,f⟩:=h.own;refine⟨⟨p,h.tb.keep λa=>m.1.block _ a (h.pg.out h.hT),⟨o,λe=>?_,J⟩,SliceF.kU (fD d) Z h.sb m.1 λk hk _=>h.pg.out (h.hF k hk),h.hF,h.hT⟩,m.same o c f,λk hk a=>m.1.block k a ?_⟩
 ·rcases m.2 k0 e with e | e
  ·exact c e
  omega
 rcases hk with hk | rfl
 ·exact h.pg.out hk
 rintro(e | e)
 ·exact o e
 exact c e
def kc.after(h:kc b sl w' sl' vO)(a:Q [] w w'):kc b sl w sl' vO:=(kc.only a).trans h
def Pz.same(h:Pz d F G k0 b sx sn subs w sl l)(a:Q [] w w'):cu [k0] w w':=a.same (by have:=h.own.2.2;simp;omega)
def Pz.sig(h:Pz d F G k0 b sx sn subs w sl l){op}(f:0<=op)(m:op<16):∃ad,cR sn op 1 ad/\aB w ad [X (T (eY op.toNat))]:=by
 have n:=h.pg.sig.len;have o:I yH=16:=rfl;obtain⟨ad,x,s,g,a,j,k,c,e⟩:=h.pg.sig.get f J;subst e;have i:eY op.toNat=x:=by unfold eY;rw[a];rfl
 subst i;exact⟨ad,g,c⟩
def Pz.sub(h:Pz d F G k0 b sx sn subs w sl l){i:Nat}{y}(c:subs[i]? =aM y):∃ad s,cR sx i 6 ad/\ad.block<b/\aB w ad (nR y.k y.n y.s y.op s y.a)/\rF d w F y (nR y.k y.n y.s y.op s y.a):=by
 have o:=h.sb.len;have k:=(bc.1 c).1;obtain⟨ad,x,m,e,g,f,n,j,a⟩:=h.sb.get (ba i) J;rw[aW,c]at g;injection g with g;subst g;obtain⟨s,rfl⟩:=mQ a;exact⟨ad,s,e,h.hF _ f,j,a⟩
end
abbrev PgC(d:Nat):Prop:=∀{G F:aJ} {w:av} {b:Nat} {sl sn:Sl} {l:aH} {x:Ex} {c:aI} wr,da d x=aE->my d x->rF d w F x c->(∀k,F k->k<b)->Tb w->2<b->Pg G w b sl sn l->I l+40*oz d x<=70368744177664->
 az aq 266 #[ae (aM ⟨b,0,aaa⟩),ah c.toArray,aj wr] w λe a=>∃sl',e=ak (ai #[])/\Pg G a b sl' sn (rG d x wr l)/\kc b sl w sl' a
def inb s:ao #[105,110,40]++T s++ao #[41]=T ([105,110,40]++s++[41]):=by
 rw[show ao #[105,110,40]=T [105,110,40]from rfl,show ao #[41]=T [41]from rfl,fJ,fJ]
def blb s:ao #[32]++T s++ao #[32]=T ([32]++s++[32]):=by
 rw[show ao #[32]=T [32]from rfl,fJ,fJ]
def inz c s:(c++T s).size=c.size+I s:=by
 rw[show c=T c.data.toList from JZ c,fJ,cM,cM,aQ]
def nN.mono{P}{f}{a}{w}{Q Q'}(h:nN P f a w Q)(q:∀v b,Q v b->Q' v b):nN P f a w Q':=λc s k=>by
 obtain⟨e,u,b,fr,⟨d,v,g,i⟩,j⟩:=h c s k;exact⟨e,u,b,fr,⟨d,v,g,q _ _ i⟩,j⟩
def yN:∀d,PgC d
 | 0,_,_,_,_,_,_,_,_,_,_,_,_,h,_,_,_,_,_=>h.elim
 | d+1,j,F,p,b,sl,G,l,x,E,wr,t,⟨n,R⟩,⟨f,B,r⟩,m,C,h,hP,N=>by
  subst B;refine(atE ⟨b,0,aaa⟩ x.k x.n (T x.s) x.op f x.a wr (λv w=>∃sl',v=ai #[]/\Pg j w b sl' G (rG (d+1) x wr l)/\kc b sl p sl' w) p ?_).mono (by
   rintro e w ⟨v,rfl,s,rfl,b⟩;exact⟨s,rfl,b⟩)
  have L:rF (d+1) p F x (nR x.k x.n x.s x.op f x.a):=⟨f,rfl,r⟩
  rw[da,aR]at t;obtain⟨a,ha⟩:=t;rw[oz]at N;intro g D H A o;have K:=hP.lb;have c:Pz d F j g b f G x.dD D sl l:=⟨hP.only o,C.only o,⟨J,λe=>acY,A⟩,SliceF.only (fD d) Z r o aag,m,h⟩
  refine(agu c.pg).mono ?_;rintro _ u ⟨rfl,rfl⟩;refine⟨_,rfl,λ_ _=>rfl,λhc=>⟨sl,rfl,?_,(kc.only o)⟩,λhc=>?_⟩
  ·rw[rG,aV aa1];exact c.pg
  have hc:¬16384<I l:=aa6
  have e:rG (d+1) x wr l=clo wr (
  if x.k=1 then opn wr l++Lib.itoa x.n
  else if x.k=2 then opn wr l++x.s
  else if x.k=3 then opn wr l++([105,110,40]++x.s++[41])
  else if x.k=4 then(match x.dD with
   | [y]=>rG d y (decide (cN y<6)) (opn wr l++eY x.op.toNat)
   | _=>l)
  else(match x.dD with
   | [y,z]=>rG d z (decide (cN z<=cN x)) (rG d y (decide (cN y<cN x)) (opn wr l)++([32]++eY x.op.toNat++[32]))
   | _=>l)):=by rw[rG,aP hc]
  have M:=P4 wr l;refine⟨λs=>(abh c.pg 40 J).mono ?_,λs=>?_⟩
  ·rintro _ w2 ⟨T4,rfl,YW,wW⟩;obtain⟨S,MX,_⟩:=c.mv YW wW;have Y8:l++[40]=opn wr l:=by unfold opn;rw[aV s]
   rw[Y8]at S;refine⟨⟨.nilIface,rfl⟩,rfl,MX,?_⟩;have P:∀{T:Sl} {V:av} {W:aH},Pz d F j g b f G x.dD V T W->kc b T4 w2 T V->rG (d+1) x wr l=clo wr W->I W<=I l+40*(1+qV (oz d) x.dD)->nN aq 292 #[ae (aM ((⟨b,0,aaa⟩:Addr).add 0)),.int .u8 41] V λ_ w=>∃sl',(Value.tuple #[])=ai #[]/\Pg j w b sl' G (rG (d+1) x wr l)/\kc b sl p sl' w:=by
    intro T V W i d q x;have hd:=abi i.pg 41 J;refine nN.mono hd ?_;rintro v w ⟨sl',y,b,k⟩;refine⟨sl',rfl,?_,((wW.after o).trans d).trans k⟩;rw[q];unfold clo;rw[aV s];exact b
   refine⟨λhk w3 dh=>?_,λk1=>⟨λhk w7 fR=>?_,λk2=>⟨λhk=>⟨?_,?_,λdz Y=>?_⟩,λk3=>⟨λhk fl eE=>?_,λk4=>(sV (show rF (d+1) _ F x (nR x.k x.n x.s x.op f x.a)from⟨f,rfl,S.sb⟩)).mono ?_⟩⟩⟩⟩
   ·have hk:x.k=1:=aay
    have z:=S.only dh;refine(CM x.n n z.tb).mono ?_;rintro _ w4 ⟨rfl,d⟩;have b:=z.only d;have y:=Lib.itoa_length_le x.n n.1 n.2;refine⟨_,rfl,z.same d,(tw b.pg (Lib.itoa x.n) J).mono ?_⟩;rintro _ V ⟨T,rfl,v,i⟩;obtain⟨k,q,_⟩:=b.mv v i;exact⟨_,⟨.nilIface,rfl⟩,rfl,q,P k ((i.after d).after dh) (by rw[e,aV hk]) ac4⟩
   ·have hk:x.k=2:=aay
    have k1:x.k≠1:=J
    have z:=S.only fR;have q:=jg (lm a (.inl hk));refine(tw z.pg x.s J).mono ?_;rintro _ v ⟨T,rfl,k,b⟩;obtain⟨d,i,_⟩:=z.mv k b;exact⟨_,⟨.nilIface,rfl⟩,rfl,i,P d (b.after fR) (by rw[e,aP k1,aV hk]) ac4⟩
   ·have hk:x.k=3:=aay
    have b:=jg (lm a (.inr hk));rw[cM];omega
   ·have hk:x.k=3:=aay
    have b:=jg (lm a (.inr hk));rw[inz];have:(ao #[105,110,40]).size=3:=rfl;omega
   ·have hk:x.k=3:=aay
    have y:=jg (lm a (.inr hk));have d:=S.only Y;have z:I ([105,110,40]++x.s++[41]:aH)=I x.s+4:=by
     rw[aQ,aQ];simp only[aY,bC];omega
    rw[inb];refine(tw d.pg _ J).mono ?_;rintro _ v ⟨T,rfl,q,b⟩;obtain⟨i,k,_⟩:=d.mv q b;exact⟨_,⟨.nilIface,rfl⟩,rfl,k,P i (b.after Y) (by rw[e,aP J,aP J,aV hk]) ac4⟩
   ·have hk:x.k=4:=aay
    obtain⟨y,hy,rZ⟩:=wC a hk;have cc:qV (oz d) x.dD=oz d y:=afZ
    have v:da d y=aE:=acN
    have FW:my d y:=R y adJ;have Zb:=nA x.op.toNat;have Jj:=S.only eE;obtain⟨q,hq,hB⟩:=Jj.pg.blk;obtain⟨ad,g1,g2⟩:=Jj.sig (op:=x.op) J J;refine⟨G,Blk.dP hB 2 rfl,ad,g1,_,g2,(tw Jj.pg (eY x.op.toNat) J).mono ?_⟩;rintro _ gw ⟨T7,rfl,am,Zc⟩;obtain⟨aC,aS,_⟩:=Jj.mv am Zc;refine⟨_,⟨.nilIface,rfl⟩,rfl,aS,λij iG=>?_⟩;have OQ:=aC.only iG;obtain⟨p1,sy,e1,e2,e3,e4⟩:=OQ.sub (i:=0) (y:=y) adI;refine⟨λk=>k<b∨k=g,.inr rfl,p1,e1,.inl e2,_,_,_,_,_,_,e3,p1,e1,_,_,_,_,_,_,e3,(sV e4).mono ?_⟩;rintro _ jw ⟨rfl,z⟩;have OS:=OQ.only z;have R5:=u7 d (decide (cN y<6)) (opn wr l++eY x.op.toNat) v FW;rw[aQ]at R5;refine⟨_,rfl,OQ.same z,bT.only z,(yN d (decide (cN y<6)) v FW (ix e4 z) m OS.tb h OS.pg ac4).mono ?_⟩;rintro _ iX ⟨ce,rfl,aT,Zd⟩;obtain⟨bv,bV,bY⟩:=OS.mv aT Zd;exact⟨rfl,bV,bY,P bv ((Zc.after eE).trans ((Zd.after z).after iG)) (by rw[e,aP J,aP J,aP J,aV hk,hy]) J⟩
   rintro _ lZ ⟨rfl,lQ⟩;have k1:x.k≠1:=aeJ
   have k2:x.k≠2:=ahI
   have k3:x.k≠3:=aeM
   have k4:x.k≠4:=aeN
   obtain⟨hk,y,z,hy,YV,OB⟩:=rH a k1 k2 k3 k4;have iF:qV (oz d) x.dD=oz d y+oz d z:=afZ
   have BH:da d y=aE/\da d z=aE:=acN
   have FW:my d y:=R y adJ;have UO:my d z:=R z adJ;have Zb:=nA x.op.toNat;have fd:=S.only lQ;refine⟨_,rfl,S.same lQ,λkg lr=>?_⟩;have OT:=fd.only lr;obtain⟨p1,sy,e1,e2,e3,e4⟩:=OT.sub (i:=0) (y:=y) adI;refine⟨λk=>k<b∨k=g,.inr rfl,p1,e1,.inl e2,_,_,_,_,_,_,e3,p1,e1,_,_,_,_,_,_,e3,(sV e4).mono ?_⟩;rintro _ nj ⟨rfl,v⟩;have OU:=OT.only v;have R5:=u7 d (decide (cN y<cN x)) (opn wr l) BH.1 FW;refine⟨_,rfl,OT.same v,bT.only v,(yN d (decide (cN y<cN x)) BH.1 FW (ix e4 v) m OU.tb h OU.pg J).mono ?_⟩;rintro _ pI ⟨iN,rfl,gE,Ze⟩;obtain⟨gG,gO,gT⟩:=OU.mv gE Ze;refine⟨rfl,gO,gT,λth uu=>?_⟩;have Jk:=gG.only uu;obtain⟨q,hq,hB⟩:=Jk.pg.blk;obtain⟨ad,g1,g2⟩:=Jk.sig (op:=x.op) J J;have yW:I ([32]++eY x.op.toNat++[32]:aH)=I (eY x.op.toNat)+2:=by
    rw[aQ,aQ];simp only[aY,bC];omega
   have wV:(ao #[32]).size=1:=rfl;refine⟨G,Blk.dP hB 2 rfl,ad,g1,_,g2,aa2,by rw[inz];omega,?_⟩;rw[blb];refine(tw Jk.pg _ J).mono ?_;rintro _ uF ⟨iS,rfl,g8,Zf⟩;obtain⟨ip,iD,_⟩:=Jk.mv g8 Zf;refine⟨_,⟨.nilIface,rfl⟩,rfl,iD,λqL wZ=>?_⟩;have OW:=ip.only wZ;obtain⟨p2,sz,f1,f2,f3,f4⟩:=OW.sub (i:=1) (y:=z) adI;refine⟨λk=>k<b∨k=g,.inr rfl,p2,f1,.inl f2,_,_,_,_,_,_,f3,p2,f1,_,_,_,_,_,_,f3,(sV f4).mono ?_⟩;rintro _ sC ⟨rfl,lR⟩;have OX:=OW.only lR;have co:=u7 d (decide (cN z<=cN x)) (rG d y (decide (cN y<cN x)) (opn wr l)++([32]++eY x.op.toNat++[32])) BH.2 UO;rw[aQ,yW]at co;refine⟨_,rfl,OW.same lR,bT.only lR,(yN d (decide (cN z<=cN x)) BH.2 UO (ix f4 lR) m OX.tb h OX.pg (by rw[aQ,yW];omega)).mono ?_⟩;rintro _ vP ⟨lE,rfl,cC,Zg⟩;obtain⟨dO,el,eQ⟩:=OX.mv cC Zg;exact⟨rfl,el,eQ,P dO (((Ze.after v).after lr).after lQ |>.trans ((Zf.after uu).trans ((Zg.after lR).after wZ))) (by rw[e,aP k1,aP k2,aP k3,aP k4,hy]) J⟩
  have Y8:l=opn wr l:=by unfold opn;rw[s];rfl
  have P:Pz d F j g b f G x.dD u sl (opn wr l):=by rw[<-Y8];exact c
  have v:∀{S:Sl} {T:av} {V:aH},Pz d F j g b f G x.dD T S V->kc b sl u S T->rG (d+1) x wr l=clo wr V->I V<=I l+40*(1+qV (oz d) x.dD)->∃sl',(Value.tuple #[])=ai #[]/\Pg j T b sl' G (rG (d+1) x wr l)/\kc b sl p sl' T:=by
   intro S T V d b i k;refine⟨S,rfl,?_,b.after o⟩;rw[i];unfold clo;rw[s];exact d.pg
  refine⟨λhk w3 Y=>?_,λk1=>⟨λhk w7 fR=>?_,λk2=>⟨λhk=>⟨?_,?_,λdz W=>?_⟩,λk3=>⟨λhk fl eE=>?_,λk4=>(sV (show rF (d+1) _ F x (nR x.k x.n x.s x.op f x.a)from⟨f,rfl,P.sb⟩)).mono ?_⟩⟩⟩⟩
  ·have hk:x.k=1:=aay
   have z:=P.only Y;refine(CM x.n n z.tb).mono ?_;rintro _ w4 ⟨rfl,d⟩;have b:=z.only d;have hl:=Lib.itoa_length_le x.n n.1 n.2;refine⟨_,rfl,z.same d,(tw b.pg (Lib.itoa x.n) J).mono ?_⟩;rintro _ T ⟨S,rfl,y,i⟩;obtain⟨k,q,_⟩:=b.mv y i;exact⟨_,⟨.nilIface,rfl⟩,rfl,q,v k ((i.after d).after Y) (by rw[e,aV hk]) ac4⟩
  ·have hk:x.k=2:=aay
   have k1:x.k≠1:=J
   have z:=P.only fR;have q:=jg (lm a (.inl hk));refine(tw z.pg x.s J).mono ?_;rintro _ y ⟨S,rfl,k,b⟩;obtain⟨d,i,_⟩:=z.mv k b;exact⟨_,⟨.nilIface,rfl⟩,rfl,i,v d (b.after fR) (by rw[e,aP k1,aV hk]) ac4⟩
  ·have hk:x.k=3:=aay
   have b:=jg (lm a (.inr hk));rw[cM];omega
  ·have hk:x.k=3:=aay
   have b:=jg (lm a (.inr hk));rw[inz];have:(ao #[105,110,40]).size=3:=rfl;omega
  ·have hk:x.k=3:=aay
   have z:=jg (lm a (.inr hk));have d:=P.only W;have yW:I ([105,110,40]++x.s++[41]:aH)=I x.s+4:=by
    rw[aQ,aQ];simp only[aY,bC];omega
   rw[inb];refine(tw d.pg _ J).mono ?_;rintro _ y ⟨S,rfl,q,b⟩;obtain⟨i,k,_⟩:=d.mv q b;exact⟨_,⟨.nilIface,rfl⟩,rfl,k,v i (b.after W) (by rw[e,aP J,aP J,aV hk]) ac4⟩
  ·have hk:x.k=4:=aay
   obtain⟨y,hy,rZ⟩:=wC a hk;have oR:qV (oz d) x.dD=oz d y:=afZ
   have z:da d y=aE:=acN
   have FW:my d y:=R y adJ;have Zb:=nA x.op.toNat;have Jj:=P.only eE;obtain⟨q,hq,hB⟩:=Jj.pg.blk;obtain⟨ad,g1,g2⟩:=Jj.sig (op:=x.op) J J;refine⟨G,Blk.dP hB 2 rfl,ad,g1,_,g2,(tw Jj.pg (eY x.op.toNat) J).mono ?_⟩;rintro _ gw ⟨T7,rfl,lT,Zc⟩;obtain⟨mt,mK,_⟩:=Jj.mv lT Zc;refine⟨_,⟨.nilIface,rfl⟩,rfl,mK,λij iG=>?_⟩;have OQ:=mt.only iG;obtain⟨p1,sy,e1,e2,e3,e4⟩:=OQ.sub (i:=0) (y:=y) adI;refine⟨λk=>k<b∨k=g,.inr rfl,p1,e1,.inl e2,_,_,_,_,_,_,e3,p1,e1,_,_,_,_,_,_,e3,(sV e4).mono ?_⟩;rintro _ jw ⟨rfl,jF⟩;have OS:=OQ.only jF;have R5:=u7 d (decide (cN y<6)) (opn wr l++eY x.op.toNat) z FW;rw[aQ]at R5;refine⟨_,rfl,OQ.same jF,bT.only jF,(yN d (decide (cN y<6)) z FW (ix e4 jF) m OS.tb h OS.pg ac4).mono ?_⟩;rintro _ iX ⟨pi,rfl,nO,Zd⟩;obtain⟨n8,oF,oN⟩:=OS.mv nO Zd;exact⟨rfl,oF,oN,v n8 ((Zc.after eE).trans ((Zd.after jF).after iG)) (by rw[e,aP J,aP J,aP J,aV hk,hy]) J⟩
  rintro _ lZ ⟨rfl,lQ⟩;have k1:x.k≠1:=aeJ
  have k2:x.k≠2:=ahI
  have k3:x.k≠3:=aeM
  have k4:x.k≠4:=aeN
  obtain⟨hk,y,z,hy,YV,OB⟩:=rH a k1 k2 k3 k4;have BV:qV (oz d) x.dD=oz d y+oz d z:=afZ
  have BH:da d y=aE/\da d z=aE:=acN
  have FW:my d y:=R y adJ;have UO:my d z:=R z adJ;have Zb:=nA x.op.toNat;have uP:=P.only lQ;refine⟨_,rfl,P.same lQ,λkg lr=>?_⟩;have OT:=uP.only lr;obtain⟨p1,sy,e1,e2,e3,e4⟩:=OT.sub (i:=0) (y:=y) adI;refine⟨λk=>k<b∨k=g,.inr rfl,p1,e1,.inl e2,_,_,_,_,_,_,e3,p1,e1,_,_,_,_,_,_,e3,(sV e4).mono ?_⟩;rintro _ nj ⟨rfl,jN⟩;have OU:=OT.only jN;have R5:=u7 d (decide (cN y<cN x)) (opn wr l) BH.1 FW;refine⟨_,rfl,OT.same jN,bT.only jN,(yN d (decide (cN y<cN x)) BH.1 FW (ix e4 jN) m OU.tb h OU.pg J).mono ?_⟩;rintro _ pI ⟨BY,rfl,wd,Ze⟩;obtain⟨As,AC,AS⟩:=OU.mv wd Ze;refine⟨rfl,AC,AS,λth uu=>?_⟩;have Jk:=As.only uu;obtain⟨q,hq,hB⟩:=Jk.pg.blk;obtain⟨ad,g1,g2⟩:=Jk.sig (op:=x.op) J J;have yW:I ([32]++eY x.op.toNat++[32]:aH)=I (eY x.op.toNat)+2:=by
   rw[aQ,aQ];simp only[aY,bC];omega
  have wV:(ao #[32]).size=1:=rfl;refine⟨G,Blk.dP hB 2 rfl,ad,g1,_,g2,aa2,by rw[inz];omega,?_⟩;rw[blb];refine(tw Jk.pg _ J).mono ?_;rintro _ uF ⟨Cc,rfl,AT,Zf⟩;obtain⟨Bv,By,_⟩:=Jk.mv AT Zf;refine⟨_,⟨.nilIface,rfl⟩,rfl,By,λqL wZ=>?_⟩;have OW:=Bv.only wZ;obtain⟨p2,sz,f1,f2,f3,f4⟩:=OW.sub (i:=1) (y:=z) adI;refine⟨λk=>k<b∨k=g,.inr rfl,p2,f1,.inl f2,_,_,_,_,_,_,f3,p2,f1,_,_,_,_,_,_,f3,(sV f4).mono ?_⟩;rintro _ sC ⟨rfl,lR⟩;have OX:=OW.only lR;have pm:=u7 d (decide (cN z<=cN x)) (rG d y (decide (cN y<cN x)) (opn wr l)++([32]++eY x.op.toNat++[32])) BH.2 UO;rw[aQ,yW]at pm;refine⟨_,rfl,OW.same lR,bT.only lR,(yN d (decide (cN z<=cN x)) BH.2 UO (ix f4 lR) m OX.tb h OX.pg (by rw[aQ,yW];omega)).mono ?_⟩;rintro _ vP ⟨CC,rfl,pP,Zg⟩;obtain⟨rx,tO,ut⟩:=OX.mv pP Zg;exact⟨rfl,tO,ut,v rx (((Ze.after jN).after lr).after lQ |>.trans ((Zf.after uu).trans ((Zg.after lR).after wZ))) (by rw[e,aP k1,aP k2,aP k3,aP k4,hy]) J⟩
end Go.Proofs.YtfemabakfkliiaaGreatDoor.Con
