import Derived.Test.YteoblgpbapdhiaaGreatDoorQg5
set_option maxHeartbeats 4000000
set_option maxRecDepth 100000
set_option linter.all false
open Go.Proofs
open Bool renaming true->aE,false->aL
open Option renaming some->aM,none->VM
open List renaming length->WS
open Decidable renaming decide->JW
open Go.Value renaming int->O,string->ab,pointer->ae,agg->ah,tuple->ai,bool->aj
open Go.IntKind renaming i64->U,wrap->ar
open Go.Ending renaming returned->ak
open _root_.ByteArray renaming mk->ao
open _root_.Go.Proofs.Tryz renaming prog->aq
open Go.Instr renaming buildSlice->au
open Go renaming World->av,Value->aw,Calls->az
open Go.Kt renaming Only->ay,SliceF->aA,Cells->aB,OnlyP->aD,Blk->aF
namespace Con
open Go Go.RowKit Go.Kt Go.Kt.V Vc
def Yt{n}(h:0<=n)(a:n<=18446744073709551615):ar .u64 n=n:=by
 have:ar .u64 n=n % 18446744073709551616:=I;omega
def Ut w {n} (h:ri n):az aq 149 #[n] w λe a=>e=ab (T<|Lib.itoa n)/\ay [] w a:=by
 let⟨d,b⟩:=h;by_cases c:0<=n
 .exact j4 w c b
 refine ret<|X8 ⟨R,λg=>⟨λW=>?_,A⟩⟩;let s:=by
  refine ret<|Yp n (λv a=>v=.int .u64 (-n)/\a=w) w ⟨λ_=>⟨?_,I⟩,A⟩;rw[eI (x:=n+1) X X,eI X X,Yt (n:=0-_) X X,Yt X X];congr 1;omega
 refine s.mono ?_;rintro _ e ⟨rfl,u⟩;obtain rfl:w=e:=u.symm;obtain⟨k,hk⟩:∃k:Nat, -n=k:=⟨(-n).toNat,X⟩
 rw[hk];refine⟨_,I,(IK k w X).mono ?_⟩;rintro _ i ⟨rfl,U⟩;let f:¬k=0:=X
 have:=wo k X;rw[Q f];refine⟨_,I,Hn,?_,U⟩;unfold Lib.itoa;rw[E X,show n.natAbs=k by omega];rfl
def Uu{n}(h:ri n):WS (Lib.itoa n)<=41:=by
 let⟨a,b⟩:=h;unfold Lib.itoa;split
 .rw[aY];have:=wo n.natAbs X;omega
 have:=wo n.toNat X;omega
section
variable{w:av}{F:h}
def Rh x:WS (zM x)<=16384:=KA x
theorem Yu{y}(h:y.k=1):[115,101,116,32]++y.n++[32,61,32]++zM y.x++[59]=Ev y:=by
 unfold Ev;rw[Q X,E h];simp[uR]
theorem Yw{y}(h:y.k=2):[114,97,105,115,101,32]++y.n++[59]=Ev y:=by
 unfold Ev;rw[E h];rfl
theorem Yy{y}(h:y.k≠1)(a:y.k≠2):[101,109,105,116,32]++y.n++[32,61,32]++zM y.x++[59]=Ev y:=by
 unfold Ev;rw[Q a,Q h];simp[ol]
theorem Ri y:WS (Ev y)<=LV y+16500:=by
 have:=Rh y.x;unfold LV;by_cases h:y.k=1
 .rw[<-Yu h];simp;omega
 by_cases a:y.k=2
 .rw[<-Yw a];simp;omega
 rw[<-Yy h a];simp;omega
theorem eo a:∀l,Be (l++[a])=Be l++(32::Ev a)
 |[]=>by simp[Be]
 |b::l=>by rw[bZ,Be,Be,eo a l];simp
def al4{y}{cs}(x:wI aL w F y cs)(n:Il y)(s:LV y<=8388608):
  az aq 244 #[ah cs] w λe t=>e=ab (T<|Ev y)/\ay [] w t:=by
 have d:=Ri y;obtain⟨M,rfl,C⟩:=x;obtain⟨O,rfl⟩:=fK C;unfold LV at s d;have:=Rh y.x;refine ret<|asE ?_;let f:_=T [115,101,116,32]:=I;let g:_=T [32,61,32]:=I;let i:_=T [59]:=I;let j:_=T [114,97,105,115,101,32]:=I;let p:_=T [101,109,105,116,32]:=I;simp only[f,g,i,j,p,gA,cE];let E:∀{u:av},ay [] w u->rE aL u F y.x _:=λh=>(jI aL).keep C λk _ J=>h.block k J N;let a:∀{l m:L},WS (l++m)=WS l+WS m:=aU;refine⟨λh1 q D H v b=>⟨λk=>k=q,I,X,R,(K4 (E b) n X).mono ?_⟩,λh1=>⟨λh2=>⟨X,by rw[a];simp;omega,λz G _ _ h=>⟨by rw[Yw ZY],h⟩⟩,λh2 r K P A c=>⟨λk=>k=r,I,X,by rw[a];simp;omega,(K4 (E c) n X).mono ?_⟩⟩⟩
 .rintro _ w ⟨rfl,U⟩;refine⟨_,I,U.same o,ZX U,?_,?_,by rw[gA,gA,Yu Q1],b.bG U⟩
  .rw[cE];simp;omega
  rw[gA,cE];simp;omega
 rintro _ w ⟨rfl,U⟩;refine⟨_,I,U.same o,ZX U,?_,?_,by rw[gA,gA,Yy Q1 ZY],c.bG U⟩
 .rw[cE];simp;omega
 rw[gA,cE];simp;omega
theorem K7:∀l,lP l<=1048576->WS (Be l)<=WS l*1065080
 |[],_=>bE _
 |a::l,h=>by
  have:=Ri a;have:LV a<=lP (a::l):=ve N;have:lP l<=lP (a::l):=by rw[lP];omega
  have:=K7 l X;rw[Be,aY,aU,aY,iX];omega
def GC{l}{ud}(b:lq aL (wI aL) 9 201 w F l ud)(n:∀y∈ud,Il y)(g:lP ud<=1048576):
  az aq 196 #[l] w λe c=>e=ab (T<|Cj ud)/\ay [] w c:=by
 refine ret<|asg<|have:=b.1.len;have:=iz ud;let kp:∀{u:av},ay [] w u->aA _ 9 u F l ud:=λh=>ZH (dU aL) Z b.1 h N;⟨λk s i u=>∃(j:Nat) (t:L),s=T t/\t=123::Be (ud.take j)/\i=j/\k+j=WS ud/\j<=WS ud/\WS t<=1+j*1065080/\ay [] w u,WS ud,⟨0,[123],I,I,I,X,X,N,qE _ _⟩,?_⟩;rintro k _ _ q ⟨j,t,rfl,a,rfl,p,f,m,h⟩;refine⟨λo=>?_,λo=>?_⟩
 .have o:=S o;let⟨ad,y,v,r,e,x,z,s,l⟩:=(kp h).get (bf j) X;rw[aV]at e;let w:=be e;have:=ve w;let G:=l;obtain⟨E,rfl,C⟩:=l;obtain⟨F,rfl⟩:=fK C;refine⟨Hn,ad,r,_,_,_,_,_,_,_,_,_,s,(al4 G (n y w) X).mono ?_⟩;rintro _ B ⟨rfl,U⟩;have:=Ri y;let D:WS (t++[32]++Ev y)<=1+(j+1)*1065080:=by
   grind
  refine⟨_,I,?_,k-1,X,j+1,t++[32]++Ev y,?_,by rw[aX,e,a];show _=123::Be (ud.take j++[y]);rw[eo];simp,N0,X,X,D,h.bG U⟩
  .rw[show(ao #[32])=T [32]from rfl,gA,cE,cE,aU,bI];omega
  rfl
 let o:=aQ o;have e:j=WS ud:=X
 subst e;refine⟨Hn,?_,h⟩;rw[show(ao #[32,125])=T [32,125]from rfl,gA,a,dA];rfl
def mW:J (L)->L
 |[]=>[]
 |s::l=>32::45::62::32::(s++Ik l)
theorem OE s:∀l,Ik (l++[s])=Ik l++[44,32]++s
 |[]=>by simp[Ik]
 |b::l=>by rw[bZ,Ik,Ik,OE s l];simp
theorem abH s:∀l,mW (l++[s])=mW l++(if l=[]then[32,45,62,32]else[44,32])++s
 |[]=>by simp[mW,Ik]
 |b::l=>by rw[bZ,mW,mW,OE s l,Q N];simp
theorem al5 m:VN m++XS m++(if m.acts=[]then[]else 32::Cj m.acts)++mW m.tg++[59]=Hd m:=by
 unfold Hd;cases m.tg<;>simp[mW]
def agK{x}{g}(hx:Nq aL w F x g)(n:Ys x)(hs:He x<=1048576):
  az aq 197 #[ah g] w λe d=>e=ab (T<|Hd x)/\WS (Hd x)<=3000000000000/\ay [] w d:=by
 obtain⟨gc,uv,B,rfl,q,A,r⟩:=hx;obtain⟨gs,rfl⟩:=fK q;unfold He at hs;let b:ri x.wt:=n.w;refine((ash x.k (T x.ev) x.wt x.gd x.g.k x.g.n (T x.g.s) x.g.op gs x.g.a uv B x.a (λv d=>v=(T<|Hd x)/\WS (Hd x)<=3000000000000/\ay [] w d) w ?_)).mono (by rintro _ d ⟨v,rfl,rfl,a,h'⟩;exact⟨I,a,h'⟩);intro k0 J fH dC f;have:=f.size;let sm:∀{u C:av},J.heap.size<=u.heap.size->ay [] u C->bX [k0] u C:=λhz h=>h.same o;let bJ:∀{u:av},ay [] w u->aA oK 1 u F B x.tg:=λh=>ZH dI Z r.1 h N;have:=Rh x.g;have:=iz x.acts;have:=wh x.tg;have D:=A.1.len;have:=r.1.len;let St (V:Nat) (v:L):M->av->Prop:=λs u=>∃t:L,s=T t/\WS t<=V/\ay [] w u/\J.heap.size<=u.heap.size/\t=v
 refine⟨St 1048600 (if x.k=1 then Et++32::x.ev else iQ),λs0 w1 ⟨t0,W,c,o0,K,v0⟩=>⟨St 1048700<|VN x,λs1 w2 ⟨y,m,h1,i,P,G⟩=>⟨St 1066000<|VN x++XS x,λs2 w3 ⟨z,p,h2,j,R,H⟩=>⟨St 1117000000000<|VN x++XS x++(if x.acts=[]then[]else 32::Cj x.acts),λs3 w4 ⟨l,Y,h3,o3,y3,v3⟩=>?_,λhc=>?_,λhc=>⟨z,p,X,j,R,?_⟩⟩,λhc=>?_,λhc=>⟨y,m,X,i,P,?_⟩⟩,λhc=>?_,λhc=>⟨t0,W,X,o0,K,?_⟩⟩,λhc=>?_,λhc=>⟨[97,108,119,97,121,115],I,Z,f,bc _,by rw[Q WH];rfl⟩⟩
 .subst Y;refine⟨λkv s aC u=>∃(k:Nat) (t:L),s=T t/\t=l++mW (x.tg.take k)/\aC=(k:Int)/\kv+k=WS x.tg/\k<=WS x.tg/\WS t<=1117000000000+k*1048590/\ay [] w u,WS x.tg,⟨0,l,I,by rw[cr,mW,bq],I,X,bE _,X,o3⟩,?_⟩;rintro kv _ _ w5 ⟨k,t,rfl,et,rfl,me,hj,ht,h⟩;refine⟨λv=>⟨λs u=>∃F:L,s=T F/\WS F<=WS t+4/\u=w5/\F=t++(if k=0 then[32,45,62,32]else[44,32]),?_,λc=>⟨Hn,t++[32,45,62,32],by rw[show Kay=T [32,45,62,32]from rfl,gA],N,I,by rw[E (by simpa using c)]⟩,λc=>⟨Hn,t++[44,32],by rw[show(ao #[44,32])=T [44,32]from rfl,gA],N,I,by rw[Q (by simpa using c)]⟩⟩,λv=>?_⟩
  .have v:=S v;rintro _ w6 ⟨F,rfl,aS,hw,t⟩;obtain rfl:w5=w6:=hw.symm;let⟨ad,s,g,g1,w,g3,g4,g5,T⟩:=(bJ h).get (bf k) X;rw[aV]at w;have:=KC<|be w;have T:=T;subst T;refine⟨ad,g1,_,g5,by rw[cE,cE];omega,kv-1,X,k+1,F++s,by rw[gA],?_,N0,X,X,?_,h⟩
   .rw[aX,w,t,et];show _=l++mW (x.tg.take k++[s]);rw[abH];let e:(x.tg.take k=[])↔k=0:=by
     constructor
     .intro a;have:=bn List.length a;rw[dj,ck]at this;omega
     intro a;rw[a,cr]
    simp[e,bp]
   rw[aU,iX];omega
  let v:=aQ v;have s:k=WS x.tg:=X
  subst s;rw[dA]at et;let e:t++[59]=Hd x:=by rw[et,v3,al5]
  refine⟨Hn,by rw[show(ao #[59])=T [59]from rfl,gA,e],?_,h⟩;rw[<-e,aU,bI];have:WS x.tg*1048590<=1048576*1048590:=X
  omega
 .subst p;have:WS x.acts*1065080<=1048576*1065080:=X
  refine⟨Hn,(GC (A.keep (dU aL) Z λk _ t=>j.block k t N) n.a X).mono ?_⟩;rintro _ F ⟨rfl,s⟩;have w:WS (Cj x.acts)<=3+WS x.acts*1065080:=by
   have:=K7 x.acts X;unfold Cj;rw[aY,aU];simp[aY,ck];omega
  have:=s.size;refine⟨_,I,sm R s,?_,z++[32]++Cj x.acts,by rw[show(ao #[32])=T [32]from rfl,gA,gA],?_,j.bG s,X,?_⟩
  .rw[show(ao #[32])=T [32]from rfl,gA,cE,cE,aU,bI];omega
  .rw[aU,aU,bI];omega
  let hc:=S hc;rw[H,Q<|λe=>by rw[e]at D;simp at D;omega];simp
 .have hc:=aQ hc;rw[H,E<|cM X,bq]
 .subst m;refine⟨Hn,(K4 ((jI aL).keep q λk _ s=>i.block k s N) n.1 X).mono ?_⟩;rintro _ w ⟨rfl,e⟩;have:=e.size;refine⟨_,I,sm P e,?_,?_,y++[32,91]++zM x.g++[93],by rw[show Kaz=T [32,91]from rfl,show(ao #[93])=T [93]from rfl,gA,gA,gA],?_,i.bG e,X,by rw[G];unfold XS;rw[hc,E I];simp⟩
  .rw[show Kaz=T [32,91]from rfl,gA,cE,cE,aU];simp[aY,ck];omega
  .rw[show Kaz=T [32,91]from rfl,gA,gA,cE,aU,aU];simp[aY,ck];omega
  simp;omega
 .rw[G];unfold XS;rw[hc,Q N,bq]
 .refine(Ut w1 b).mono ?_;rintro _ w ⟨rfl,e⟩;have:=e.size;have:=Uu b;refine⟨_,I,sm K e,Hn,[97,102,116,101,114,32]++Lib.itoa x.wt,by rw[show Ka0=T [97,102,116,101,114,32]from rfl,gA],?_,o0.bG e,X,?_⟩
  .rw[aU];simp[aY,ck];omega
  let hc:x.k=3:=WH
  unfold VN;rw[Q X,E hc];simp[jy]
 .have hc:¬x.k=3:=WH
  rw[v0];unfold VN;rw[Q hc]
 refine⟨Hn,[111,110,32]++x.ev,by rw[show(ao #[111,110,32])=T [111,110,32]from rfl,gA],?_,f,X,?_⟩
 .rw[aU];simp[aY,ck];omega
 rw[E WH];simp[Et]
end
structure Prg (w:av) (b:Nat) (sl:Sl) (l:L):Prop where
 blk:aF w b 221 [sl]
 buf:Bf w (b+1) sl l
section
variable{w w0 w1 w2 w':av}{b k0:Nat}{sl sl' Xr:Sl}{l:L}
def Prg.only(h:Prg w b sl l)(O:ay [] w w'):Prg w' b sl l:=⟨O.blk h.blk N,h.buf.keep λg _ a=>O.block g a N⟩
def Prg.lb(h:Prg w b sl l):b<w:=h.blk.lt
theorem Prg.far(h:Prg w b sl l){k}(hk:k<b):¬(k=b∨sl.a=aM ⟨k,0,VM⟩):=by
 rintro(e|e)
 .omega
 have:=(h.buf.lt e).1;omega
theorem Prg.put{s'}{m}{e:TypeId}(h:Prg w b sl l)(a:Bf w1 (b+1) s' m)(k3:aD (λk=>sl.a=aM ⟨k,0,VM⟩) w w1)(i:∀k,s'.a=aM ⟨k,0,VM⟩->sl.a=aM ⟨k,0,VM⟩∨w<=k):
  aF w1 b 221 [sl]/\∀w2,ay [b] w1 w2->aF w2 b 221 [s']->Prg w2 b s' m/\kw b sl w s' w2:=by
 refine⟨k3.blk h.blk λe=>by have:=(h.buf.lt e).1;omega,λw2 c o=>⟨⟨o,a.keep λg d f=>c.block g f<|by have:=(a.lt d).1;simp;omega⟩,(k3.mono λk _ hk=>.inr hk).trans (c.p (F:=λk=>k=b) λx hx=>.inl ND) λk hk=>.inl<|.inl hk,i⟩⟩
theorem ZS{B}(h:Bf w B sl l) cs {n} {parts} (p:parts=(((cs.map jq).zipIdx 0).map λx=>(x.2,x.1)).toArray) (c:WS cs=n) (a:0<n) (A:n*1<=16777216) (u:B<=w) (z:WS l+WS cs<=140737488355328):
  ∃y w1,(au 204 n parts).run aq w=.ok (Sl.v y) w1/\ay [] w w1/\∃s w2,(Builtin.append_ #[204,204] 204 #[Sl.v sl,Sl.v y]).run aq w1=.ok (Sl.v s) w2/\Bf w2 B s (l++cs)/\
   aD (λk=>sl.a=aM ⟨k,0,VM⟩) w w2/\∀k,s.a=aM ⟨k,0,VM⟩->sl.a=aM ⟨k,0,VM⟩∨w<=k:=by
 let⟨y,w1,d,f,k3,_⟩:=xF w cs p c a A;have:=k3.size;let⟨s,w2,m,j,q,o,C,D⟩:=rA (P:=aq) (t:=204) (ty:=204) (e:=5) (i:=Tryz.t5) (bytes:=1) (size:=1) (r:=lY) FQ Kf I I I I uA ((h.keep λg v b=>k3.block g b N).own λ_=>True) ((Dw f).mono uA λk hk=>⟨trivial,λe=>by have:=(h.lt e).2;have:=hk.1;omega⟩) X X Z;refine⟨y,w1,d,k3,s,w2,m,Bf.of j R,k3.ph<|o.p R,λk hk=>?_⟩
 grind
theorem fqG:∀d,xQ (d+1)=xQ d++[32,32]
 |0=>rfl
 |d+1=>by
  show 32::32::xQ _=(32::32::xQ d)++[32,32]
  rw[fqG d];rfl
theorem K8:∀d,WS (xQ d)=2*d
 |0=>rfl
 |d+1=>by rw[xQ,aY,aY,K8 d];omega
theorem x7{l m}{d}(h:WS l<=4000000000000)(hd:d<=4194304)(a:WS m<=3000000000010):WS (mA l (d,m))<=4000000000000:=by
 rw[mA];split
 .exact h
 rw[Wb,aU,aU,aU,K8];simp;omega
theorem qq(h:Prg w b sl l){d:Nat}(a:d<=4194304) m (c:WS m<=3000000000010):
  az aq 148 #[b,O U d,(T m)] w λe w'=>e=ai #[]/\∃sl',Prg w' b sl' (mA l (d,m))/\kw b sl w sl' w':=by
 refine ret<|arO<|have:=h.buf.len;⟨sl,Hl h.blk 0 I,λhc=>⟨I,sl,?_,V9 ..⟩,λhc=>?_⟩
 .have hc:=S hc;rw[mA]
  grind
 have:=YD
 let p:mA l (d,m)=l++xQ d++m++[10]:=by
  unfold mA Wb
  grind
 rw[p];refine⟨λk i u=>∃(j:Nat) (q:Sl),i=j/\k+j=d/\Prg u b q (l++xQ j)/\kw b sl w q u,d,⟨0,sl,I,X,by rw[xQ,bq];exact h,V9 ..⟩,?_⟩;rintro k _ w0 ⟨j,q,rfl,g,P,M⟩;have:=P.lb;have:WS (l++xQ j)<=16384+2*j:=by rw[aU,K8];omega
 refine⟨λo=>?_,λo=>?_⟩
 .have o:=S o;let⟨y,w1,d,E,s,w2,l,m,r,v⟩:=ZS P.buf [32,32] (n:=2) (parts:=#[.mk 0 _,.mk 1 _]) I I Z Z X R;let⟨w,x⟩:=P.put (e:=0) m r v;exact⟨q,Hl P.blk 0 I,y,w1,d,s,w2,l,b,0,_,_,I,w,bc 1,λC N D=>let⟨z,A⟩:=x C N D;⟨k-1,X,j+1,s,N0,X,by rw[fqG,<-bp];exact z,M.trans A⟩⟩
 let o:=aQ o;have T:j=d:=X
 subst T;let⟨s,w1,L,N,k3,k4⟩:=Ep P.buf m X X;let⟨D,E⟩:=P.put (e:=0) N k3 R;refine⟨q,Hl P.blk 0 I,s,w1,L,b,0,_,_,I,D,bc 1,λw2 F Q=>let⟨l,r⟩:=E w2 F Q;have:=l.lb;let⟨y,W,w,a2,v,Y,x,z,A,C⟩:=ZS l.buf [10] (n:=1) (parts:=#[.mk 0 _]) I I Z Z X R;let⟨G,H⟩:=l.put (e:=0) z A C;⟨s,Hl l.blk 0 I,y,W,w,v,Y,x,b,0,_,_,I,G,bc 1,λw5 V yp=>?_⟩⟩;let⟨J,K⟩:=H w5 V yp;exact⟨I,v,J,(M.trans r).trans K⟩
end
mutual
def Jq:Nd->Prop
 |.mk b k=>(1<=b.k/\b.k<=4)/\WR k
def WR:J Nd->Prop
 |[]=>True
 |x::l=>Jq x/\WR l
end
def sG{x}:∀{l:J Nd},WR l->x∈l->Jq x
 |y::l,a,h=>by
  rcases ba.1 h with rfl|h
  .exact a.1
  exact sG a.2 h
mutual
def km:∀(d:Nat) (x:Nd),jZ d x=aE->Jq x
 |d,.mk b l,h=>by
  rw[jZ,aO,aO]at h;rw[Jq];refine⟨?_,cb (d+1) l h.2⟩;have a:=h.1.2;unfold qH at a;rw[aO]at a;have c:=a.2;by_cases e:fh b.k=aE
  .unfold fh at e
   grind
  rw[Q e]at c;simp only[aO,bB]at c;omega
def cb:∀(d:Nat) (l:J Nd),iR d l=aE->WR l
 |_,[],_=>by rw[WR];trivial
 |d,x::l,h=>by
  rw[iR,aO]at h;rw[WR];exact⟨km d x h.1,cb d l h.2⟩
end
def ta(w:av)(b:Nat)(sl:Sl)(a:av)(s:Sl)(l:L):Prop:=(Prg w b sl l/\WS l<=4000000000000)/\kw b s a sl w
def ta.line{w w0}{b}{sl s0}{l}(g:ta w b sl w0 s0 l){d:Nat}(a:d<=4194304) m (f:WS m<=3000000000010) {k0} (i:k0≠b) (j:s0.a≠aM ⟨k0,0,VM⟩) (k:k0<w0):
  az aq 148 #[b,O U d,(T m)] w λe c=>e=ai #[]/\bX [k0] w c/\∃sl',ta c b sl' w0 s0 (mA l (d,m)):=by
 let⟨⟨P,n⟩,M⟩:=g;exact(qq P a m f).mono λ_ c ⟨rfl,sl',X,h⟩=>⟨I,M.sm i j k h,sl',⟨X,x7 n a f⟩,M.trans h⟩
def ta.only{w w' w0}{b}{sl s0}{l}(a:ta w b sl w0 s0 l)(h:ay [] w w'):ta w' b sl w0 s0 l:=by
 let⟨⟨P,c⟩,M⟩:=a;exact⟨⟨P.only h,c⟩,M.trans<|WX h⟩
def VG(D:Nat):=∀{F:h} {w:av} {b:Nat} {sl:Sl} {l:L} {x:Nd} {c:aI} {d:Nat},pq aL D w F x c->(∀k,F k->k<b)->Prg w b sl l->WS l<=4000000000000->Ew x->Jq x->ml x<=1048576->d+iI x<=4000000->
 az aq 198 #[b,ah c,O U d] w λe a=>e=ai #[]/\∃sl',Prg a b sl' (eP l<|LS d x)/\WS (eP l<|LS d x)<=4000000000000/\kw b sl w sl' a
def ya{D:Nat}(hD:VG D){F:h}{i:av}{b:Nat}{sl:Sl}{l:L}{x:Nd}{o:aI}{d:Nat}(hx:pq aL (D+1) i F x o)(hF:∀k,F k->k<b)(hP:Prg i b sl l)(hl:WS l<=4000000000000)(hn:Ew x)(P:Jq x)(hs:ml x<=1048576)(C:d+iI x<=4000001):
  az aq 150 #[b,ah o,(d:Int)] i λe w'=>e=ai #[]/\∃(sl':Sl),Prg w' b sl' (eP l<|Nt d x.b++sL d x.kids)/\WS (eP l<|Nt d x.b++sL d x.kids)<=4000000000000/\kw b sl i sl' w':=by
 let⟨a,g⟩:=x;let⟨W,lv,mv,kids,jc,wK,H⟩:=hx;dsimp only[Nd.kids,Nd.b]at jc wK H;subst jc;let hk:=H.1;rw[Ew]at hn;rw[Jq]at P;let⟨⟨wW,ff,B⟩,RW⟩:=hn;let⟨he,M,pE⟩:=wK;rw[ml]at hs;rw[iI]at C;unfold yK at hs;have:=hP.lb;refine ret<|arQ ?_;intro G w dC v n;have:=n.size;let A:G≠b:=X
 let z:sl.a≠aM ⟨G,0,VM⟩:=λe=>UZ
 let Y:ta w b sl w sl l:=⟨⟨hP.only n,hl⟩,V9 ..⟩
 let nF:∀k,F k->¬(k=b∨sl.a=aM _):=λk K=>hP.far<|hF k K;let fr:∀{u:av} {q:Sl} {c:L},ta u b q w sl c->∀k,F k->k<i.heap.size->u.heap[k]? =i.heap[k]? :=fun{u q c} f k K bJ=>(f.2.1.block k X<|nF k K).trans<|n.block k bJ N;let sz:∀{u:av} {q:Sl} {c:L},ta u b q w sl c->w.heap.size<=u.heap.size:=λf=>f.2.1.size;let sm:∀{u u':av} {q:Sl} {c:L},ta u b q w sl c->ay [] u u'->bX [G] u u':=λf hO=>hO.same (by have:=sz f;simp;omega);let kA:∀{u:av} {q s:Sl} {la:J Ac} {c:L},lq aL (wI aL) 9 201 i F s la->ta u b q w sl c->lq aL (wI aL) 9 201 u F s la:=λf p=>f.keep (dU aL) Z<|fr p;let nj:∀{u:av} {q:Sl} {c:L},ta u b q w sl c->aA (Nq aL) 13 u F mv a.mv:=λp=>(pE.keep (nX aL) Z<|fr p).1;let k8:∀{u:av} {q:Sl} {c:L},ta u b q w sl c->aA (pq aL D) 9 u F kids g:=λp=>(H.keep (cq aL D) Z<|fr p).1;have:=iz a.en;have:=iz a.lv;have:=pE.1.len;have:=hk.len;have:=nE a.mv;have:=qK g;let St:L->av->Prop:=λc u=>∃q,ta u b q w sl c
 let qj:((T a.ini).toList==((ao #[]).toList))=JW (a.ini=[]):=jC a.ini [];rw[qj];let j:∀{la:J Ac},lP la<=1048576->WS (Cj la)<=3+WS la*1065080:=fun{la} f=>by
  have:=K7 la f;unfold Cj;rw[aY,aU];simp;omega
 have m:=he.1.len;have V:=M.1.len;refine⟨St<|eP l<|zo d a,λw1 ⟨q1,r⟩=>⟨St<|eP l<|zo d a++Tc d a,λw2 ⟨q2,t⟩=>⟨St<|eP l<|zo d a++Tc d a++Wg d a,λw3 ⟨q3,h3⟩=>?_,λhc=>?_,λhc=>⟨q2,by
  let hc:=aQ hc;rw[show Wg d a=[] by unfold Wg;rw[E (cM X)],bq];exact t⟩⟩,λhc=>?_,λhc=>⟨q1,by
  let hc:=aQ hc;rw[show Tc d a=[] by unfold Tc;rw[E (cM X)],bq];exact r⟩⟩,λhc=>?_,λhc=>⟨sl,by
  let hc:a.ini=[]:=WH
  rw[show zo d a=[] by unfold zo;rw[E hc]];exact Y⟩⟩
 .refine⟨λx e u=>∃b:Nat,e=(b:Int)/\x+b=WS a.mv/\b<=WS a.mv/\St (eP l<|zo d a++Tc d a++Wg d a++(a.mv.take b).map λT=>(d,Hd T)) u,WS a.mv,R,?_⟩;rintro x _ w4 ⟨b,rfl,me,hj,q4,q⟩;let⟨⟨s,bV⟩,bv⟩:=id q;have:=s.buf.len;refine⟨q4,λ_=>Hl s.blk 0 I,λk=>?_,λk=>?_⟩
  .rw[aO]at k;have k:=S k.1;let⟨ad,y,o,g1,g2,g3,g4,g5,g6⟩:=(nj q).get (bf b) X;rw[aV]at g2;let wL:=be g2;let VB:=oP wL;let G4:=g6;obtain⟨gc,uv,tg,rfl,hg,AI,ob⟩:=g6;obtain⟨gs,rfl⟩:=fK hg;refine⟨ad,g1,_,_,_,_,_,_,_,_,_,_,_,_,_,g5,(agK G4 (B y wL) X).mono ?_⟩;rintro _ w5 ⟨rfl,ht,dV⟩;refine⟨_,I,sm q dV,((q.only dV).line (d:=d) X (Hd y) X A z v).mono ?_⟩;rintro _ w6 ⟨rfl,bY,q6,h6⟩;exact⟨I,bY,x-1,X,b+1,N0,X,X,q6,by
    rw[aX,g2,cK,<-bp,gU];exact h6⟩
  let co:eP l (zo d a++Tc d a++Wg d a++(a.mv.take b).map λT=>(d,Hd T))=eP l (Nt d a):=by
   let W:Nt d a=zo d a++Tc d a++Wg d a++N8 d a:=by unfold Nt;simp
   rw[W];unfold N8;by_cases y:b=WS a.mv
   .rw[y,dA]
   let cC:16384<WS (eP l<|zo d a++Tc d a++Wg d a++(a.mv.take b).map λT=>(d,Hd T)):=by
    rw[oB]at k;rcases k with f|f
    .have:=aQ f;omega
    have:=aQ f;omega
   conv=>rhs;rw[<-eS b a.mv,cK,<-bp,gU]
   rw[Nv _ _ cC]
  refine⟨λx e u=>∃b:Nat,e=(b:Int)/\x+b=WS g/\b<=WS g/\St (eP l<|Nt d a++sL d (g.take b)) u,WS g,⟨0,I,X,X,q4,by rw[cr,sL,bq,<-co];exact q⟩,?_⟩;rintro rM _ w7 ⟨e,rfl,Ea,hi,q7,h7⟩;let⟨⟨PS,PT⟩,ce⟩:=id h7;refine⟨λcc=>?_,λcc=>?_⟩;rotate_left
  .have cc:=aQ cc;let d:e=WS g:=X
   rw[d,dA]at PS PT;exact⟨I,q7,PS,PT,(WX n).trans ce⟩
  let cc:=S cc;let⟨ad,y,o,g1,g2,g3,g4,g5,g6⟩:=(k8 h7).get (bf e) X;rw[aV]at g2;let wL:=be g2;have:=qJ wL;have:=R2 wL;let G4:=g6;obtain⟨D',rfl⟩:∃D',D=D'+1:=by
   cases D with
   |zero=>exact g6.elim
   |succ D'=>exact⟨D',I⟩
  obtain⟨wA,wC,rT,ji,rfl,_⟩:=g6;refine⟨ad,g1,_,_,_,_,wA,wC,rT,ji,_,g5,(hD G4 hF PS PT (Bn RW wL) (sG P.2 wL) X X).mono ?_⟩;rintro _ w8 ⟨rfl,q8,el,eQ,dO⟩;let gz:eP (eP l<|Nt d a++sL d (g.take e)) (LS d y)=eP l (Nt d a++sL d (g.take<|e+1)):=by
   rw[aX,g2];show _=eP l (Nt d a++sL d (g.take e++[y]));rw[CE];simp only[gU]
  rw[gz]at el eQ;exact⟨I,ce.sm A z v dO,rM-1,X,e+1,N0,X,X,q8,⟨el,eQ⟩,ce.trans dO⟩
 .refine(GC (kA M t) ff X).mono ?_;rintro _ w9 ⟨rfl,x⟩;let y:=j (la:=a.lv) X;refine⟨_,I,sm t x,Hn,?_⟩;rw[show Kav=T [108,101,97,118,101,32]from rfl,gA];refine((t.only x).line (d:=d) X _ (by rw[aU];simp;omega) A z v).mono ?_;rintro _ s ⟨rfl,b,q,k⟩;refine⟨I,b,q,?_⟩;let hc:=S hc;rw[show Wg d a=[_] by unfold Wg;rw[Q (λe=>by rw[e]at V;simp at V;omega)],gU];exact k
 .refine(GC (kA he r) wW X).mono ?_;rintro _ w9 ⟨rfl,x⟩;have:=j (la:=a.en) X;refine⟨_,I,sm r x,Hn,?_⟩;rw[show Kaw=T [101,110,116,101,114,32]from rfl,gA];refine((r.only x).line (d:=d) X _ (by rw[aU];simp;omega) A z v).mono ?_;rintro _ s ⟨rfl,b,q,k⟩;refine⟨I,b,q,?_⟩;let hc:=S hc;rw[show Tc d a=[_] by unfold Tc;rw[Q (λe=>by rw[e]at m;simp at m;omega)],gU];exact k
 refine⟨Hn,by rw[show Kax=T [105,110,105,116,105,97,108,32]from rfl,gA,cE,aU];simp;omega,?_⟩;rw[show Kax=T [105,110,105,116,105,97,108,32]from rfl,show(ao #[59])=T [59]from rfl,gA,gA];refine(Y.line (d:=d) X _ (by simp only[aU,aY,ck];omega) A z v).mono ?_;rintro _ k ⟨rfl,b,q,x⟩;refine⟨I,b,q,?_⟩;let hc:=WH
 rw[show zo d a=[(d,fU++32::_)] by unfold zo;rw[Q hc]];let e:([105,110,105,116,105,97,108,32]++a.ini++[59]:L)=fU++32::(a.ini++[59]):=by simp[fU]
 rw[e]at x;exact x
def agL{D}(hD:VG D){F}{w}{b}{sl}{l}{x}{cs}{d}(r:pq aL (D+1) w F x cs)(p:∀k,F k->k<b)(hP:Prg w b sl l)(hl:WS l<=4000000000000)(hn:Ew x)(C:Jq x)(s:ml x<=1048576)(am:d+iI x<=4000000):
 az aq 198 #[b,ah cs,O U ↑d] w λe B=>e=ai #[]/\∃sl',Prg B b sl' (eP l<|LS d x)/\WS (eP l<|LS d x)<=4000000000000/\kw b sl w sl' B:=by
 let⟨a,ks⟩:=x;let G:=r;let⟨en,lv,mv,kids,t,wK,Y⟩:=r;dsimp[Nd.kids,Nd.b]at t wK Y;subst t;have n:=s;rw[ml,yK]at n;have:=hP.lb;refine ret<|asi λv c dC y i=>?_;let A:v≠b:=X
 let m:sl.a≠aM ⟨v,0,VM⟩:=λe=>UZ
 let h0:ta c b sl c sl l:=⟨⟨hP.only i,hl⟩,V9 ..⟩
 have:=by rw[Jq]at C;exact C.1
 let nF:=λk z=>hP.far<|p k z;let f:∀{u:av} {q:Sl} {g:L},ta u b q c sl g->g=eP l (LS d<|.mk a ks)->∃sl',Prg u b sl' _/\WS (eP l _)<=4000000000000/\kw b sl w sl' u:=fun{u q g} h e=>by
  subst e;let⟨⟨j,b⟩,d⟩:=h;exact⟨q,j,b,(WX i).trans d⟩
 let J:_=T [104,105,115,116,111,114,121,32]:=I;let K:_=T [32,45,62,32]:=I;let M:_=T [59]:=I;let P:_=T [100,101,101,112,32]:=I;let R:_=T [115,116,97,116,101,32]:=I;let S:_=T [32,123]:=I;let V:Ka4=T [112,97,114,97,108,108,101,108,32]:=I;let W:_=T [125]:=I;simp only[J,K,M,P,R,S,V,W,gA,cE];let go:=λaS hm=>h0.line (d:=d) X aS hm A m y;refine⟨λu=>¬fh a.k=aE/\∃q,ta u b q c sl<|mA l (d,kW a.k++32::(a.nm++[32,123])),λw1 ⟨hh,q1,j⟩=>?_,λk3=>?_,λk3=>⟨λk4=>?_,λk4=>⟨λk1=>?_,λk1=>?_⟩⟩⟩
 .have⟨⟨l,w⟩,h⟩:=j;let D:pq aL _ w1 F _ _:=(cq aL _).keep G λk z bJ=>(h.1.block k X<|nF k z).trans<|i.block k bJ N;rw[eI (x:=d+1) X X,show(d:Int)+1=((d+1:Nat)) by omega];refine(ya hD (d:=d+1) D p l w hn C s X).mono λ_ w2 ⟨rfl,q2,q,Aw,e⟩=>?_;let h2:ta w2 b q2 c sl _:=⟨⟨q,Aw⟩,h.trans e⟩
  refine⟨I,h.sm A m y e,(h2.line (d:=d) X [125] Z A m y).mono λ_ w3 ⟨rfl,T,q3,h3⟩=>⟨I,T,OQ,f h3 ?_⟩⟩;rw[LS,Q hh];simp[wb,gU,Nd.b,Nd.kids];rfl
 .have k3:a.k=3:=WU
  simp only[aU,aY,ck];refine⟨X,X,X,X,(go _ o).mono λ_ w ⟨rfl,b,q,h⟩=>⟨I,b,OQ,f h ?_⟩⟩;rw[LS,E<|by unfold fh;exact bO<|.inl k3,k3];congr 2;simp[kW,xL]
 .have k4:a.k=4:=WI
  simp only[aU,aY,ck];refine⟨X,X,X,X,(go _ o).mono λ_ w ⟨rfl,b,q,h⟩=>⟨I,b,OQ,f h ?_⟩⟩;rw[LS,E<|by unfold fh;exact bO<|.inr k4,k4];congr 2;simp[kW,Ni]
 .have k1:a.k=1:=Q5
  simp only[aU,aY,ck];refine⟨X,X,(go _ o).mono λ_ w ⟨rfl,b,q,h⟩=>⟨I,b,by unfold fh;rw[k1];decide,q,?_⟩⟩;have e:([115,116,97,116,101,32]++a.nm++[32,123])=kW a.k++32::(a.nm++[32,123]):=by rw[k1];simp[kW,FT]
  rw[e]at h;exact h
 have:=WU
 have:=WI
 have:=Q5
 let k:a.k=2:=X
 simp only[aU,aY,ck];refine⟨X,X,(go _ o).mono λ_ w ⟨rfl,b,q,h⟩=>⟨I,b,by unfold fh;rw[k];decide,q,?_⟩⟩;have e:([112,97,114,97,108,108,101,108,32]++a.nm++[32,123])=kW a.k++32::(a.nm++[32,123]):=by rw[k];simp[kW,uS]
 rw[e]at h;exact h
def rMs:∀D,VG D
 |0=>λh _ _ _ _ _ _ _=>h.elim
 |D+1=>λx F P l n C s h=>agL (rMs D) x F P l n C s h
def abJ{w}{F}{D}{c}{vs}{s}(h:ChR aL (D+1) w F c vs s)(n:Jd c)(hs:oQ c.vars+ml c.root<=1048576):
  az aq 105 #[ah (vs.v::s).toArray] w λe M=>e=ai #[(T (jd c).1),O U (jd c).2]/\ay [] w M:=by
 let V:=h.root;let⟨G,K,mv,kids,H,_⟩:=h.root;subst H;refine ret<|arq ?_;intro g w0 Y W j;let keep:∀{u:av},ay [] w u->ChR aL (D+1) u F c vs (uY c.root.b.k c.root.b.nm c.root.b.ini c.root.b.dft G K mv kids c.root.b.a):=λl=>⟨h.vars.keep fI Z λk _ f=>l.block k f N,(cq aL _).keep h.root λk _ f=>l.block k f N⟩
 have:WS c.root.b.nm<=ml c.root:=by
  let⟨v,⟨a,k⟩⟩:=c;show (WS a.nm)<=ml (.mk a k);rw[ml];unfold yK;omega
 refine(at3 (keep j) n X).mono ?_;rintro _ w1 ⟨rfl,i⟩;have:=i.size;let r:=j.bG i;let p:=gA;let t:Kag=T [99,104,97,114,116,32]:=I;let x:Kah=T [32,123]:=I;let z:Kai=T [118,97,114,32]:=I;let A:Kaj=T [32,61,32]:=I;let B:(ao #[59])=T [59]:=I;let C:(ao #[125])=T [125]:=I;refine⟨_,I,i.same o,λb=>⟨?_,r⟩,λb=>?_⟩
 .have b:rH c=aL:=by simpa using b
  unfold jd;rw[b];rfl
 have b:rH c=aE:=by simpa using b
 let Cb:Jq c.root:=by
  unfold rH at b;simp at b;exact km 0 c.root b.1.2
 let ce:16384<(WS<|eP [] (Hz c))->jd c=([],2):=λaC=>by unfold jd;rw[E b,E aC]
 let co:¬16384<(WS<|eP [] (Hz c))->jd c=_:=λaC=>by unfold jd;rw[E b,Q aC]
 obtain⟨ff,aS⟩:∃ff,ff=(0,gx++32::(c.root.b.nm++[32,123]))::(c.vars.map λv=>(1,P5 v)):=⟨_,I⟩
 let cc:Hz c=ff++(Nt 1 c.root.b++sL 1 c.root.kids)++[(0,[125])]:=by rw[aS];unfold Hz;simp
 rw[t,x,C,p,p,cE,cE];refine⟨X,by rw[aU];simp;omega,λk1 w2 kZ jl cF oC=>?_⟩;have:Prg w2 k1 Sl.nil []:=⟨oC,.inl ⟨I,I⟩⟩
 let T:g≠k1:=X
 let E4:(Sl.nil).a≠aM ⟨g,0,VM⟩:=R
 let am:∀{u:av} {q:Sl} {bY:L},ta u k1 q w2 Sl.nil bY->ay [] w u:=λaC=>((r.bG cF).ph aC.2.1).only R;let h2:ta w2 k1 Sl.nil w2 Sl.nil []:=⟨R,V9 ..⟩
 have:=h.vars.1.len;have:WS c.vars<=oQ c.vars:=by
  have:∀c:J Vr,WS c<=oQ c:=λc=>by induction c with
   |nil=>exact bE _
   |cons a c d=>rw[oQ,aY];omega
  exact this _
 refine(h2.line (d:=0) Z _ o T E4 X).mono ?_;rintro _ w3 ⟨rfl,dO,q3,h3⟩;let e0:([99,104,97,114,116,32]++c.root.b.nm++[32,123]:L)=gx++32::(c.root.b.nm++[32,123]):=by simp[gx]
 rw[e0]at h3;let⟨⟨cC,gE⟩,eQ⟩:=id h3;refine⟨I,dO,q3,cC.blk,λkv el q u=>∃F:Nat,el=(F:Int)/\kv+F=WS c.vars/\F<=WS c.vars/\ta u k1 q w2 Sl.nil (eP [] (_::((c.vars.take F).map λv=>(1,P5 v)))),WS c.vars,⟨0,I,X,bE _,h3⟩,?_⟩;rintro kv _ q w4 ⟨F,rfl,me,hj,h4⟩;let⟨⟨bv,bV⟩,aT⟩:=id h4;refine⟨λod w5 dV yp=>?_,λod=>?_⟩
 .have od:=S od;let h5:=h4.only dV;let⟨⟨g8,ip⟩,gO⟩:=id h5;let⟨ad,y,s,g1,D,g3,g4,g5,g6⟩:=(WJ fI (PY fI h.vars.1 Z) Z λk hk f=>(am h5).block k f N).get (bf F) X;rw[aV]at D;let wL:=be D;have:=xV wL;let a:=n.1 y wL;have g6:=g6;subst g6;have:=Uu a;let kp:∀{u u':av} {gz qj:Sl} {bY:L},ta u k1 gz w2 Sl.nil bY->kw k1 gz u qj u'->bH (λk=>k=g∨k<w) u u':=fun{u u' gz qj bY} hp hm k hk f=>hm.1.block k f λhh=>by
   rcases hh with e|e
   .omega
   rcases hp.2.2 k e with e'|e'
   .cases e'
   omega
  rw[z,A,B];refine⟨λk=>k=g∨k<w,.inl I,ad,g1,.inr<|by rw[pI];exact g3.2,_,g5.part 0 λel v e=>sZ e I,?_,?_,ad,g1,_,g5.part 1 R,(Ut w5 a).mono ?_⟩
  .rw[cE];omega
  .rw[p,cE,aU];simp;omega
  rintro _ w6 ⟨rfl,dr⟩;let h6:=h5.only dr;let⟨⟨w,iD⟩,k⟩:=id h6;have:=k.1.size;have:=gO.1.size;refine⟨_,I,dr.same o,q,w.blk,ZX dr,?_,?_,?_⟩
  .rw[p,p,cE,cE];simp;omega
  .rw[p,p,p,cE];simp only[aU,aY,ck];omega
  rw[p,p,p,p];refine(qq w (d:=1) Z _ o).mono ?_;rintro _ w7 ⟨rfl,q7,PS,q⟩;have PT:=x7 (d:=1) (m:=[118,97,114,32]++y.n++[32,61,32]++Lib.itoa y.v++[59]) iD Z o;let ev:([118,97,114,32]++y.n++[32,61,32]++Lib.itoa y.v++[59]:L)=P5 y:=by simp[P5,Af]
  let bJ:mA (eP [] ((0,gx++32::(c.root.b.nm++[32,123]))::((c.vars.take F).map λv=>(1,P5 v)))) (1,[118,97,114,32]++y.n++[32,61,32]++Lib.itoa y.v++[59])=eP [] ((0,gx++32::(c.root.b.nm++[32,123]))::((c.vars.take<|F+1).map λv=>(1,P5 v))):=by
   rw[ev,aX,D,cK];simp only[wb,gU];rfl
  rw[bJ]at PS PT;exact⟨I,k.sm T E4 X q,q7,PS.blk,kp h6 q,kv-1,X,F+1,N0,X,X,⟨PS,PT⟩,k.trans q⟩
 let y:=(cq aL _).keep ((cq aL _).inHeap V) λk _ f=>(am h4).block k f N;have:=ih c.root;let od:=aQ od;have oc:F=WS c.vars:=X
 subst oc;rw[dA,<-aS]at bv bV;refine(ya (rMs D) (d:=1) y X bv bV n.2 Cb X X).mono ?_;rintro _ w8 ⟨rfl,q8,m,w,e⟩;let h8:ta w8 k1 q8 w2 Sl.nil _:=⟨⟨m,w⟩,aT.trans e⟩
 refine⟨I,aT.sm T E4 X e,q8,m.blk,(h8.line (d:=0) Z [125] Z T E4 X).mono ?_⟩;rintro _ w9 ⟨rfl,iF,q9,v⟩;let e9:mA (eP (eP [] ff)<|Nt 1 c.root.b++sL 1 c.root.kids) (0,[125])=eP [] (Hz c):=by
  rw[cc];simp[gU];rfl
 rw[e9]at v;let⟨⟨a,ld⟩,iN⟩:=id v;have:=a.buf.len;refine⟨I,iF,q9,a.blk,λq=>⟨?_,am v⟩,λq=>⟨_,a.buf.bytes,?_,am v⟩⟩
 .have q:=S q;rw[ce X]
 let q:=aQ q;rw[co X]
def Gr(s:Sl)(w:av)(a:Sl)(b:av):Prop:=aD (λk=>s.a=aM ⟨k,0,VM⟩) w b/\∀k,a.a=aM ⟨k,0,VM⟩->s.a=aM ⟨k,0,VM⟩∨w<=k
def Gr.trans{s s' s''}{w w' wU}(h:Gr s w s' w')(k:Gr s' w' s'' wU):Gr s w s'' wU:=by
 have:=h.1.size;refine⟨h.1.trans k.1 λx a=>?_,λx a=>?_⟩
 .rcases h.2 x a with e|e
  .exact .inl e
  omega
 rcases k.2 x a with e|e
 .exact h.2 x e
 omega
def Gr.only{s}{w w'}(h:ay [] w w'):Gr s w s w':=⟨h.p0,λ_ h=>.inl h⟩
def ko t:∀c {w:av} {F:h} {x:Nd} {d:aI} {B:Nat} {s:Sl} {xs:J dz} {pa dp:Int},pq t c w F x d->(∀k,F k->k<B)->jh B w s xs->B<=w.heap.size->
  (WS xs)+iI x<=1000000->0<=dp->dp+iI x<=1000000->
  az aq 66 #[s,ah d,pa,dp] w λe a=>∃b,e=Sl.v b/\jh B a b (xs++Im (WS xs) pa dp x)/\Gr s w b a
 |0,_,_,_,_,_,_,_,_,_,e,_,_,_,_,_,_=>e.elim
 |c+1,w,F,.mk f i,d,B,s,xs,pa,dp,⟨W,lv,mv,kids,Q,_,z⟩,M,hS,am,hn,h0,hd=>by
  have hk:=z.1;clear z;dsimp only[Nd.kids,Nd.b]at hk Q;subst Q;rw[iI]at hn hd;have:=hk.len;have:=qI i;refine(aq9 s f.k (T f.nm) (T f.ini) (T f.dft) W lv mv kids f.a pa dp (λv a=>∃b,v=Sl.v b/\jh B a b (xs++Im (WS xs) pa dp (.mk f i))/\Gr s w b a) w ?_).mono A;intro E w0 z dC u;have:=u.size;let H:s.n=WS xs:=hS.len;let S:jh B w0 s xs:=hS.B0 u.p0 λ_ _ _ l=>l;let⟨y,w2,k1,k3,n,p,Y,g2,⟨gs,C,g4⟩,g5⟩:=iO (P:=aq) (t:=33) (ty:=33) (e:=131) (i:=Tryz.t131) (bytes:=48) (size:=5) (r:=nS) (G:=λ_=>False) (v:=ah #[f.k,(T f.nm),pa,dp,O U 0]) (x:=⟨f.k,f.nm,pa,dp,0⟩) D D I I I I Z Z Z cH S X I I R X;have:=k3.size;have:=C.size;have:s.a≠aM ⟨E,0,VM⟩:=λe=>Tg
  let m3:Gr s w n p:=by
   refine⟨(u.bG k3).ph<|C.p (F:=λk=>s.a=aM ⟨k,0,VM⟩) R,λk hk=>?_⟩
   grind
  let n3:∀k,n.a=aM ⟨k,0,VM⟩->k≠E:=R
  have:jh B p n (xs++[⟨f.k,f.nm,pa,dp,0⟩]):=P9
  let kz:∀{V:av} {q:Sl},Gr s w q V->aA (pq t c) 9 V F kids i:=λhm=>Zz (cq t c) Z hk hm.1 λk zd _ l=>by
   have:=M k zd;have:=(hS.blk l).1
   grind
  refine⟨y,w2,k1,k3.same o,n,p,Y,C.same R,λK q N a=>∃j:Nat,N=(j:Int)/\K+j=WS i/\j<=WS i/\jh B a q (xs++⟨f.k,f.nm,pa,dp,0⟩::ui (WS xs+1) (WS xs) (dp+1) (i.take j))/\Gr s w q a/\p.heap.size<=a.heap.size/\∀k,q.a=aM ⟨k,0,VM⟩->k≠E,WS i,⟨0,I,X,X,P9,m3,X,n3⟩,?_⟩;rintro K q _ w5 ⟨j,rfl,me,lI,m,L,z5,n5⟩;constructor
  .intro hc;let hj:j<WS i:=A
   obtain⟨y,hy⟩:∃y,i[j]? =aM y:=⟨_,aR hj⟩
   let⟨ad,y',ds,P,r,a3,a4,T,B⟩:=(kz L).get (bf j) X;rw[aV,hy]at r;injection r with r;subst r;let G:=B;obtain⟨g,rfl⟩:∃g,c=g+1:=by
    cases c with
    |zero=>exact B.elim
    |succ g=>exact⟨g,I⟩
   obtain⟨wA,wC,rT,ji,rfl,_⟩:=G;let lG:=mQ hy;let aT:WS (xs++⟨f.k,f.nm,pa,dp,0⟩::ui (WS xs+1) (WS xs) (dp+1) (i.take j))=WS xs+1+dY (i.take j):=by
    rw[aU,aY,tT];omega
   refine⟨ad,P,_,_,_,_,wA,wC,rT,ji,_,T,?_⟩;rw[eI X X,H];refine(ko t (g+1) (pa:=((WS xs:Nat):Int)) B (s:=q) (xs:=xs++⟨f.k,f.nm,pa,dp,0⟩::ui (WS xs+1) (WS xs) (dp+1) (i.take j)) (dp:=dp+1) M m X X X X).mono ?_;rintro _ w7 ⟨q7,rfl,aS,v⟩;let z7:=v.1.size;refine⟨q7,I,v.1.same λx hx=>?_,K-1,X,j+1,N0,X,X,?_,L.trans v,X,λk hk e=>?_⟩
   .grind
   .have e:i.take (j+1)=i.take j++[y]:=Nh
    rw[e,Ku,ui,ui,bq];simp_all
   subst e;rcases v.2 _ hk with l|l
   .exact n5 _ l I
   omega
  intro hc;have y:j=WS i:=R
  subst y;rw[bm (bc _)]at m;let t:(xs++⟨f.k,f.nm,pa,dp,0⟩::ui (WS xs+1) (WS xs) (dp+1) i)[WS xs]? =aM ⟨f.k,f.nm,pa,dp,0⟩:=by
   simp_all
  let⟨g,cells,s,p1,r,G,p4,p5,P,T⟩:=Own.aul cH m t;have e:s=YG ⟨f.k,f.nm,pa,dp,0⟩:=P;subst e;have v:q.n=WS xs+1+dY i:=by rw[m.len,aU,aY,tT];omega
  let⟨p8,p9⟩:=T 4 (q.n:Int) ⟨f.k,f.nm,pa,dp,(q.n:Int)⟩ (λ_=>False) Z I λ_ l=>l.elim;rw[<-H]at r;refine⟨_,r,g,WS xs*5+4,cells,_,by rw[jS,H],G,P9,R,λw9 x B=>⟨q,I,?_,?_⟩⟩
  .have:=p9 w9 x B;rw[G9 _ _ (bc _),Ee,List.set_cons_zero]at this;rw[Im];simp_all
  refine L.trans ⟨x.p λk hk=>?_,R⟩;simp_all
def kC{w:av}{F}{D}{c}{vs}{cs}(x:ChR aL (D+1) w F c vs cs)(m:iI c.root<=64):
  az aq 29 #[ah (vs.v::cs).toArray] w λe a=>(∃s,e=Sl.v s/\jh w a s (cQ c))/\ay [] w a:=by
 let⟨n,l,mv,kids,j,_⟩:=x.root;subst j;refine(aqK vs c.root.b.k n l mv kids c.root.b.a (λv a=>(∃s,v=Sl.v s/\jh w a s (cQ c))/\ay [] w a) w ?_).mono A;intro g i f C b;let h:=
  (cq aL _).keep ((cq aL _).mono ((cq aL _).inHeap x.root) λk hk=>hk.2) λk _ J=>b.block k J N
 refine(ko aL (D+1) (B:=w) (s:=Sl.nil) (xs:=[]) (pa:= -1) (dp:=0) h X (E7 ..) b.size R Z X).mono ?_;rintro _ p ⟨d,rfl,S,G⟩;let U:=G.1.only R;exact⟨d,I,U.same o,⟨d,I,by rw[cJ]at S;exact S⟩,b.bG U⟩
def CZ{c}(h:(jd c).2=0):rH c=aE:=by
 unfold jd at h
 grind
def C0{c}(h:(jd c).2=0):iI c.root<=64:=by
 have a:=CZ h;unfold rH at a;simp_all
def agM{w:av}{F}{D}{c}{vs}{cs}(h:ChR aL (D+1) w F c vs cs)(n:Jd c)(l:oQ c.vars+ml c.root<=1048576):
  az aq 62 #[ah (vs.v::cs).toArray] w λe i=>(∃s,e=ai #[Sl.v s,O U (jd c).2]/\((jd c).2=0->jh w i s (cQ c))/\((jd c).2≠0->s=Sl.nil))/\ay [] w i:=by
 let⟨q,v,mv,kids,m,_⟩:=h.root;subst m;refine jK<|aq5 ?_;intro r t H C T;let keep:∀{u:av},ay [] w u->ChR aL _ u F c vs _:=λf=>⟨h.vars.keep fI Z λk _ b=>f.block k b N,(cq aL _).keep h.root λk _ b=>f.block k b N⟩
 refine(abJ (keep T) n l).mono ?_;rintro _ x ⟨rfl,a⟩;have:=a.size;let g:=T.bG a;refine⟨_,_,I,a.same o,A,λhc=>?_⟩;let hc:=WH
 refine(kC (keep g)<|C0 hc).mono ?_;rintro _ y ⟨⟨p,rfl,S⟩,d⟩;exact⟨_,I,d.same o,⟨p,by rw[hc],λ_=>Zd S X,λj=>absurd hc j⟩,g.bG d⟩
def abM{w:av}{F G:h}{a b}{xs}(d:aA nS 5 w F a xs)(g:aA nS 5 w G b xs)(n:WS xs<=1000000):az aq 48 #[a,b] w λe f=>e=aj aE/\ay [] w f:=by
 refine ret<|aqX<|have:=d.len;have:=g.len;⟨λc=>?_,λ_=>⟨λk i u=>∃j:Nat,i=(j:Int)/\k+j=WS xs/\j<=WS xs/\ay [] w u,WS xs,⟨0,I,X,X,qE _ _⟩,?_⟩⟩
 .simp_all
 rintro k _ u ⟨j,rfl,v,t,O⟩;refine⟨λc=>?_,R⟩;let c:=S c;let⟨x,a⟩:=eW (xs:=xs) (i:=j) X;let⟨ad,b,o,_⟩:=gK (ZH cH Z d O N) a;let⟨z,p,q,_⟩:=gK (ZH cH Z g O N) a;refine⟨ad,b,_,_,_,_,_,o,z,p,_,_,_,_,_,q,λs=>?_,λ_ y r=>⟨k-1,X,j+1,N0,X,X,O.bG r⟩⟩;exfalso;let e:(T x.nm==T x.nm)=aE:=(by unfold T;exact XP (α:=Array UInt8) _)
 simp[e]at s
section
variable{xs:J dz}
def Fo.deep(F:Fo xs){n:Nat}:∀j {i:Nat} {x y:dz},i<j->xs[i]? =aM x->xs[j]? =aM y->n<x.en->j<=n->x.dp<y.dp
 |j,i,x,y,Z,b,c,h,m=>by
  let⟨p,t,n,a,d,f,g,k,l⟩:=F.pa j y X c;by_cases e:i=p
  .grind
  let o:=by
   refine Nat.lt_of_le_of_ne (qp λp=>?_) e
   grind
  have:=Fo.deep F p o b a h X;omega
def wD(x:J dz)(a b:Int):C:=JW (b>=0)&&JW (b<WS x)&&JW (a>b)&&JW (a<((x[b.toNat]?).map<|λs:dz=>s.en).getD 0)
def UA{m:Nat}{x}(h:xs[m]? =aM x) n:wD xs n m=JW (m<n/\n<x.en):=by
 have:=fG h;rw[wD];simp_all
def yX{m:Nat}{x}(h:xs[m]? =aM x){n}(a:0<=n):mR xs m n=JW (m<=n/\n<x.en):=by
 unfold mR Wh;rw[aV,h,bM];simp;omega
def kE(F:Fo xs)(a b:Int)(c:b<WS xs):wD xs a b=oO xs a b:=by
 by_cases h:0<=b
 .obtain⟨m,rfl⟩:∃m:Nat,b=m:=⟨b.toNat,X⟩
  let⟨x,d⟩:=eW (xs:=xs) (i:=m) X;rw[UA d,oO];by_cases e:0<=a
  .rw[yX d e,bM];simp;omega
  have:mR xs m a=aL:=by unfold mR;grind
  grind
 unfold wD oO mR
 grind
def al6(F:Fo xs){n}(b:0<=n){m}(a:m<WS xs):(wD xs n m||(n==m))=mR xs m n:=by
 let⟨x,h⟩:=eW (xs:=xs) (i:=m) a;have:=(F.up m x h).1;rw[UA h,yX h b,bM];simp;omega
def abS(F:Fo xs){a}(h:0<=a){j m:Nat}{x y}(b:xs[j]? =aM x)(c:xs[m]? =aM y)(f:j<m)(d:mR xs j a=aE)(e:mR xs m a=aE):x.dp<y.dp:=by
 rw[yX b h,dx]at d;rw[yX c h,dx]at e;exact F.deep (n:=a.toNat) m f b c X X
end
section
variable{w w':av}{F G:h}{sl sN:Sl}{xs:J dz}
def at9{B}{w}{s}{xs}(h:dc B w s xs):aA rInt 1 w (λk=>B<=k) s xs:=(h.slice bA).mono bA A
theorem K9{w}{F}{s}{l}(h:aA rInt 1 w F s l){i:Nat}{x}(a:l[i]? =aM x):∃ad,ci s i 1 ad/\aB w ad [x]:=by
 have:=(aZ.1 a).1;have:=h.len;let⟨ad,y,c,d,g,e,f,j,b⟩:=h.get (bf i) X;rw[aV,a]at g;cases g;obtain⟨rfl,_⟩:=b
 grind
theorem ES w k:az aq 77 #[O U k] w λe w'=>e=aj (fh k)/\w'=w:=by
 exact ret (ard k w ⟨by unfold fh;congr 1;rw[bM];simp,I⟩)
theorem wv(a:aA nS 5 w F sl xs) n:az aq 31 #[sl,(T n)] w λe w'=>e=O U (gr xs n)/\w'=w:=by
 refine ret<|aqM<|have:=a.len;have:=a.cap;have:=a.big;⟨λk i u=>∃j:Nat,i=j/\k+j=WS xs/\j<=WS xs/\(∀y,y∈xs.take j->y.nm≠n)/\w=u,WS xs,R,?_⟩;rintro k _ _ ⟨j,rfl,m,c,b,rfl⟩;refine⟨λh=>?_,λh=>?_⟩
 .have h:=S h;let⟨x,e⟩:=eW (xs:=xs) (i:=j) X;let⟨ad,f,g,_⟩:=gK a e;refine⟨ad,f,_,g.dv 1 _ I,λd=>?_,λd=>⟨k-1,X,j+1,N0,X,X,λy n=>?_,I⟩⟩
  .rw[jC]at d;rw[Al e b R]
   grind
  rw[jC]at d;rw[aX,e,cZ]at n
  grind
 let h:=aQ h;rw[bm X]at b;refine⟨?_,I⟩;rcases jf xs n with⟨e,_⟩|⟨i,x,_,d,e⟩
 .rw[e]
 grind
theorem GD(h:aA nS 5 w F sl xs) a b:az aq 49 #[sl,O U a,O U b] w λe w'=>e=aj (wD xs a b)/\w'=w:=by
 refine ret<|K0 ?_;unfold ZE wD;rw[h.len];by_cases c:((JW (b>=0)&&JW (b<WS xs))&&JW (a>b))=aE
 .have v:=c;simp only[aO]at v;have:=S v.1.1;have:=S v.1.2;obtain⟨i,rfl⟩:∃i:Nat,b=i:=⟨b.toNat,X⟩
  let⟨y,a⟩:=eW (xs:=xs) (i:=i) X;let⟨ad,d,_,_,_,e⟩:=gK h a
  grind
 refine⟨⟨0,0,VM⟩,R,0,R,?_,I⟩
 grind
theorem agN(g:aA nS 5 w F sl xs)(j:Fo xs)(s:WS xs<=1000){a b}(l:aA rInt 1 w G sN [a,b])(p:qW xs a)(q:qW xs b):
  az aq 201 #[sl,sN] w λe w'=>e=O U (DA xs a b)/\ay [] w w':=by
 refine ret<|asn<|have:=g.len;have:sN.n=2:=l.len;let c:=p.1;have:=q.1;let k:∀{u:av},ay [] w u->aA nS 5 u F sl xs:=λh=>ZH cH Z g h N;let kN:∀{u:av},ay [] w u->aA rInt 1 u G sN [a,b]:=λh=>ZH bA Z l h N;⟨λv d i u=>∃m:Nat,i=m/\v+m=WS xs/\m<=WS xs/\ay [] w u/\d=Bh xs a b m,WS xs,⟨0,I,X,X,qE _ _,I⟩,?_⟩;rintro v _ _ o ⟨m,rfl,A,D,h,rfl⟩;refine⟨λf=>?_,λf=>?_⟩
 .rw[aO]at f;have:=S f.1;let⟨x,F⟩:=eW (xs:=xs) (i:=m) X;refine⟨λC u=>C=Bh xs a b _/\ay [] w u,λC u ⟨G,J⟩=>⟨v-1,X,m+1,N0,X,X,J,G⟩,λM al i u=>∃t:Nat,i=t/\M+t=2/\t<=2/\al=(([a,b].take t).all λn=>mR xs m n)/\o=u,2,R,?_⟩;rintro M _ _ _ ⟨t,rfl,L,K,rfl,rfl⟩;refine⟨λH=>?_,λH=>?_⟩
  .have H:=S H;let⟨ad,y,z,a,b,T,V,e,n⟩:=(kN h).get (bf t) X;obtain⟨rfl,_⟩:=n;rw[aV]at b;have x:0<=y:=by
    grind
   refine⟨ad,a,y,e,(GD (k h) y m).mono ?_⟩;rintro _ u ⟨rfl,w⟩;obtain rfl:o=u:=w.symm;refine⟨_,I,ad,λ_ _=>a,y,λ_ _=>e,M-1,X,t+1,N0,X,X,?_,I⟩;rw[aX,b,iq,al6 j x X];simp
  let H:=aQ H;have W:t=2:=X
  subst W;let w:([a,b].take 2).all (λn=>mR xs m n)=(mR xs m a&&mR xs m b):=N
  rw[w];have x:Bh xs a b (m+1)=if _=aE then ↑m else Bh xs a b m:=I
  let⟨ad,y,_,_,T,_⟩:=gK (k h) F;rcases u9 (xs:=xs) a b m with⟨e,_⟩|⟨Y,e,V,od,_⟩
  .rw[e]at x⊢;refine⟨ad,R,0,R,ad,R,0,R,λn t a=>⟨?_,h.bG a⟩,λn z b=>⟨?_,h.bG b⟩⟩
   .simp_all
   simp_all
  let⟨z,a⟩:=eW (xs:=xs) (i:=Y) X;let⟨vJ,b,_,_,n,_⟩:=gK (k h) a;rw[e]at x⊢;refine⟨ad,λ_ _=>y,_,λ_ _=>T,vJ,λ_ _=>b,_,λ_ _=>n,λhq w4 t=>⟨?_,h.bG t⟩,λhq w5 h5=>⟨?_,h.bG h5⟩⟩
  .simp_all
  rw[x,Q];intro e;have:=abS j c a F V R R;simp_all
 refine⟨?_,h⟩;have:m=WS xs:=by
  grind
 rw[this];rfl
end
def Aq w k:az aq 77 #[O U k] w λe a=>e=(aj<|(k==3)||(k==4))/\a=w:=by
 have h:=ES w k;rw[show fh k=((k==3)||(k==4)) by unfold fh;rw[bM];simp]at h;exact h
section
variable{w:av}{F G:h}{l sa:Sl}{xs:J dz}{is:J Int}
theorem Lc(a:aA rInt 1 w F sa is) n (m:WS is<=4611686018427387903):az aq 78 #[sa,O U n] w λe b=>e=aj (JW<|n∈is)/\b=w:=by
 refine ret<|aqS<|have:=a.len;⟨λk i u=>∃j:Nat,i=j/\k+j=WS is/\j<=WS is/\n∉is.take j/\w=u,WS is,R,?_⟩;rintro k _ _ ⟨j,rfl,f,c,d,rfl⟩;refine⟨λh=>?_,λh=>?_⟩
 .have h:=S h;let e:j<WS is:=X
  let⟨ad,g,n⟩:=ig a<|aR e;refine⟨ad,g,_,n,λhe=>?_,λhe=>⟨k-1,X,j+1,N0,X,X,?_,I⟩⟩
  .grind
  have:=Ze
  rw[aX,aR e,cZ]
  grind
 grind
def ke{w u}{s}{is}{B}(h:dc B w s is)(O:ay [] w u):dc B u s is:=h.keep bA λk _ b=>O.block k b N
theorem agO(a:aA nS 5 w F l xs)(n:Nat)(m:WS xs<=1000):az aq 115 #[l,O U n] w λe d=>(∃s,e=Sl.v s/\dc w d s (fi xs n<|WS xs))/\ay [] w d:=by
 refine jK<|ars<|have:=a.len;⟨λk q i u=>∃j:Nat,i=j/\k+j=WS xs/\j<=WS xs/\dc w u q (fi xs n j)/\ay [] w u,WS xs,⟨0,I,X,X,E7 ..,qE _ _⟩,?_⟩;rintro k q _ u ⟨j,rfl,o,f,b,h⟩;refine⟨λc=>?_,λc=>?_⟩
 .have c:=S c;let⟨y,l⟩:=eW (xs:=xs) (i:=j) X;let⟨ad,p,_,r,_⟩:=gK (ZH cH Z a h N) l;have:WS (fi xs n j)<=j:=by
   rw[fi]
   grind
  refine⟨λq u=>dc w u q _/\ay [] w u,λq u ⟨s,t⟩=>⟨k-1,X,j+1,N0,X,X,s,t⟩,ad,p,_,r,λe=>?_,λe=>⟨?_,h⟩⟩
  .rw[aO,dw]at e;let⟨D,B,z,k3,A,C,n,x,y,F⟩:=ML w b h j ⟨X,X⟩ X;refine⟨D,B,z,A,C,n,?_,y⟩;rw[om,E<|by rw[l];exact bn aM e.1];exact x
  rw[om,Q,bq]
  .exact b
  simp_all
 grind
theorem yZ{k}(h:1<=k/\k<=4):(!((k==3)||(k==4)))=Bz k:=by
 rcases(show k=1∨k=2∨k=3∨k=4 by omega)with rfl|rfl|rfl|rfl<;>rfl
theorem tf(p:aA nS 5 w F l xs)(c:Sd xs)(n:Nat):az aq 79 #[l,O U n] w λe z=>(∃s,e=Sl.v s/\dc w.heap.size z s (dG xs n))/\ay [] w z:=by
 have M:=c.le;refine jK<|ara<|(agO p n X).mono ?_;rintro _ A ⟨⟨b,rfl,h⟩,T⟩;have C:=h.len;have K:WS (fi xs n<|WS xs)<=WS xs:=by
  rw[fi]
  grind
 have m:∀k,k∈fi xs n (WS xs)->∃(q:Nat) (t:dz),k=q/\xs[q]? =aM t:=λk hk=>by
  let⟨q,t,e,_,g,_⟩:=qL.1 hk
  grind
 have B:dG xs n=(fi xs n<|WS xs).filter λk=>Bz _:=I;rw[B];generalize fi xs n (WS xs)=a at*
 refine⟨b,I,λo q y u=>∃j:Nat,y=j/\o+j=WS a/\j<=WS a/\dc w.heap.size u q ((a.take j).filter λk=>Bz<|kd xs k)/\dc w.heap.size u b a/\(q.a=VM∨q.a≠b.a)/\ay [] w u/\A.heap.size<=u.heap.size,WS a,⟨0,I,X,X,E7 ..,h,.inl I,T,X⟩,?_⟩;rintro o q _ u ⟨j,rfl,V,L,H,f,J,d,Q⟩;refine⟨λi=>?_,λi=>?_⟩
 .have i:=S i;have W:j<WS a:=X
  let⟨ad,Y,a2⟩:=ig f.sl<|aR W;let⟨l,t,n,q⟩:=m _<|mX W;let⟨vJ,b1,b2,_⟩:=gK (ZH cH Z p d N) q;have nj:(a.take<|j+1).filter (λk=>Bz<|kd xs k)=(a.take j).filter (λk=>Bz<|kd xs k)++if Bz t.k=aE then[(l:Int)]else[]:=by
   rw[aX,aR W,eU,n];congr 1;show List.filter _ [(l:Int)]=_;rw[List.filter_cons,oo q,fN]
  have am:WS ((a.take j).filter λk=>Bz<|kd xs k)<=64:=by
   grind
  refine⟨λq' u=>dc w.heap.size u q' _/\dc w.heap.size u b a/\_/\ay [] w u/\A.heap.size<=u.heap.size,λq' u ⟨h1,h2⟩=>⟨o-1,X,j+1,N0,X,X,h1,h2⟩,ad,Y,_,a2,vJ,by rw[n];exact b1,t.k,b2.dv 0 _ I,(Aq u t.k).mono ?_⟩;rintro _ u' ⟨rfl,s⟩;obtain rfl:u=u':=s.symm;refine⟨_,I,?_,?_⟩
  .rw[yZ (c.kn l t q)];intro hb;let⟨y1,w2,k1,k3,s',w3,g1,g2,⟨gs,g3,g4⟩,g5⟩:=iO (P:=aq) (t:=31) (ty:=31) (e:=3) (i:=Tryz.t3) (bytes:=8) (size:=1) (r:=rInt) (G:=λ_=>False) (v:=O U _) (x:=a[j]) D D I I I I Z Z Z bA H d.size I ⟨I,by rw[n];exact⟨X,by have:=fG q;omega⟩⟩ R X;have z3:=g3.size;have z2:=k3.size;refine⟨ad,Y,_,a2,y1,w2,k1,s',w3,g1,?_,?_,?_,?_,X⟩
   .rw[nj,E hb,<-n];exact dc.of g2
   .refine(ke f k3).keep bA λk hk e=>g3.block k e λg=>?_
    grind
   .rcases g5 with e|⟨g,e,k⟩
    .rw[e];exact J
    right;rw[e];intro g;have:=f.blk g.symm
    grind
   exact((d.bG k3).ph<|g3.p (F:=λk=>w.heap.size<=k) R).only X
  rw[yZ (c.kn l t q)];simp_all
 grind
end
section
variable{w:av}{F G:h}{l sa:Sl}{xs:J dz}{act:J Int}
def RE{u}{S}(h:aA nS 5 w F l xs)(O:aD S w u)(a:∀k,F k->k<w->¬S k):aA nS 5 u F l xs:=Zz cH Z h O a
theorem agP w k:az aq 203 #[O U k] w λe a=>e=aj (Bz k)/\a=w:=ret<|aAU k w ⟨I,I⟩
theorem onC{k t:Nat}(h:aA nS 5 w F l xs)(B:aF w k t [l]){q:Nat}{s}(c:xs[q]? =aM s):az aq 202 #[O U q,k] w λe d=>e=(aj<|!(Bz s.k))/\d=w:=by
 refine ret<|aAT<|let⟨ad,a,b,_⟩:=gK h c;⟨l,B.cells 0 _ N,ad,a,s.k,b.dv 0 _ I,(agP w s.k).mono ?_⟩;rintro _ f ⟨rfl,u⟩;exact⟨_,I,I,u⟩
theorem acU(h:aA nS 5 w F l xs)(c:Sd xs){n:Nat}{x}(m:xs[n]? =aM x):az aq 155 #[l,O U n] w λe j=>(∃s,e=Sl.v s/\dc w j s (dG xs n))/\ay [] w j:=by
 have:=c.le;refine jK<|aAK ?_;intro u J A C b;refine(QO (ZH cH Z h b N) c.fo m X).mono ?_;rintro _ K ⟨⟨i,rfl,z⟩,a⟩;refine⟨i,I,a.same o,λB=>?_⟩;have:WS (fi xs n<|WS xs)<=WS xs:=by
  rw[fi,bP];exact bC (ij _ _) (by rw[AK];exact bc _)
 let g:=b.bG a;let Y:i.a≠aM ⟨u,0,VM⟩:=λe=>by
  have:=(z.blk e).1;dsimp only at this;omega
 refine(yR (f:=⟨.func _ #[] #[ae _],I⟩) z X ⟨ia D,λy r v d=>?_⟩ (p:=λk=>!(Bz<|kd xs k)) (cap:=[ae _]) I).mono ?_
 .obtain⟨q,t,rfl,_,f,_⟩:=qL.1 r;rw[oo f];refine(onC (RE (ZH cH Z (PY cH h Z) g N) d λk hk _ e=>?_) (d.blk B Y) f).mono ?_
  .have:=(z.blk e).1;dsimp only at this;omega
  rintro _ k ⟨rfl,e⟩;obtain rfl:v=k:=e.symm;exact⟨I,qE _ _⟩
 rintro _ q ⟨s,rfl,p,_,f,F⟩;refine⟨s,I,l,F.blk B Y,⟨s,I,?_⟩,(g.ph (F.mono (G:=λk=>w<=k) λk _ e=>by have:=(z.blk e).1;dsimp only at this;omega)).only λk hk=>hk⟩;have:(fi xs n<|WS xs).filter (λx=>!!(Bz<|kd xs x))=dG xs n:=by
  congr 1;funext k;rw[R9]
 rw[this]at f;exact Zd f X
end
def Qc(x:J dz)(n:Int):C:=JW (n>=0)&&JW (n<WS x)&&(kd x n==1)&&(WS (dG x n.toNat)==0)
def C1{x:J dz}{a}{k:Nat}:wB x a k=aE↔∃j:Nat,a=j/\k<j/\mC x k j:=by
 unfold wB mC;rw[aV];simp only[aO,bB];constructor
 .rintro⟨_,h⟩;let⟨s,b⟩:=eW (xs:=x) (i:=k) X;rw[b]at h;have h:a<s.en:=h;exact⟨a.toNat,X,X,s,b,X,X⟩
 grind
def al7 xs act:QY (act.filter<|Qc xs)=KM xs act:=by
 refine NW (b25 _) (NX _ _) λx=>?_;unfold KM;rw[R5,yQ,fO];unfold Qc XX
 grind
section
variable{w:av}{F G:h}{l sa:Sl}{xs:J dz}{act:J Int}
theorem abP(d:aA nS 5 w F l xs)(g:Sd xs)(n:Int):az aq 111 #[l,n] w λe m=>e=aj (Qc xs n)/\ay [] w m:=by
 refine ret<|aAu ?_;let j:=d.len;obtain⟨ad,k,a,c,f⟩:∃(ad:Addr) (k:Int),((JW (n>=0)&&JW (n<(l.n:Int)))=aE->ci l n 5 ad)/\((JW (n>=0)&&JW (n<(l.n:Int)))=aE->aB w (ad.add 0) [k])/\(_=aE->kd xs n=k/\∃s,xs[n.toNat]? =aM s):=by
  by_cases h:0<=n/\n<WS xs
  .obtain⟨e,rfl⟩:∃e:Nat,n=e:=⟨n.toNat,X⟩
   let⟨y,b⟩:=eW (xs:=xs) (i:=e) X;let⟨ad,a,c,_⟩:=gK d b;exact⟨ad,y.k,λ_=>a,λ_=>c.dv 0 _ I,λ_=>⟨oo b,y,by rw[aV];exact b⟩⟩
  let e:(JW (n>=0)&&JW (n<(l.n:Int)))=aE->False:=A
  exact⟨default,0,λb=>(e b).elim,λb=>(e b).elim,λb=>(e b).elim⟩
 refine⟨λb u=>b=Qc xs n/\ay [] w u,A,ad,a,k,c,λh=>?_,λh=>⟨?_,qE _ _⟩⟩
 .rw[aO]at h;let⟨i,s,b⟩:=f h.1;rw[aO]at h;have:=S h.1.1;have:=S h.1.2;obtain⟨e,rfl⟩:∃e:Nat,n=e:=R
  rw[aV]at b;refine(acU d g b).mono ?_;rintro _ w ⟨⟨k,rfl,z⟩,U⟩;refine⟨k,I,?_,U⟩;unfold Qc;rw[j]at h;rw[h.1.1,h.1.2,i,h.2,z.len,aV,cd,cd,cd,bM,dw,dw];omega
 unfold Qc;simp_all
theorem abQ(g:aA nS 5 w F l xs)(j:Sd xs)(m:aA rInt 1 w G sa act)(r:WS act<=1100000):az aq 72 #[l,sa] w λe a=>(∃(s:Sl),e=Sl.v s/\dc w a s (KM xs act))/\ay [] w a:=by
 refine(aAd l sa (λv a=>(∃(s:Sl),v=Sl.v s/\dc w a s (KM xs act))/\ay [] w a) w ?_).mono A;intro b n H C T;let q:=T.size;refine(KN (kI m T) X).mono ?_;rintro _ E ⟨c,rfl,z,U⟩;have:=U.size;let d:=T.bG U;refine⟨c,I,U.same o,λh=>?_⟩;have:∀{k:Nat},c.a=aM ⟨k,0,VM⟩->n<=k:=λe=>(z.blk e).1;let Y:c.a≠aM ⟨b,0,VM⟩:=R
 refine(yR (f:=⟨.func (.func 110) #[] #[b],I⟩) z X ⟨ia D,λy t u O=>?_⟩ (p:=λk=>!(Qc xs k)) (cap:=[b]) I).mono ?_
 .have f:=RE (ZH cH Z (PY cH g Z) d N) O R;have e:=O.blk h Y;refine(aAt y ⟨b,0,VM⟩ (λv a=>v=aj (!(Qc xs y))/\ay [] u a) u ?_).mono A;refine⟨l,e.cells 0 _ N,(abP f j y).mono ?_⟩;simp_all
 rintro _ S ⟨Q,rfl,s,_,e,F⟩;let y:act.filter (λx=>!!(Qc xs x))=act.filter (Qc xs):=by
  simp_all
 rw[y]at e;let p:=F.blk h Y;have:=ij (Qc xs) act;refine⟨Q,I,l,p,(aaT e X).mono ?_⟩;rintro _ V ⟨v,rfl,L,P,f⟩;rw[al7]at P;refine⟨v,I,l,f.blk p<|by rw[s];exact Y,⟨v,I,Zd P q⟩,?_⟩;let M:aD (λk=>w<=k) w S:=d.ph<|F.mono R;exact(M.trans (f.mono (G:=λk=>w<=k) R) X).only X
end
def ww(n S:Nat):J C:=(List.range n).map λi=>S.testBit i
def yY{n S:Nat}:WS (ww n S)=n:=by simp[ww]
def GF{n S i:Nat}(h:i<n):(ww n S)[i]? =aM (S.testBit i):=by simp[ww,h]
def GH{S k m:Nat}(hk:k<64):(vF S k).testBit m=(S.testBit m||JW (m=k)):=by
 unfold vF;rw[HV,BC]
 grind
def al8{n S k:Nat}(hk:k<n)(a:n<=64):(ww n S).set k aE=ww n (vF S k):=by
 refine jR λi=>?_;rw[R7,yY];by_cases h:i<n
 .rw[GF h,GF h,GH X]
  grind
 rw[Q X,cu<|by rw[yY];omega,cu<|by rw[yY];omega]
def GI(n:Nat):ww n 0=List.replicate n aL:=by
 refine jR λi=>?_;by_cases h:i<n
 .rw[GF h,XO,List.getElem?_replicate,E h]
 rw[cu (by rw[yY];omega),cu A]
def nMb{f:Nat->C}{n:Nat}:∀{m:Nat},(∀i,n<=i->f i=aL)->Gl (n+m) f=Gl n f
 |0,_=>rfl
 |m+1,h=>by
  rw[<-nMb (m:=m) h,<-ez];unfold Gl;rw[UT,eU,cK];simp_all
def RJ{S n:Nat}(h:n<=64)(a:∀m,S.testBit m=aE->m<n):(Gl n λi=>S.testBit i)=kc S:=by
 unfold kc;let⟨m,e⟩:=Nat.le.dest h;rw[<-e];refine(nMb λi b=>?_).symm
 grind
def V0(x:J dz)(d:Int)(G:J Int)(S n:Nat):Nat:=if(wB x n d&&G.any λg=>wB x g n||g==(n:Int))=aE then vF S n else S
def PD(x:J dz)(d:Int)(G:J Int)(S:Nat):Nat->Nat
 |0=>S
 |n+1=>V0 x d G (PD x d G S n) n
section
variable{xs:J dz}(F:Fo xs)(hl:xs.length<=64)
include F hl
theorem Vz{d:Int}{G:J Int}{S:Nat}:∀{n:Nat},n<=64->∀m,(PD xs d G S n).testBit m=aE↔S.testBit m=aE∨(m<n/\wB xs m d=aE/\(G.any λg=>wB xs g m||g==(m:Int))=aE)
 |0,_,m=>⟨.inl,λh=>h.elim id X⟩
 |n+1,a,m=>by
  rw[PD];unfold V0;let i:=Vz (d:=d) (G:=G) (S:=S) (n:=n) X m;by_cases h:(wB xs n d&&G.any λg=>wB xs g n||g==(n:Int))=aE
  .rw[E h,GH X,cj,i,bB]
   grind
  grind
theorem kG{d:Nat}{G:J Int}(S:Nat)(i:∀g∈G,∃k:Nat,g=k/\Sb xs d k):PD xs d G S (WS xs)=tX xs d G S:=by
 refine HW λm=>bM.2 ?_;rw[Vz F hl hl m,rQ F hl X G S (λg h=>by obtain⟨k,rfl,j,f,_⟩:=i g h;exact⟨X,X⟩) m];refine tI ⟨?_,?_⟩
 .rintro⟨a,b,c⟩;let⟨e,l,n,o⟩:=C1.1 b;have:e=m:=X
  subst this;let⟨g,h,d⟩:=gW.1 c;obtain⟨k,rfl,_,f,_⟩:=i g h;refine⟨X,k,h,?_⟩;rw[cj,dw]at d;rcases d with d|d
  .obtain⟨c,a,_,b⟩:=C1.1 d
   grind
  have:k=e:=X
  subst this;exact F.nI f
 rintro⟨a,g,h,c⟩;let⟨k,e,j,f,n⟩:=i g h;have:k=g:=X
 subst this;let b:mC xs d k:=by
  grind
 refine⟨fG c.choose_spec.1,C1.2 ⟨m,I,X,F.qg b c X⟩,gW.2 ⟨_,h,?_⟩⟩;rw[cj,dw];by_cases e:k=m
 .omega
 let⟨_,_,a,_⟩:=c;exact .inl<|C1.2 ⟨k,I,X,⟨_,‹_›,a,‹_›⟩⟩
end
def PV(x:J dz)(g:Nat->J Int)(S n:Nat):Nat:=
 if S.testBit n then(if kd x n=2 then(dG x n).foldl vF S else if dG x n≠[]/\((dG x n).all λr=>!S.testBit r.toNat)=aE then PD x n (g n) S (WS x) else S)else S
def WY(x:J dz)(g:Nat->J Int):Nat->Nat->Nat
 |0,S=>S
 |n+1,S=>PV x g (WY x g n S) n
def kK{x:J dz}(F:Fo x)(a:WS x<=64){l:Nat->J Int}(h:∀(n:Nat) (t:dz),x[n]? =aM t->t.k≠2->dG x n≠[]->∀g,g∈l n->∃k:Nat,g=k/\Sb x n k)(S:Nat):∀n,n<=(WS x)->WY x l n S=qZ x l n S
 |0,_=>rfl
 |n+1,b=>by
  rw[WY,qZ,kK F a h S n X];unfold PV N1;split
  .split
   .rfl
   rename_i c;split
   .rename_i r;let⟨t,d⟩:=eW (xs:=x) (i:=n) X;exact kG F a _ (h n t d (by rw[oo d]at c;exact c) r.1)
   rfl
  rfl
section
variable{xs:J dz}{ro:J Ro}{act:J Int}{may:J C}
def C2(s:J dz)(o:J Ro)(act:J Int)(k:Int):J Int:=if k<0 then[]else match o[k.toNat]? with
 |some r=>act.filter λx=>wD s x r.dom
 |none=>[]
theorem aeO(F:Fo xs)(hd:∀r∈ro,r.dom<WS xs) k:C2 xs ro act k=ul xs ro act k:=by
 unfold C2 ul;split
 .rfl
 rcases h:ro[k.toNat]? with _|r
 .rfl
 dsimp only;let e:=by
  funext x;exact kE F x r.dom<|hd r<|be h
 rw[e];split
 .refine List.filter_eq_nil_iff.2 λx _ h=>?_;have:=sO.1 h;omega
 rfl
end
section
variable{w:av}{F G:h}{l sa:Sl}{xs:J dz}{act:J Int}
def GJ{u}(h:aA nS 5 w F l xs)(O:ay [] w u):aA nS 5 u F l xs:=ZH cH Z h O N
theorem aiZ(a:aA nS 5 w F l xs)(f:Sd xs)(m:aA rInt 1 w G sa act)(n:WS act<=4611686018427387903):az aq 80 #[l,sa] w λe g=>(∃s,e=Sl.v s/\dc w g s (KM xs act))/\ay [] w g:=by
 have:=f.le;refine jK<|arc<|have:=a.len;⟨λk q i u=>∃j:Nat,i=j/\k+j=WS xs/\j<=WS xs/\dc w u q (Gl j<|XX xs act)/\ay [] w u,WS xs,⟨0,I,X,bE _,E7 ..,qE _ _⟩,?_⟩;rintro k q _ u ⟨j,rfl,r,o,d,h⟩;refine⟨λc=>?_,λc=>?_⟩
 .have c:=S c;let⟨y,e⟩:=eW (xs:=xs) (i:=j) X;let⟨ad,s,t,_⟩:=gK (GJ a h) e;have:=yP j<|XX xs act;refine⟨λl u=>dc w u l _/\ay [] w u,λl u ⟨v,z⟩=>⟨k-1,X,j+1,N0,X,X,v,z⟩,(Lc (kI m h) j n).mono ?_⟩;rintro _ B ⟨rfl,A⟩;obtain rfl:u=B:=A.symm;let C:=oo e;refine⟨_,I,λb u=>b=XX xs act j/\dc w u q (Gl j<|XX xs act)/\ay [] w u,?_,ad,λ_=>s,y.k,λ_=>t.dv 0 _ I,λhb=>?_,λhb=>⟨?_,d,h⟩⟩
  .rintro _ b ⟨rfl,P,N⟩;refine⟨λhb=>?_,λhb=>⟨by rw[BB,Q UM,bq];exact P,N⟩⟩;let⟨K,H,F,k3,G,b,q,y,D,L⟩:=ML w P N j ⟨X,X⟩ X;exact⟨K,H,F,G,b,q,by rw[BB,E hb];exact y,D⟩
  .refine(tf (GJ a h) f j).mono ?_;rintro _ y ⟨⟨w,rfl,b⟩,q⟩;refine⟨w,I,?_,ke d q,h.bG q⟩;rw[aO]at hb;unfold XX;rw[hb.1,C,hb.2,b.len,cd,cd,bM,dw,dw];omega
  unfold XX;rw[C,hb,dT]
 let c:=aQ c;have:j=WS xs:=X
 subst this;exact⟨⟨q,I,d⟩,h⟩
end
end Con
namespace Con
open Go Go.RowKit Go.Kt Go.Kt.V Vc
def upK(x:J dz)(i:Nat):Nat:=pD<|Gl (WS x) λk=>JW (k<i)&&Wh x k i
def dnK(x:J dz)(i:Nat):Nat:=pD<|Gl (WS x) λk=>JW (i<k)&&Wh x i k
def rgK(x:J dz)(i:Nat):Nat:=pD<|dG x i
structure Ce where
 k:Int
 pa:Int
 up:Nat
 dn:Nat
 rg:Nat
 ini:Int
 dft:Int
 f0:Nat
 f1:Nat
def aBI(p:Pl)(a e:Nat)(b:Nb):Ce:=⟨b.k,Nx p.sp a,upK p.sp a,dnK p.sp a,rgK p.sp a,(p.ini[a]?).getD 0,(p.dft[a]?).getD 0,e,e+WS b.mv⟩
mutual
def nMo:Nd->Nat
 |.mk b l=>WS b.mv+aua l
def aua:J Nd->Nat
 |[]=>0
 |x::l=>nMo x+aua l
end
mutual
def ceN(p:Pl):Nat->Nat->Nd->J Ce
 |a,e,.mk b l=>aBI p a e b::aub p (a+1) (e+WS b.mv) l
def aub(p:Pl):Nat->Nat->J Nd->J Ce
 |_,_,[]=>[]
 |a,e,x::l=>ceN p a e x++aub p (a+iI x) (e+nMo x) l
end
def exM(x:J dz)(r:Ro):Nat:=if 0<=r.dom then dnK x r.dom.toNat else 0
def agQ{xs}{r}{x}{a}(h:r∈XW xs a x):a<=r.src/\r.src<(a+iI x:Nat):=by
 obtain⟨n,b,j,m,c,_,rfl⟩:=EI h;have:=(aZ.1 c).1;rw[tW]at this;rw[Mj];dsimp only;omega
section
variable{w w':av}{F G H:h}{s si sd sr sa sm:Sl}{p:Pl}{act:J Int}{may:J C}{c:Nat}
theorem UD(h:aA Gi 1 w H sm may){i:Nat}{b}(x:may[i]? =aM b):∃ad,ci sm i 1 ad/\aB w ad [aj b]:=by
 have:=(aZ.1 x).1;have:=h.len;let⟨ad,y,s,a,g,e,f,c,d⟩:=h.get (bf i) X;rw[aV,x]at g;cases g;subst d;exact⟨ad,a,c⟩
end
def ET{w}{F}{s}{l}(h:aA rInt 1 w F s l){i:Nat}{x}(a:l[i]? =aM x):ri x:=by
 have:=(aZ.1 a).1;have:=h.len;let⟨ad,y,c,d,g,e,f,j,b⟩:=h.get (bf i) X;rw[aV,a]at g;injection g with g;subst g;exact b.2
def auc{w0 u}{s}{is}(j:dc w0.heap.size u s is)(h:ay [] w0 u){n}(l:ri n)(m:WS is<=20000000) bs (c:∀k∈bs,k<w0.heap.size):
  ∃y w,(au 31 1 #[.mk 0 n]).run aq u=.ok (Sl.v y) w/\bX bs u w/\∃b a,(Builtin.append_ #[31,31] 31 #[Sl.v s,Sl.v y]).run aq w=.ok (Sl.v b) a/\bX bs w a/\dc w0 a b (is++[n])/\ay [] w0 a:=by
 let⟨y,w,o,k3,b,a,g,d,f,i⟩:=ML w0 j h n l m;let e:=λk hk=>k3.block k (cD (c k hk) h.size) N;exact⟨y,w,o,e,b,a,g,λk hk=>((λk hk=>i.block k (cD (c k hk) h.size)<|by have:=c k hk;omega) k hk).trans (e k hk).symm,d,f⟩
def C3{b:Type}{f}{l:J b}{n}{x}(h:l[n]? =aM x):(l.take<|n+1).filter f=(l.take n).filter f++if f x=aE then[x]else[]:=by
 rw[aX,h,eU];cases a:f x<;>simp[List.filter,a]
section
variable{w:av}{F G H:h}{s si sd sr sa sm:Sl}{p:Pl}{act:J Int}{may:J C}
theorem abU(P:PlR w F s si sd sr p)(f:Fo p.sp)(hd:∀r∈p.ro,r.dom<WS p.sp)(h:aA rInt 1 w G sa act)(m:WS act<=2000000)(k:Int):
  az aq 19 #[ah #[s,si,sd,sr],sa,k] w λe d=>(∃t,e=t.v/\dc w d t (ul p.sp p.ro act k))/\ay [] w d:=by
 refine jK<|aqF ?_;rw[<-aeO f hd];intro i a H C b;let z:=b.size;have:=P.ro.len;have:=h.len;have:=h.cap;have:=h.big;refine⟨λc=>⟨⟨Sl.nil,I,?_⟩,b⟩,λc=>?_⟩
 .rw[cj,dx,dx]at c;let e:C2 p.sp p.ro act k=[]:=by
   unfold C2;split
   .rfl
   rw[cu X]
  rw[e];exact E7 ..
 rw[eH,dk,dk]at c;obtain⟨t,rfl⟩:∃t:Nat,k=t:=⟨k.toNat,X⟩
 obtain⟨r,w⟩:∃r,p.ro[t]? =aM r:=⟨_,aR X⟩
 let e:C2 p.sp p.ro act (t:Int)=act.filter λx=>wD p.sp x r.dom:=by
  unfold C2;rw[Q X,aV,w]
 rw[e];refine⟨λv q B u=>∃n:Nat,B=(n:Int)/\v+n=WS act/\n<=WS act/\dc a u q ((act.take n).filter λx=>wD p.sp x r.dom)/\ay [] a u,WS act,⟨0,I,X,bE _,E7 ..,qE _ _⟩,?_⟩;rintro v q _ u ⟨n,rfl,F,D,s,l⟩;refine⟨λj=>?_,λj=>?_⟩
 .have j:=S j;obtain⟨x,e⟩:∃x,act[n]? =aM x:=⟨_,aR X⟩
  let K:=b.bG l;let⟨ad,k,_⟩:=ig (kI h K) e;have:WS ((act.take n).filter λx=>wD p.sp x r.dom)<=n:=bC (ij _ _) (by rw[dj];omega);refine⟨λL u=>dc a u L _/\ay [] a u,λL u ⟨h1,h2⟩=>⟨v-1,X,n+1,N0,X,X,h1,h2⟩,ad,k,λw3 N=>?_⟩;let G:=K.bG N;let⟨zT,q,J⟩:=ig (kI h G) e;obtain rfl:=ci.OW k q;let⟨vJ,tg,M,T,_⟩:=BF (P.o0 G).ro w;refine⟨x,J,vJ,M,r.dom,T.dv 6 _ I,(GD (P.o0 G).sp x r.dom).mono ?_⟩;rintro _ u' ⟨rfl,hu⟩;obtain rfl:w3=u':=hu.symm;rw[C3 e];refine⟨_,I,Zm _ _,λhb=>?_,λhb=>⟨by rw[Q UM,bq];exact ke s N,l.bG N⟩⟩;let⟨y,w5,k1,k2,s',w6,V,W,Z,g4⟩:=auc (ke s N) (l.bG N) (ET h e) X [i] o;exact⟨ad,k,x,J,y,w5,k1,k2,s',w6,V,W,by rw[E hb];exact Z,g4⟩
 let j:=aQ j;have:n=WS act:=X
 subst this;rw[bm (bc _)]at s;exact⟨⟨q,I,Zd s z⟩,b.bG l⟩
end
structure aIP (ro:List Ro) (st:List Int×List Int):Prop where
 a:∀x,x∈st.1->∃(n:Nat) (r:Ro),x=n/\ro[n]? =aM r
 b:∀x,x∈st.2->x∈st.1
 c:st.1.Nodup
 d:WS st.2<=WS st.1
def Dj(w:av):Prop:=Lib.TabIs aq w "math/bits.deBruijn64tab" .u8 (Lib.deBruijn64tab.map λx:Nat=>(x:Int))
def al9:Tryz.prog.globalNamed "math/bits.deBruijn64tab" =aM 5:=D
def Dj.keep{w w':av}(h:Dj w)(hk:5<w.heap.size->w'.heap[5]? =w.heap[5]?):Dj w':=by
 unfold Dj Lib.TabIs World.var? at h⊢;rw[al9]at h⊢;simp only[Option.bind_some]at h⊢;rw[hk]
 .exact h
 refine bK λn=>?_;rw[nP X]at h;cases h
def Dj.only{w a:av}(h:Dj w)(O:ay [] w a):Dj a:=h.keep λb=>O.block _ b N
def rCe:Rp Ce:=λ_ _ x c=>∃e l:Sl,c=[O U x.k,O U x.pa,.int .u64 (x.up:Nat),.int .u64 (x.dn:Nat),.int .u64 (x.rg:Nat),O U x.ini,O U x.dft,e.v,l.v,O U (x.f0:Nat),O U (x.f1:Nat)]
def rEd:Rp Nat:=λ_ _ x c=>c[7]? =aM (.int .u64 (x:Int))/\∀v∈c,v.oneCell'=aE
def rI0:Rp Int:=λ_ _ x c=>c=[O U x]
def ama:rI0.Ok where
 keep h _:=h
 inHeap h:=h
 mono h _:=h
 one:=by
  rintro w F x c h v a;unfold rI0 at h;subst h;simp only[bh]at a;subst a;rfl
structure Vs (A:Nat) (u:av) (sv su:Sl) (n:Nat):Prop where
 v:∃xs,Own oK 1 9 A u (λ_=>False) sv xs/\WS xs=n
 u:∃xs,Own rI0 1 3 A u (λ_=>False) su xs/\WS xs=n
 ap:∀k,iJ sv k->¬iJ su k
section
variable{A n:Nat}{w:av}{sv su:Sl}
def Vs.only{d:av}{s:J Nat}(l:Vs A w sv su n)(h:ay s w d)(a:∀k∈s,k<A):Vs A d sv su n:=by
 let⟨⟨x,f,g⟩,⟨m,i,j⟩,c⟩:=l;exact⟨⟨x,f.keep dI λk hk b=>h.block k b λe=>(by have:=a k e;have:=(hk.resolve_left id).1;omega),g⟩,⟨m,i.keep ama λk hk b=>h.block k b λe=>(by have:=a k e;have:=(hk.resolve_left id).1;omega),j⟩,c⟩
end
structure TbR (w:av) (F:h) (sn sc se:Sl) (c:Ch):Prop where
 tn:aA oK 1 w F sn ((CJ c.root).map λb=>b.nm)
 tc:aA rCe 11 w F sc (ceN (gY c) 0 0 c.root)
 te:aA rEd 16 w F se ((XW (cQ c) 0 c.root).map (exM (cQ c)))
def nT{w:av}{F G:h}{s sb:Sl}{l m:J Int}(a:aA rInt 1 w F s l)(b:aA rInt 1 w G sb m):az aq 18 #[s.v,sb.v] w λe d=>e=ak (aj<|JW<|l=m)/\ay [] w d:=by
 refine ret<|azZ<|have:=a.len;have:=b.len;have:=a.big;have:=a.cap;⟨λhc=>⟨by rw[bR];rintro rfl;simp only[bne_iff_ne]at hc;omega,qE _ _⟩,λhc=>?_⟩;have:(s.n:Int)=sb.n:=WH
 refine⟨λk i u=>∃j:Nat,i=(j:Int)/\k+j=WS l/\j<=WS l/\l.take j=m.take j/\ay [] w u,WS l,⟨0,I,X,X,N,qE _ _⟩,?_⟩;rintro k _ u ⟨j,rfl,r,q,c,O⟩;refine⟨λp=>?_,λp=>?_⟩
 .have p:=S p;let t:j<WS l:=X
  let e:j<WS m:=X
  let⟨ad,v,x⟩:=ig (kI a O)<|aR t;let⟨T,y,z⟩:=ig (kI b O)<|aR e;refine⟨ad,v,_,x,T,y,_,z,λB C U=>⟨?_,O.bG U⟩,λB D A=>⟨k-1,X,j+1,N0,X,X,?_,O.bG A⟩⟩
  .rw[bR]
   grind
  rw[aX,aX,c,aR t,aR e];simp_all
 let p:=aQ p;rw[bm X,bm X]at c;simp_all
end Con
namespace Con
open Go Go.RowKit Go.Kt Go.Kt.V Vc
def pk:J Nat->Nat
 |[]=>0
 |a::l=>a+256*pk l
def IU(a:Nat):Nat:=(a/2&&& 85)+(a&&& 85)
def B7(a:Nat):Nat:=(a/4&&& 51)+(a&&& 51)
def ax(a:Nat):Nat:=(a/16+a)&&& 15
def amb(k:Int):0<=bits .and U k 1048575:=by
 have:(BitVec.ofInt 64 k&&& BitVec.ofInt 64 1048575).toNat<=1048575:=by
  rw[BitVec.toNat_and];exact Nat.and_le_right
 show 0<=IntKind.i64.wrap (((BitVec.ofInt 64 k&&& BitVec.ofInt 64 1048575).toNat:Nat):Int);rw[eI X X];omega
def j7(W:Int->Nat):J Int->Nat
 |[]=>0
 |r::l=>W r+j7 W l
def lR(W:Int->Nat):J Int->Nat
 |[]=>1
 |r::l=>W r*lR W l
def C4 W r:∀l,j7 W (l++[r])=j7 W l+W r
 |[]=>by simp[j7]
 |x::l=>by rw[bZ,j7,j7,C4 W r l,ez]
def C5 W r:∀l,lR W (l++[r])=lR W l*W r
 |[]=>by simp[lR]
 |x::l=>by rw[bZ,lR,lR,C5 W r l,Nat.mul_assoc]
def GK{W V}:∀{l:J Int},(∀r∈l,W r=V r)->j7 W l=j7 V l
 |[],_=>rfl
 |x::l,h=>by rw[j7,j7,h x<|.head _,GK λr a=>h r<|.tail _ a]
def Xg{W V}:∀{l:J Int},(∀r∈l,W r=V r)->lR W l=lR V l
 |[],_=>rfl
 |x::l,h=>by rw[lR,lR,h x<|.head _,Xg λr a=>h r<|.tail _ a]
def VC W:∀l j,j7 W (l.take j)<=j7 W l
 |[],j=>N
 |x::l,0=>by simp[j7]
 |x::l,j+1=>by rw[fL,j7,j7];have:=VC W l j;omega
def GM{W}:∀{l:J Int},(∀r∈l,0<W r)->0<lR W l
 |[],_=>Nat.one_pos
 |x::l,h=>by rw[lR];exact Nat.mul_pos (h x<|.head _)<|GM R
def IW{W}:∀{l:J Int} j,(∀r∈l,0<W r)->lR W (l.take j)<=lR W l
 |[],j,_=>N
 |x::l,0,h=>by rw[cr];exact GM h
 |x::l,j+1,h=>by rw[fL,lR,lR];exact LN _<|IW j R
def wy(x:J dz):Nat->Nat->Nat
 |0,_=>1
 |f+1,n=>if(dG x n).length=0 then 1 else if kd x n=2 then lR (λr=>wy x f r.toNat) (dG x n)else j7 (λr=>wy x f r.toNat) (dG x n)
def W(x:J dz)(r:Int):Nat:=wy x (WS x) r.toNat
section
variable{xs:J dz}
def UE(h:Sd xs):∀f g n,WS xs<=n+f->WS xs<=n+g->wy xs f n=wy xs g n
 |0,0,_,_,_=>rfl
 |0,g+1,n,f,_=>by
  have:dG xs n=[]:=vD.2 λr a=>by
   let⟨q,t,_,b,_,_,c,_⟩:=h.U6 a
   grind
  rw[wy,wy,this];rfl
 |f+1,0,n,_,g=>by
  have:dG xs n=[]:=vD.2 λr a=>by
   let⟨q,t,_,b,_,_,c,_⟩:=h.U6 a
   grind
  rw[wy,wy,this];rfl
 |f+1,g+1,n,b,c=>by
  let k:∀r,r∈dG xs n->wy xs f r.toNat=wy xs g r.toNat:=λr a=>by
   obtain⟨q,t,rfl,_,_,_,d,_⟩:=h.U6 a;exact UE h f g q X X
  rw[wy,wy,GK k,Xg k]
theorem Sd.amC(h:Sd xs)(n:Nat):W xs n=if(dG xs n).length=0 then 1 else if kd xs n=2 then lR (W xs) (dG xs n)else j7 (W xs) (dG xs n):=by
 have:W xs n=wy xs (WS xs+1) n:=by
  unfold W;exact UE h _ _ n X X
 assumption
def rj(x:J dz)(r:Int):Nat:=(PC x r-r).toNat
theorem amc{x y}(h:2<=x)(c:2<=y):x+y<=x*y:=by
 obtain⟨a,rfl⟩:∃a,x=a+2:=⟨x-2,X⟩
 obtain⟨b,rfl⟩:∃b,y=b+2:=⟨y-2,X⟩
 grind
theorem GN{m}(h:1<=m):2<=2 ^ m:=by
 grind
theorem Ld{V}{z}:∀{l:J Int},(∀r∈l,2*V r<=2 ^ z r/\1<=z r)->l≠[]->2*j7 V l<=2 ^ (j7 z l)
 |[],_,h=>absurd I h
 |[x],h,_=>by simpa[j7]using(h x<|.head _).1
 |x::y::l,h,_=>by
  let b:=h x<|.head _;have:=Ld (l:=y::l) (λr c=>h r<|.tail _ c) N;let d:1<=j7 z (y::l):=by
   have:=(h y<|.tail _<|.head _).2;rw[j7];omega
  let e:j7 V (x::y::l)=V x+j7 V _:=I;let a:j7 z (x::y::l)=z x+j7 z _:=I;rw[e,a,Nat.pow_add];have:=amc (GN b.2)<|GN d;omega
theorem Lh{V}{z}:∀{l:J Int},(∀r∈l,2*V r<=2 ^ z r/\1<=z r)->l≠[]->2*lR V l<=2 ^ (j7 z l)
 |[],_,h=>absurd I h
 |[x],h,_=>by simpa[j7,lR]using(h x<|.head _).1
 |x::y::l,h,_=>by
  let i:=Lh (l:=y::l) (λr b=>h r<|.tail _ b) N;let e:lR V (x::y::l)=V x*lR V (y::l):=I;let a:j7 z (x::y::l)=z x+j7 z (y::l):=I;rw[e,a,Nat.pow_add];have:2*(V x*lR V (y::l))<=(2*V x)*(2*lR V (y::l)):=by
   grind
  exact bC this<|Nat.mul_le_mul (h x<|.head _).1 i
theorem RF{z}{en:Int->Int}:∀{l:J Int} {lo hi:Int},l.Pairwise (λa b=>en a<=b)->(∀r∈l,lo<=r/\en r<=hi/\(z r)=en r-r)->lo<=hi->(j7 z l)<=hi-lo
 |[],lo,hi,_,_,h=>by rw[j7];omega
 |x::l,lo,hi,h,m,c=>by
  rw[gM]at h;let b:=m x<|.head _;have:=RF (l:=l) (lo:=en x) (hi:=hi) h.2 (λr a=>⟨h.1 r a,(m r<|.tail _ a).2⟩) b.2.1;rw[j7];omega
theorem Sd.Va(h:Sd xs){n}{s}(b:xs[n]? =aM s):(j7 (rj xs) (dG xs n):Int)<=s.en-n-1:=by
 have:=h.fo.up n s b;have:=RF (z:=rj xs) (en:=PC xs) (l:=dG xs n) (lo:=n+1) (hi:=s.en) (h.Au n (yO xs n) λr a=>a) (λr a=>by
  obtain⟨q,t,rfl,c,_,_,d,e⟩:=h.U6 a;have:=h.fo.up q t c;unfold rj;rw[sR c];exact⟨X,h.fo.lam q b c d<|e s b,X⟩) X
 omega
def Sd.Vb(h:Sd xs):∀(f n) {s:dz},xs[n]? =aM s->1<=wy xs f n/\2*wy xs f n<=2 ^ rj xs n
 |0,n,s,a=>by
  have u:=h.fo.up n s a;have:1<=rj xs n:=by unfold rj;rw[sR a];omega
  rw[wy]
  grind
 |f+1,n,s,a=>by
  have u:=h.fo.up n s a;have z:1<=rj xs n:=by unfold rj;rw[sR a];omega
  rw[wy];split
  .grind
  rename_i i;have W:dG xs n≠[]:=R
  have k:∀r,r∈dG xs n->2*wy xs f r.toNat<=2 ^ rj xs r/\1<=rj xs r:=λr b=>by
   obtain⟨q,t,rfl,c,_⟩:=h.U6 b;have d:=h.fo.up q t c;exact⟨(h.Vb f q c).2,by unfold rj;rw[sR c];omega⟩
  have p:∀r,r∈dG xs n->0<wy xs f r.toNat:=λr b=>by
   obtain⟨q,t,rfl,c,_⟩:=h.U6 b;rw[aV];exact(h.Vb f q c).1
  have l:2 ^ j7 (rj xs) (dG xs n)<=2 ^ rj xs n:=Nat.pow_le_pow_right Z (by
   have:=h.Va a;unfold rj at*
   rw[sR a];omega)
  split
  .exact⟨GM p,bC (Lh k W) l⟩
  refine⟨?_,bC (Ld k W) l⟩;cases b:dG xs n with
  |nil=>grind
  |cons x c=>
   have:=p x (by rw[b];exact .head _);rw[j7];omega
def Sd.Vd(h:Sd xs){n:Nat}{s}(a:xs[n]? =aM s):1<=W xs n:=by
 unfold W;exact(h.Vb _ n a).1
theorem Sd.ajz(h:Sd xs){n}{s}(b:xs[n]? =aM s):j7 (W xs) (dG xs n)<=4611686018427387904/\lR (W xs) (dG xs n)<=4611686018427387904:=by
 let k:∀r,r∈dG xs n->2*W xs r<=2 ^ rj xs r/\1<=rj xs r:=λr a=>by
  obtain⟨q,t,rfl,c,_⟩:=h.U6 a;let d:=h.fo.up q t c;unfold W;exact⟨(h.Vb _ q c).2,by unfold rj;rw[sR c];omega⟩
 have:2 ^ j7 (rj xs) (dG xs n)<=2 ^ 63:=Nat.pow_le_pow_right Z (by
  have:=h.Va b;have:=h.fo.up n s b;have:=h.le;omega)
 by_cases a:dG xs n=[]
 .rw[a];exact⟨bE _,by rw[lR];decide⟩
 have:=Ld k a;have:=Lh k a;omega
def Sd.auw(h:Sd xs){n:Nat}{s}(a:xs[n]? =aM s):W xs n<=4611686018427387904:=by
 rw[h.amC n];have:=h.ajz a
 grind
def Sd.acE(h:Sd xs){n}{r}(b:r∈dG xs n):0<W xs r:=by
 obtain⟨q,t,rfl,a,_⟩:=h.U6 b;exact h.Vd a
def pick(V:Int->Nat):J Int->Nat->Option (Int×Nat)
 |[],_=>VM
 |r::l,k=>if k<V r then aM (r,k)else pick V l (k-V r)
def lr(V:Int->Nat):J Int->Nat->J Nat×Nat
 |[],k=>([],k)
 |r::l,k=>((lr V l k).2 % V r::(lr V l k).1,(lr V l k).2/V r)
def mU(x:J dz):Nat->Nat->Nat->J Int
 |0,n,_=>[n]
 |f+1,n,k=>n::if kd x n=1 then(match pick (W x) (dG x n) k with
  |some (r,k')=>mU x f r.toNat k'
  |none=>[])else((dG x n).zip (lr (W x) (dG x n) k).1).flatMap λp=>mU x f p.1.toNat p.2
def Y0(x:J dz)(act:J Int)(par:C)(e:Int->Nat):J Int->Nat->Nat
 |[],k=>k
 |r::l,k=>if par then Y0 x act par e l (k*W x r+e r)else if r∈act then k+e r else Y0 x act par e l (k+W x r)
def WL(x:J dz)(act:J Int):Nat->Nat->Nat
 |0,_=>0
 |f+1,n=>Y0 x act (kd x n==2) (λr=>WL x act f r.toNat) (dG x n) 0
theorem BQ{V}:∀{l:J Int} {k:Nat} {r:Int} {a:Nat},pick V l k=aM (r,a)->r∈l/\a<V r
 |[],_,_,_,h=>VI
 |x::l,k,r,a,h=>by
  rw[pick]at h;split at h
  .simp_all
  let⟨b,c⟩:=BQ h
  grind
theorem Li(h:Sd xs):∀(f n k:Nat) {s:dz},xs[n]? =aM s->(mU xs f n k).Pairwise (· <·)/\∀x,x∈mU xs f n k->(n:Int)<=x/\x<s.en
 |0,n,k,s,a=>by
  have:=h.fo.up n s a;rw[mU];simp_all
 |f+1,n,k,s,l=>by
  have:=h.fo.up n s l;rw[mU];let e:∀(r:Int) d,r∈dG xs n->(mU xs f r.toNat d).Pairwise (· <·)/\(∀x,x∈mU xs f r.toNat d->r<=x/\x<PC xs r)/\(n:Int)<r/\PC xs r<=s.en:=λr d j=>by
   obtain⟨q,t,rfl,c,_,_,a,b⟩:=h.U6 j;rw[aV,sR c];let⟨k,n⟩:=Li h f q d c;exact⟨k,n,X,h.fo.lam q l c a<|b s l⟩
  let i:∀(L:J Int),L.Pairwise (· <·)->(∀x∈L,(n:Int)<x/\x<s.en)->((n:Int)::L).Pairwise (· <·)/\∀x,x∈(n:Int)::L->(n:Int)<=x/\x<s.en:=λL m c=>⟨A,R⟩
  split
  .rcases g:pick (W xs) _ k with _|p
   .simp_all
   let⟨r,k⟩:=p;let⟨m,c,a,b⟩:=e r k (BQ g).1
   grind
  .have z:=by
    have:=h.Au n (yO xs n) λr j=>j;have:(((dG xs n).zip (lr (W xs) (dG xs n) k).1).map Prod.fst).Pairwise λa b=>PC xs a<=b:=by
     let a:((dG xs n).zip (lr (W xs) (dG xs n) k).1).map Prod.fst=(dG xs n).take ((lr (W xs) (dG xs n) k).1.length):=by
      generalize (lr _ _ k).1=s;generalize dG xs n=b
      induction b generalizing s with
      |nil=>simp
      |cons r b f=>
       cases s with
       |nil=>simp
       |cons d s=>simp[f]
     grind
    rwa[lW]at this
   refine i _ (Vw (f:=λp:Int×Nat=>mU xs f p.1.toNat p.2) (lo:=λp=>p.1) (hi:=λp=>PC xs p.1) z λp g=>?_) λx o=>?_
   .have:=e p.1 p.2 (DD g).1
    grind
   .obtain⟨p,g,o⟩:=jp.1 o;let⟨_,c,a,b⟩:=e p.1 p.2 (DD g).1
    grind
theorem inB(h:Sd xs) f n k {s} (a:xs[n]? =aM s):WS (mU xs f n k)<=64:=by
 let⟨b,c⟩:=Li h f n k a;have:=h.fo.up n s a;have:=h.le;have:=NY b c X;omega
end
def GP V:∀l k,(lr V l k).1.length=WS l
 |[],k=>rfl
 |r::l,k=>by rw[lr,aY,aY,GP V l k]
def G6 V:∀l k,(lr V l k).2<=k
 |[],k=>bc _
 |r::l,k=>by rw[lr];exact bC (Nat.div_le_self _ _)<|G6 V l k
def niP{V}:∀{l:J Int} {k j:Nat} {r:Int} {d:Nat},(∀r∈l,0<V r)->l[j]? =aM r->(lr V l k).1[j]? =aM d->d<V r
 |[],_,_,_,_,_,h,_=>VI
 |x::l,k,0,r,d,p,h,g=>by
  rw[lr]at g;rw[cX,bN]at h g;subst h g;exact Nat.mod_lt _<|p _<|.head _
 |x::l,k,j+1,r,d,p,h,g=>by
  rw[lr]at g;exact niP (λr a=>p r<|.tail _ a) h g
section
variable{xs:J dz}
theorem ch0{p}{r0}:∀{l:J Int},l.Pairwise (· <·)->r0∈l->(∀r∈l,(p r=aE↔r=r0))->l.countP p=1
 |[],_,h,_=>VI
 |x::l,p,h,i=>by
  rw[gM]at p;rw[List.countP_cons];by_cases a:x=r0
  .subst a;rw[E ((i x<|.head _).2 I)]
   grind
  .have b:=by
    rw[ba]at h;exact h.resolve_left λe=>a e.symm
   rw[Q (λe=>a<|(i x<|.head _).1 e),ch0 p.2 b R]
theorem IX{V}:∀{l:J Int} {k:Nat},k<j7 V l->∃r a,pick V l k=aM (r,a)
 |[],k,h=>by simp[j7]at h
 |x::l,k,h=>by
  rw[pick];by_cases hk:k<V x
  .exact⟨_,_,E hk⟩
  rw[Q hk];exact IX (by rw[j7]at h;omega)
theorem td{A}{rc}{r0}{k'}:∀{l:J Int} {k c:Nat},l.Pairwise (· <·)->pick (W xs) l k=aM (r0,k')->(∀r∈l,(r∈A↔r=r0))->Y0 xs A aL rc l c+k'=c+k+rc r0
 |[],k,c,_,h,_=>VI
 |x::l,k,c,p,h,i=>by
  rw[gM]at p;rw[pick]at h;let e:Y0 xs A aL rc (x::l) c=if x∈A then c+rc x else Y0 xs A aL rc l _:=I
  rw[e];by_cases hk:k<W xs x
  .grind
  .rw[Q hk]at h;let b:x≠r0:=λe=>by
    have:=p.1 r0 (BQ h).1;omega
   rw[Q (λA=>b<|(i x<|.head _).1 A)];have:=td (rc:=rc) (c:=c+W xs x) p.2 h λr a=>i r<|.tail _ a;omega
theorem OJ{V}:∀l k,(lr V l k).2=k/lR V l
 |[],k=>by rw[lr,lR,Nat.div_one]
 |x::l,k=>by rw[lr,lR,OJ l k,Nat.div_div_eq_div_mul,Nat.mul_comm]
theorem OK{A}{rc}:∀{l:J Int} {k c:Nat},(∀p,p∈l.zip (lr (W xs) l k).1->rc p.1=p.2)->Y0 xs A aE rc l c+(lr (W xs) l k).2*lR (W xs) l=c*lR (W xs) l+k
 |[],k,c,_=>by simp[Y0,lr,lR]
 |x::l,k,c,h=>by
  have e:Y0 xs A aE rc (x::l) c=Y0 xs A aE rc l _:=I;rw[lr]at h⊢;have a:=h _<|.head _;have i:=OK (l:=l) (k:=k) (c:=c*W xs x+rc x) (A:=A) λp b=>h p<|.tail _ b;rw[e,lR];have a:rc x=(lr _ l k).2 % W xs x:=a;rw[a]at i⊢;generalize (lr _ l k).2=q at*
  generalize lR _ l=P at*
  have d:q*P=(q/W xs x)*(W xs x*P)+(q % W xs x)*P:=by
   conv=>lhs;rw[<-Nat.div_add_mod q (W xs x)]
   grind
  grind
def BR f n k:(n:Int)∈mU xs f n k:=by
 cases f with
 |zero=>rw[mU];exact .head _
 |succ f=>rw[mU];exact .head _
theorem kL(h:Sd xs):∀(f n k:Nat) {s:dz},xs[n]? =aM s->WS xs<=n+f->Bz s.k=aE->k<W xs n->∀A:J Int,(∀x:Int,(n:Int)<=x->x<s.en->(x∈A↔x∈mU xs f n k))->
  (∀x,x∈mU xs f n k->Bz (kd xs x)=aE/\(x=n∨∀t,xs[x.toNat]? =aM t->t.pa∈A)/\D4 xs A x.toNat=aE)/\WL xs A f n=k
 |0,n,k,s,a,f,_,_,A,_=>by
  have:=fG a;omega
 |f+1,n,k,s,z,hf,lF,hk,A,m=>by
  have hu:=h.fo.up n s z;have v:=h.amC n;have C:=oo z;have L:(n:Int)∈A:=(m n (rU _) hu.1).2<|BR _ _ _;have S:mU xs (f+1) n k=(n:Int)::if kd xs n=1 then(match pick (W xs) (dG xs n) k with
   |some (r,y)=>mU xs f r.toNat y
   |none=>[])else((dG xs n).zip (lr (W xs) (dG xs n) k).1).flatMap λp=>mU xs f p.1.toNat p.2:=I
  have T:WL xs A (f+1) n=Y0 xs A (kd xs n==2) (λr=>WL xs A f r.toNat) (dG xs n) 0:=I;have H:D4 xs A n=if kd xs n=2 then Rj xs A n==WS (dG xs n) else Rj xs A n==min 1 (WS<|dG xs n):=I
  have G:Rj xs A n=(dG xs n).countP λr=>JW (r∈A):=I;have B:∀{r:Int},r∈dG xs n->_:=fun{r} j=>h.U6 (n:=n) (r:=r) j;have D:(dG xs n).Pairwise λa b=>PC xs a<=b:=h.Au n (yO xs n) λr g=>g;have w:=yO xs n;have sub:∀(r:Int) (d:Nat),r∈dG xs n->d<W xs r->(∀x:Int,r<=x->x<PC xs r->(x∈A↔x∈mU xs f r.toNat d))->
    (∀x,x∈mU xs f r.toNat d->Bz (kd xs x)=aE/\(∀t,xs[x.toNat]? =aM t->t.pa∈A)/\D4 xs A x.toNat=aE)/\WL xs A f r.toNat=d:=λr d g hd a=>by
   obtain⟨q,t,rfl,c,p,s,V,W⟩:=B g;rw[aV];rw[aV,sR c]at a;let⟨l,n⟩:=kL h f q d c X s hd A a;refine⟨λx hx=>?_,n⟩;let⟨e,b,k⟩:=l x hx;refine⟨e,?_,k⟩;rcases b with rfl|b
   .intro d t;rw[aV,c]at t;injection t with t;rw[<-t,p];exact L
   exact b
  have Cg:∀(r:Int) (d:Nat),r∈dG xs n->∀x,x∈mU xs f r.toNat d->r<=x/\x<PC xs r:=λr d g x hx=>by
   obtain⟨q,t,rfl,a,_⟩:=B g;rw[aV]at hx;rw[sR a];exact(Li h f q d a).2 x hx
  have o:∀r,r∈dG xs n->(n:Int)<r/\r<PC xs r/\PC xs r<=s.en:=λr g=>by
   obtain⟨q,t,rfl,a,_,_,b,c⟩:=B g;have:=h.fo.up q t a;rw[sR a];exact⟨X,this.1,h.fo.lam q z a b<|c s z⟩
  rw[S]at m⊢;rw[T];rw[C]at v m⊢;have F:s.k=1∨s.k=2:=by simpa[Bz]using lF
  generalize N:dG xs n=i at*
  have u:∀{P:J Int},(∀x∈P,Bz (kd xs x)=aE/\(∀t,xs[x.toNat]? =aM t->t.pa∈A)/\D4 xs A x.toNat=aE)->D4 xs A n=aE->∀x,x∈(n:Int)::P->Bz (kd xs x)=aE/\(x=n∨∀t,xs[x.toNat]? =aM t->t.pa∈A)/\D4 xs A x.toNat=aE:=λY M x hx=>by
   rw[ba]at hx;rcases hx with rfl|hx
   .exact Rl
   let⟨a,b,c⟩:=Y x hx;exact R
  by_cases K:WS i=0
  .have r:i=[]:=cM K;subst r;have f:k=0:=by
    rw[E K]at v;omega
   subst f;refine⟨?_,by cases(s.k==2)<;>rfl⟩;have M:D4 xs A n=aE:=by
    rw[H,G];split<;>rfl
   split
   .exact u (λx hx=>V3) M
   exact u (λx hx=>V3) M
  rw[Q K]at v;rcases F with e|e
  .rw[e]at v m⊢;rw[Q Z]at v;let⟨b,y,p⟩:=IX (V:=W xs) (l:=i) (k:=k) X;let⟨a,s⟩:=BQ p;rw[E I,p]at m⊢;dsimp only at m⊢;have hb:=o b a;have k8:∀r∈i,(r∈A↔r=b):=λr g=>by
    have d:=o r g;rw[m r X X,ba];constructor
    .rintro(j|j)
     .omega
     have e:=Cg b y a r j;by_cases c:r=b
     .exact c
     have:b<r:=X
     have t:=fy.1 D;obtain⟨f,n,rfl⟩:=xh a;obtain⟨k,q,rfl⟩:=xh g;have l:f<k:=by
      refine qB λr=>?_;by_cases l:f=k
      .subst l;omega
      have:=fy.1 w k f q n X;omega
     have:=t f k n q l;omega
    rintro rfl;right;obtain⟨q,t,rfl,_⟩:=B g;rw[aV];exact BR ..
   have k:∀x:Int,b<=x->x<PC xs b->(x∈A↔x∈mU xs f b.toNat y):=λx h1 h2=>by
    rw[m x X X,ba];exact⟨λj=>j.resolve_left X,.inr⟩
   let⟨W,g2⟩:=sub b y a s k;have l:D4 xs A n=aE:=by
    rw[H,C,e,Q Z,G,ch0 w a Rl,dw];omega
   refine⟨u W l,?_⟩;have:=td (xs:=xs) (A:=A) (rc:=λr=>WL xs A f r.toNat) (c:=0) w p k8;have V:((1:Int)==2)=aL:=I;rw[V];rw[g2]at this;omega
  rw[e]at v m⊢;rw[E I]at v;rw[Q Z]at m⊢;have ff:=GP (W xs) i k;have bJ:∀r∈i,0<W xs r:=λr g=>by rw[<-N]at g;exact h.acE g
  let d:=(lr (W xs) i k).1
  have V:d=(lr (W xs) i k).1:=I;rw[<-V]at m ff⊢;have zp:∀p,p∈i.zip d->p.1∈i/\p.2<W xs p.1:=λp a=>by
   exact⟨(DD a).1,let⟨e,c⟩:=fk a;have:=qC.1 c;niP bJ this.1 this.2⟩
  have b:∀p,p∈i.zip d->∀x:Int,p.1<=x->x<PC xs p.1->(x∈A↔x∈mU xs f p.1.toNat p.2):=λp a x h1 h2=>by
   have c:=o p.1 (zp p a).1;rw[m x X X,ba,jp];constructor
   .rintro(j|⟨q,e,j⟩)
    .omega
    have k:=Cg q.1 q.2 (zp q e).1 x j;have f:q=p:=by
     let⟨l,hi⟩:=fk a;let⟨n,hj⟩:=fk e;have x:=qC.1 hi;have W:=qC.1 hj;have r:=(aZ.1 x.1).1;have t:=(aZ.1 W.1).1;have gz:i[l]=p.1:=by have:=x.1;rw[aR r]at this;exact R
     have qj:i[n]=q.1:=by have:=W.1;rw[aR t]at this;exact II this
     have me:l=n:=by
      refine qB λp=>?_;rcases Nat.lt_or_gt_of_ne p with p|p
      .have:=fy.1 D l n r t p;rw[gz,qj]at this;omega
      have:=fy.1 D n l t r p;rw[gz,qj]at this;omega
     subst me;rw[hi]at hj;exact R
    rw[f]at j;exact j
   intro j;exact R
  have s:=λp a=>sub p.1 p.2 (zp p a).1 (zp p a).2<|b p a;have am:D4 xs A n=aE:=by
   rw[H,C,e,E I,G,dw,List.countP_eq_length];intro r g;rw[bB];obtain⟨c,k,rfl⟩:=xh g;have f:=o _ g;have n:(i[c],d[c]' X)∈i.zip d:=be<|qC.2 ⟨aR k,aR X⟩;refine(b _ n _ (rU _) f.2.1).2 ?_;let⟨q,t,l,_⟩:=B g;rw[l,aV];exact BR ..
  refine⟨u (λx hx=>?_) am,?_⟩
  .obtain⟨p,a,hx⟩:=jp.1 hx;exact(s p a).1 x hx
  have:=OK (xs:=xs) (A:=A) (rc:=λr=>WL xs A f r.toNat) (l:=i) (k:=k) (c:=0) R;rw[OJ,Nat.div_eq_of_lt X,yw,ku,bS]at this;exact this
theorem agR(h:Sd xs){k}(hk:k<W xs 0):Lg xs (mU xs (WS xs) 0 k)/\WL xs (mU xs (WS xs) 0 k) (WS xs) 0=k:=by
 let⟨s,a,Z⟩:=h.rt;have:=h.fo.up 0 s a;let⟨e,f⟩:=kL h (WS xs) 0 k a X (by rw[Z];rfl) (by exact_mod_cast hk) _ λx _ _=>Iff.rfl;let⟨g,i⟩:=Li h (WS xs) 0 k a;refine⟨⟨by exact_mod_cast BR (xs:=xs) (WS xs) 0 k,g,λx b=>?_⟩,f⟩;let⟨c,j,d⟩:=e x b;have:=i x b;exact⟨X,X,c,P9,d⟩
end
def OL{a:Type}(f:a->aw):∀l:J a,(l.map λx=>[f x]).flatten=l.map f
 |[]=>rfl
 |x::l=>by rw[ch,fE,ch,OL f l];rfl
def E8(w:av){n:Nat}(r:n<=2000000)(q:0<n):∃(s:Sl) (a:av),(Instr.makeSlice 105 (O U (n:Int))<|O U (n:Int)).run aq w=.ok s.v a/\Own Gi 1 4 w.heap.size a (λ_=>False) s (List.replicate n aL)/\ay [] w a:=by
 let⟨a,j,d,l⟩:=run_makeSlice_full (P:=aq) (w:=w) w.heap.size 105 4 Tryz.t4 (aj aL) 1 D D I I U U n X (by show 1*n<=_;omega) (by show n<=9223372036854775807;omega)<|bc _;have e:(madeCells (Value.bool aL).cells<|n*1).toList=(List.replicate n aL).map Value.bool:=by
  rw[lU,List.map_replicate];exact toList_madeCells_one _ _
 rw[e]at d;refine⟨⟨aM ⟨w.heap.size,0,VM⟩,n,n⟩,a,j,?_,by have:=Only.acp l;simpa using this⟩;rcases d.2 with⟨h,_⟩|⟨g,cap,c,h,m,f,o,p,i,b⟩
 .cases h
 injection h with h g e;injection h with h;injection h with h;subst h e;refine .inr ⟨w.heap.size,(List.replicate n aL).map λx=>[Value.bool x],c.toList.drop n,I,bc _,?_,?_,by rw[Ha],bc _,?_,?_⟩
 .rw[OL];rw[lU]at b;rw[<-b,eS];unfold aF;rw[f]
 .dsimp only;rw[cT,kg,i];omega
 .dsimp only;omega
 have:∀s,jk (λx t=>WS t=1/\Gi a (λk=>False/\k≠w.heap.size) x t) (List.replicate s aL) ((List.replicate s aL).map λx=>[Value.bool x]):=λs=>by
  induction s with
  |zero=>trivial
  |succ s k=>exact⟨⟨I,I⟩,k⟩
 exact this n
abbrev mH(B:Nat)(w:av)(s:Sl)(l:J C):Prop:=Own Gi 1 4 B w (λ_=>False) s l
def mH.o0{B:Nat}{w a:av}{s:Sl}{l:J C}(h:mH B w s l)(O:ay [] w a):mH B a s l:=h.keep sQ λk _ b=>O.block k b N
def mH.at{B:Nat}{w:av}{s:Sl}{n S i:Nat}(h:mH B w s (ww n S))(a:i<n):∃ad,ci s (i:Int) 1 ad/\aB w ad [aj (S.testBit i)]:=UD (h.slice sQ)<|GF a
def mH.set{B:Nat}{a:av}{s:Sl}{n S k:Nat}(h:mH B a s (ww n S))(hk:k<n)(m:n<=64){K:Nat->Nat->aI->Nat->Prop}
  (l:∀g cells,s.a=aM ⟨g,0,VM⟩->B<=g->g<a.heap.size->(∀w,ay [g] a w->aF w g 4 (fX cells k [aj aE])->mH B w s (ww n<|vF S k))->K g k cells 4):
  ∃p,ci s (k:Int) 1 p/\sT p a 1 K:=by
 let⟨g,cells,b,c,i,d,e⟩:=MT (x:=aE) (n:=k) (vs:=[aj aE]) (G:=λ_=>False) sQ h (by rw[yY];exact hk) I I R Z;rw[lU]at c d e;let f:=h.blk b;exact⟨_,c,g,k,cells,_,I,i,d,l g cells b f.1 f.2 λw O j=>by have:=e w O j;rwa[al8 hk m]at this⟩
section
variable{w:av}{F G H:h}{s si sd sr sm sf sp:Sl}{p:Pl}{from_:J Int}
theorem Hg{n S:Nat}(d:n<=64)(M:aA Gi 1 w F sm (ww n S)):
  az aq 50 #[sm.v] w λe a=>(∃t:Sl,e=ak t.v/\dc w.heap.size a t (Gl n λi=>S.testBit i))/\ay [] w a:=by
 refine(aqY sm (λv a=>(∃t:Sl,v=t.v/\dc w.heap.size a t (Gl n λi=>S.testBit i))/\ay [] w a) w ?_).mono A;have l:=M.len;let h:=M.cap;rw[yY]at l;refine⟨λk t i u=>∃j:Nat,i=(j:Int)/\k+j=n/\j<=n/\dc w.heap.size u t (Gl j λi=>S.testBit i)/\ay [] w u,n,⟨0,I,X,X,E7 ..,qE _ _⟩,?_⟩;rintro k t _ u ⟨j,rfl,m,c,T,b⟩;refine⟨λh=>?_,λh=>?_⟩
 .have h:=aN h;let f:j<n:=X
  let⟨ad,o,p⟩:=UD (ZH sQ Z M b N)<|GF (S:=S) f;have:=yP j λi=>S.testBit i;refine⟨λt g=>dc w.heap.size g t (Gl (j+1) λi=>S.testBit i)/\ay [] w g,λt g ⟨q,r⟩=>⟨k-1,X,j+1,N0,X,X,q,r⟩,ad,o,_,p,λe=>?_,λe=>?_⟩
  .obtain⟨y,z,s,C,x,B,k3,D,v,w⟩:=auc T b (n:=(j:Int)) ⟨X,X⟩ X [] R;exact⟨y,z,s,x,B,k3,by rw[BB,e];exact v,w⟩
  rw[BB,e];simp_all
 grind
theorem UJ(P:PlR w F s si sd sr p)(Q:WS p.sp<=64){B a:Nat}(M:mH B w sm (ww (WS p.sp) a))(m:aA rInt 1 w G sf from_)(J:WS from_<=2000000)(A:∀k,G k->sm.a≠aM ⟨k,0,VM⟩)(j:∀k,F k->sm.a≠aM ⟨k,0,VM⟩)(d:Int):
  az aq 52 #[ah #[s.v,si.v,sd.v,sr.v],sm.v,sf.v,O U d] w λe y=>e=ak (ai #[])/\mH B y sm (ww (WS p.sp)<|PD p.sp d from_ a<|WS p.sp)/\aD (iJ sm) w y:=by
 refine ret<|aq0 ?_;intro x w0 Y W f;have z:=f.size;have qA:=P.sp.len;have L:=P.sp.cap;have H:=m.len;have D:=m.cap;have V:∀{g:Nat},sm.a=aM ⟨g,0,VM⟩->g<w.heap.size:=λe=>(M.blk e).2;have r:sm.a≠aM ⟨x,0,VM⟩:=R
 have c:∀{u:av},aD (iJ sm) w u->aA nS 5 u F s p.sp:=λh=>Zz cH Z P.sp h λk hk _ i=>j k hk i;have t:∀{u:av},aD (iJ sm) w u->aA rInt 1 u G sf from_:=λh=>Zz bA Z m h λk hk _ i=>A k hk i;refine⟨λv o u=>∃n:Nat,o=(n:Int)/\v+n=WS p.sp/\n<=WS p.sp/\mH B u sm (ww (WS p.sp)<|PD p.sp d from_ a n)/\aD (iJ sm) w u,WS p.sp,⟨0,I,X,X,M.o0 f,f.p0⟩,?_⟩;rintro v _ u ⟨n,rfl,me,hn,hQ,h⟩;have zu:=h.size;refine⟨λl=>?_,λl=>?_⟩
 .have l:=S l;have E4:n<WS p.sp:=X
  refine(Am (c h) n d).mono ?_;rintro _ u1 ⟨rfl,am⟩;obtain rfl:u=u1:=am.symm;have j8:PD p.sp d from_ a (n+1)=V0 p.sp d from_ (PD p.sp d from_ a n) n:=I;generalize PD p.sp d from_ a n=T at*
  refine⟨_,I,Zm _ _,λrM o u2=>∃s:Nat,o=(s:Int)/\rM+s=WS from_/\s<=WS from_/\mH B u2 sm (ww (WS p.sp)<|if(wB p.sp n d&&(from_.take s).any λg=>wB p.sp g n||g==(n:Int))=aE then vF T n else T)/\aD (iJ sm) w u2/\(wB p.sp n d=aE∨s=0),WS from_,R,?_⟩;rintro rM _ u2 ⟨s,rfl,Ea,hj,hR,G,aC⟩;have aS:=G.size;refine⟨λiH=>?_,λiH=>?_⟩
  .rw[aO,bB]at iH;let⟨iH,hw⟩:=iH;have lI:s<WS from_:=X
   obtain⟨g,hg⟩:∃g,from_[s]? =aM g:=⟨_,aR lI⟩
   let⟨ad,g1,g2⟩:=ig (t G) hg;have nj:from_.take (s+1)=from_.take s++[g]:=by rw[aX,hg];rfl
   rw[hw,cd]at hR;refine⟨λu3=>mH B u3 sm (ww (WS p.sp)<|if(wB p.sp n d&&(from_.take<|s+1).any λg=>wB p.sp g n||g==(n:Int))=aE then vF T n else T)/\aD (iJ sm) w u3,?_,ad,g1,λu4 dB=>?_⟩
   .rintro u3 ⟨b,d⟩;exact⟨rM-1,X,s+1,N0,X,X,b,d,.inl hw⟩
   have h4:=hR.o0 dB;have vB:=G.bG dB;refine⟨g,g2.keep<|dB.block _ g2.lt N,(Am (c vB) g n).mono ?_⟩;rintro _ ff ⟨rfl,aT⟩;obtain rfl:u4=ff:=aT.symm;let⟨vJ,g3,g4⟩:=ig (t vB) hg;refine⟨_,I,Zm _ _,vJ,λ_=>g3,g,λ_=>g4,λhb=>?_,λhb=>?_⟩
   .have bv:(wB p.sp n d&&(from_.take<|s+1).any λg=>wB p.sp g n||g==(n:Int))=aE:=by
     simp_all
    have bY:∀b:C,ww (WS p.sp) (vF (if b=aE then vF T n else T) n)=ww (WS p.sp) (vF T n):=λb=>by
     cases b
     .rfl
     rw[E I];refine bn _<|HW λb=>?_;rw[GH X];cases e:(vF T n).testBit b
     .rw[GH X]at e;simp_all
     rfl
    let⟨q,q1,q2⟩:=h4.set (k:=n) E4 Q (K:=λk6 k7 z k8=>x≠k6/\sS u4 k6 k7 z k8 [aj aE] λw7=>mH B w7 sm (ww (WS p.sp)<|if(wB p.sp n d&&(from_.take<|s+1).any λg=>wB p.sp g n||g==(n:Int))=aE then vF T n else T)/\aD (iJ sm) w w7) (λg cells e1 e2 e3 e4=>⟨λe=>r<|e▸e1,λw7 fu bV=>⟨by
     have:=e4 w7 fu bV;rw[bY]at this;rw[E bv];exact this,vB.trans (fu.p (F:=iJ sm) λb hb=>Ts) λk hk=>.inl hk⟩⟩)
    grind
   simp_all
  have b:(if(wB p.sp n d&&(from_.take s).any λg=>wB p.sp g n||g==(n:Int))=aE then vF T n else T)=V0 p.sp d from_ T n:=by
   unfold V0
   grind
  rw[b]at hR;exact⟨v-1,X,n+1,N0,X,X,by rw[j8];exact hR,G⟩
 grind
end
def tC:L:=[99,104,97,114,116,32,99,32,123,32,105,110,105,116,105,97,108,32,97,59,32,115,116,97,116,101,32,97,32,123,32,111,110,32,120,32,45,62,32,100,59,32,111,110,32,121,32,45,62,32,104,59,32,125,32,112,97,114,97,108,108,101,108,32,112,32,123,32,115,116,97,116,101,32,113,32,123,32,105,110,105,116,105,97,108,32,98,59,32,115,116,97,116,101,32,98,32,123,32,125,32,115,116,97,116,101,32,100,32,123,32,125,32,125,32,115,116,97,116,101,32,114,32,123,32,125,32,104,105,115,116,111,114,121,32,104,32,45,62,32,113,59,32,125,32,125]
def MH(p:Pl):J Int:=kc<|qZ p.sp (BG p λ_=>VM) (WS p.sp)<|[0].foldl (qc p λ_=>VM) 0
def aud(p:Pl):J Int:=kc<|qZ p.sp (BG p λ_=>VM) (WS p.sp) 1
def RI:C:=JW ((uj tC).1=0)&&Gp tC&&JW ((gY (fg tC).1).ro.length=2)&&JW (((gY (fg tC).1).ro[0]?).map (λr:Ro=>r.dom)=aM 0)&&JW (WS (aud<|gY (fg tC).1)=2)&&JW (WS (MH<|gY (fg tC).1)=4)&&JW ((MH<|gY (fg tC).1)[2]? =aM 5)
def agS:RI=aE:=D
def ahV(w:av)(A:Er w)(G:Tb w):az aq 4 #[] w λe w'=>e=ak (aj aE)/\ay [] w w':=by
 refine ret<|az1 ?_;have u:=agS;unfold RI at u;simp only[aO,bB]at u;let⟨⟨⟨⟨⟨⟨h,c⟩,W⟩,n⟩,Y⟩,h6⟩,h7⟩:=u;let c:=alA c;let hc:Gh tC=(fg tC).1:=by unfold Gh;rw[E h]
 let q:(kU (fg tC).1).1=0:=by
  unfold uj at h;split at h
  .exact h
  rename_i a;exact absurd h a
 refine(agk tC c.1 c.2 A G).mono ?_;rintro _ w0 ⟨H,cs,rfl,C,T⟩;rw[hc]at C;obtain⟨xe,xl,xm,xk,rfl,_⟩:=C.root;have:=T.size;refine⟨H,_,_,_,_,xe,xl,xm,xk,_,_,_,I,λk0 k1 w1 fH dC kZ jl U=>?_⟩;have:=U.size;let x:=T.bG U;let p:ChR aE 15 w1 (Fr w.heap.size) (fg tC).1 H _:=⟨C.vars.keep fI Z λk _ J=>U.block k J N,(cq aE 15).keep C.root λk _ J=>U.block k J N⟩
 refine(eD (D:=14) p.off c.1 c.2 (A.only x)<|G.only x).mono ?_;rintro _ w2 ⟨⟨s,si,ny,sr,rfl,hP⟩,F⟩;have:=F.size;refine⟨s,si,ny,sr,_,_,I,F.same o,λk2 k3 w3 yq uu AH wz j=>have:=j.size;let o3:=(x.bG F).bG j;let P:=(hP q).o0 j;let D:=eb (QZ q)<|Mn _;(Ob P D).mono ?_⟩;rintro _ w4 ⟨⟨t9,rfl,t⟩,B⟩;have:=B.size;let⟨y,K,f1,f2,f3⟩:=zP w4 (a:=0) ⟨X,X⟩;have:=f2.size;let d:=(P.o0 B).o0 f2;refine⟨t9,I,B.same o,y,K,f1,f2.same o,(Oa (L:=[]) d D (WB vG 2 K<|λ_=>False) N<|f3.slice bA).mono ?_⟩;rintro _ w6 ⟨⟨z,rfl,b⟩,l⟩;let f:=d.o0 l;let m:kc (qZ (gY (fg tC).1).sp (BG (gY (fg tC).1)<|dZ []) (gY (fg tC).1).sp.length<|[0].foldl (qc (gY (fg tC).1)<|dZ []) 0)=MH (gY (fg tC).1):=I;let V:kc (qZ (gY (fg tC).1).sp (BG (gY (fg tC).1) λ_=>VM) (gY (fg tC).1).sp.length 1)=aud (gY (fg tC).1):=I;rw[m]at b;rw[V]at t;obtain⟨r0,g⟩:∃r,(gY (fg tC).1).ro[0]? =aM r:=⟨_,aR X⟩
 rw[g]at n;simp only[gN,bN]at n;obtain⟨ad,tg,O,Q,_⟩:=BF f.ro g;let⟨vJ,R,S⟩:=ig (b.slice bA) (i:=2) h7;refine⟨z,I,l.same o,ad,λ_=>O,r0.dom,λ_=>Q.dv 6 _ I,vJ,λ_=>R,5,λ_=>S,?_,((o3.bG B).bG f2).bG l⟩;rw[h,q,n,f.ro.len,W,t.len,Y,b.len,h6];rfl
end Con
namespace Go.Proofs
open Go.Shelf
def Tryz.Ry:Go.Shelf.Ren:=⟨λ|6=>74|15=>113|14=>112|28=>164|29=>165|20=>156|21=>157|22=>158|23=>159|24=>160|25=>161|26=>162|27=>163|46=>204|47=>205|48=>206|49=>207|50=>208|57=>246|n=>n,λ|22=>42|24=>83|25=>139|3=>3|39=>180|0=>0|53=>233|55=>235|4=>4|46=>227|45=>226|50=>166|5=>5|9=>9|66=>267|70=>192|76=>294|77=>209|n=>n,λ|n=>n⟩
def Tryz.acG:Go.Proofs.SlLaysF0.n6 Tryz.prog Tryz.Ry:={
 mixed:=D
 f6:=⟨Tryz.f74.name,Z,Tryz.func74.trans<|bn aM D⟩
 f14:=⟨Tryz.f112.name,Z,Tryz.func112.trans<|bn aM D⟩
 f15:=Tryz.func113.trans (bn aM D)
 f20:=⟨Tryz.f156.name,Z,Tryz.func156.trans<|bn aM D⟩
 f21:=⟨Tryz.f157.name,Z,Tryz.func157.trans<|bn aM D⟩
 f22:=⟨Tryz.f158.name,Z,Tryz.func158.trans<|bn aM D⟩
 f23:=⟨Tryz.f159.name,Z,Tryz.func159.trans<|bn aM D⟩
 f24:=⟨Tryz.f160.name,Z,Tryz.func160.trans<|bn aM D⟩
 f25:=⟨Tryz.f161.name,Z,Tryz.func161.trans<|bn aM D⟩
 f26:=⟨Tryz.f162.name,Z,Tryz.func162.trans<|bn aM D⟩
 f27:=⟨Tryz.f163.name,Z,Tryz.func163.trans<|bn aM D⟩
 f28:=Tryz.func164.trans (bn aM D)
 f29:=Tryz.func165.trans (bn aM D)
 f46:=⟨Tryz.f204.name,Z,Tryz.func204.trans<|bn aM D⟩
 f47:=Tryz.func205.trans (bn aM D)
 f48:=Tryz.func206.trans (bn aM D)
 f49:=⟨Tryz.f207.name,Z,Tryz.func207.trans<|bn aM D⟩
 f50:=⟨Tryz.f208.name,Z,Tryz.func208.trans<|bn aM D⟩
 f57:=⟨Tryz.f246.name,Z,Tryz.func246.trans<|bn aM D⟩
 t0:=Tryz.underlying0
 a0:=Tryz.isAgg0
 z0:=Tryz.sizeOf0
 v0:=Tryz.zeroValue0
 t3:=Tryz.underlying3
 a3:=Tryz.isAgg3
 z3:=Tryz.sizeOf3
 v3:=Tryz.zeroValue3
 t4:=Tryz.underlying4
 a4:=Tryz.isAgg4
 z4:=Tryz.sizeOf4
 v4:=Tryz.zeroValue4
 t5:=Tryz.underlying5
 a5:=Tryz.isAgg5
 z5:=Tryz.sizeOf5
 v5:=Tryz.zeroValue5
 t9:=Tryz.underlying9
 a9:=Tryz.isAgg9
 z9:=Tryz.sizeOf9
 v9:=Tryz.zeroValue9
 t22:=Tryz.underlying42
 a22:=Tryz.isAgg42
 z22:=Tryz.sizeOf42
 v22:=Tryz.zeroValue42
 t25:=Tryz.underlying139
 a25:=Tryz.isAgg139
 z25:=Tryz.sizeOf139
 v25:=Tryz.zeroValue139
 t39:=Tryz.underlying180
 a39:=Tryz.isAgg180
 z39:=Tryz.sizeOf180
 v39:=Tryz.zeroValue180
 t45:=Tryz.underlying226
 a45:=Tryz.isAgg226
 z45:=Tryz.sizeOf226
 v45:=Tryz.zeroValue226
 t46:=Tryz.underlying227
 a46:=Tryz.isAgg227
 z46:=Tryz.sizeOf227
 v46:=Tryz.zeroValue227
 t50:=Tryz.underlying166
 a50:=Tryz.isAgg166
 z50:=Tryz.sizeOf166
 v50:=Tryz.zeroValue166
 t53:=Tryz.underlying233
 a53:=Tryz.isAgg233
 z53:=Tryz.sizeOf233
 v53:=Tryz.zeroValue233
 t55:=Tryz.underlying235
 a55:=Tryz.isAgg235
 z55:=Tryz.sizeOf235
 v55:=Tryz.zeroValue235
 t66:=Tryz.underlying267
 a66:=Tryz.isAgg267
 z66:=Tryz.sizeOf267
 v66:=Tryz.zeroValue267
 t70:=Tryz.underlying192
 a70:=Tryz.isAgg192
 z70:=Tryz.sizeOf192
 v70:=Tryz.zeroValue192
 t76:=Tryz.underlying294
 a76:=Tryz.isAgg294
 z76:=Tryz.sizeOf294
 v76:=Tryz.zeroValue294
 t77:=Tryz.underlying209
 a77:=Tryz.isAgg209
 z77:=Tryz.sizeOf209
 v77:=Tryz.zeroValue209}
def Tryz.Rz:Go.Shelf.Ren:=⟨λ|5=>76|7=>114|n=>n,λ|22=>3|3=>3|4=>4|n=>n,λ|n=>n⟩
def Tryz.amD:Go.Proofs.SlLaysC2.n5 Tryz.prog Tryz.Rz:={
 mixed:=D
 f5:=⟨Tryz.f76.name,Z,Tryz.func76.trans<|bn aM D⟩
 f7:=⟨Tryz.f114.name,Z,Tryz.func114.trans<|bn aM D⟩
 t3:=Tryz.underlying3
 a3:=Tryz.isAgg3
 z3:=Tryz.sizeOf3
 v3:=Tryz.zeroValue3
 t4:=Tryz.underlying4
 a4:=Tryz.isAgg4
 z4:=Tryz.sizeOf4
 v4:=Tryz.zeroValue4
 t22:=Tryz.underlying3
 a22:=Tryz.isAgg3
 z22:=Tryz.sizeOf3
 v22:=Tryz.zeroValue3}
open Go.RowKit Go.Lib Go.Sort Go.Shelf in
theorem Tryz.ahf (x y:Int) (a1 a2:Option Addr) (n1 c1 n2 c2:Nat) (W:World):Calls Tryz.prog 75 #[.agg #[.int .i64 x,.slice a1 n1 c1],.agg #[.int .i64 y,.slice a2 n2 c2]] W λe w'=>e=.returned (.int .i64 (Lib.compareInt x y))/\∃q os',w'=grow (W.drewN q) os':=by
 have aot:=λW'=>AnyG.cmp_Compare_int Tryz.amD x y W';change ∀W',Calls Tryz.prog 76 _ _ _ at aot;generalize Lib.compareInt x y=r at aot⊢
 go_enter Tryz.func75,Tryz.ntmps75
 go_wp2_with (go_at_call 76;refine(aot _).mono ?_;rintro e w' ⟨rfl,rfl⟩)
 go_ret
 exact⟨rfl,0,_,by rw[alloc_eq_grow,alloc_eq_grow,grow_grow];rfl⟩
open Go.RowKit Go.Lib Go.Sort Go.Shelf in
theorem Tryz.acH {α:Type} [Inhabited α] (enc:α->List Value) (hk:∀x,(enc x).length=2) (h1:∀x,∀v∈enc x,v.oneCell'=true) (cf:α->α->Int) (hO:SWO (ltOf cf)) (blk off cap:Nat) (d:Array α) (w:World)
  (aFo:Go.Proofs.CmpLays Tryz.prog 75 #[] enc 2 cf blk off d.size w) (hH:HoldsK enc 2 w blk off d) (hblk:blk<w.heap.size) (hsz:d.size<4611686018427387904):
  Calls Tryz.prog 74 #[.slice (some ⟨blk,off,none⟩) d.size cap,.func (.func 75) #[] #[]] w λe w'=>
   e=.returned (.tuple #[])/\∃d' n os,PermIn 0 d.size d d'/\SortedIn (ltOf cf) 0 d.size d'/\w'=sortWorldK enc 2 w blk off n d' os:=
 Go.Proofs.AnyQ.slices_SortFunc Tryz.acG 2 Tryz.isAgg83 Tryz.sizeOf83 enc hk h1 cf hO 75 #[] blk off cap d w (enters_of Tryz.func75 ZQ rfl) aFo hH hblk hsz
open Go.RowKit Go.Lib Go.Sort Go.Shelf in
theorem Tryz.O1 (p:Option Addr) (cap:Nat) (fv:Value) (w:World):Calls Tryz.prog 74 #[.slice p 0 cap,fv] w λe w'=>e=.returned (.tuple #[])/\w'=w:=
 Go.Proofs.AnyF.slices_SortFunc_none Tryz.acG p cap fv w
end Go.Proofs
namespace Con
open Go Go.RowKit Go.Kt Go.Kt.V Vc
instance aIS:Inhabited Sl:=⟨Sl.nil⟩
abbrev QN:=Int×Sl×J Int
def rm(z:QN):aI:=[O U z.1,z.2.1.v]
section
variable{w:av}{F:h}
def bo:∀{L:J (Int×J Int)} {s:J (aI)},pJ vG 2 w F L s->∃Z:J QN,Z.map (λz=>(z.1,z.2.2))=L/\s=Z.map rm/\∀z∈Z,aA rInt 1 w F z.2.1 z.2.2/\XZ w F z.2.1
 |[],[],_=>⟨[],I,I,λ_ h=>VI⟩
 |x::L,c::s,⟨⟨_,t,e,f⟩,h⟩=>by
  let⟨Z,b,a,d⟩:=bo h;refine⟨(x.1,t,x.2)::Z,R,by rw[ch,<-a,e];rfl,λz g=>?_⟩
  grind
 |[],_::_,h=>h.elim
 |_::_,[],h=>h.elim
def kM:∀{Z:J QN},(∀z∈Z,aA rInt 1 w F z.2.1 z.2.2/\XZ w F z.2.1)->pJ vG 2 w F (Z.map λz=>(z.1,z.2.2)) (Z.map rm)
 |[],_=>trivial
 |z::Z,h=>⟨⟨I,z.2.1,I,h z<|.head _⟩,kM R⟩
end
def sy(Z:J QN):Sort.flatK rm 2 Z.toArray=((Z.map rm).flatten).toArray:=by
 have:WS ((Z.map rm).flatten)=WS Z*2:=by
  rw[AO (size:=2) (λc h=>by obtain⟨z,_,rfl⟩:=dK.1 h;rfl),bP]
 refine Sort.ext_get! A λt d=>?_;rw[Sort.size_flatK,oE]at d;rw[Sort.get_flatK _ _ _ _ P9];have:t/2<WS Z:=X
 let a:(Z.map rm)[t/2]? =aM (rm Z[t/2]):=A
 let b:t % 2<WS (rm Z[t/2]):=by
  show t % 2<2;omega
 have:=Ju (size:=2) (λc h=>by obtain⟨z,_,rfl⟩:=dK.1 h;rfl) a (aR b)
 grind
def aue{a b tail:aI}(h:WS a=WS b):Sort.putCells id 0 a.toArray ((b++tail).toArray)=(a++tail).toArray:=by
 apply Array.ext_getElem?;intro k;simp only[Sort.putCells,Array.getElem?_mapIdx,oA,oE]
 grind
def abY{w:av}{g:Nat}{e:TypeId}{b tail a:aI}(h:aF w g e (b++tail))(c:WS a=WS b)(n:Nat)(o:Array Obj):aF (Sort.grow (Sort.putRow id (Sort.ahead w n) g 0 a.toArray) o) g e (a++tail)/\ay [g] w (Sort.grow (Sort.putRow id (Sort.ahead w n) g 0 a.toArray) o):=by
 refine⟨?_,I,I,I,N,λk hk d=>?_⟩
 .unfold aF;rw[Sort.heap_grow_old _ _ (by simpa using h.lt)];show(w.heap.modify g _)[g]? =_;rw[uy,E I];unfold aF at h;rw[h];show aM (Sort.onCells _ _)=_;unfold Sort.onCells;dsimp only;rw[aue c]
 rw[Sort.heap_grow_old _ _ Wq];show(w.heap.modify g _)[k]? =_
 grind
def acT{w:av}{g:Nat}{e:TypeId}{b tail:aI}(a:aF w g e (b++tail)):Sort.Holds id w g 0 b.toArray:=by
 intro j h;let h:j<WS b:=P9
 rw[bS];refine⟨?_,?_⟩
 .rw[a.cell,de h,aR h,getElem!_pos _ j<|by simpa using h];simp
 unfold World.frozen?;unfold aF at a;simp_all
def Lj(x y:QN):Go.Proofs.ltOf (λx y:QN=>Lib.compareInt x.1 y.1) x y=JW (x.1<y.1):=by
 unfold Go.Proofs.ltOf Lib.compareInt
 grind
def agU:Sort.SWO (Go.Proofs.ltOf λx y:QN=>Lib.compareInt x.1 y.1) where
 irrefl x:=by rw[Lj];simp
 trans x y z h1 h2:=by rw[Lj]at*;simp at*;omega
 ntrans x y z h1 h2:=by rw[Lj]at*;simp at*;omega
def agV{w:av}{B:Nat}{F:h}{s:Sl}{L:J (Int×J Int)}(q:Own vG 2 83 B w F s L)(hm:WS L<=1000000):az aq 74 #[s.v,.func (.func 75) #[] #[]] w λe i=>e=ak (ai #[])/\∃d:J (Int×J Int),(d.Perm L/\d.Pairwise λa b=>a.1<=b.1)/\Own vG 2 83 B i F s d/\aD (iJ s) w i:=by
 rcases q with⟨rfl,rfl⟩|⟨g,p,tail,m,r,l,j,f,o,c,E⟩
 .refine(Tryz.O1 VM 0 _ w).mono λ_ a ⟨rfl,u⟩=>?_;obtain rfl:w=a:=u.symm;exact⟨I,[],A,E7 _ _ _ _ _ _,V8 _ _⟩
 obtain⟨b,rfl,rfl,K⟩:=bo E;obtain⟨W,sn,sc⟩:=s;dsimp only at m j f o c;subst m;rw[bP]at f hm;subst f;have T:Sort.HoldsK rm 2 w g 0 b.toArray:=by
  unfold Sort.HoldsK;rw[sy];exact acT l
 refine(Tryz.acH rm (λ_=>I) (λx v M=>by
  simp only[rm,ba,cy,fQ]at M;rcases M with rfl|rfl<;>rfl) (λx y=>Lib.compareInt x.1 y.1) agU g 0 sc b.toArray w (λ_ _ _ _ x y=>Tryz.ahf x.1 y.1 _ _ _ _ _ _ _) T l.lt R).mono ?_
 rintro _ i ⟨rfl,a,n,H,⟨G,_,e⟩,D,rfl⟩;have hd:a.extract 0 b.toArray.size=a:=by rw[<-G];simp
 have t:b.toArray.extract 0 b.toArray.size=b.toArray:=N
 rw[hd,t]at e;have e:a.toList.Perm b:=e;have C:WS ((a.toList.map rm).flatten)=WS ((b.map rm).flatten):=by
  grind
 have S:Go.Proofs.sortWorldK rm 2 w g 0 n a H=Sort.grow (Sort.putRow id (Sort.ahead w n) g 0 ((a.toList.map rm).flatten).toArray) H:=by
  unfold Go.Proofs.sortWorldK Sort.putRowK;rw[<-sy]
 obtain⟨V,u⟩:=abY l C n H;rw[S];refine⟨I,a.toList.map λz=>(z.1,z.2.2),⟨e.map _,?_⟩,.inr ⟨g,a.toList.map rm,tail,I,r,V,j,by rw[bP,e.length_eq],o,c,kM λz t=>⟨ZH bA Z (K z<|e.mem_iff.1 t).1 u λk hk _ hm=>hk.2 X0,(K z<|e.mem_iff.1 t).2.keep λk hk Q=>u.block k Q λhm=>hk.2 X0⟩⟩,u.p λx P=>?_⟩
 .rw[lW,fy];intro n s g k y;rw[kg]at g k;have:=D n s X y X;rw[Lj,getElem!_pos a n g,getElem!_pos a s k,dk]at this;simpa using this
 simp only[bh]at P;subst P;exact .inl I
def vm:∀{L:J _} {M:EH} {k:Int} {l:J Int},(L.map (·.1)).Nodup->((L.foldl (λM x=>λk=>if k=x.1 then aM x.2 else M k) M) k=aM l↔(k,l)∈L∨(k∉L.map (·.1)/\M k=aM l))
 |[],M,k,l,_=>N
 |x::L,M,k,l,h=>by
  let⟨b,a⟩:=wZ.1 h;rw[ru,vm a]
  grind
def agW{L}{M}(n:(L.map (·.1)).Nodup)(h:∀k l,(k,l)∈L↔M k=aM l):dZ L=M:=by
 funext k;let e:∀l,dZ L k=aM l↔M k=aM l:=λl=>by
  rw[dZ,vm n,<-h];simp_all
 rcases hm:M k with _|l
 .rcases hl:dZ L k with _|l
  .rfl
  simp_all
 exact(e l).2 hm
def D5(x:J dz)(act left:J Int)(M:EH)(j:Nat):EH:=λh=>if h<j then yd x act left M h else M h
def ZM(x:dz)(act left:J Int):C:=fh x.k&&JW (x.pa∈act)&&JW (x.pa∈left)
def Ws(s:J dz)(x:dz)(act:J Int):J Int:=if x.k=4 then(KM s act).filter λk=>oO s k x.pa else(fi s x.pa.toNat<|WS s).filter λk=>JW<|k∈act
section
variable{xs:J dz}{act left:J Int}{M:EH}
theorem x9{j:Nat}{x}(h:xs[j]? =aM x):yd xs act left M j=if ZM x act left=aE then aM (Ws xs x act)else M j:=by
 rw[yd,Q X,aV,h];rfl
def bxs:D5 xs act left M 0=M:=by
 funext a;rw[D5];by_cases h:a<((0:Nat))
 .rw[E h];rw[yd,E X]
 rw[Q h]
theorem ab0:D5 xs act left M (WS xs)=yd xs act left M:=by
 funext a;rw[D5];by_cases h:a<WS xs
 .rw[E h]
 rw[Q h,yd,Q X,cu X]
def agX{j}{x}(h:xs[j]? =aM x)(c:ZM x act left=aL):D5 xs act left M (j+1)=D5 xs act left M j:=by
 funext k;unfold D5;by_cases e:k=j
 .subst e;rw[E X,Q X,x9 h,Q<|by rw[c];simp]
 grind
theorem ab1{j}{x}(h:xs[j]? =aM x)(c:ZM x act left=aE):D5 xs act left M (j+1)=λk=>if k=(j:Int)then aM (Ws xs x act)else if k=j then VM else D5 xs act left M j k:=by
 funext k;unfold D5;by_cases e:k=j
 .subst e;rw[E X,E I,x9 h,E c]
 grind
end
def UL xs x act:WS (Ws xs x act)<=WS xs:=by
 have:WS (fi xs x.pa.toNat<|WS xs)<=WS xs:=by
  rw[fi]
  grind
 have:WS (KM xs act)<=WS xs:=yP _ _;rw[Ws]
 grind
section
variable{w:av}{k1:Nat}{sa sl:Sl}{G H:h}{act l:J Int}
def RL(h:aF w k1 31 [sa.v])(b:aA rInt 1 w G sa act)(c:aA rInt 1 w H sl l)(m:WS l<=2000000):az aq 67 #[sl.v,ae (aM ⟨k1,0,VM⟩)] w λe a=>∃t,e=ak t.v/\dc w.heap.size a t (l.filter λk=>JW (k∈act))/\ay [] w a:=by
 refine jK (aAv<|(KN c X).mono ?_);rintro _ j ⟨t,rfl,L,d⟩;have:∀{q:Nat},t.a=aM ⟨q,0,VM⟩->w.heap.size<=q:=λe=>(L.blk e).1;let n:∀q<w.heap.size,¬(t.a=aM ⟨q,0,VM⟩):=R
 refine⟨t,I,(yR (f:=⟨.func _ #[] #[ae _],I⟩) L m ⟨ia Mi,λy g u O=>?_⟩ (p:=λy=>!JW (y∈act)) (cap:=[ae _]) I).mono ?_⟩
 .have e:=O.blk (d.blk h N) (n k1 h.lt);refine(aAw y (λv a=>v=aj (!JW (y∈act))/\ay [] u a) u ?_).mono A;refine⟨sa,e.cells 0 _ N,(xZ ((kI (PY bA b Z) d).keep bA Z λk hk J=>O.block k J (n k hk.2)) y).mono ?_⟩;simp_all
 rintro _ f ⟨s,rfl,e,_,Y,V⟩;refine⟨s,I,s,I,?_,(d.ph (V.mono (G:=λq=>w.heap.size<=q) R)).only X⟩;simp_all
end
section
variable{w u:av}{b r0 r1:Nat}{s si ny sr sp sa sl:Sl}{F G G' H:h}{p:Pl}{M:EH}{S:Nat}{L:J (Int×J Int)}{act left:J Int}
theorem WkP.X7(h:WkP w b s si ny sr r0 r1 F G p M S)(O:ay [r0] w u):Wk u b s si ny sr r0 r1/\PlR u F s si ny sr p:=by
 let n:∀k,F k->k<w.heap.size->k∉[r0]:=λk hk _ m=>by
  simp at m;exact h.nF.1 R
 exact⟨O.blk h.blk<|by simpa using λe=>h.n0 e.symm,⟨ZH cH Z h.pl.sp O n,ZH bA Z h.pl.ini O n,ZH bA Z h.pl.dft O n,ZH gu Z h.pl.ro O n⟩⟩
theorem ajG(hP:PlR w F s si ny sr p)(sd:Sd p.sp)(bY:Lg p.sp act)(ha:aA rInt 1 w G sa act)(R4:WS act<=1000000)(bv:aA rInt 1 w H sl left)(k8:WS left<=2000000)(hL:aA vG 2 w G' sp L)(hg:∀x∈L,gI x.1)(h:∀k l,dZ L k=aM l->WS l<=1000000):
  az aq 33 #[ah #[s.v,si.v,ny.v,sr.v],sa.v,sl.v,sp.v] w λe z=>(∃(t:Sl) (d:J (Int×J Int)),e=ak t.v/\Own vG 2 83 w.heap.size z (λk=>w.heap.size<=k) t d/\dZ d=yd p.sp act left (dZ L)/\(∀x∈d,gI x.1)/\d.Pairwise λa b=>a.1<b.1)/\ay [] w z:=by
 refine(aAe s si ny sr sa sl sp (λv z=>(∃(t:Sl) (d:J (Int×J Int)),v=t.v/\Own vG 2 83 w.heap.size z (λk=>w.heap.size<=k) t d/\dZ d=yd p.sp act left (dZ L)/\(∀x∈d,gI x.1)/\d.Pairwise λa b=>a.1<b.1)/\ay [] w z) w ?_).mono A;intro k0 k1 B fH dC kZ jl bT;have z0:=bT.size;have lG:=sd.le;have el:=hP.sp.len;have dO:=hP.sp.cap;have cC:=hP.sp.big;refine(EJ B s si ny sr (ZH eM Z hL bT N) hg).mono ?_;rintro _ m ⟨⟨b,r0,r1,rfl,hb,qN,h0,xn,h1,hB,aT,zb⟩,bU⟩;have z1:=bU.size;have W1:=Ue (hP.o0 bT) hb h0 xn h1 hB aT zb bU;have o1:=bT.bG bU;refine⟨_,I,bU.same o,λam io=>(RL am (kI ha o1) (kI bv o1) k8).mono ?_⟩;rintro _ w2 ⟨tg,rfl,ob,S⟩;have z2:=S.size;have W:=W1.o0 S;have o2:=o1.bG S;have K:=S.blk am N;have cc:∀y:Int,y∈(left.filter λk=>JW<|k∈act)↔y∈left/\y∈act:=A
 generalize hz:(left.filter λk=>JW<|k∈act)=Y at*
 have co:=W.n0;have ce:r0<m.heap.size:=X
 have up0:∀{a u:av},ay [] a u->ay [r0] a u:=λhO=>(qE [r0] _).bG hO;have nj:PastV w2 (λk=>(G' k/\k<B.heap.size)∨m.heap.size<=k) r0 (dZ L):=W.past.mono λk hk=>.inl hk;have aC:¬((G' r0/\r0<B.heap.size)∨m.heap.size<=r0):=X
 refine⟨tg,I,S.same o,sa,K,λkv bV l2 l3 l4 l5 l6 u=>∃j:Nat,bV=(j:Int)/\kv+j=WS p.sp/\j<=WS p.sp/\(s=l2/\si=l3/\ny=l4/\sr=l5/\sa=l6)/\PastV u (λk=>(G' k/\k<B.heap.size)∨m.heap.size<=k) r0 (D5 p.sp act left (dZ L) j)/\ay [r0] w2 u,WS p.sp,⟨0,I,X,bE _,⟨I,I,I,I,I⟩,by rw[bxs];exact nj,qE _ _⟩,?_⟩;rintro kv _ _ _ _ _ _ n ⟨j,rfl,me,hj,⟨rfl,rfl,rfl,rfl,rfl⟩,i,C⟩;have z3:=C.size;have aS:ay [] w n:=o2.trans C R;let⟨wX,T⟩:=W.X7 C;have M:aF n k1 31 [sa.v]:=C.blk K o;refine⟨λhc=>?_,λhc=>?_⟩
 .have hc:=aN hc;have H:j<WS p.sp:=X
  obtain⟨x,h⟩:∃x,p.sp[j]? =aM x:=⟨_,aR H⟩
  refine⟨λg r t a O u=>(s=g/\si=r/\ny=t/\sr=a/\sa=O)/\PastV u (λk=>(G' k/\k<B.heap.size)∨m.heap.size<=k) r0 (D5 p.sp act left (dZ L)<|j+1)/\ay [r0] w2 u,?_,?_⟩
  .rintro _ _ _ _ _ u ⟨⟨rfl,rfl,rfl,rfl,rfl⟩,h1,b⟩;exact⟨kv-1,X,j+1,N0,X,X,R,h1,b⟩
  let⟨ad,e1,e2,_⟩:=gK T.sp h;refine⟨ad,e1,_,_,_,_,_,e2,λP U tA Az V L=>have z5:=V.size;have eQ:=C.bG V;⟨λb0 rn ur yi AG I7 i5 s1 i6 i7 i8 u=>(s=rn/\si=ur/\ny=yi/\sr=AG/\sa=I7)/\i5=x.k/\i6=x.pa/\b0=!ZM x act left/\ay [] U u,?_,(KQ U x.k).mono ?_⟩⟩
  .rintro b0 _ _ _ _ _ _ s1 _ i7 i8 w6 ⟨⟨rfl,rfl,rfl,rfl,rfl⟩,rfl,rfl,gz,dr⟩;have z6:=dr.size;have fd:=eQ.bG dr;refine⟨λht=>⟨R,?_,fd⟩,λhf=>?_⟩
   .rw[agX h A];exact(i.o0 V).o0 dr
   have g8:ZM x act left=aE:=A
   have gE:=g8;unfold ZM at gE;simp only[aO,bB]at gE;let⟨⟨hh,vw⟩,Jc⟩:=gE;let⟨pn,gG,g9,_⟩:=wl sd bY vw;obtain⟨y,hy⟩:∃y,p.sp[pn]? =aM y:=⟨_,aR g9⟩
   have gO:=(T.o0 V).o0 dr;have iF:=dr.blk L N;have ip:aA rInt 1 w6 G sa act:=kI (kI (kI ha aS) V) dr;have RW:WS (fi p.sp pn<|WS p.sp)<=WS p.sp:=by
    unfold fi
    grind
   rw[gG];refine(QO gO.sp sd.fo hy X).mono ?_;rintro _ w7 ⟨⟨lE,rfl,iD⟩,fu⟩;have z7:=fu.size;have gT:=fu.blk iF N;refine⟨lE,I,fu.same o,sa,gT,λEY zx EZ PI HH Vi i9 s2 iN iS ld u=>(s=zx/\si=EZ/\ny=PI/\sr=HH/\sa=Vi)/\(∃Yc:J Int,aA rInt 1 u (λk=>m.heap.size<=k) EY Yc/\WS Yc<=2000000/\(Yc.filter λk=>JW<|k∈act)=Ws p.sp x act)/\ay [] w6 u,?_,λh4=>?_,λh4=>⟨R,⟨_,iD.sl.mono bA λk hk=>X,X,?_⟩,fu⟩⟩
   .rintro EY _ _ _ _ _ i9 s2 iN iS ld w8 ⟨⟨rfl,rfl,rfl,rfl,rfl⟩,⟨Yc,F,fj,hv⟩,fD⟩;have z8:=fD.size;have f:=fd.bG fD;let⟨xp,_⟩:=W.X7 f;let⟨w9,d1,d2,p⟩:=PastV.drop (((i.o0 V).o0 dr).o0 fD) (j:Int) aC;have z9:=p.size;refine⟨⟨b,0,VM⟩,I,aM r0,Hl xp 4 I,w9,d1,p.same o,λdh y e=>have Ja:=y.size;have v:ay [r0] w2 dh:=(f.trans p λx h=>.inl h).bG y;let⟨pz,_⟩:=W.X7 v;have mt:ay [] w dh:=o2.trans v R;have q:aA rInt 1 dh (λk=>m.heap.size<=k) EY Yc:=kI (ZH bA Z F p R) y;⟨λk=>k=b,⟨b,0,VM⟩,I,I,aM r0,Hl pz 4 I,(RL e (kI ha mt) q fj).mono ?_⟩⟩;rintro _ dE ⟨mK,rfl,s,c⟩;have Hi:=c.size;have u:=c.blk e N;let⟨ey,f1,f2,f3⟩:=PastV.set ((d2.o0 y).o0 c) (k:=(j:Int)) ⟨X,X⟩ (s.sl.mono bA (G:=λk=>(G' k/\k<B.heap.size)∨m.heap.size<=k) λk hk=>.inr X) aC;refine⟨mK,I,c.same o,sa,u,ZX c,ey,f1,f3.same o,λk hk bJ=>f3.block k bJ R,R,?_,(v.bG c).trans f3 λx h=>.inl h⟩;rw[ab1 h g8,<-hv];exact f2
   .have h4:x.k=4:=Jn
    have w:=gO.o0 fu;refine(abQ w.sp sd (kI ip fu) X).mono ?_;rintro _ ff ⟨⟨b,rfl,y⟩,dL⟩;have Yl:=dL.size;have nO:=dL.blk gT N;refine⟨b,I,dL.same o,sa,nO,λnv cS=>?_⟩;have qk:∀{q:Nat},b.a=aM ⟨q,0,VM⟩->w7.heap.size<=q:=λe=>(y.blk e).1;have u:∀q<w7.heap.size,¬(b.a=aM ⟨q,0,VM⟩):=R
    have oF:WS (KM p.sp act)<=WS p.sp:=yP _ _;refine(yR (f:=⟨.func (.func 73) #[] #[ae (aM ⟨k0,0,VM⟩),ae<|aM ⟨P,0,VM⟩],I⟩) y X ⟨ia D,λq hq v Yx=>?_⟩ (p:=λk=>!oO p.sp k x.pa) (cap:=[ae (aM ⟨k0,0,VM⟩),ae<|aM ⟨P,0,VM⟩]) I).mono ?_
    .have G:=Yx.blk nv<|u k0 X;have e:aA nS 5 v (λk=>(F k/\k<B.heap.size)/\k<w7.heap.size) s p.sp:=(ZH cH Z (PY cH w.sp Z) dL N).keep cH Z λk hk f=>Yx.block k f<|u k hk.2;refine(aAz q ⟨k0,0,VM⟩ ⟨P,0,VM⟩ (λc z=>c=aj (!oO p.sp q x.pa)/\ay [] v z) v ?_).mono A;refine⟨s,Hl G 0 I,_,Hl (Yx.blk cS<|u P X) 2 I,(CG e sd.fo q _).mono ?_⟩;rintro _ v' ⟨rfl,hv⟩;obtain rfl:v=v':=hv.symm;exact⟨_,I,by rw[eT,gG],qE _ _⟩
    rintro _ fS ⟨v,rfl,_,_,f,c⟩;have F:ay [] w7 fS:=(dL.ph<|c.mono (G:=λq=>w7.heap.size<=q) λq _ e=>qk e).only λq hq=>hq;refine⟨v,I,s,si,ny,sr,c.blk nv<|u k0 X,sa,c.blk nO<|u k1 X,_,_,_,_,_,c.blk cS<|u P X,R,⟨_,f.sl.mono bA λk hk=>X,R,?_⟩,fu.bG F⟩;unfold Ws;rw[E h4];have e:((KM p.sp act).filter λk=>!(λk=>!oO p.sp k x.pa) k)=(KM p.sp act).filter λk=>oO p.sp k x.pa:=by
     simp_all
    rw[e,List.filter_eq_self];intro k hk;exact bO<|agr (fO.1 hk).1
   have h4:x.k≠4:=Jn
   unfold Ws;rw[Q h4,gG,aV]
  rintro _ u ⟨rfl,b⟩;obtain rfl:U=u:=b.symm;refine⟨_,I,λ_ _=>I,sa,L,λhn=>⟨R,I,I,?_,qE _ _⟩,λhn=>?_⟩
  .unfold ZM;simp_all
  have f:fh x.k=aE:=ZP
  have c:aA rInt 1 U (λk=>m.heap.size<=k) tg Y:=kI (ZH bA Z ob.sl C R) V;refine(xZ c x.pa).mono ?_;rintro _ p ⟨rfl,e⟩;refine⟨_,I,e.same o,sa,e.blk L N,R,I,I,?_,e⟩;unfold ZM
  grind
 have hc:=aQ hc;have lI:j=WS p.sp:=X
 subst lI;rw[ab0]at i;have DQ:∀k l,yd p.sp act left (dZ L) k=aM l->WS l<=1000000:=λk l c=>by
  unfold yd at c;split at c
  .rename_i t _;split at c
   .injection c with c;have:=UL p.sp t act;unfold Ws at this;rw[<-c];omega
   exact h k l c
  exact h k l c
 generalize yd p.sp act left (dZ L)=M' at*
 let⟨tO,m1,m2,m3⟩:=i.ex;let⟨f,a1,a2,a3,a4⟩:=MapV.range (P:=aq) (mty:=99) (kt:=3) (et:=31) D m1;have AC:=a3.size;refine⟨⟨b,0,VM⟩,I,aM r0,Hl wX 4 I,_,f,a1,a3.same o,λrM H PL Xk Xl Xm Yh u=>∃(V:J Int) (Lo:J (Int×J Int)),ItV kN gI u n.heap.size r0 tO 64 V/\rM+WS V=64/\Lo.map (·.1)=V.reverse/\(∀k l,(k,l)∈Lo->M' k=aM l)/\Own vG 2 83 f.heap.size u (λk=>f.heap.size<=k) H Lo/\ay [] n u/\ay [n.heap.size] f u,64,⟨[],[],a2,I,I,R,E7 ..,a3,qE _ _⟩,?_⟩;rintro rM H PL Xk Xl Xm Yh iW ⟨V,Lo,hI,Ea,pP,pi,w,jO,oN⟩;have AS:=jO.size;have ut:=oN.size;have pm:=jO.blk M N;have wd:=ItV.len CO hI;have uP:WS Lo=WS V:=by
  have:=bn List.length pP
  grind
 rcases ItV.next (P:=aq) CO hI 0 with⟨iC,s⟩|⟨k,v,F,hm,As,rx,s,qj,oR,a⟩
 .refine .inl ⟨iW,s,λ_ _=>I,(agV w X).mono ?_⟩;rintro _ v ⟨rfl,d,⟨r,u⟩,g,L⟩;have y:∀{q:Nat},iJ H q->f.heap.size<=q:=λe=>(w.blk e).1;have p:ay [] n v:=(jO.ph<|L.mono (G:=λq=>n.heap.size<=q) R).only λq b=>b;refine⟨I,λq b=>?_,sa,L.blk pm R,⟨H,d,I,(g.low X).mono eM λk hk=>X,?_,λx h=>?_,?_⟩,aS.bG p⟩
  .simp only[bh]at b;subst b;exact L.block _ X R
  .obtain⟨_,_,_,_,_,_,_,_,_,_,_,e,_⟩:=hI.mem;refine agW ?_ λk l=>?_
   .grind
   rw[r.mem_iff];refine⟨pi k l,λhk=>?_⟩;have q:(tO k).isSome=aE:=by
    grind
   have rx:=iC k q;have:k∈Lo.map (·.1):=A
   grind
  .have q:=r.mem_iff.1 h;let⟨t,e,_⟩:=m3 x.1 x.2<|pi x.1 x.2 q;exact MapV.ok m1 CO (k:=x.1) (by rw[e];simp)
  let⟨_,_,_,_,_,_,_,_,_,_,_,k,_⟩:=hI.mem;have e:(d.map (·.1)).Nodup:=R
  exact(u.and<|lW.1 e).imp X
 have BV:∃l,M' k=aM l:=by
  rcases e:M' k with _|l
  .grind
  exact⟨l,I⟩
 let⟨l,c⟩:=BV;let⟨t,et,ht⟩:=m3 k l c;rw[hm]at et;injection et with et;subst et;have vJ:=a.size;have AT:=ItV.len CO oR;rw[aY]at AT;have on:ay [] n F:=jO.trans a A;have BY:ay [n.heap.size] f F:=oN.trans a λx h=>.inl h;have By:=on.blk M N;refine .inr ⟨⟨kN k,I⟩,⟨t.v,I⟩,F,s,a.same o,⟨kN k,I⟩,⟨t.v,I⟩,F,qj,λ_ _=>I,k,I,t,I,(KN (kI ht on) R).mono ?_⟩;rintro _ nL ⟨p,rfl,L,b⟩;have Do:=b.size;have Bv:Own vG 2 83 f.heap.size nL (λk=>f.heap.size<=k) H Lo:=w.keep eM λq u bJ=>by
  have u:f.heap.size<=q:=X
  rw[b.block q X N,a.block q bJ o]
 let⟨y,pe,b1,b3,s',lS,g1,g2,⟨gs,g3,g4⟩,g5⟩:=iO (P:=aq) (t:=42) (ty:=42) (e:=83) (i:=Tryz.t83) (bytes:=32) (size:=2) (r:=vG) (G:=λq=>F.heap.size<=q) (v:=ah #[O U k,p.v]) (x:=(k,l)) D D I I I I Z Z Z eM Bv X I ⟨p,I,L.sl,e7 L λg hg=>X⟩ (λq u _=>⟨X,λe=>by have:=(w.blk e).2;grind⟩) X;have DO:=b3.size;have G5:∀q∈gs,f.heap.size<=q:=R
 have CC:ay [] F lS∨True:=.inr trivial;have c1:∀q<f.heap.size,q<iW.heap.size->lS.heap[q]? =F.heap[q]? :=λq u Cc=>by
  rw[g3.block q X R,b3.block q X N,b.block q X N]
 have EQ:=g3.size;refine⟨p,I,b.same o,sa,b.blk By N,y,pe,b1,b3.same o,s',lS,g1,λq u=>g3.block q ?_ λe=>?_,rM-1,X,k::V,Lo++[(k,l)],oR.keep (c1 _ X X)<|c1 _ X X,by rw[aY];omega,?_,λk' l' h'=>?_,g2.mono eM X,?_,?_⟩
 .grind
 .grind
 .simp_all
 .grind
 .exact((on.bG b).bG b3).trans g3 R
 exact((BY.bG b).bG b3).trans g3 λq u=>.inr<|G5 q u
end
abbrev GL:Rp (Int×J Int×Unit):=rPair rInt<|rPair (rSl rInt 1 8) rUnit
def amg{w}{F}{s}{l}(h:aA GL 2 w F s l){i:Nat}{x}(a:l[i]? =aM x):∃ad,∃t,ci s i 2 ad/\aB w ad [O U x.1,t.v]/\aA rInt 1 w F t x.2.1:=by
 have:=(aZ.1 a).1;have:=h.len;let⟨ad,y,n,b,g,o,p,c,d⟩:=h.get (bf i) X;rw[aV,a]at g;cases g;obtain⟨f,j,rfl,⟨rfl,_⟩,k,m,rfl,⟨t,rfl,e,_⟩,rfl⟩:=d;exact⟨ad,t,b,c,e⟩
def mem_sumF{b:Type}{f:b->Nat}{x}:∀{l:J b},x∈l->f x<=(l.map f).sum
 |a::l,h=>by
  rw[ch,fm];rcases ba.1 h with rfl|h
  .omega
  have:=mem_sumF (f:=f) h;omega
structure PaOk (xs:List dz) (u:av) (l:Sl) (L:List (Int×List Int)):Prop where
 sl:aA vG 2 u (λ_=>True) l L
 g:∀x,x∈L->gI x.1
 ok:sU xs (dZ L)
 len:∀k l,dZ L k=aM l->WS l<=1000000
def PaOk.nil xs u:PaOk xs u Sl.nil []:=⟨WB ..,λ_ h=>VI,Mn xs,λ_ _ h=>VI⟩
def ab2{xs}{act left}{M}(a:WS xs<=64)(h:∀k l,M k=aM l->WS l<=1000000):∀k l,yd xs act left M k=aM l->WS l<=1000000:=λk l hk=>by
 rw[yd]at hk;split at hk
 .rename_i t _;split at hk
  .injection hk with hk;have:=UL xs t act;rw[Ws]at this;rw[<-hk];omega
  exact h k l hk
 exact h k l hk
def ab3{L:J (Int×J Int)}(n:(L.map (·.1)).Nodup){k:Int}{l:J Int}(h:(k,l)∈L):dZ L k=aM l:=by
 unfold dZ;exact(vm n).2<|.inl h
def cdM{L:J (Int×J Int)}(h:(L.map (·.1)).Nodup){k:Int}(a:∀x∈L,x.1≠k):dZ L k=VM:=by
 rcases e:dZ L k with _|l
 .rfl
 unfold dZ at e;rcases(vm h).1 e with e|⟨_,e⟩
 .grind
 cases e
def C6{x:J dz}{d:Int}{G a:J Int}(h:∀g,g∈G↔g∈a)(S:Nat):∀n,PD x d G S n=PD x d a S n
 |0=>rfl
 |n+1=>by
  rw[PD,PD,C6 h S n];unfold V0;simp_all
def OO{x:J dz}(l:WS x<=64){G:J Int}(h:∀g∈G,qW x g)(g:Int):g∈kc (pD G)↔g∈G:=by
 rw[CL];constructor
 .rintro⟨k,rfl,_,b⟩;rw[vi,bB]at b;exact b.2
 intro a;have:=h g a;have b:=this.1;let c:=this.2;refine⟨g.toNat,X,X,?_⟩;rw[vi,bB]
 grind
section
variable{w:av}{F G H:h}{s si ny sr sm sk sp:Sl}{p:Pl}{ks:J Int}{L:J (Int×J Int)}
theorem kFr(P:PlR w F s si ny sr p)(b:aA vG 2 w G sp L)(i:(L.map (·.1)).Nodup){n:Nat}(hd:n<WS p.dft):
  az aq 88 #[ah #[s.v,si.v,ny.v,sr.v],sp.v,O U (n:Int)] w λe a=>(∃t:Sl,e=ak t.v/\aA rInt 1 a (λk=>G k/\k<w.heap.size∨w.heap.size<=k) t (match dZ L (n:Int)with
   |some l=>l
   |none=>[(p.dft[n]?).getD 0]))/\ay [] w a:=by
 refine(are s si ny sr sp n (λv a=>(∃t:Sl,v=t.v/\aA rInt 1 a (λk=>G k/\k<w.heap.size∨w.heap.size<=k) t (match dZ L (n:Int)with
  |some l=>l
  |none=>[(p.dft[n]?).getD 0]))/\ay [] w a) w ?_).mono A
 intro J B H D T;have:=T.size;have:=b.len;have:=b.cap;have:=b.big;let Y:aA vG 2 w (λk=>G k/\k<w.heap.size) sp L:=PY eM b Z;refine⟨λf z u=>∃j:Nat,z=(j:Int)/\f+j=WS L/\j<=WS L/\(∀x,x∈L.take j->x.1≠(n:Int))/\ay [] w u/\B.heap.size<=u.heap.size,WS L,R,?_⟩;rintro f _ u ⟨j,rfl,K,E,g,h,C⟩;refine⟨λc=>?_,λc=>?_⟩
 .have c:=S c;obtain⟨x,d⟩:∃x,L[j]? =aM x:=⟨_,aR X⟩
  let⟨ad,t,e,p,s⟩:=DF (ZH eM Z Y h N) d;refine⟨ad,e,x.1,p.dv 0 _ I,λhe=>⟨ad,e,t,p.dv 1 _ I,⟨t,I,?_⟩,h⟩,λhe=>⟨f-1,X,j+1,N0,X,X,?_,h,C⟩⟩
  .have he:x.1=(n:Int):=Ze
   have:=ab3 i (k:=x.1) (l:=x.2)<|be d;rw[he]at this;rw[this];exact s.mono bA R
  intro y k;rw[aX,d]at k
  grind
 let c:=aQ c;have:j=WS L:=X
 subst this;rw[dA]at g;rw[cdM i g];obtain⟨d,e⟩:∃d,p.dft[n]? =aM d:=⟨_,aR hd⟩
 let V:=(P.o0 h).dft;let⟨ad,s,t⟩:=ig V e;let⟨y,w,v,k,k3⟩:=zP u<|ET V e;have:=k.size;have:=h.size;refine⟨ad,s,d,t,y,w,v,k.same o,⟨y,I,?_⟩,h.bG k⟩;rw[e];exact(k3.slice bA).mono bA R
theorem PQ{l:J Int}{j:Nat}{x:Int}(h:l[j]? =aM x)(S:Nat):(l.take<|j+1).foldl vF S=vF ((l.take j).foldl vF S) x:=by
 rw[aX,h,gZ];rfl
theorem ab4(hP:PlR w F s si ny sr p)(hS:Sd p.sp)(ff:WS p.dft=WS p.sp)(hL:aA vG 2 w G sp L)(hn:(L.map (·.1)).Nodup)(fj:∀k z,dZ L k=aM z->WS z<=1000000)(l:aA rInt 1 w H sk ks)(hk:∀t∈ks,∀g,g∈eX p.sp p.dft (dZ L) t->qW p.sp g):
  az aq 51 #[ah #[s.v,si.v,ny.v,sr.v],sp.v,sk.v] w λe w'=>(∃t:Sl,e=ak t.v/\mH w.heap.size w' t (ww (WS p.sp)<|pD<|ks.flatMap<|eX p.sp p.dft<|dZ L))/\ay [] w w':=by
 refine jK<|aqZ ?_;intro k0 f fH dC Y;have z0:=Y.size;have lG:=hS.le;have B:0<WS p.sp:=IZ
 have qA:=hP.sp.len;have aS:=l.len;have aC:=l.cap;have am:=l.big;let⟨m,d,m1,m2,V⟩:=E8 f (n:=WS p.sp) X B;have z1:=V.size;have W:=hP.Da;have vw:aA vG 2 w (λk=>G k/\k<w.heap.size) sp L:=PY eM hL Z;have D:aA rInt 1 w (λk=>H k/\k<w.heap.size) sk ks:=PY bA l Z;have J:∀{g:Nat},m.a=aM ⟨g,0,VM⟩->f.heap.size<=g/\g<d.heap.size:=λe=>m2.blk e;have o1:=Y.bG V;have M:∀{u:av},aD (iJ m) d u->∀k<w.heap.size,u.heap[k]? =w.heap[k]? :=λh k hk=>by
  have e1:=h.block k X λe=>by have:=J e;omega
  exact e1.trans<|o1.block k hk N
 have P:∀{u:av},aD (iJ m) d u->ay [] w u:=fun{u} h=>((o1.p0 (F:=λ_=>False)).trans h λk hk=>.inr<|by have:=J hk;omega).only λk A=>A.elim;have C:∀{u:av},aD (iJ m) d u->PlR u (λk=>F k/\k<w.heap.size) s si ny sr p:=λh=>W.o0<|P h;refine⟨m,d,by rw[qA];exact m1,V.same o,λv r u=>∃j:Nat,r=(j:Int)/\v+j=WS ks/\j<=WS ks/\mH f.heap.size u m (ww (WS p.sp)<|pD<|(ks.take j).flatMap<|eX p.sp p.dft<|dZ L)/\aD (iJ m) d u,WS ks,⟨0,I,X,bE _,by
  rw[show pD ((ks.take 0).flatMap<|eX p.sp p.dft<|dZ L)=0 from rfl,GI];exact m2,V8 _ _⟩,?_⟩
 rintro v _ u ⟨j,rfl,me,hj,i,h⟩;have zu:=h.size;refine⟨λc=>?_,λc=>?_⟩
 .have c:=S c;obtain⟨t,G⟩:∃t,ks[j]? =aM t:=⟨_,aR X⟩
  have j8:(ks.take<|j+1).flatMap (eX p.sp p.dft<|dZ L)=(ks.take j).flatMap (eX p.sp p.dft<|dZ L)++eX p.sp p.dft (dZ L) t:=by
   rw[aX,G,kj];simp
  have nj:=hk t<|be G;have w:pD ((ks.take<|j+1).flatMap<|eX p.sp p.dft<|dZ L)=(eX p.sp p.dft (dZ L) t).foldl vF (pD<|(ks.take j).flatMap<|eX p.sp p.dft<|dZ L):=by
   rw[j8];unfold pD;rw[gZ]
  generalize pD ((ks.take j).flatMap<|eX p.sp p.dft<|dZ L)=T at*
  let⟨ad,g1,g2⟩:=ig (kI D<|P h) G;refine⟨λu3=>mH f.heap.size u3 m (ww (WS p.sp)<|pD<|(ks.take<|j+1).flatMap<|eX p.sp p.dft<|dZ L)/\aD (iJ m) d u3,λu3 ⟨h1,s⟩=>⟨v-1,X,j+1,N0,X,X,h1,s⟩,ad,g1,t,g2,λH=>?_,λH=>?_⟩
  .rw[cj,bB,bB]at H;have:eX p.sp p.dft (dZ L) t=[]:=by rw[eX,E X]
   rw[w,this];exact⟨i,h⟩
  rw[eH,dk,dk]at H;obtain⟨n,rfl⟩:∃n:Nat,t=n:=⟨t.toNat,X⟩
  let⟨x,hx⟩:=eW (xs:=p.sp) (i:=n) X;let⟨vJ,a1,a2,_⟩:=gK (C h).sp hx;have aT:eX p.sp p.dft (dZ L) (n:Int)=if fh x.k then(match dZ L (n:Int)with
    |some z=>z
    |none=>[(p.dft[n]?).getD 0])else[(n:Int)]:=by
   rw[eX,Q X,fz hx];rfl
  refine⟨vJ,a1,x.k,a2.dv 0 _ I,(Aq u x.k).mono ?_⟩;rintro _ u1 ⟨rfl,bv⟩;obtain rfl:u=u1:=bv.symm;have gz:((x.k==3)||(x.k==4))=fh x.k:=by unfold fh;simp[BEq.beq]
  let⟨y,w5,k1,k2,k3⟩:=zP u (a:=(n:Int)) ⟨X,X⟩;have z5:=k2.size;refine⟨_,I,Zm _ _,y,w5,k1,k2.same o,λl2 u6=>(∃bJ,aA rInt 1 u6 bJ l2 (eX p.sp p.dft (dZ L) (n:Int))/\∀k,bJ k->m.a≠aM ⟨k,0,VM⟩)/\mH f.heap.size u6 m (ww (WS p.sp) T)/\aD (iJ m) d u6,?_,λhb=>?_,λhb=>?_⟩
  .rintro l2 u6 ⟨⟨bJ,s,x⟩,y,dr⟩;rw[w];generalize eX p.sp p.dft (dZ L) (n:Int)=a at*
   have ce:=s.len;have cc:=s.cap;have bY:=s.big;refine⟨λv r u=>∃q:Nat,r=(q:Int)/\v+q=WS a/\q<=WS a/\mH f.heap.size u m (ww (WS p.sp)<|(a.take q).foldl vF T)/\aD (iJ m) u6 u,WS a,⟨0,I,X,bE _,y,V8 _ _⟩,?_⟩;rintro VF _ xn ⟨q,rfl,bV,hq,e,t⟩;refine⟨λc=>?_,λc=>?_⟩
   .have c:=S c;obtain⟨g,hg⟩:∃g,a[q]? =aM g:=⟨_,aR X⟩
    let⟨Hk,b1,b2⟩:=ig (Zz bA Z s t λk hk _ A=>x k hk A) hg;let⟨c1,c2⟩:=nj g<|be hg;obtain⟨z7,rfl⟩:∃z7:Nat,g=z7:=⟨g.toNat,X⟩
    have Xd:=PQ hg T;generalize (a.take q).foldl vF T=qj at*
    let⟨pp,q1,q2⟩:=e.set (k:=z7) X lG (K:=λk6 k7 z0 k8=>k0≠k6/\sS xn k6 k7 z0 k8 [aj aE] λL=>nx VF λk9=>∃n:Nat,ar U ((q:Int)+1)=(n:Int)/\k9+n=WS a/\n<=WS a/\mH f.heap.size L m (ww (WS p.sp)<|(a.take n).foldl vF T)/\aD (iJ m) u6 L) (λb cells e1 e2 e3 e4=>⟨X,λL fD xp=>⟨VF-1,X,q+1,N0,X,X,by
     rw[Xd];exact e4 L fD xp,t.trans (fD.p (F:=iJ m) λb hb=>Ts) λk hk=>.inl hk⟩⟩)
    exact⟨Hk,b1,_,b2,pp,q1,q2⟩
   have c:=aQ c;have:q=WS a:=X
   subst this;rw[dA]at e;exact⟨e,dr.trans t λk hk=>.inl hk⟩
  .rw[gz]at hb;rw[aT,E hb];have a:=(P h).bG k2;refine(kFr (W.o0 a) (ZH eM Z vw a N) hn (n:=n) X).mono ?_;rintro _ b ⟨⟨t,rfl,G⟩,x⟩;have g:=x.size;refine⟨t,I,x.same o,⟨_,G,λk hk e=>?_⟩,(i.o0 k2).o0 x,(h.bG k2).bG x⟩;have:=J e;rcases hk with hk|hk<;>omega
  rw[gz]at hb;rw[aT,hb,Q Z];exact⟨⟨_,k3.slice bA,R⟩,i.o0 k2,h.bG k2⟩
 have c:=aQ c;have:j=WS ks:=X
 subst this;rw[dA]at i;exact⟨⟨m,I,i.low X⟩,P h⟩
theorem GS(P:PlR w F s si ny sr p)(h:Sd p.sp)(B:WS p.dft=WS p.sp)(i:aA vG 2 w G sp L)(n:(L.map (·.1)).Nodup)(j:∀k l,dZ L k=aM l->WS l<=1000000)(R:aA rInt 1 w H sk ks)(hk:∀t∈ks,∀g,g∈eX p.sp p.dft (dZ L) t->qW p.sp g):
  az aq 20 #[ah #[s.v,si.v,ny.v,sr.v],sp.v,sk.v] w λe a=>(∃t:Sl,e=ak t.v/\dc w.heap.size a t (kc<|pD<|ks.flatMap<|eX p.sp p.dft<|dZ L))/\ay [] w a:=by
 refine(aqG s si ny sr sp sk (λv a=>(∃t:Sl,v=t.v/\dc w.heap.size a t (kc<|pD<|ks.flatMap<|eX p.sp p.dft<|dZ L))/\ay [] w a) w ?_).mono A;intro x y u C b;have:=b.size;refine(ab4 (P.o0 b) h B (ZH eM Z i b N) n j (kI R b) hk).mono ?_;rintro _ z ⟨⟨r,rfl,m⟩,U⟩;have:=U.size;refine⟨r,I,U.same o,(Hg h.le<|m.slice sQ).mono ?_⟩;rintro _ D ⟨⟨t,rfl,f⟩,c⟩;have:=c.size;refine⟨t,I,c.same o,⟨t,I,?_⟩,(b.bG U).bG c⟩;rw[RJ h.le λq d=>?_]at f
 .exact f.low X
 rw[vi,bB,jp]at d;let⟨_,t,e,g⟩:=d;have:=(hk t e _ g).2;omega
end
structure Gdx (p:Pl) (L:List (Int×List Int)):Prop where
 g:Gdp p (dZ L)
 n:(L.map (·.1)).Nodup
 len:∀k l,dZ L k=aM l->WS l<=1000000
 gl:∀(n:Nat) (t:dz),p.sp[n]? =aM t->t.k≠2->dG p.sp n≠[]->∀g,g∈BG p (dZ L) n->∃k:Nat,g=k/\Sb p.sp n k
 ro:∀r,r∈p.ro->0<=r.dom->∀t,t∈r.tg->∀g,g∈eX p.sp p.dft (dZ L) t->∃k:Nat,g=k/\Sb p.sp r.dom k
def AL{x:J dz}(F:Fo x)(h:WS x<=64){l:Nat->J Int}(b:∀(n:Nat) (t:dz),x[n]? =aM t->t.k≠2->dG x n≠[]->∀g,g∈l n->qW x g){S:Nat}(a:∀m,S.testBit m=aE->m<WS x):∀n,n<=(WS x)->∀m,(qZ x l n S).testBit m=aE->m<WS x
 |0,_,m,c=>a m c
 |n+1,f,m,c=>by
  rw[qZ]at c;let d:=AL F h b a n X;unfold N1 at c;split at c
  .split at c
   .rcases(aaV h _ m).1 c with c|c
    .exact d m c
    let⟨q,t,e,g,_⟩:=mF.1 c
    grind
   rename_i j;split at c
   .rename_i r;let⟨t,k⟩:=eW (xs:=x) (i:=n) X;have:=(rQ F h X (l n) _ (b n t k (by rw[oo k]at j;exact j) r.1) m).1 c;rcases this with c|⟨_,g,_,u,e,_⟩
    .exact d m c
    exact fG e
   exact d m c
  exact d m c
section
variable{w:av}{F G H:h}{s si ny sr sm sk sp:Sl}{p:Pl}{ks:J Int}{L:J (Int×J Int)}
theorem agY(hP:PlR w F s si ny sr p)(D:Gdx p L)(hL:aA vG 2 w G sp L){d c:Nat}(Y:mH d w sm (ww (WS p.sp) c))(B:∀k,F k->sm.a≠aM ⟨k,0,VM⟩)(M:∀k,G k->sm.a≠aM ⟨k,0,VM⟩):
  az aq 53 #[ah #[s.v,si.v,ny.v,sr.v],sp.v,sm.v] w λe w'=>e=ak (ai #[])/\mH d w' sm (ww (WS p.sp)<|qZ p.sp (BG p<|dZ L) (WS p.sp) c)/\aD (iJ sm) w w':=by
 refine ret<|aq1 ?_;have m:=D.g.sd;have z:=m.le;rw[<-kK m.fo z D.gl c (WS p.sp) (bc _)];intro V w0 fH dC C;have z0:=C.size;have qA:=hP.sp.len;have J:∀{g:Nat},sm.a=aM ⟨g,0,VM⟩->g<w.heap.size:=λe=>(Y.blk e).2;have f:sm.a≠aM ⟨V,0,VM⟩:=λe=>by have:=J e;omega
 have H:=hP.Da;have bJ:aA vG 2 w (λk=>G k/\k<w.heap.size) sp L:=PY eM hL Z;have l:∀{u:av},aD (iJ sm) w u->PlR u (λk=>F k/\k<w.heap.size) s si ny sr p:=λh=>
  ⟨Zz cH Z H.sp h λk hk _ a=>B k hk.1 a,Zz bA Z H.ini h λk hk _ a=>B k hk.1 a,Zz bA Z H.dft h λk hk _ a=>B k hk.1 a,Zz gu Z H.ro h λk hk _ a=>B k hk.1 a⟩
 have l_:∀{u:av},aD (iJ sm) w u->aA vG 2 u (λk=>G k/\k<w.heap.size) sp L:=λh=>Zz eM Z bJ h λk hk _ a=>M k hk.1 a;refine⟨λW P u=>∃n:Nat,P=(n:Int)/\W+n=WS p.sp/\n<=WS p.sp/\mH d u sm (ww (WS p.sp)<|WY p.sp (BG p<|dZ L) n c)/\aD (iJ sm) w u/\w0.heap.size<=u.heap.size,WS p.sp,⟨0,I,X,bE _,Y.o0 C,C.p0,bc _⟩,?_⟩;rintro W _ u ⟨n,rfl,me,hn,j,h,gz⟩;refine⟨λi=>?_,λi=>?_⟩
 .have i:=S i;have E4:n<WS p.sp:=X
  let⟨x,hx⟩:=eW E4;have Cb:=oo hx;have j8:WY p.sp (BG p<|dZ L) (n+1) c=PV p.sp (BG p<|dZ L) (WY p.sp (BG p<|dZ L) n c) n:=I;generalize WY p.sp (BG p<|dZ L) n c=T at*
  let⟨ad,g1,g2⟩:=j.at E4;refine⟨λu3=>mH d u3 sm (ww (WS p.sp)<|WY p.sp (BG p<|dZ L) (n+1) c)/\aD (iJ sm) w u3/\w0.heap.size<=u3.heap.size,λu3 ⟨s,G,h3⟩=>⟨W-1,X,n+1,N0,X,X,s,G,h3⟩,ad,g1,_,g2,λhb=>?_,λhb=>?_⟩
  .have hb:T.testBit n=aL:=Rg
   rw[j8];unfold PV;rw[hb,Q Z];exact⟨j,h,gz⟩
  have hb:T.testBit n=aE:=Rg
  refine(tf (l h).sp m n).mono ?_;rintro _ w3 ⟨⟨l0,rfl,cc⟩,cN⟩;have z3:=cN.size;have h0:=cc.slice bA;have aC:=h0.len;have co:=h0.cap;have ce:=h0.big;have aT:∀r,r∈dG p.sp n->∃q:Nat,r=q/\q<WS p.sp:=λr hr=>by
   obtain⟨q,t,rfl,s,_⟩:=mF.1 hr;exact⟨q,I,fG s⟩
  have bY:PV p.sp (BG p<|dZ L) T n=if kd p.sp n=2 then(dG p.sp n).foldl vF T else if dG p.sp n≠[]/\((dG p.sp n).all λr=>!T.testBit r.toNat)=aE then PD p.sp n (BG p (dZ L) n) T (WS p.sp) else T:=by
   unfold PV;rw[hb,E I]
  have cC:=D.gl n x hx;have bv:=D.g.gl n x hx;generalize dO:dG p.sp n=rg at*
  have bV:∀{k:Nat},sm.a=aM ⟨k,0,VM⟩->k<u.heap.size:=λe=>by have:=J e;have:=h.size;omega
  refine⟨l0,I,cN.same o,λrM b1 P u4=>∃am:Nat,P=(am:Int)/\rM+am=WS rg/\am<=WS rg/\mH d u4 sm (ww (WS p.sp)<|if x.k=2 then(rg.take am).foldl vF T else T)/\b1=(if x.k=2 then JW (am=0)else(rg.take am).all λr=>!T.testBit r.toNat)/\aD (iJ sm) w3 u4,WS rg,⟨0,I,X,bE _,by simpa using j.o0 cN,N,V8 _ _⟩,?_⟩;rintro rM b1 _ u4 ⟨am,rfl,Ea,hj,hR,wW,dB⟩;have z4:=dB.size;have oT:aD (iJ sm) w u4:=(h.bG cN).trans dB λk hk=>.inl hk;have aS:∀{v:av},aD (iJ sm) w3 v->aA rInt 1 v _ l0 rg:=λh=>Zz bA Z h0 h λk hk _ a=>by have:=bV a;rcases hk with hk|hk;exact hk.elim;omega
  refine⟨λiH=>?_,λiH=>?_⟩
  .have iH:=S iH;obtain⟨r,hr⟩:∃r,rg[am]? =aM r:=⟨_,aR X⟩
   obtain⟨q,rfl,t⟩:=aT r<|be hr;have L:rg.take (am+1)=rg.take am++[(q:Int)]:=by rw[aX,hr];rfl
   have n:=PQ hr T;let⟨v,w,y,_⟩:=gK (l oT).sp hx;refine⟨λg=>mH d g sm (ww (WS p.sp)<|if x.k=2 then(rg.take<|am+1).foldl vF T else T)/\aD (iJ sm) w3 g,?_,v,w,x.k,y.dv 0 _ I,λhk=>?_,λhk=>?_⟩
   .rintro g ⟨s,G⟩;let⟨e,p,r⟩:=ig (aS G) hr;let⟨k,F,K⟩:=s.at t;refine⟨e,λ_=>p,(q:Int),λ_=>r,k,λ_=>F,_,λ_=>K,rM-1,X,am+1,N0,X,X,s,?_,G⟩;rw[wW];by_cases b:x.k=2
    .rw[E b,E b,E b,n,GH X];simp
    rw[Q b,Q b,Q b,L,iq];simp
   .have Jg:x.k=2:=Wq
    rw[E Jg]at hR;let⟨el,eQ,fd⟩:=ig (aS dB) hr;let⟨pp,q1,q2⟩:=hR.set (k:=q) t z (K:=λk7 k8 z0 k9=>V≠k7/\sS u4 k7 k8 z0 k9 [aj aE] λr=>mH d r sm (ww (WS p.sp)<|if x.k=2 then(rg.take<|am+1).foldl vF T else T)/\aD (iJ sm) w3 r) (λb cells e1 e2 e3 e4=>⟨λe=>f<|e▸e1,λr dr Vx=>⟨by
     rw[E Jg,n];exact e4 r dr Vx,dB.trans (dr.p (F:=iJ sm) λb hb=>Ts) λk hk=>.inl hk⟩⟩)
    exact⟨el,eQ,_,fd,pp,q1,q2⟩
   have b:¬x.k=2:=Wq
   rw[Q b]at hR⊢;exact⟨hR,dB⟩
  have iH:=aQ iH;have:am=WS rg:=X
  subst this;rw[dA]at hR wW;rw[j8,bY];refine⟨λb=>?_,λb=>?_⟩
  .rw[aO,bB]at b;let⟨b,wK⟩:=b;have io:rg≠[]:=λe=>by rw[e]at aC;simp at aC;omega
   have Jg:¬x.k=2:=A
   rw[Q Jg]at hR wW;have iC:(rg.all λr=>!T.testBit r.toNat)=aE:=by rw[<-wW];exact wK
   rw[Q (by rw[Cb];exact Jg),E ⟨io,iC⟩];intro w7 fu;have z7:=fu.size;have o7:=oT.bG fu;have PS:=l o7;have ff:=D.g.i;obtain⟨K,q⟩:∃K,p.ini[n]? =aM K:=⟨_,aR X⟩
   let⟨Hk,a1,a2⟩:=ig PS.ini q;let⟨y,w8,k1,v,k3⟩:=zP w7<|ET PS.ini q;have z8:=v.size;have o8:=o7.bG v;have w:∀g,g∈[K].flatMap (eX p.sp p.dft<|dZ L)↔g∈BG p (dZ L) n:=λg=>by
    unfold BG;rw[q];simp
   refine⟨λk=>k=V,I,I,Hk,a1,K,a2,y,w8,k1,v.same o,λk hk J=>v.block k J N,(GS (l o8) m D.g.d (l_ o8) D.n D.len (k3.slice bA)<|λt F g hg=>?_).mono ?_⟩
   .rw[bh]at F;subst F;exact A
   rintro _ w9 ⟨⟨t,rfl,F⟩,x⟩;have z9:=x.size;have r:=o8.bG x;refine⟨t,I,x.same o,λk hk J=>x.block k J N,have p:=((hR.o0 fu).o0 v).o0 x;(UJ (l r) z p (F.slice bA) (bC (IA _) Z) R (λk hk=>B k hk.1) n).mono ?_⟩;rintro _ dh ⟨rfl,L,y⟩;have T:=y.size;refine⟨I,λk hk=>y.block k QT λe=>by simp only[bh]at hk;subst hk;exact f e,λk hk J=>y.block k J λe=>by subst hk;exact f e,?_,r.trans y λk hk=>.inl hk,X⟩;rw[C6 (λg=>(OO z (λg hg=>bv Jg io g<|(w g).1 hg) g).trans<|w g)]at L;exact L
  refine⟨?_,oT,X⟩;by_cases g:x.k=2
  .rw[E (by rw[Cb];exact g)];rw[E g]at hR;exact hR
  rw[Q (by rw[Cb];exact g)];rw[Q g]at hR wW;have:¬(rg≠[]/\(rg.all λr=>!T.testBit r.toNat)=aE):=λ⟨s,G⟩=>by
   rw[wW,G,dW,dk]at b;have:=xd.2 s;omega
  rw[Q this];exact hR
 have i:=aQ i;have:n=WS p.sp:=X
 subst this;exact⟨I,j,h⟩
end
def Rq{x:J dz}{d g:Int}(h:∃k:Nat,g=k/\Sb x d k):qW x g:=by
 obtain⟨k,rfl,_,h,_⟩:=h;exact⟨X,X⟩
section
variable{w:av}{F G H:h}{s si ny sr sm sk sp:Sl}{p:Pl}{ks:J Int}{L:J (Int×J Int)}
theorem UN(P:PlR w F s si ny sr p)(D:Gdx p L)(u:aA vG 2 w G sp L){l S:Nat}(v:∀m,S.testBit m=aE->m<WS p.sp)(M:mH l w sm (ww (WS p.sp) S))(h:∀k,F k->sm.a≠aM ⟨k,0,VM⟩)(B:∀k,G k->sm.a≠aM ⟨k,0,VM⟩){d:Nat}(H:d<w.heap.size)(hk:sm.a≠aM ⟨d,0,VM⟩){K:Sl->av->Prop}
  (q:∀t f,dc w.heap.size f t (kc<|qZ p.sp (BG p<|dZ L) (WS p.sp) S)->aD (iJ sm) w f->K t f):
  fW [d] 53 #[ft s si ny sr,sp.v,sm.v] w λy=>qv [d] 50 #[sm.v] y K:=by
 have:∀{g:Nat},sm.a=aM ⟨g,0,VM⟩->g<w.heap.size:=λe=>(M.blk e).2;refine(agY P D u M h B).mono ?_;rintro _ C ⟨rfl,r,U⟩;have:=U.size;refine⟨I,λk z=>U.block k A λe=>by simp only[bh]at z;subst z;exact hk e,(Hg D.g.sd.le<|r.slice sQ).mono ?_⟩;rintro _ x ⟨⟨t,rfl,j⟩,i⟩;rw[RJ D.g.sd.le (AL D.g.sd.fo D.g.sd.le (λn t a b c=>D.g.gl n t a b c) v _ X)]at j;exact⟨t,I,i.same o,q t x (j.low X)<|U.bG i⟩
theorem ab5(y:PlR w F s si ny sr p)(D:Gdx p L)(hL:aA vG 2 w G sp L)(z:aA rInt 1 w H sk ks):
  az aq 21 #[ah #[s.v,si.v,ny.v,sr.v],sp.v,sk.v] w λe b=>(∃t:Sl,e=ak t.v/\dc w.heap.size b t (kc<|qZ p.sp (BG p<|dZ L) (WS p.sp)<|ks.foldl (qc p<|dZ L) 0))/\ay [] w b:=by
 refine(aqH s si ny sr sp sk (λv b=>(∃t:Sl,v=t.v/\dc w.heap.size b t (kc<|qZ p.sp (BG p<|dZ L) (WS p.sp)<|ks.foldl (qc p<|dZ L) 0))/\ay [] w b) w ?_).mono (by rintro _ b ⟨v,rfl,⟨t,rfl,a⟩,h'⟩;exact R);intro k0 B fH dC Y;have z0:=Y.size;have hS:=D.g.sd;have A:=hS.le;have C:0<WS p.sp:=IZ
 have qA:=y.sp.len;have k8:=y.ro.len;have aS:=z.len;have aC:=z.cap;have am:=z.big;let⟨m,c,m1,m2,W⟩:=E8 B (n:=WS p.sp) X C;have z1:=W.size;have qj:aA vG 2 w (λk=>G k/\k<w.heap.size) sp L:=PY eM hL Z;have K:aA rInt 1 w (λk=>H k/\k<w.heap.size) sk ks:=PY bA z Z;have hm:∀{g:Nat},m.a=aM ⟨g,0,VM⟩->B.heap.size<=g/\g<c.heap.size:=λe=>m2.blk e;have f:∀{u:av},aD (iJ m) c u->ay [] w u:=fun{u} h=>(((Y.bG W).p0 (F:=λ_=>False)).trans h λk hk=>.inr<|by have:=hm hk;omega).only λk a=>a.elim;have P:∀{u:av},aD (iJ m) c u->PlR u (λk=>F k/\k<w.heap.size) s si ny sr p:=λh=>y.Da.o0<|f h;have i:∀{u:av},aD (iJ m) c u->aA vG 2 u (λk=>G k/\k<w.heap.size) sp L:=λh=>ZH eM Z qj (f h) N;have nF:∀k,F k/\k<w.heap.size->m.a≠aM ⟨k,0,VM⟩:=R
 have nG:∀k,G k/\k<w.heap.size->m.a≠aM ⟨k,0,VM⟩:=R
 have n0:m.a≠aM ⟨k0,0,VM⟩:=R
 have V:∀j,∀q,((ks.take j).foldl (qc p<|dZ L) 0).testBit q=aE->q<WS p.sp:=by
  have:∀(n:J Int) (d:Nat),(∀q,d.testBit q=aE->q<WS p.sp)->∀q,(n.foldl (qc p<|dZ L) d).testBit q=aE->q<WS p.sp:=λn=>by
   induction n with
   |nil=>exact λd a=>a
   |cons k n p=>
    refine λd a=>p _ λq hq=>?_;unfold qc at hq;split at hq
    .exact a q hq
    split at hq
    .rename_i r k;split at hq
     .exact a q hq
     rename_i hd;rcases(rQ hS.fo A X _ _ (λg s=>by
      let⟨t,v,w⟩:=jp.1 s;exact Rq<|D.ro r (be k) X t v g w) q).1 hq with h'|⟨_,g,_,u,e,_⟩
     .exact a q h'
     exact fG e
    exact a q hq
  exact R
 refine⟨m,c,by rw[qA];exact m1,W.same o,λM aT u=>∃j:Nat,aT=(j:Int)/\M+j=WS ks/\j<=WS ks/\mH B.heap.size u m (ww (WS p.sp)<|(ks.take j).foldl (qc p<|dZ L) 0)/\aD (iJ m) c u,WS ks,⟨0,I,X,bE _,by
  rw[cr,List.foldl_nil,GI];exact m2,V8 _ _⟩,?_⟩
 rintro M _ u ⟨j,rfl,me,hj,l,h⟩;have zu:=h.size;refine⟨λx=>?_,λx=>?_⟩
 .have x:=S x;obtain⟨k,hk⟩:∃k,ks[j]? =aM k:=⟨_,aR X⟩
  have v:(ks.take<|j+1).foldl (qc p<|dZ L) 0=qc p (dZ L) ((ks.take j).foldl (qc p<|dZ L) 0) k:=by
   rw[aX,hk,gZ];rfl
  generalize (ks.take j).foldl (qc p<|dZ L) 0=T at*
  let⟨ad,G,H⟩:=ig (kI K<|f h) hk;refine⟨λF=>mH B.heap.size F m (ww (WS p.sp)<|(ks.take<|j+1).foldl (qc p<|dZ L) 0)/\aD (iJ m) c F,λF ⟨q,s⟩=>⟨M-1,X,j+1,N0,X,X,q,s⟩,ad,G,k,H,?_⟩;by_cases ff:0<=k/\k<(WS p.ro:Int)
  .obtain⟨n,rfl⟩:∃n:Nat,k=n:=⟨k.toNat,X⟩
   obtain⟨r,hr⟩:∃r,p.ro[n]? =aM r:=⟨_,aR X⟩
   let⟨a0,bV,b1,b2,_⟩:=BF y.ro hr;have Dd:a0.block<w.heap.size:=b2.lt;have b3:aB u a0 _:=b2.keep<|(f h).block _ Dd N;have bv:qc p (dZ L) T (n:Int)=if r.dom<0 then T else tX p.sp r.dom (r.tg.flatMap<|eX p.sp p.dft<|dZ L) T:=by
    unfold qc;rw[Q X,aV,hr]
   refine⟨a0,λ_=>b1,r.dom,λ_=>b3.dv 6 _ I,λhd=>?_,λhd=>?_⟩
   .rw[aO,bB]at hd;have hd:=hd.2;obtain⟨d,gz⟩:∃d:Nat,r.dom=d:=⟨r.dom.toNat,X⟩
    have bY:=D.ro r (be hr) hd;intro w4 dB;have z4:=dB.size;have o4:=h.bG dB;let⟨a1,tg,c1,c2,c3⟩:=BF (P o4).ro hr;refine⟨λk=>k=k0∨k<w.heap.size,.inl I,a1,c1,tg,c2.dv 5 _ I,.inl I,a0,b1,.inr Dd,r.dom,(b3.keep<|dB.block _ b3.lt N).dv 6 _ I,(GS (P o4) hS D.g.d (i o4) D.n D.len c3<|λt ht g hg=>Rq<|bY t ht g hg).mono ?_⟩;rintro _ w5 ⟨⟨t,rfl,ht⟩,dV⟩;have z5:=dV.size;have o5:=o4.bG dV;refine⟨t,I,dV.same o,λk hk bJ=>dV.block k bJ N,(UJ (P o5) A ((l.o0 dB).o0 dV) (ht.slice bA) (bC (IA _) Z) R nF r.dom).mono ?_⟩;rintro _ w6 ⟨rfl,h6,dr⟩;refine⟨I,λk hk=>dr.block k QT λe=>by simp only[bh]at hk;subst hk;exact n0 e,λk hk bJ=>dr.block k bJ λe=>by have:=hm e;omega,?_,o5.trans dr λk hk=>.inl hk⟩;rw[v,bv,Q X];have n:∀g,g∈r.tg.flatMap (eX p.sp p.dft<|dZ L)->∃k:Nat,g=k/\Sb p.sp r.dom k:=λg hg=>by
     let⟨t,q,s⟩:=jp.1 hg;exact bY t q g s
    rw[C6 (λg=>OO A (λg hg=>Rq<|n g hg) g)]at h6;rw[gz]at h6 n⊢;rw[<-kG hS.fo A T n];exact h6
   have e:JW ((n:Int)>=0)=aE:=I;have d:JW ((n:Int)<(sr.n:Int))=aE:=bO X;rw[e,d,cd,cd,dk]at hd;rw[v,bv,E X];exact⟨l,h⟩
  have e:((JW<|k>=0)&&(JW<|k<(sr.n:Int)))=aL:=by
   rw[oB,dk,dk];omega
  refine⟨ad,R,0,R,R,λ_=>⟨?_,h⟩⟩;rw[v];have:qc p (dZ L) T k=T:=by
   unfold qc;split
   .rfl
   rw[cu X]
  rw[this];exact l
 have x:=aQ x;have:j=WS ks:=X
 subst this;have d:=V<|WS ks;rw[dA]at l d;refine UN (P h) D (i h) d l nF nG X n0 λt b e g=>⟨⟨t,I,e.low<|by have:=(f h).size;omega⟩,f<|h.trans g λk hk=>.inl hk⟩
theorem ab6(l:PlR w F s si ny sr p)(D:Gdx p []):
  az aq 22 #[ah #[s.v,si.v,ny.v,sr.v]] w λe a=>(∃t:Sl,e=ak t.v/\dc w.heap.size a t (kc<|qZ p.sp (BG p λ_=>VM) (WS p.sp) 1))/\ay [] w a:=by
 refine(aqI s si ny sr (λv a=>(∃t:Sl,v=t.v/\dc w.heap.size a t (kc<|qZ p.sp (BG p λ_=>VM) (WS p.sp) 1))/\ay [] w a) w ?_).mono A;intro r f S Q T;let z:=T.size;let hS:=D.g.sd;let G:=hS.le;let h:0<WS p.sp:=IZ
 let M:=l.sp.len;let⟨m,c,E,d,j⟩:=E8 f (n:=WS p.sp) X h;have:=j.size;let H:=l.Da;let C:∀{g:Nat},m.a=aM ⟨g,0,VM⟩->f.heap.size<=g/\g<c.heap.size:=λe=>d.blk e;let L:=T.bG j;let P:∀{u:av},aD (iJ m) c u->ay [] w u:=fun{u} hO=>((L.p0 (F:=λ_=>False)).trans hO λk hk=>.inr<|by have:=C hk;omega).only λk x=>x.elim;let J:m.a≠aM ⟨r,0,VM⟩:=R
 have:m.n=WS p.sp:=by have:=(d.slice sQ).len;simp_all
 rw[<-GI]at d;refine⟨m,c,by rw[M];exact E,j.same o,λu=>mH f.heap.size u m (ww (WS p.sp) 1)/\aD (iJ m) c u,λu ⟨y,i⟩=>?_,λB=>?_,λB=>?_⟩
 .have k:=i.size;let b:∀q,(1:Nat).testBit q=aE->q<WS p.sp:=λq hq=>by
   have:q=0:=by
    cases q with
    |zero=>rfl
    |succ q=>grind
   omega
  exact UN (sp:=Sl.nil) (H.o0<|P i) D (WB _ _ _<|λ_=>False) b y R R X J λt a e g=>⟨⟨t,I,e.low X⟩,P<|i.trans g R⟩
 .obtain⟨W,Y,Z⟩:=mH.set (k:=0) d h G (K:=λg q z k3=>r≠g/\sS c g q z k3 [aj aE] λw=>mH f.heap.size w m (ww (WS p.sp) 1)/\aD (iJ m) c w) (λb cells e1 t v n=>⟨X,λw e s=>⟨n w e s,e.p (F:=iJ m) λb hb=>Ts⟩⟩)
  grind
 simp_all
end
def Hm(s:J dz)(x:dz)(act:J Int):J Int:=(if x.k=4 then KM s act else dG s x.pa.toNat).filter λk=>JW (k∈act)&&wB s k x.pa
def Wu(s:J dz)(act left:J Int)(L:J (Int×J Int))(n:Nat)(x:dz):J (Int×J Int):=
 if fh x.k=aE then(if(JW (x.pa∈act)&&JW (x.pa∈left))=aE then[((n:Int),Hm s x act)]else L.filter λy=>y.1==(n:Int))else[]
def IY(s:J dz)(act left:J Int)(L:J (Int×J Int)):Nat->J (Int×J Int)
 |0=>[]
 |n+1=>IY s act left L n++match s[n]? with
  |some x=>Wu s act left L n x
  |none=>[]
abbrev wR(B:Nat)(w:av)(s:Sl)(L:J (Int×J Int)):Prop:=Own vG 2 83 B w (λk=>B<=k) s L
def wR.o0{B:Nat}{w a:av}{s:Sl}{L:J (Int×J Int)}(h:wR B w s L)(O:ay [] w a):wR B a s L:=h.keep eM λk _ b=>O.block k b N
def ami{b:Nat}{w a:av}(h:aD (λk=>k=b) w a):ay [b] w a:=⟨h.os,h.tape,h.output,h.size,λk hk hn=>h.block k hk ZP⟩
def aBL{B:Nat}{u:av}{s:Sl}{c:J Int}(l:dc B u s c)(m:B<=u.heap.size){n:Int}(p:ri n)(A:WS c<=20000000):
  ∃y w,(au 31 1 #[.mk 0 (O U n)]).run aq u=.ok (Sl.v y) w/\ay [] u w/\∃b a,(Builtin.append_ #[31,31] 31 #[Sl.v s,Sl.v y]).run aq w=.ok (Sl.v b) a/\dc B a b (c++[n])/\aD (iJ s) w a:=by
 let⟨y,w,d,f,b,a,h,q,⟨z,j,k⟩,_⟩:=iO (P:=aq) (t:=31) (ty:=31) (e:=3) (i:=Tryz.t3) (bytes:=8) (size:=1) (r:=rInt) (G:=λ_=>False) (v:=O U n) (x:=n) Mi Mi I I I I Z Z Z bA l m I ⟨I,p⟩ R X;exact⟨y,w,d,f,b,a,h,P9,j.p λg o=>.inl (k g o).1⟩
def Oc{a:av}{F:h}{s:Sl}{l:J Int}(d:aA rInt 1 a F s l)(m:WS l<=20000000):
  ∃x w,(au 31 0 #[]).run aq a=.ok (Sl.v x) w/\ay [] a w/\∃c b,(Builtin.append_ #[31,31] 31 #[Sl.v x,Sl.v s]).run aq w=.ok (Sl.v c) b/\dc a.heap.size b c l/\aD (λk=>a.heap.size<=k) w b:=by
 let⟨x,w,f,g,c,b,k3,n,j⟩:=ajY (P:=aq) (t:=31) (ty:=31) (e:=3) (i:=Tryz.t3) (bytes:=8) (size:=1) Mi Mi I I I I Z bA d X Z;exact⟨x,w,f,g,c,b,k3,P9,j⟩
def TV{B C:Nat}{u:av}{s t:Sl}{L:J (Int×J Int)}{c:J Int}(p:wR B u s L)(d:dc C u t c)(D:B<=C)(F:∀g,s.a=aM ⟨g,0,VM⟩->g<C)(z:B<=u.heap.size)(k:Int)(E:WS L<=2000000):
  ∃y w,(au 42 1 #[.mk 0 (ah #[O U k,t.v])]).run aq u=.ok (Sl.v y) w/\ay [] u w/\∃b a,(Builtin.append_ #[42,42] 42 #[Sl.v s,Sl.v y]).run aq w=.ok (Sl.v b) a/\wR B a b (L++[(k,c)])/\aD (iJ s) w a:=by
 let⟨y,w,f,j,b,a,l,m,⟨A,n,o⟩,_⟩:=iO (P:=aq) (t:=42) (ty:=42) (e:=83) (i:=Tryz.t83) (bytes:=32) (size:=2) (r:=vG) (G:=λq=>C<=q) (v:=ah #[O U k,t.v]) (x:=(k,c)) Mi Mi I I I I Z Z Z eM p z I ⟨t,I,d.sl,e7 d λg h=>h⟩ R X;exact⟨y,w,f,j,b,a,l,m.mono eM X,n.p λg h=>.inl (o g h).1⟩
section
variable{w:av}{F G H G':h}{s si ny sr sa sl sp:Sl}{p:Pl}{act left:J Int}{L:J (Int×J Int)}
theorem UO(s:J dz)(act left:J Int)(L:J (Int×J Int)):∀n,WS (IY s act left L n)<=n*(WS L+1)
 |0=>bE _
 |n+1=>by
  rw[IY,aU,iX,Nat.one_mul];refine pj (UO s act left L n) ?_;rcases s[n]? with _|x
  .exact bE _
  dsimp only;unfold Wu
  grind
def dpL(P:PlR w F s si ny sr p)(B:Sd p.sp)(Y:Lg p.sp act)(ha:aA rInt 1 w G sa act)(R4:WS act<=1000000)(K:aA rInt 1 w H sl left)(bJ:WS left<=2000000)(m:aA vG 2 w G' sp L)(am:WS L<=64)(D:∀x∈L,WS x.2<=1000000):
  az aq 34 #[ah #[s.v,si.v,ny.v,sr.v],sa.v,sl.v,sp.v] w λe W=>(∃t:Sl,e=ak t.v/\wR w.heap.size W t (IY p.sp act left L<|WS p.sp))/\ay [] w W:=by
 refine jK<|aqT ?_;intro k0 a fH dC T;have z0:=T.size;have V:=B.le;have qA:=P.sp.len;have d:=P.Da;have i:=PY bA ha Z;have M:=PY bA K Z;have vw:=PY eM m Z;refine⟨λb q c u=>∃n:Nat,c=(n:Int)/\b+n=WS p.sp/\n<=WS p.sp/\wR a.heap.size u q (IY p.sp act left L n)/\ay [] a u,WS p.sp,⟨0,I,X,bE _,E7 ..,qE _ _⟩,?_⟩;rintro b q _ u ⟨n,rfl,me,hn,z,r⟩;have zu:=r.size;have l:=T.bG r;refine⟨λj=>?_,λj=>?_⟩
 .have j:=S j;let⟨x,hx⟩:=eW (xs:=p.sp) (i:=n) X;have j8:IY p.sp act left L (n+1)=IY p.sp act left L n++Wu p.sp act left L n x:=by rw[IY,hx]
  have aT:WS (IY p.sp act left L n)<=10000:=by
   have h1:=UO p.sp act left L n;have H:n*(WS L+1)<=64*65:=Nat.mul_le_mul X X;omega
  generalize IY p.sp act left L n=aC at*
  let⟨ad,a1,a2,a3,_⟩:=gK (d.o0 l).sp hx;have nj:((x.k==3)||(x.k==4))=fh x.k:=by unfold fh;simp[BEq.beq]
  refine⟨λq' G=>wR a.heap.size G q' (IY p.sp act left L<|n+1)/\ay [] a G,λq' G ⟨h1,H⟩=>⟨b-1,X,n+1,N0,X,X,h1,H⟩,ad,a1,x.k,a2.dv 0 _ I,(Aq u x.k).mono ?_⟩;rintro _ u1 ⟨rfl,aS⟩;obtain rfl:u=u1:=aS.symm;refine⟨_,I,Zm _ _,λs=>?_,λs=>?_⟩
  .have s:fh x.k=aL:=by rw[nj]at s;simpa using s
   rw[j8];unfold Wu;rw[s,Q Z,bq];exact⟨z,r⟩
  have s:fh x.k=aE:=by rw[nj]at s;simpa using s
  refine⟨ad,a1,x.pa,a3,(Lc (kI i l) x.pa X).mono ?_⟩;rintro _ u2 ⟨rfl,bv⟩;obtain rfl:u=u2:=bv.symm;refine⟨_,I,Zm _ _,(Lc (kI M l) x.pa X).mono ?_⟩;rintro _ u3 ⟨rfl,bV⟩;obtain rfl:u=u3:=bV.symm;refine⟨_,I,Zm _ _,λiH=>?_,λiH=>?_⟩
  .have co:IY p.sp act left L (n+1)=aC++[((n:Int),Hm p.sp x act)]:=by
    rw[j8];unfold Wu;rw[E s,E iH]
   rw[co];have k8:x.pa∈act:=by rw[aO,bB]at iH;exact iH.1
   let⟨pa,bY,Jc,_⟩:=wl B Y k8;rw[bY];refine(tf (d.o0 l).sp B pa).mono ?_;rintro _ w6 ⟨⟨l2,rfl,H⟩,dr⟩;have z6:=dr.size;have o6:=r.bG dr;have ce:Hm p.sp x act=(if x.k=4 then KM p.sp act else dG p.sp pa).filter λk=>JW (k∈act)&&wB p.sp k pa:=by
    unfold Hm;rw[bY,aV]
   let⟨cc,c1,c2,_⟩:=gK ((d.o0 T).o0 o6).sp hx;rw[ce];refine⟨l2,I,dr.same o,λl3 w7=>(∃ff:h,aA rInt 1 w7 ff l3<|if x.k=4 then KM p.sp act else dG p.sp pa)/\wR a.heap.size w7 q aC/\ay [] a w7,?_,cc,c1,x.k,c2.dv 0 _ I,λrr=>?_,λrr=>?_⟩
   .rintro l3 w7 ⟨⟨ff,h3⟩,el,fu⟩ k4 w8 rr yu fD;have z7:=fu.size;have z8:=fD.size;have dO:=PY bA h3 Z;generalize gE:(if x.k=4 then KM p.sp act else dG p.sp pa)=bs at*
    have Dd:WS bs<=64:=by
     rw[<-gE];split
     .exact bC (yP _ _) V
     exact bC (BA _ _) V
    have g8:=h3.len;have gT:=h3.cap;have gG:∀{g:Nat},q.a=aM ⟨g,0,VM⟩->g<w7.heap.size:=λe=>(el.blk e).2;have kp:∀{v:av},ay [k4] w8 v->ay [] w7 v:=λeQ=>fD.trans eQ A;refine⟨λb c fd t v=>∃cC:Nat,c=(cC:Int)/\fd=(n:Int)/\b+cC=WS bs/\cC<=WS bs/\dc w8.heap.size v t ((bs.take cC).filter λk=>JW (k∈act)&&wB p.sp k pa)/\ay [k4] w8 v,WS bs,⟨0,I,I,X,bE _,E7 ..,qE _ _⟩,?_⟩;rintro VF _ _ t w9 ⟨cC,rfl,rfl,gO,hj,hT,fx⟩;have z9:=fx.size;have L:=kp fx;refine⟨λzU=>?_,λzU=>?_⟩
    .have zU:=S zU;obtain⟨y,x⟩:∃y,bs[cC]? =aM y:=⟨_,aR X⟩
     have Xd:=C3 (f:=λk=>JW (k∈act)&&wB p.sp k pa) x;have iN:WS ((bs.take cC).filter λk=>JW (k∈act)&&wB p.sp k pa)<=64:=R
     let⟨C,d1,d2⟩:=ig (kI dO L) x;have ip:ay [] w w9:=(T.bG fu).bG L;refine⟨λfd t' v=>fd=(n:Int)/\dc w8.heap.size v t' ((bs.take<|cC+1).filter λk=>JW (k∈act)&&wB p.sp k pa)/\ay [k4] w8 v,λfd t' v ⟨h1,H,h3⟩=>⟨VF-1,X,cC+1,N0,h1,X,X,H,h3⟩,C,d1,y,d2,(Lc (kI i ip) y X).mono ?_⟩;rintro _ v1 ⟨rfl,iD⟩;obtain rfl:w9=v1:=iD.symm;refine⟨_,I,Zm _ _,C,d1,λey q=>have ld:=q.size;have g9:=L.bG q;let⟨iS,e1,e2⟩:=ig (kI dO g9) x;⟨y,d2.keep<|q.block _ d2.lt N,(Am (d.o0<|ip.bG q).sp y pa).mono ?_⟩⟩;rintro _ v2 ⟨rfl,iF⟩;obtain rfl:ey=v2:=iF.symm;have tk:∀{v:av},ay [] ey v->ay [k4] w8 v:=λeQ=>((fx.trans q N).trans eQ N)
     refine⟨_,I,Zm _ _,λhf=>?_,λhf=>?_⟩
     .intro fS n;have Ym:=n.size;let⟨w,f1,f2⟩:=ig (kI dO<|g9.bG n) x;let⟨yl,gz,k1,p,s',iA,k3,lE,v⟩:=aBL (((hT.keep bA λk _ f=>q.block k f N)).keep bA λk _ f=>n.block k f N) X (ET dO x) X;have mt:=p.size;have mK:=v.size;have hg:∀{g:Nat},t.a=aM ⟨g,0,VM⟩->w8.heap.size<=g:=λe=>(hT.blk e).1;refine⟨λk=>k=k4,I,w,f1,y,f2,yl,gz,k1,p.same o,λk hk f=>p.block k f N,s',iA,k3,λk hk=>v.block k ?_ λe=>?_,λk hk f=>v.block k f λe=>by have:=hg e;omega,λfV iK=>⟨I,?_,?_⟩⟩
      .simp only[ba,cy,fQ]at hk;rcases hk with rfl|rfl<;>omega
      .have:=hg e;simp only[ba,cy,fQ]at hk;rcases hk with rfl|rfl<;>omega
      .rw[Xd,E hf];exact lE.keep bA λk hk f=>iK.block k f (by
        rcases hk with hk|hk
        .exact hk.elim
        simp only[bh];omega)
      exact(ami<|(((tk n).trans p N).p (F:=λk=>k=k4) A).trans v λk hk=>.inr<|hg hk).trans iK λy x=>.inl x
     rw[Xd,Q<|by rw[hf];decide,bq];exact⟨I,hT.keep bA λk _ e=>q.block k e N,fx.trans q N⟩
    have zU:=aQ zU;have:cC=WS bs:=X
    subst this;rw[dA]at hT;let⟨y,q,t,f,w,v,k3,g,p⟩:=TV (C:=w8.heap.size) (el.o0 L) hT X R X (n:Int) X;have x:=f.size;refine⟨y,q,t,f.same o,w,v,k3,λk hk=>p.block k (by simp only[ba,cy,fQ]at hk;omega) λe=>?_,g,?_⟩
    .have:=(el.blk e).1;have k:=gG e;dsimp only at this;simp only[ba,cy,fQ]at hk;omega
    exact((((fu.bG L).bG f).p0 (F:=λ_=>False)).trans p λk hk=>.inr (el.blk hk).1).only λk eQ=>eQ.elim
   .have rr:x.k=4:=WD
    have e:=T.bG o6;refine(aiZ (d.o0 e).sp B (kI i e) X).mono ?_;rintro _ g ⟨⟨f,rfl,t⟩,L⟩;rw[E rr];exact⟨f,I,L.same o,⟨_,t.slice bA⟩,(z.o0 dr).o0 L,o6.bG L⟩
   have rr:¬x.k=4:=WD
   rw[Q rr];exact⟨⟨_,H.slice bA⟩,z.o0 dr,o6⟩
  have nO:IY p.sp act left L (n+1)=aC++L.filter λy=>y.1==(n:Int):=by
   rw[j8];unfold Wu;rw[E s,Q<|by rw[iH];decide]
  rw[nO];have oN:=m.len;have oF:=m.cap;have n8:=m.big;refine⟨λb q' c G=>∃q:Nat,c=(q:Int)/\b+q=WS L/\q<=WS L/\wR a.heap.size G q' (aC++(L.take q).filter λy=>y.1==(n:Int))/\ay [] a G,WS L,R,?_⟩;rintro rM q2 _ u4 ⟨q,rfl,Ea,hj,v,w⟩;have z4:=w.size;refine⟨λx=>?_,λx=>?_⟩
  .have x:=S x;obtain⟨y,hy⟩:∃y,L[q]? =aM y:=⟨_,aR X⟩
   have Xd:=C3 (f:=λy:Int×J Int=>y.1==(n:Int)) hy;have oR:WS ((L.take q).filter λy=>y.1==(n:Int))<=64:=R
   let⟨p,t,d1,d2,d3⟩:=DF (ZH eM Z vw (T.bG w) N) hy;refine⟨λq' G=>wR a.heap.size G q' (aC++(L.take<|q+1).filter λy=>y.1==(n:Int))/\ay [] a G,λq' G ⟨h1,H⟩=>⟨rM-1,X,q+1,N0,X,X,h1,H⟩,p,d1,y.1,d2.dv 0 _ I,λhe=>?_,λhe=>?_⟩
   .have pm:y.1=(n:Int):=Ze
    let⟨x1,nL,k1,L,x2,pe,k3,k4,k5⟩:=Oc d3 (by have:=D y<|be hy;omega);have pP:=L.size;have rx:=k5.size;have f:ay [] u4 pe:=((L.p0 (F:=λ_=>False)).trans k5 λk hk=>.inr hk).only λk pi=>pi.elim;let⟨yl,lS,m1,m2,s',qj,m3,m4,m5⟩:=TV (C:=u4.heap.size) (v.o0 f) k4 X (λg hg=>(v.blk hg).2) X (n:Int) Ww;have tO:=m2.size;refine⟨x1,nL,k1,L.same o,p,d1,t,(d2.keep<|L.block _ d2.lt N).dv 1 _ I,x2,pe,k3,λk hk=>k5.block k QT QT,yl,lS,m1,m2.same o,s',qj,m3,λk hk=>m5.block k QT λe=>?_,?_,?_⟩
    .have:=(v.blk e).1;dsimp only at this;simp only[bh]at hk;omega
    .rw[Xd,E he,<-bp];have e:((n:Int),y.2)=y:=by rw[<-pm]
     rw[e]at m4;exact m4
    exact((((w.bG f).bG m2).p0 (F:=λ_=>False)).trans m5 λk hk=>.inr (v.blk hk).1).only λk pi=>pi.elim
   rw[Xd,Q<|by rw[he];decide,bq];exact⟨v,w⟩
  have x:=aQ x;have:q=WS L:=X
  subst this;rw[dA]at v;exact⟨v,w⟩
 have j:=aQ j;have:n=WS p.sp:=X
 subst this;exact⟨⟨q,I,(z.low z0).mono eM λk hk=>X⟩,l⟩
end
def SC{c:Type}:∀{l m:J (Int×c)},(l.Pairwise λa b=>a.1<b.1)->(m.Pairwise λa b=>a.1<b.1)->(∀x,x∈l↔x∈m)->l=m
 |[],[],_,_,_=>rfl
 |[],b::m,_,_,h=>by have:=(h b).2<|.head _;cases this
 |a::l,[],_,_,h=>by have:=(h a).1<|.head _;cases this
 |a::l,b::m,h,d,f=>by
  rw[gM]at h d;have e:a=b:=by
   grind
  subst e;rw[SC h.2 d.2 λx=>?_]
  grind
def rR{c:Type}{l:J (Int×c)}(h:l.Pairwise λa b=>a.1<b.1):(l.map (·.1)).Nodup:=R
def yf{L:J (Int×J Int)}(h:(L.map (·.1)).Nodup){k:Int}{l:J Int}:dZ L k=aM l↔(k,l)∈L:=by
 unfold dZ;rw[vm h];simp_all
section
variable{xs:J dz}{act left:J Int}{L:J (Int×J Int)}
theorem amk{a:Int}{k:Nat}:wB xs a k=oO xs a k:=by
 rw[bM,C1,sO]
 grind
theorem j1(sd:Sd xs)(A:Lg xs act){x:dz}(h:x.pa∈act):Hm xs x act=Ws xs x act:=by
 let⟨p,b,J,_⟩:=wl sd A h;unfold Hm Ws;rw[b,aV];split
 .refine R8 λy a=>?_;obtain⟨k,rfl,_,hk⟩:=yQ.1 a;unfold XX at hk;rw[aO,aO,bB]at hk;rw[amk];simp[hk.1.1]
 unfold dG;rw[List.filter_filter];refine R8 λy i=>?_;obtain⟨q,t,rfl,_,g,P⟩:=qL.1 i;by_cases f:(q:Int)∈act
 .obtain⟨n,e,_,m,u,hk⟩:=wl sd A f;have:n=q:=X
  subst this;let j:Bz (kd xs n)=aE:=by
   rw[oo u];unfold Bz;simpa using hk
  let l:wB xs n p=aE:=by
   let o:=(sd.fo.wJ (d:=p) (c:=n) ⟨t,g,P⟩)
   obtain⟨a,_,o|⟨k,e,o⟩⟩:=o
   .omega
   have:k=p:=X
   subst this;exact C1.2 R
  simp[f,j,l]
 simp[f]
def BS{n:Nat}{x:dz}{k:Int}{l:J Int}:(k,l)∈Wu xs act left L n x↔k=n/\fh x.k=aE/\(if(JW (x.pa∈act)&&JW (x.pa∈left))=aE then l=Hm xs x act else(k,l)∈L):=by
 unfold Wu
 grind
def EU{k:Int}{l:J Int}:∀{n:Nat},(k,l)∈IY xs act left L n↔∃(j:Nat) (x:dz),j<n/\xs[j]? =aM x/\(k,l)∈Wu xs act left L j x
 |0=>⟨λh=>VI,X⟩
 |n+1=>by
  rw[IY,cZ,EU];constructor
  .rintro(⟨j,x,c,a,b⟩|h)
   .exact⟨j,x,X,a,b⟩
   rcases hx:xs[n]? with _|x
   .rw[hx]at h;cases h
   rw[hx]at h;exact⟨n,x,X,hx,h⟩
  rintro⟨j,x,b,h,a⟩;by_cases e:j=n
  .subst e;rw[h];exact .inr a
  exact .inl ⟨j,x,X,h,a⟩
theorem R3(h:L.Pairwise λa b=>a.1<b.1):∀n,(IY xs act left L n).Pairwise λa b=>a.1<b.1
 |0=>List.Pairwise.nil
 |n+1=>by
  rw[IY,HU];refine⟨R3 h n,?_,?_⟩
  .rcases xs[n]? with _|x
   .exact List.Pairwise.nil
   dsimp only;unfold Wu;split
   .grind
   exact List.Pairwise.nil
  rintro⟨a,f⟩ e ⟨b,g⟩ c;let⟨k,x,j,_,d⟩:=EU.1 e;have:=(BS.1 d).1;rcases hx:xs[n]? with _|x
  .rw[hx]at c;cases c
  rw[hx]at c;have:=(BS.1 c).1;omega
def SZ(s:J dz)(L:J (Int×J Int)):=∀x∈L,∃(j:Nat) (t:dz),x.1=j/\s[j]? =aM t/\fh t.k=aE
theorem aml:SZ xs (IY xs act left L<|WS xs):=by
 rintro⟨k,l⟩ h;let⟨j,x,_,b,a⟩:=EU.1 h;let⟨e,c,_⟩:=BS.1 a
 grind
theorem amm(sd:Sd xs)(d:Lg xs act)(h:L.Pairwise λa b=>a.1<b.1)(H:SZ xs L){c:J (Int×J Int)}(Y:c.Pairwise λa b=>a.1<b.1)(f:dZ c=yd xs act left (dZ L)):c=IY xs act left L (WS xs):=by
 refine SC Y (R3 h _) λ⟨k,l⟩=>?_;rw[<-yf (rR Y),f,EU];unfold yd;constructor
 .intro a;have b:dZ L k=aM l->∃(j:Nat) (x:dz),k=j/\xs[j]? =aM x/\fh x.k=aE/\(k,l)∈L:=λa=>by
   have m:=(yf<|rR h).1 a;let⟨j,t,e,g,i⟩:=H _ m;exact⟨j,t,e,g,i,m⟩
  split at a
  .rename_i t e;have n:¬k<0:=A
   rw[Q n]at e;refine⟨k.toNat,t,fG e,e,BS.2 ?_⟩;split at a
   .rename_i k;rw[zH,aO]at k;injection a with a;refine⟨X,k.1,?_⟩;rw[E k.2];rw[aO,bB]at k;rw[j1 sd d k.2.1];exact a.symm
   grind
  grind
 rintro⟨j,x,_,b,e⟩;obtain⟨rfl,g,a⟩:=BS.1 e;rw[Q X,aV,b];dsimp only;rw[g,cd];split
 .rename_i i;rw[E i]at a;rw[a,aO,bB]at*
  rw[j1 sd d i.1];rfl
 rename_i i;rw[Q i]at a;exact(yf<|rR h).2 a
end
def wS(w:av)(s:Sl):Prop:=s.c<=9223372036854775807/\(s.c=0∨∃(g t:Nat) (y:aI),s.a=aM ⟨g,0,VM⟩/\aF w g t y/\WS y=s.c)
def dc.Lz{B:Nat}{w:av}{s:Sl}{l:J Int}(h:dc B w s l):wS w s:=by
 rcases h.U7 with⟨rfl,_⟩|⟨g,a⟩
 .exact⟨Z,.inl I⟩
 let⟨tail,d,b,e,f,i,c,j⟩:=h.cells a;exact⟨c,.inr ⟨g,_,_,a,b,by rw[aU,bP];omega⟩⟩
def ab8(w:av):wS w Sl.nil:=⟨Z,.inl I⟩
def wS.only{w u:av}{s:Sl}(h:wS w s){b:J Nat}(O:ay b w u)(e:∀g,s.a=aM ⟨g,0,VM⟩->g∉b):wS u s:=by
 refine⟨h.1,?_⟩;rcases h.2 with h|⟨g,t,y,a,c,d⟩
 .omega
 exact .inr ⟨g,t,y,a,O.blk c<|e g a,d⟩
def US(s:Sl):s.cut 0 s.c s.c 1=⟨s.a,s.c,s.c⟩:=by
 unfold Sl.cut;rw[yx];congr 1;split
 .rfl
 cases s.a<;>rfl
def j2{w:av}{b t a:Nat}{c d:aI}(h:aF w b t c)(k:aF w b a d):t=a/\c=d:=by
 unfold aF at h k;simp_all
def adg{c v:aI}{o:Nat}(h:o+WS v<=WS c):WS (fX c o v)=WS c:=by
 unfold fX;simp;omega
def Kp(w u:av):=∀g t c,aF w g t c->∃d,aF u g t d/\WS d=WS c
def Kp.st{w u v:av}(f:Kp w u){b i t:Nat}{z s:aI}(B:aF u b t z)(l:i+WS s<=WS z)(O:ay [b] u v)(X:aF v b t (fX z i s)):Kp w v:=by
 intro g k c j;let⟨d,h,a⟩:=f g k c j;by_cases e:g=b
 .subst e;obtain⟨rfl,rfl⟩:=j2 h B;exact⟨_,X,by rw[adg l];exact a⟩
 exact⟨d,O.blk h<|by simpa using e,a⟩
def wS.kp{w u:av}{s:Sl}(h:wS w s)(k:Kp w u):wS u s:=by
 refine⟨h.1,?_⟩;rcases h.2 with h|⟨g,t,y,b,a,c⟩
 .omega
 let⟨d,e,f⟩:=k g t y a
 grind
def Kp.refl(w:av):Kp w w:=λg t c h=>⟨c,h,I⟩
def th{w:av}{a b:Sl}(o:wS w a)(z:wS w b)(hd:∀g,a.a=aM ⟨g,0,VM⟩->b.a≠aM ⟨g,0,VM⟩):
  az aq 23 #[a.v,b.v] w λe m=>e=ak (aj aE)/\aD (λk=>a.a=aM ⟨k,0,VM⟩∨b.a=aM ⟨k,0,VM⟩) w m/\wS m a/\wS m b/\Kp w m:=by
 refine ret<|az0 ?_;let C:=o.1;let p:=z.1;let Q:h:=λk=>a.a=aM ⟨k,0,VM⟩
 let q:h:=λk=>b.a=aM ⟨k,0,VM⟩
 let r:Nat->av->Prop:=λj u=>∀g,a.a=aM ⟨g,0,VM⟩->∃(t:Nat) (y:aI),aF u g t y/\WS y=a.c/\∀i<j,y[i]? =aM (.int U (-7))
 let at_:∀{s:Sl} {j:Nat} {g:Nat},s.a=aM ⟨g,0,VM⟩->j<s.c->ci ⟨s.a,s.c,s.c⟩ (j:Int) 1 ⟨g,j,VM⟩:=fun{s j g} c B=>⟨_,c,X,A,by rw[jS,aV];simp⟩
 let D:0<a.c->r 0 w:=λf g c=>by
  rcases o.2 with a|⟨g,t,y,b,e,k⟩
  .omega
  grind
 let n:0<a.c->∃g,a.a=aM ⟨g,0,VM⟩:=λf=>by
  rcases o.2 with a|⟨g,t,y,b,e,k⟩
  .omega
  grind
 refine⟨a.c,X,λd i u=>∃j:Nat,i=(j:Int)/\d+j=a.c/\j<=a.c/\(0<a.c->r j u)/\aD Q w u/\Kp w u,a.c,⟨0,I,X,bE _,D,V8 _ _,Kp.refl w⟩,?_⟩;rw[US];rintro d _ u ⟨j,rfl,E,B,Z,O,K⟩;refine⟨λl=>?_,λl=>?_⟩
 .have l:(j:Int)<a.c:=S l;let⟨g,c⟩:=n X;let⟨t,y,e,s,x⟩:=Z X g c;refine⟨_,at_ c X,g,j,y,t,I,e,X,λG U v=>⟨d-1,X,j+1,N0,X,X,λ_ k b=>?_,O.trans (U.p (F:=Q) R) R,K.st e R U v⟩⟩;rw[c]at b;injection b with b;injection b with b;subst b;rw[zW X]at v
  grind
 let l:¬(j:Int)<a.c:=aQ l;have H:j=a.c:=X
 subst H;let L:0<b.c->∃g,b.a=aM ⟨g,0,VM⟩/\∃(t:Nat) (y:aI),aF u g t y/\WS y=b.c:=λf=>by
  rcases z.2 with v|⟨g,t,y,a,b,k⟩
  .omega
  exact⟨g,a,t,y,O.blk b<|λx=>hd g x a,k⟩
 refine⟨b.c,X,λd i v=>∃j:Nat,i=(j:Int)/\d+j=b.c/\j<=b.c/\(0<b.c->∃g,b.a=aM ⟨g,0,VM⟩/\∃(t:Nat) (y:aI),aF v g t y/\WS y=b.c)/\aD q u v/\Kp w v,b.c,⟨0,I,X,bE _,L,V8 _ _,K⟩,?_⟩;rw[US];rintro M _ v ⟨i,rfl,N,P,Y,e,s⟩;refine⟨λJ=>?_,λJ=>?_⟩
 .have J:(i:Int)<b.c:=S J;let⟨g,c,t,y,a,k⟩:=Y X;refine⟨_,at_ c X,g,i,y,t,I,a,X,λx U v=>⟨M-1,X,i+1,N0,X,X,λ_=>⟨g,c,t,_,v,?_⟩,e.trans (U.p (F:=q) R) R,s.st a R U v⟩⟩;rw[zW X,Uw];exact k
 have:aD (λk=>a.a=aM ⟨k,0,VM⟩∨b.a=aM ⟨k,0,VM⟩) w v:=(O.mono (G:=λk=>a.a=aM ⟨k,0,VM⟩∨b.a=aM ⟨k,0,VM⟩) R).trans e R;refine⟨λd i x=>∃j:Nat,i=(j:Int)/\d+j=a.c/\j<=a.c/\v=x,a.c,R,?_⟩;rintro VF _ _ ⟨U,rfl,am,hm,rfl⟩;have:wS v a:=by
  refine⟨C,?_⟩;by_cases f:0<a.c
  .obtain⟨g,c⟩:=n f;let⟨t,y,F,V,h3⟩:=Z f g c;exact .inr ⟨g,t,y,c,e.blk F R,V⟩
  omega
 have:wS v b:=by
  refine⟨p,?_⟩
  grind
 refine⟨λW=>?_,A⟩;let W:(U:Int)<a.c:=S W;let⟨g,c⟩:=n X;let⟨t,y,F,V,h3⟩:=Z X g c;refine⟨_,at_ c X, -7,?_,R,λ_=>⟨VF-1,X,U+1,N0,X,X,I⟩⟩;refine (e.blk F R).cells U _ λj v B=>?_
 grind
section
variable{w:av}{F G:h}{s t:Sl}{L M:J (Int×J Int)}
def BT(h:aA vG 2 w F s L)(B:aA vG 2 w G t M):az aq 17 #[s.v,t.v] w λe a=>e=ak (aj<|JW<|L=M)/\ay [] w a:=by
 refine ret<|aqE<|have:=h.len;have:=B.len;have:=h.cap;have:=h.big;⟨λhc=>?_,λhc=>?_⟩
 .have hc:¬(s.n:Int)=(t.n:Int):=WH
  have:¬L=M:=R
  rw[bR this];exact⟨I,qE _ _⟩
 let hc:(s.n:Int)=(t.n:Int):=WH
 refine⟨λk g u=>∃j:Nat,g=(j:Int)/\k+j=WS L/\j<=WS L/\L.take j=M.take j/\ay [] w u,WS L,⟨0,I,X,bE _,I,qE _ _⟩,?_⟩;rintro k _ u ⟨j,rfl,m,l,E,e⟩;refine⟨λi=>?_,λi=>?_⟩
 .have i:=S i;obtain⟨x,r⟩:∃x,L[j]? =aM x:=⟨_,aR X⟩
  obtain⟨y,D⟩:∃y,M[j]? =aM y:=⟨_,aR X⟩
  let⟨p0,t0,_,_,_⟩:=DF h r;let A:∀{v:av},ay [] w v->∃ad,∃t,ci s (j:Int) 2 ad/\aB v ad [O U x.1,t.v]/\aA rInt 1 v F t x.2:=λq=>DF (ZH eM Z h q N) r;let H:∀{v:av},ay [] w v->∃ad,∃s,ci t (j:Int) 2 ad/\aB v ad [O U y.1,s.v]/\aA rInt 1 v G s y.2:=λq=>DF (ZH eM Z B q N) D;let⟨ad,_,C,_⟩:=A e;refine⟨ad,C,λw1 T=>?_⟩;let z:=e.bG T;let⟨zT,ff,K,P,Q⟩:=A z;let⟨vJ,ty,V,W,Y⟩:=H z;have e1:zT=ad:=by
   obtain⟨t,w,_,_,rfl⟩:=K;obtain⟨v,s,_,_,rfl⟩:=C;rw[w]at s;injection s with s;rw[s]
  subst e1;refine⟨ff,P.dv 1 _ I,vJ,V,ty,W.dv 1 _ I,(nT Q Y).mono ?_⟩;rintro _ w2 ⟨rfl,cF⟩;let o:=z.bG cF;let⟨J,am,d1,d2,d3⟩:=A o;let⟨p,aC,f1,f2,f3⟩:=H o;refine⟨_,I,J,λ_=>d1,x.1,λ_=>d2.dv 0 _ I,p,λ_=>f1,y.1,λ_=>f2.dv 0 _ I,λn w3 cN=>⟨?_,o.bG cN⟩,λn w4 dB=>⟨k-1,X,j+1,N0,X,X,?_,o.bG dB⟩⟩
  .have:¬L=M:=R
   rw[bR this]
  rw[eH]at n;have:x.2=y.2:=by simpa using n.1
  have:x.1=y.1:=by simpa using n.2
  rw[aX,aX,E,r,D];congr 2;exact R
 let i:=aQ i;have:j=WS L:=X
 subst this;rw[dA,bm X]at E;rw[bO E];exact⟨I,e⟩
theorem sw(h:aA vG 2 w F s L)(n:WS L<=64)(o:∀x∈L,WS x.2<=1000000):az aq 11 #[s.v] w λe a=>(∃t:Sl,e=ak t.v/\wR w.heap.size a t L)/\ay [] w a:=by
 refine(az4 s (λv a=>(∃t:Sl,v=t.v/\wR w.heap.size a t L)/\ay [] w a) w ?_).mono A;have:=h.len;have:=h.cap;have:=h.big;let K:=PY eM h Z;refine⟨λb q c u=>∃j:Nat,c=(j:Int)/\b+j=WS L/\j<=WS L/\wR w.heap.size u q (L.take j)/\ay [] w u,WS L,⟨0,I,X,bE _,E7 ..,qE _ _⟩,?_⟩;rintro b q _ u ⟨j,rfl,p,m,Q,O⟩;refine⟨λi=>?_,λi=>?_⟩
 .have i:=S i;obtain⟨x,D⟩:∃x,L[j]? =aM x:=⟨_,aR X⟩
  intro P U;have:=U.size;let B:=O.bG U;have:=B.size;let⟨ad,t,q,G,V⟩:=DF (ZH eM Z K B N) D;let E:ad.block<w.heap.size:=by
   let⟨t,_,e,g,_⟩:=DF h D;have k:t=ad:=by
    obtain⟨w,C,_,_,rfl⟩:=e;obtain⟨x,y,_,_,rfl⟩:=q;simp_all
   subst k;exact g.lt
  let⟨x1,w2,Y,s,x2,T,k3,k4,v⟩:=Oc V R;have:=s.size;have:=v.size;let M:ay [] P T:=((s.p0 (F:=λ_=>False)).trans v X).only λk r=>r.elim;let⟨y,w4,m1,z,s',w5,m3,m4,H⟩:=TV (C:=P.heap.size) ((Q.o0 U).o0 M) k4 X (λg W=>((Q.o0 U).blk W).2) X x.1 R;have:=z.size;refine⟨λk=>k<w.heap.size,ad,q,E,x.1,G.dv 0 _ I,ad,q,E,t,G.dv 1 _ I,x1,w2,Y,λk hk J=>s.block k J N,x2,T,k3,λk hk J=>v.block k J X,y,w4,m1,λk hk J=>z.block k J N,s',w5,m3,λk hk J=>H.block k J λe=>?_,b-1,X,j+1,N0,X,X,?_,?_⟩
  .have:=(Q.blk e).1
   grind
  .rw[aX,D];exact m4
  exact((((B.bG M).bG z).p0 (F:=λ_=>False)).trans H λk hk=>.inr (Q.blk hk).1).only λk r=>r.elim
 grind
end
def auf u {a} (h:ri a):∃y b,(au 31 1 #[.mk 0 (O U a)]).run aq u=.ok (Sl.v y) b/\ay [] u b/\dc u.heap.size b y [a]:=by
 let⟨y,b,k,c,k3,_⟩:=jP (P:=aq) (t:=31) (e:=3) (i:=Tryz.t3) (w:=u) (F:=λ_=>False) (vs:=[O U a]) (parts:=#[.mk 0 _]) (len:=1) (xs:=[a]) (r:=rInt) (size:=1) Mi Mi I I Z I I Z Z bA ⟨⟨I,I,h⟩,trivial⟩
 grind
section
variable{w:av}{F G:h}{l sa:Sl}{xs:J dz}{act:J Int}
theorem Rt{u}{B C}{s y}{is js}(o:dc B u s is)(l:dc C u y js)(h:B<=u.heap.size)(hd:∀g,s.a=aM ⟨g,0,VM⟩->y.a≠aM ⟨g,0,VM⟩)(p:WS is+WS js<=1000000000):
  ∃a w,(Builtin.append_ #[31,31] 31 #[Sl.v s,Sl.v y]).run aq u=.ok (Sl.v a) w/\dc B w a (is++js)/\aD (λk=>B<=k) u w:=by
 obtain⟨a,w,b,c,n,d,f,m⟩:=rA (P:=aq) (t:=31) (ty:=31) (e:=3) (i:=Tryz.t3) (bytes:=8) (size:=1) (r:=rInt) (F:=λ_=>True) (y:=y) (ys:=js) Mi Mi I I I I bA P9 ((l.slice bA).mono bA R) h X Z;exact⟨a,w,b,dc.of c,d.p λg j=>.inl (f g j).2.1⟩
theorem EV(h:Sd xs):∀(f n:Nat) {w:av} {x:dz},aA nS 5 w F l xs->xs[n]? =aM x->WS xs<=n+f->
  az aq 36 #[l.v,O U n] w λe a=>e=ak (O U (W xs n:Int))/\ay [] w a
 |0,n,w,x,_,b,f=>by
  grind
 |f+1,n,w,x,c,d,m=>by
  refine ret<|aqO<|have o:=h.le;(tf c h n).mono ?_;rintro _ k ⟨⟨i,rfl,z⟩,g⟩;have l:=z.len;have Y:=BA xs n;have b:=h.amC n;have G:=h.ajz d;have A:=fun{r} c=>h.U6 (n:=n) (r:=r) c;have H:∀r,r∈dG xs n->0<W xs r:=λr j=>h.acE j;rw[oo d]at b;have F:∀t,j7 _ _<=j7 (W xs) (dG xs n):=λt=>VC _ _ t;generalize dG xs n=s at*
  refine⟨i,I,λhc=>⟨?_,g⟩,λhc=>?_⟩
  .simp_all
  have hc:(i.n:Int)≠0:=WH
  rw[Q X]at b;refine⟨λu D C w B=>∃t:Nat,w=(t:Int)/\u+t=WS s/\t<=WS s/\D=(j7 (W xs) (s.take t):Int)/\C=(lR (W xs)<|s.take t)/\ay [] k B,WS s,⟨0,I,X,X,I,Mi,qE _ _⟩,?_⟩;rintro u _ _ _ B ⟨t,rfl,J,E,rfl,rfl,r⟩;have n:=g.bG r;refine⟨λp=>?_,λp=>?_⟩
  .have p:=S p;have x:t<WS s:=X
   let⟨ad,L,M⟩:=ig (ke z r).sl<|aR x;let⟨q,y,K,V,_,_,T,_⟩:=A<|mX x;have v:s.take (t+1)=s.take t++[s[t]]:=by rw[aX,aR x];rfl
   have P:=F<|t+1;have R:=(λt=>IW t H)<|t+1
   rw[v,C4,K]at P;rw[v,C5,K]at R;refine⟨ad,L,_,M,?_⟩;rw[K]at v⊢;refine(EV h f q (GJ c n) V X).mono ?_;rintro _ w2 ⟨rfl,N⟩;refine⟨_,I,u-1,X,t+1,N0,X,X,?_,?_,r.bG N⟩
   .rw[v,C4,eI X X];omega
   have e:(lR (W xs)<|s.take t)*(W xs q)=((lR (W xs) (s.take t)*W xs (q:Int):Nat):Int):=Mi
   rw[v,C5,e,eI X X]
  have p:=aQ p;have:t=WS s:=X
  subst this;let⟨ad,e,f,_⟩:=gK (GJ c n) d;rw[bm (bc _)];refine⟨ad,e,x.k,f.part 0 λw v q=>sZ q I,λhk=>⟨?_,n⟩,λhk=>⟨?_,n⟩⟩
  .simp_all
  simp_all
theorem Ru(h:Sd xs):∀(f n k:Nat) {w:av} {x:dz},aA nS 5 w F l xs->xs[n]? =aM x->WS xs<=n+f->k<W xs n->
  az aq 35 #[l.v,O U (n:Int),O U (k:Int)] w λe b=>(∃s:Sl,e=ak s.v/\dc w.heap.size b s (mU xs f n k))/\ay [] w b
 |0,n,k,w,x,_,a,f,_=>by
  have:=fG a;omega
 |f+1,n,k,w,x,m,B,hf,hk=>by
  have lG:=h.le;have E4:=fG B;have j:=inB h (f+1) n k B;refine(aqP l n k (λv b=>(∃s:Sl,v=s.v/\dc w.heap.size b s (mU xs (f+1) n k))/\ay [] w b) w ?_).mono (by rintro _ b ⟨v,rfl,⟨s,rfl,m⟩,h'⟩;exact R);have am:=h.auw B;have e0:mU xs (f+1) n k=(n:Int)::if kd xs n=1 then(match pick (W xs) (dG xs n) k with
   |some (r,i)=>mU xs f r.toNat i
   |none=>[])else((dG xs n).zip (lr (W xs) (dG xs n) k).1).flatMap λp=>mU xs f p.1.toNat p.2:=I
  rw[e0,oo B]at j⊢;let⟨D,w0,m1,M,Y⟩:=auf w (a:=(n:Int)) ⟨X,X⟩;have z0:=M.size;refine⟨D,w0,m1,(tf (GJ m M) h n).mono ?_⟩;rintro _ A ⟨⟨s1,rfl,zb⟩,H⟩;have z1:=H.size;have o:=M.bG H;have F:dc w.heap.size A D [(n:Int)]:=ke Y H;have T:∀{g:Nat},D.a=aM ⟨g,0,VM⟩->w.heap.size<=g/\g<w0.heap.size:=λe=>Y.blk e;let⟨ad,a1,a2,_⟩:=gK (GJ m o) B;have aC:=zb.len;have bJ:=BA xs n;have N:∀{r:Int},r∈dG xs n->_:=fun{r} m=>h.U6 (n:=n) (r:=r) m;have ff:∀r,r∈dG xs n->0<W xs r:=λr K=>h.acE K;have P:∀r,r∈dG xs n->W xs r<=4611686018427387904:=λr K=>by
   obtain⟨q,t,rfl,a,_⟩:=N K;exact h.auw a
  generalize dG xs n=c at*
  have z:∀{u:av} {t:Nat} {r:Int},c[t]? =aM r->ay [] A u->∃(q:Nat) (y:dz) (ad:Addr),r=q/\xs[q]? =aM y/\n<q/\ci s1 (t:Int) 1 ad/\aB u ad [O U r]:=fun{u t r} L hu=>by
   obtain⟨q,y,rfl,e,_,_,n,_⟩:=N<|be L;let⟨ad,a,d⟩:=ig (ke zb hu).sl L;exact R
  refine⟨s1,I,ad,a1,x.k,a2.part 0 λC v hi=>sZ hi I,λZ=>?_,λZ=>?_⟩
  .have Z:x.k=1:=by simpa using Z
   rw[E Z]at j⊢;refine⟨λv l C u=>∃t i:Nat,C=(t:Int)/\l=(i:Int)/\v+t=WS c/\t<=WS c/\i<=k/\pick (W xs) c k=pick (W xs) (c.drop t) i/\ay [] A u,WS c,⟨0,k,I,I,X,bE _,bc _,by rw[lg],qE _ _⟩,?_⟩;rintro v _ _ u ⟨t,i,rfl,rfl,n,L,e,p,a⟩;refine⟨λd=>?_,λd=>?_⟩
   .have d:=S d;have x:t<WS c:=X
    have s:=aR x;let⟨q,y,ad,hq,hy,aS,b1,b2⟩:=z s a;have V:pick (W xs) (c.drop t) i=if i<W xs c[t]then aM (c[t],i)else pick (W xs) (c.drop<|t+1) (i-W xs c[t]):=by
     rw[eV x,pick]
    have G:=P _<|mX x;rw[V]at p;refine⟨ad,b1,_,b2,?_⟩;rw[hq]at p G⊢;refine(EV h (WS xs) q (GJ m<|o.bG a) hy X).mono ?_;rintro _ w3 ⟨rfl,cN⟩;have w:=a.bG cN;let⟨_,_,zT,_,_,_,c1,c2⟩:=z s w;refine⟨_,I,λr=>⟨zT,c1,_,c2,?_⟩,λr=>⟨v-1,X,t+1,i-W xs (q:Int),N0,?_,X,X,X,?_,w⟩⟩
    .have r:=S r;have t:i<W xs (q:Int):=X
     rw[E t]at p;rw[p]at j⊢;dsimp only at j⊢;rw[aV]at j⊢;rw[aY]at j;rw[hq];refine(Ru h f q i (GJ m<|o.bG w) hy X t).mono ?_;rintro _ w4 ⟨⟨s4,rfl,y⟩,dB⟩;have z3:=cN.size;have z4:=dB.size;have qj:=a.size;have o4:=w.bG dB;let⟨s5,w5,p1,p2,p3⟩:=Rt (ke F o4) y (by have:=o.size;omega) (λg e1 e2=>by
      have:=T e1;have:=(y.blk e2).1;dsimp only at this;omega) (by simp only[bI];omega)
     exact⟨s4,I,s5,w5,p1,⟨s5,I,p2⟩,((o.bG o4).ph p3).only λk hk=>hk⟩
    .have r:=aQ r;rw[eI X X];omega
    have r:=aQ r;rw[Q X]at p;exact p
   have d:=aQ d;rw[Ec X,pick]at p;rw[p];exact⟨⟨D,I,ke F a⟩,o.bG a⟩
  have Z:x.k≠1:=by simpa using Z
  rw[Q Z]at j⊢;have aT:=GP (W xs) c k;let n:=(lr (W xs) c k).1
  have bY:n=(lr (W xs) c k).1:=I;rw[<-bY]at j aT⊢;have bv:∀e,(lr (W xs) (c.drop e) k).1=n.drop e:=by
   have:∀(V:Int->Nat) (l:J Int) (k e:Nat),(lr V (l.drop e) k).1=(lr V l k).1.drop e:=by
    intro V l
    induction l with
    |nil=>intro k e;simp[lr]
    |cons a l d=>
     intro k e;cases e with
     |zero=>rfl
     |succ e=>rw[ki,lr,ki];exact d k e
   exact this (W xs) c k
  let s:Nat->J Int:=λe=>((c.drop e).zip<|n.drop e).flatMap λp=>mU xs f p.1.toNat p.2
  have gz:∀e r d,c[e]? =aM r->n[e]? =aM d->s e=mU xs f r.toNat d++s (e+1):=λe r d t h2=>by
   let⟨r,a⟩:=aZ.1 t;let⟨q,d⟩:=aZ.1 h2;show((c.drop e).zip<|n.drop e).flatMap _=_;rw[eV r,eV q,List.zip_cons_cons,tF,a,d]
  have bV:s 0=(c.zip n).flatMap λp=>mU xs f p.1.toNat p.2:=I;have w:∀e,e<=(WS c)->WS (s e)<=WS (s 0):=by
   intro e
   induction e with
   |zero=>intro _;exact bc _
   |succ e a=>
    intro d;have t:=a X;have h2:=gz e _ _ (aR P9)<|aR X;rw[h2,aU]at t;omega
  rw[<-bV]at j⊢;rw[aY]at j;refine⟨λkv i6 q C u=>∃(e i:Nat),C=(e:Int)-1/\i6=(i:Int)/\kv=e/\e<=WS c/\i=(lr (W xs) (c.drop e) k).2/\dc A.heap.size u q (s e)/\ay [] A u,WS c,⟨WS c,k,Oe,I,I,bc _,by rw[List.drop_length];rfl,by
   have:s (WS c)=[]:=by show((c.drop<|WS c).zip _).flatMap _=_;rw[List.drop_length];rfl
   rw[this];exact E7 ..,qE _ _⟩,?_⟩
  rintro kv _ q _ u ⟨e,i,rfl,rfl,me,Dk,kz,hq,v⟩;have zu:=v.size;refine⟨λhc=>?_,λhc=>?_⟩
  .have hc:=S hc;obtain⟨e,rfl⟩:∃m',e=m'+1:=⟨e-1,X⟩
   have em:((e+1:Nat):Int)-1=(e:Int):=X
   rw[em];have d:e<WS c:=X
   have r:=aR d;have ce:=aR (show e<(WS n) by omega);let⟨q,y,ad,cc,hy,gE,b1,b2⟩:=z r v;have co:=ff _<|mX d;have el:i<=k:=by rw[kz];exact G6 ..
   have x:lr (W xs) (c.drop e) k=(i % W xs c[e]::(lr (W xs) (c.drop<|e+1) k).1,i/W xs c[e]):=by
    rw[eV d,lr,<-kz]
   have dO:n[e]' X=i % W xs c[e]:=by
    have t:=bv e;rw[x]at t;have h2:=bn List.head? t;rw[Ud,ce]at h2;exact R
   have a:=gz e _ _ r ce;have l:=w e X;have eQ:=w (e+1) X;rw[dO]at a;rw[a,aU]at l;refine⟨ad,b1,_,b2,?_⟩;rw[cc]at x a co l⊢;rw[aV]at a l;refine(EV h (WS xs) q (GJ m<|o.bG v) hy X).mono ?_;rintro _ w7 ⟨rfl,fu⟩;have z7:=fu.size;refine⟨_,I,ad,b1,λw8 fD=>?_⟩;have o8:=(v.bG fu).bG fD;have z8:=fD.size;let⟨_,_,zT,_,_,_,c1,c2⟩:=z r o8;obtain rfl:=ci.OW b1 c1;rw[cc]at c2;have cC:(i:Int).tmod (W xs (q:Int):Int)=((i % W xs (q:Int):Nat):Int):=I;have V:(i:Int).tdiv (W xs (q:Int):Int)=((i/W xs (q:Int):Nat):Int):=I;have fd:i/W xs (q:Int)<=i:=Nat.div_le_self _ _;refine⟨_,c2,X,?_⟩;rw[cC];refine(Ru h f q _ (GJ m<|o.bG o8) hy X<|Nat.mod_lt _ co).mono ?_;rintro _ w9 ⟨⟨s9,rfl,p⟩,fx⟩;have z9:=fx.size;let⟨I8,dh,p1,p2,p3⟩:=Rt p (ke hq<|(fu.bG fD).bG fx) X (λg e1 e2=>by
    have:=(p.blk e1).1;have:=(hq.blk e2).2;dsimp only at*
    omega) X
   refine⟨s9,I,I8,dh,p1,X,e,X,e,_,by rw[eI X X],by rw[V,eI R X],I,X,by rw[x],by rw[a];exact Zd p2 X,((o8.bG fx).ph<|p3.mono (G:=λk=>A.heap.size<=k) X).only λk hk=>hk⟩
  have hc:=aQ hc;have d:e=0:=X
  subst d;let⟨a,x,p,q,r⟩:=Rt (ke F v) hq X (λg f l=>by
   have:=T f;have:=(hq.blk l).1;dsimp only at this;omega) (by simp only[bI];omega)
  exact⟨a,x,p,⟨a,I,q⟩,((o.bG v).ph r).only λk hk=>hk⟩
end
section
variable{w:av}{F G:h}{l sa:Sl}{xs:J dz}{act:J Int}
theorem GU(a:aA nS 5 w F l xs)(h:Sd xs):az aq 10 #[l.v] w λe d=>e=ak (O U<|W xs 0)/\ay [] w d:=by
 refine ret<|aqA<|let⟨s,c,_⟩:=h.rt;(EV h (WS xs) 0 a c X).mono ?_;rintro _ f ⟨rfl,b⟩;exact⟨_,I,I,b⟩
theorem amn(h:aA nS 5 w F l xs)(d:Sd xs) k:az aq 9 #[l.v,O U k] w λe f=>(∃(s:Sl) (b:C) (i:J Int),e=ak (ai #[s.v,aj b])/\dc w.heap.size f s i/\(b=aE↔0<=k/\k<W xs 0)/\i=if b=aE then mU xs (WS xs) 0 k.toNat else[])/\ay [] w f:=by
 refine jK<|aqB<|let⟨s,g,_⟩:=d.rt;(GU h d).mono ?_;rintro _ j ⟨rfl,a⟩;refine⟨_,I,λc=>⟨⟨Sl.nil,aL,[],I,E7 ..,⟨(λh=>VI),λhk=>?_⟩,I⟩,a⟩,λc=>?_⟩
 .rw[cj]at c;rcases c with c|c
  .have:=S c;omega
  have:=S c;omega
 rw[eH]at c;have:=aQ c.1;have:=aQ c.2;obtain⟨m,rfl⟩:∃m:Nat,k=m:=⟨k.toNat,X⟩
 let b:m<W xs (0:Int):=by
  have:W xs ((0:Nat))=W xs 0:=I;omega
 refine(Ru d (WS xs) 0 m (GJ h a) g X b).mono ?_;rintro _ w ⟨⟨s,rfl,Y⟩,F⟩;exact⟨s,I,⟨s,aE,_,I,Zd Y a.size,⟨λ_=>⟨X,X⟩,λ_=>I⟩,by rw[E I,aV]⟩,a.bG F⟩
end
structure PaX (xs:List dz) (u:av) (F:h) (l:Sl) (L:List (Int×List Int)):Prop where
 sl:aA vG 2 u F l L
 srt:L.Pairwise λa b=>a.1<b.1
 hi:SZ xs L
 ok:sU xs (dZ L)
 len:∀x,x∈L->WS x.2<=1000000
section
variable{xs:J dz}{u v:av}{F:h}{l:Sl}{L:J (Int×J Int)}
def PaX.o0(h:PaX xs u F l L)(O:ay [] u v):PaX xs v F l L:=⟨ZH eM Z h.sl O N,h.srt,h.hi,h.ok,h.len⟩
theorem PaX.g(h:PaX xs u F l L)(c:WS xs<=64):∀x∈L,gI x.1:=λx b=>by
 let⟨j,t,e,a,_⟩:=h.hi x b;have:=fG a;exact⟨X,X⟩
def PaX.ahg(h:PaX xs u F l L):∀k m,dZ L k=aM m->WS m<=1000000:=λk m a=>h.len _<|(yf<|rR h.srt).1 a
theorem qd{n:Int}:∀{L:J (Int×J Int)} {a:Int},(L.Pairwise λa b=>a.1<b.1)->(∀x∈L,a<=x.1/\x.1<n)->(WS L:Int)<=max 0 (n-a)
 |[],a,_,_=>o
 |x::L,a,h,b=>by
  rw[gM]at h;have:=b x<|.head _;have:=qd (a:=x.1+1) h.2 λy c=>⟨by have:=h.1 y c;omega,(b y<|.tail _ c).2⟩
  rw[aY];omega
theorem PaX.cnt(h:PaX xs u F l L)(b:WS xs<=64):WS L<=64:=by
 have:=qd (n:=64) (a:=0) h.srt λx c=>h.g b x c;omega
end
def XZ.Lz{w:av}{F:h}{s:Sl}(a:XZ w F s):wS w s:=by
 refine⟨a.1,?_⟩;rcases a.2 with rfl|⟨g,y,b,c,d,_⟩
 .exact .inl I
 exact .inr ⟨g,_,y,b,c,d⟩
def M7(a b w:av)(k:Nat):Prop:=a.heap.size<=k/\k<b.heap.size/\∃y,aF w k 3 y
def aca{w0 w:av}{s:Sl}{L:J (Int×J Int)}(A:wR w0.heap.size w s L){w1:av}(P:wR w0.heap.size w1 s L)(o:ay [] w1 w)(ff:w0.heap.size<=w1.heap.size){n:av->Prop}{B:J Nat}(b:∀k∈B,k<w0.heap.size)
  (Q:∀u,aD (M7 w0 w1 w) w u->n u):
  mh (0:Int) w λD Y m E=>K (JW<|m<(s.n:Int)) (∃C,ci s m 2 C/\
   iZ E (C.add 1) λg=>iV B 23 #[g.v,Sl.nil.v] E λs e=>nx Y λk=>D k (ar U<|m+1) e) (n E):=by
 let i:=A.slice eM;let zb:=P.slice eM;have:=i.len;have:=i.cap;have:=i.big;refine⟨λv V u=>∃j:Nat,V=(j:Int)/\v+j=WS L/\j<=WS L/\Kp w u/\aD (M7 w0 w1 w) w u,WS L,⟨0,I,X,bE _,Kp.refl w,V8 _ _⟩,?_⟩;rintro v _ u ⟨j,rfl,me,hj,h,O⟩;refine⟨λH=>?_,λH=>Q u O⟩;let H:=S H;obtain⟨x,T⟩:∃x,L[j]? =aM x:=⟨_,aR X⟩
 obtain⟨ad,y,p,q,g2,g3,g4,r,t,rfl,g6,z⟩:=zb.get (bf j) X;let l:∃c,aF w ad.block 83 c:=by
  rcases A with⟨rfl,rfl⟩|⟨g,c,tail,e,_,k,_⟩
  .simp at T
  obtain⟨s,g,_,_,rfl⟩:=q;rw[e]at g;injection g with g;subst g;rw[jS];exact⟨_,k⟩
 let W:¬M7 w0 w1 w (ad.add 1).block:=by
  rintro⟨_,_,s,y⟩;let⟨c,e⟩:=l;have:=(j2 e y).1;revert this;decide
 let d:(ad.add 1).block<w1.heap.size:=(r.dv 1 _ I).lt;let G:aB w (ad.add 1) [t.v]:=(r.dv 1 _ I).keep<|o.block _ d N;let M:aB u (ad.add 1) [t.v]:=G.keep (O.block _ (by have:=o.size;omega) W);let Z:wS w t:=(z.keep (w':=w) λk _ d=>o.block k d N).Lz;refine⟨ad,q,t,M,(th (Z.kp h) (ab8 u)<|λg _ e=>by cases e).mono ?_⟩;rintro _ u2 ⟨rfl,F,_,_,f⟩;let a:∀k,t.a=aM ⟨k,0,VM⟩∨Sl.nil.a=aM ⟨k,0,VM⟩->M7 w0 w1 w k:=by
  rintro k (e|e)
  .rcases z.2 with rfl|⟨g,y,k,s,_,t⟩
   .cases e
   rw[e]at k;injection k with k;injection k with k;subst k;refine⟨?_,s.lt,y,(o.block _ s.lt N).trans s⟩;exact t.elim id λt=>t.1
  cases e
 exact⟨aE,I,λk hk=>F.block k (by have:=b k hk;have:=o.size;have:=O.size;omega) λe=>by have:=(a k e).1;have:=b k hk;omega,v-1,X,j+1,N0,X,X,λg t p R=>by
  let⟨s,w,x⟩:=h g t p R;let⟨e,q3,y⟩:=f g t s w;exact⟨e,q3,y.trans x⟩,O.trans (F.mono λk _ hk=>a k hk) λk hk=>.inl hk⟩
section
variable{w:av}{F F' G:h}{s si ny sr sa l sst:Sl}{c:Ch}{sts:J (Int×J Int×Unit)}
theorem yb(P:aA nS 5 w F s (cQ c))(sd:Sd (cQ c))(i:Int):az aq 9 #[s.v,O U<|(bits .and U i 1048575).tmod ((W (cQ c) 0:Nat):Int)] w λe f=>(∃(sa:Sl) (act:J Int),e=ak (ai #[sa.v,aj aE])/\dc w.heap.size f sa act/\Lg (cQ c) act/\WS act<=64)/\ay [] w f:=by
 let⟨k,a,_⟩:=sd.rt;let d:1<=W (cQ c) ((0:Nat):Int):=sd.Vd a;let d:1<=W (cQ c) 0:=d;have:0<=(bits .and U i 1048575).tmod ((W (cQ c) 0:Nat):Int):=Int.tmod_nonneg _<|amb i;have:(bits .and U i 1048575).tmod ((W (cQ c) 0:Nat):Int)<((W (cQ c) 0:Nat):Int):=Int.tmod_lt_of_pos _ X;refine(amn (xs:=cQ c) P sd _).mono ?_;rintro _ l ⟨⟨sa,t,act,rfl,g,b,h⟩,r⟩;let b:t=aE:=R
 rw[E b]at h;have:Lg (cQ c) act:=by
  rw[h];exact(agR sd X).1
 have:WS act<=64:=by rw[h];exact inB sd _ _ _ a
 grind
theorem ajO(aS:Snd c (cQ c) (Io c))(hP:PlR w F s si ny sr (gY c))(hX:aA nS 5 w F' l (cQ c)){v0:av}(Y:aA GL 2 v0 (λ_=>True) sst sts)(hv:ay [] v0 w)(qA:∀x∈sts,WS x.2.1<=1048576):
  az aq 7 #[ah #[s.v,si.v,ny.v,sr.v],l.v,sst.v] w λe D=>(∃(t:Sl) (a:J (Int×J Int)),e=ak (ai #[t.v,aj aE])/\PaX (cQ c) D (λk=>w.heap.size<=k) t a)/\ay [] w D:=by
 refine(az2 s si ny sr l sst (λv D=>(∃(t:Sl) (a:J (Int×J Int)),v=ai #[t.v,aj aE]/\PaX (cQ c) D (λk=>w.heap.size<=k) t a)/\ay [] w D) w ?_).mono (by rintro _ D ⟨v,rfl,⟨t,a,rfl,h⟩,h'⟩;exact R);intro k0 w0 fH dC bT;have:=bT.size;let sd:=aS.sd;let lG:=sd.le;let⟨s0,EX,_⟩:=sd.rt;let hW:1<=W (cQ c) ((0:Nat):Int):=sd.Vd EX;let hW:1<=W (cQ c) 0:=hW;have:=Y.len;have:=Y.cap;have:=Y.big;let P:aA nS 5 w (λk=>F' k/\k<w.heap.size) l (cQ c):=PY cH hX Z;refine(GU (xs:=cQ c) (ZH cH Z P bT N) sd).mono ?_;rintro _ w1 ⟨rfl,bU⟩;have:=bU.size;let o1:=bT.bG bU;refine⟨_,I,bU.same o,λkv q bY u=>∃A:Nat,bY=(A:Int)/\kv+A=WS sts/\A<=WS sts/\(∃a,PaX (cQ c) u (λk=>w1.heap.size<=k) q a)/\ay [] w1 u,WS sts,⟨0,I,X,bE _,⟨[],WB ..,List.Pairwise.nil,λ_ h=>VI,Mn _,λ_ h=>VI⟩,qE _ _⟩,?_⟩;rintro kv q _ u ⟨A,rfl,me,hj,⟨a,L⟩,hO⟩;have:=hO.size;let B:=o1.bG hO;refine⟨λhc=>?_,λ_=>⟨⟨q,a,I,L.sl.mono eM λk hk=>X,L.srt,L.hi,L.ok,L.len⟩,B⟩⟩;rw[aO,bB,bB]at hc;obtain⟨x,hx⟩:∃x,sts[A]? =aM x:=⟨_,aR X⟩
 have:=qA x<|be hx;let⟨ad,C,T,z,g3⟩:=amg Y hx;let z:aB u ad [O U x.1,C.v]:=z.keep<|(hv.bG B).block _ z.lt N;let K:PaX (cQ c) u (λk=>w1.heap.size<=k/\k<u.heap.size) q a:=⟨PY eM L.sl Z,L.srt,L.hi,L.ok,L.len⟩
 let p:∀{v:av},ay [] u v->aB v ad [O U x.1,C.v]:=λh=>z.keep<|h.block _ z.lt N;let n:∀{v:av},ay [] u v->aA rInt 1 v _ C x.2.1:=λh=>kI (PY bA (kI g3<|hv.bG B) Z) h;refine⟨ad,T,x.1,z.dv 0 _ I,X,(yb (ZH cH Z P B N) sd x.1).mono ?_⟩;rintro _ w3 ⟨⟨sa,act,rfl,am,S,R4⟩,E⟩;have:=E.size;let⟨x1,w4,k1,k2,x2,w5,k3,k4,k5⟩:=Oc (n E) X;have:=k2.size;have:=k5.size;let j:ay [] w3 w5:=((k2.p0 (F:=λ_=>False)).trans k5 X).only λk h=>h.elim;let o5:=E.bG j;let AI:=PY bA (am.slice bA) Z;refine⟨sa,aE,I,E.same o,x1,w4,k1,k2.same o,ad,T,C,(p<|E.bG k2).dv 1 _ I,x2,w5,k3,λk hk=>k5.block k (by have:=bh.1 hk;omega)<|by have:=bh.1 hk;omega,(sw (K.o0 o5).sl (K.cnt lG) K.len).mono ?_⟩;rintro _ w6 ⟨⟨cc,rfl,hm⟩,d⟩;have:=d.size;let o6:=o5.bG d;let m:=hm.slice eM;let Q:=(k4.slice bA)
 refine⟨cc,I,d.same o,(ajG ((hP.Da.o0 B).o0 o6) sd S (kI AI<|j.bG d) X (kI Q d) X m (K.g lG) K.ahg).mono ?_⟩;rintro _ w7 ⟨⟨t6,ff,rfl,M,he,aT,i⟩,H⟩;let M:wR w6.heap.size w7 t6 ff:=M;let z7:=H.size;let o7:=o6.bG H;refine⟨t6,I,H.same o,ad,T,λw8 f=>⟨C,(p<|o7.bG f).dv 1 _ I,have:=f.size;let o8:=o7.bG f;let g:=K.o0 o8;(dpL ((hP.Da.o0 B).o0 o8) sd S (kI AI<|((j.bG d).bG H).bG f) X (n o8) X g.sl (g.cnt lG) g.len).mono ?_⟩⟩;rintro _ w9 ⟨⟨t8,rfl,V⟩,r⟩;let V:wR w8.heap.size w9 t8 (IY (cQ c) act x.2.1 a<|WS<|cQ c):=V;have:=r.size;let o9:=o8.bG r;obtain rfl:ff=_:=amm sd S L.srt L.hi i he;let b:ay [] w6 w9:=(H.bG f).bG r;refine⟨t8,I,r.same o,λb1 G=>b1=aE/\ay [] w9 G,?_,(BT ((M.o0<|f.bG r).slice eM)<|V.slice eM).mono ?_⟩
 .rintro _ G ⟨rfl,e⟩;let t:=e.size;let x:=(f.bG r).bG e;refine aca (w0:=w6) (w1:=w7) (w:=G) (M.o0 x) M x z7 R λv U=>?_;have:=U.size;let c:ay [] u G:=o9.bG e;let q:aD (λk=>w6.heap.size<=k/\k<w7.heap.size) G v:=U.mono λk _ h=>⟨h.1,h.2.1⟩
  let s:=PY eM m Z;refine(BT (Zz eM Z (ZH eM Z s (b.bG e) N) q X)<|Zz eM Z (K.o0 c).sl q X).mono ?_;rintro _ W ⟨rfl,l⟩;have:=l.size;refine⟨_,I,l.same o,λhc=>?_,λ_=>⟨kv-1,X,A+1,N0,X,X,⟨_,?_,i,aml,by rw[he];exact aS.amA L.ok S,λy hy=>?_⟩,?_⟩⟩
  .simp at hc
  .have h:=(V.slice eM)
   exact(ZH eM Z (Zz eM Z (ZH eM Z h e N) q X) l N).mono eM X
  .have h:=(yf<|rR i).2 P9;rw[he]at h;exact ab2 lG K.ahg _ _ h
  exact((((hO.bG c).p0 (F:=λ_=>False)).trans q X).only λk h=>h.elim).bG l
 rintro _ s ⟨rfl,c⟩;have:=c.size;refine⟨_,I,c.same o,λ_=>?_,R⟩;refine(BT (ZH eM Z m (b.bG c) N) (K.o0<|o9.bG c).sl).mono ?_;rintro _ t ⟨rfl,k⟩;have:=k.size;let e:=(o9.bG c).bG k;refine⟨_,I,k.same o,λ_=>?_,R⟩;refine⟨ad,T,C,(p e).dv 1 _ I,(nT (kI Q<|((d.bG b).bG c).bG k)<|n e).mono ?_⟩;rintro _ v ⟨rfl,h⟩;exact⟨_,I,h.same o,N,(c.bG k).bG h⟩
end
inductive Ch3 where
 |n
 |b (l:Sl)
 |d (l:Sl) (g h:Nat)
def X6{a:Type}(r:Rp a)(s e:Nat)(y:J a)(b w:av):Ch3->Prop
 |.n=>True
 |.b l=>Own r s e 0 w (λ_=>False) l []/\l.c=0
 |.d l g h=>aA r s w (λk=>k=g) l y/\l.a=aM ⟨g,0,VM⟩/\g<h/\b.heap.size<=g
section
variable{w w0 w':av}{k0 k1:Nat}{J:h}{F:h}{s si sd sr:Sl}{p:Pl}{A B C:Ch3}{Es:Y7 Sl}
def X6.o0{a:Type}{r:Rp a}{s e:Nat}{y:Y7 a}(h:r.Ok)(b:0<s):∀{A:Ch3},X6 r s e y w0 w A->ay [] w w'->X6 r s e y w0 w' A
 |.n,_,_=>trivial
 |.b l,⟨c,d⟩,e=>⟨c.keep h λk _ J=>e.block k J N,d⟩
 |.d l g f,⟨c,d⟩,e=>⟨ZH h b c e N,d⟩
structure St3 (F:h) (s si sd sr:Sl) (p:Pl) (k0 k1:Nat) (w0 w:av) (A B C:Ch3) (Es:List Sl):Prop where
 o:ay [] w0 w
 pl:PlR w0 F s si sd sr p
 k0:k0<w0.heap.size
 k1:k1<w0.heap.size
 ns:0<WS p.sp/\WS p.sp<=64
 ni:WS p.ini=WS p.sp
 nd:WS p.dft=WS p.sp
 a:X6 nS 5 131 p.sp w0 w A
 b:X6 rInt 1 3 p.ini w0 w B
 c:X6 rInt 1 3 p.dft w0 w C
 e:∀l,l∈Es->X6 rInt 1 3 [] w0 w (.b l)
def St3.o0(h:St3 F s si sd sr p k0 k1 w0 w A B C Es)(O:ay [] w w'):St3 F s si sd sr p k0 k1 w0 w' A B C Es:={h with o:=h.o.bG O,a:=h.a.o0 cH Z O,b:=h.b.o0 bA Z O,c:=h.c.o0 bA Z O,e:=λd l=>(h.e d l).o0 bA Z O}
def aug{b:Type}{r:Rp b}{size:Nat}{t e:TypeId}{i:TypeInfo}(c:Tryz.prog.underlying t=aM (.slice e))(h:Tryz.prog.info? e=aM i)(y:Y7 b)(d w:av):∃l a,(au t 0 #[]).run aq w=.ok (Sl.v l) a/\ay [] w a/\X6 r size e y d a (.b l):=
 ⟨⟨aM ⟨w.heap.size,0,VM⟩,0,0⟩,w.alloc<|.cells #[] e,zX w c h,Rk _ _,.inr ⟨w.heap.size,[],[],I,bE _,Jp w e [],N,I,bc _,bE _,trivial⟩,I⟩
theorem NI{o:Type}{r:Rp o}{s bytes:Nat}{t e:TypeId}{i:TypeInfo}{z:aw}(D:Tryz.prog.underlying t=aM (.slice e))(v:Tryz.prog.info? e=aM i)(J:i.zero=aM z)(K:i.size=s)(O:i.bytes=bytes)(H:z.cells.size=s)(a:r.Ok)(C:∀w F G x d,r w F x d->r w G x d){b:Y7 o}{m y:Sl}{G:h}(j:X6 r s e b w0 w (.b m))(l:aA r s w G y b)(Q:0<WS b)(N:WS b*bytes<=140737488355328)(B:0<bytes)(E:w0.heap.size<=w.heap.size):
  ∃n c,(Builtin.append_ #[t,t] t #[Sl.v m,Sl.v y]).run aq w=.ok (Sl.v n) c/\ay [] w c/\X6 r s e b w0 c (.d n w.heap.size c.heap.size):=by
 let S:=(j.1.slice a).mono a (G:=λk=>G k∨True) R;have A:=S.len;rw[ck]at A;have:=l.len;have:=j.2;let⟨L,w',p,g,q,f⟩:=vrK (P:=aq) (ty:=t) (F:=λk=>G k∨True) D v J K O H a S (l.mono a R) X Rl B;rw[cJ]at g;exact⟨L,w',p,q,(MY a C g).mono a Rl,f,(g.blk f).2,E⟩
theorem aBN(h:St3 F s si sd sr p k0 k1 w0 w .n B C Es){K:Sl->av->av->Prop}(k:∀l b c,St3 F s si sd sr p k0 k1 w0 c (.b l) B C Es->K l b c):o0 w λb=>LR (au 33 0 #[]) b λl c=>bX [k0,k1] b c/\kl w0 b c/\bH J b c/\K l b c:=λb U=>by
 let h1:=h.o0 U;let⟨l,c,f,d,g⟩:=aug (r:=nS) (size:=5) (t:=33) (e:=131) (i:=Tryz.t131) Mi Mi p.sp w0 b;let j:=h1.o0 d;exact⟨l,c,f,d.same TB,VV d,ZX d,k l b c {j with a:=g}⟩
theorem auh(h:St3 F s si sd sr p k0 k1 w0 w A B C Es){K:Sl->av->av->Prop}(k:∀l a b,St3 F s si sd sr p k0 k1 w0 b A B C (l::Es)->K l a b):o0 w λa=>LR (au 31 0 #[]) a λl b=>bX [k0,k1] a b/\kl w0 a b/\bH J a b/\K l a b:=λa U=>by
 let h1:=h.o0 U;let⟨l,b,g,c,j⟩:=aug (r:=rInt) (size:=1) (t:=31) (e:=3) (i:=Tryz.t3) Mi Mi [] w0 a;let f:=h1.o0 c;exact⟨l,b,g,c.same TB,VV c,ZX c,k l a b {f with e:=λm d=>by rcases ba.1 d with rfl|d;exact j;exact f.e m d}⟩
theorem cpA{f:Sl}(h:St3 F s si sd sr p k0 k1 w0 w (.b f) B C Es){K:Sl->av->av->Prop}(m:∀l c b,St3 F s si sd sr p k0 k1 w0 b (.d l c.heap.size b.heap.size) B C Es->K l c b):o0 w λc=>Ek 33 f s c λl b=>bX [k0,k1] c b/\kl w0 c b/\bH J c b/\K l c b:=λc U=>by
 let h1:=h.o0 U;have:=h1.ns;let⟨l,b,g,d,j⟩:=NI (t:=33) (e:=131) (i:=Tryz.t131) (bytes:=48) Mi Mi I I I I cH (λ_ _ _ _ _ h=>h) h1.a (h1.pl.o0 h1.o).sp X X Z h1.o.size;exact⟨l,b,g,d.same TB,VV d,ZX d,m l c b {(h1.o0 d) with a:=j}⟩
theorem cpB{f:Sl}(h:St3 F s si sd sr p k0 k1 w0 w A .n C Es)(n:f∈Es){K:Sl->av->av->Prop}(m:∀l a c,St3 F s si sd sr p k0 k1 w0 c A (.d l a.heap.size c.heap.size) C Es->K l a c):o0 w λa=>Ek 31 f si a λl c=>bX [k0,k1] a c/\kl w0 a c/\bH J a c/\K l a c:=λa U=>by
 let h1:=h.o0 U;have:=h1.ns;have:=h1.ni;let⟨l,c,g,d,j⟩:=NI (t:=31) (e:=3) (i:=Tryz.t3) (bytes:=8) Mi Mi I I I I bA (λ_ _ _ _ _ h=>h) (show X6 rInt 1 3 p.ini w0 a (.b f)from h1.e f n) (h1.pl.o0 h1.o).ini X X Z h1.o.size;exact⟨l,c,g,d.same TB,VV d,ZX d,m l a c {(h1.o0 d) with b:=j}⟩
theorem cpC{f:Sl}(h:St3 F s si sd sr p k0 k1 w0 w A B .n Es)(n:f∈Es){K:Sl->av->av->Prop}(m:∀l a b,St3 F s si sd sr p k0 k1 w0 b A B (.d l a.heap.size b.heap.size) Es->K l a b):o0 w λa=>Ek 31 f sd a λl b=>bX [k0,k1] a b/\kl w0 a b/\bH J a b/\K l a b:=λa U=>by
 let h1:=h.o0 U;have:=h1.ns;have:=h1.nd;let⟨l,b,g,d,j⟩:=NI (t:=31) (e:=3) (i:=Tryz.t3) (bytes:=8) Mi Mi I I I I bA (λ_ _ _ _ _ h=>h) (show X6 rInt 1 3 p.dft w0 a (.b f)from h1.e f n) (h1.pl.o0 h1.o).dft X X Z h1.o.size;exact⟨l,b,g,d.same TB,VV d,ZX d,m l a b {(h1.o0 d) with c:=j}⟩
def J3(F:h)(s n sd sr:Sl)(p:Pl)(l m:Nat)(w:av)(z:Y7 (Nat×Nat))(a b c d:Sl)(u:av):Prop:=
 d=Sl.nil/\∃g i e j f k Es,St3 F s n sd sr p l m w u (.d a g i) (.d b e j) (.d c f k) Es/\(g,i)∈z/\(e,j)∈z/\(f,k)∈z
theorem amp(i:PlR w F s si sd sr p)(l:0<WS p.sp/\WS p.sp<=64)(n:WS p.ini=WS p.sp)(nd:WS p.dft=WS p.sp)(Y:WS p.ro<=1900000)(m:∀r∈p.ro,WS r.tg<=2000000):
  az aq 8 #[ah #[s.v,si.v,sd.v,sr.v]] w λe w'=>(∃a b c d:Sl,e=ak (ft a b c d)/\PlR w' (λk=>w.heap.size<=k) a b c d p)/\ay [] w w':=by
 refine(az3 s si sd sr (λv w'=>(∃a b c d:Sl,v=ft a b c d/\PlR w' (λk=>w.heap.size<=k) a b c d p)/\ay [] w w') w ?_).mono (by rintro _ w' ⟨v,rfl,⟨a,b,c,d,rfl,h⟩,q⟩;exact R);intro k0 k1 w0 H C A j f;have B:=f.size;have J:=i.Da;have u:St3 (λk=>F k/\k<w.heap.size) s si sd sr p k0 k1 w0 w0 .n .n .n []:=⟨qE _ _,J.o0 f,C,j,l,n,nd,trivial,trivial,trivial,R⟩
 refine⟨λk=>k=k0,J3 (λk=>F k/\k<w.heap.size) s si sd sr p k0 k1 w0,?_,I,I,I,?_⟩
 .rintro z a b c d w1 ⟨rfl,bJ,ha,gb,hb,gc,L,Es,h,m1,W,m3⟩ s q1 q2 Vh w M;have qj:=h.o.size;have z2:=M.size;have gz:bJ≠s:=λe=>by have:=h.a.2.2.1;rcases Vh _ m1 with h|h<;>dsimp only at h<;>omega
  have nb:gb≠s:=λe=>by have:=h.b.2.2.1;rcases Vh _ W with h|h<;>dsimp only at h<;>omega
  have nc:gc≠s:=λe=>by have:=h.c.2.2.1;rcases Vh _ m3 with h|h<;>dsimp only at h<;>omega
  have aC:ay [] w0 w:=h.o.trans M Rl;have ce:=i.ro.len;have cc:=i.ro.cap;have bY:=i.ro.big;have ff:=ZH cH Z h.a.1 M Rl;have fB:=ZH bA Z h.b.1 M Rl;have fC:=ZH bA Z h.c.1 M Rl;have aT:=h.a.2.2.2;have bv:=h.b.2.2.2;have bV:=h.c.2.2.2;refine⟨λkv aS l4 l5 l6 V am=>∃E:Nat,aS=(E:Int)/\kv+E=WS p.ro/\E<=WS p.ro/\l4=a/\l5=b/\l6=c/\Own rRo 7 62 w.heap.size am (λk=>w.heap.size<=k) V (p.ro.take E)/\ay [s] w am,WS p.ro,⟨0,I,X,X,I,I,I,E7 ..,qE _ _⟩,?_⟩;rintro kv _ l4 l5 l6 V w3 ⟨E,rfl,me,hj,e4,e5,e6,hR,K⟩;subst l4 l5 l6;have z3:=K.size;have Q:∀{am:av},ay [s] w am->ay [] w0 am:=λhO=>aC.trans hO Rl;refine⟨λL=>?_,λL=>?_⟩
  .have L:=S L;obtain⟨x,hx⟩:∃x,p.ro[E]? =aM x:=⟨_,aR X⟩
   obtain⟨ad,tg,g1,g2,g3⟩:=BF (J.o0<|f.bG<|Q K).ro hx;refine⟨ad,g1,_,_,_,_,_,tg,_,g2,λk5 d tA Az dB=>?_⟩;have z4:=dB.size;obtain⟨x1,w5,e1,e2,z,w6,e3,e4,e5⟩:=Oc (kI g3 dB) (by have:=m x<|be hx;omega);have z5:=e2.size;have z6:=e5.size;have cC:ay [] d w6:=((e2.p0 (F:=λ_=>False)).trans e5 X).only λk h=>h.elim;have hks:∀k,k∈[k0,k1,s,k5]->k<d.heap.size:=o
   refine⟨x1,w5,e1,e2.same R,z,w6,e3,λk hk=>e5.block k Z0 Z0,λw7 c=>?_⟩;have z7:=c.size;have hT:dc d.heap.size w7 z x.tg:=e4.keep bA λk hk b=>c.block k b (by
    rcases hk with hk|hk
    .exact hk.elim
    simp only[bh];omega)
   have dO:∀{g:Nat},V.a=aM ⟨g,0,VM⟩->w.heap.size<=g/\g<w3.heap.size:=λe=>hR.blk e;have a:=dB.bG cC;have co:Own rRo 7 62 w.heap.size w7 (λk=>w.heap.size<=k) V (p.ro.take E):=((hR.inHeap gu).keep gu λk hk b=>by
    rw[c.block k X (by
     have:k<w3.heap.size:=by rcases hk with hk|hk;exact hk.2;exact b
     simp only[bh];omega),a.block k b N]).mono gu X
   obtain⟨y,w8,m1,W,s',w9,m3,m4,⟨gs,m5,m6⟩,_⟩:=iO (P:=aq) (t:=34) (ty:=34) (e:=62) (i:=Tryz.t62) (bytes:=80) (size:=7) (r:=rRo) (G:=λk=>d.heap.size<=k) (v:=ah #[O U x.src,O U x.slot,O U x.k,ab<|T x.ev,O U x.wt,z.v,O U x.dom]) (x:=x) D D I I I I Z Z Z gu co X I ⟨z,I,hT.sl,hT.roC λg hg=>(hT.blk hg).1⟩ R (by rw[dj];omega);have z8:=W.size;have z9:=m5.size;have G5:∀g∈gs,w.heap.size<=g/\g<w3.heap.size:=R
   refine⟨y,w8,m1,W.same R,s',w9,m3,λk hk=>m5.block k Z0 λhg=>?_,λdh dy=>⟨kv-1,X,E+1,N0,X,X,I,I,I,?_,?_⟩⟩
   .have:=G5 k hg;simp only[ba,cy,fQ]at hk;omega
   .rw[aX,hx];exact(m4.keep gu λk hk b=>dy.block k b<|by simp only[bh];rcases hk with hk|hk;rcases hk with hk|hk;omega;omega;omega).mono gu X
   have e:ay [s] w w6:=K.trans a N;have g:ay [s] w w7:=e.trans c R;exact((g.trans W N).trans m5 R).trans dy R
  have L:=aQ L;have:E=WS p.ro:=X
  subst this;rw[dA]at hR;intro r d;have e:∀k,w0.heap.size<=k->k∉[k1]:=R
  have g:∀k≠s,k∉[s]:=Rl
  refine⟨⟨a,b,c,V,I,?_⟩,(f.bG<|Q K).trans d Rl⟩;exact⟨(ZH cH Z (ZH cH Z ff K R) d R).mono cH X,
   (ZH bA Z (ZH bA Z fB K R) d R).mono bA X,
   (ZH bA Z (ZH bA Z fC K R) d R).mono bA X,
   (ZH gu Z (hR.slice gu) d R).mono gu X⟩
 repeat' first
  |with_reducible refine And.intro ?_ ?_
  |with_reducible refine aBN P9 λa w b h=>?_
  |with_reducible refine auh P9 λa w b h=>?_
  |with_reducible refine cpA P9 λa w b h=>?_
  |with_reducible refine cpB P9 N λa w b h=>?_
  |with_reducible refine cpC P9 N λa w b h=>?_
  |exact λw a=>⟨I,_,_,_,_,_,_,_,St3.o0 P9 a,N,N,N⟩
end
structure Lk (f:Ft) (w:av) (b:Nat) (F:h) (vs:Sl) (vars:List Vr) (nc:aI) (sl:Sl) (xs:List dz):Prop where
 blk:aF w b 128 (vs.v::(nc++[sl.v,O U f.1,O U f.2]))
 nc9:WS nc=9
 vr:aA Wd 3 w F vs vars
 sp:aA nS 5 w F sl xs
 nF:∀k,F k->k≠b
section
variable{f g:Ft}{w w':av}{b:Nat}{F G:h}{vs sl:Sl}{vars:J Vr}{nc:aI}{xs:J dz}
def Lk.only(h:Lk f w b F vs vars nc sl xs)(O:ay [] w w'):Lk f w' b F vs vars nc sl xs:=
 ⟨O.blk h.blk N,h.nc9,ZH fI Z h.vr O N,ZH cH Z h.sp O N,h.nF⟩
def Lk.lD(h:Lk f w b F vs vars nc sl xs)(a:ay [b] w w')(B:aF w' b 128 (vs.v::(nc++[sl.v,O U g.1,O U g.2]))):Lk g w' b F vs vars nc sl xs:=
 ⟨B,h.nc9,ZH fI Z h.vr a λk hk _ hm=>h.nF k hk X0,ZH cH Z h.sp a λk hk _ hm=>h.nF k hk X0,h.nF⟩
def Lk.lb(h:Lk f w b F vs vars nc sl xs):b<w.heap.size:=h.blk.lt
theorem Lk.row(h:Lk f w b F vs vars nc sl xs):aB w ((⟨b,0,VM⟩:Addr).add 10) [sl.v]:=by
 have:=h.nc9;exact Hl h.blk 10 A
theorem vp(h:Lk f w b F vs vars nc sl xs)(e a:Int):az aq 64 #[ae (aM ⟨b,0,VM⟩),O U e,O U a] w λr w'=>r=ak (ai #[])/\Lk (j5 f [(e,a)]) w' b F vs vars nc sl xs/\ay [b] w w':=by
 refine ret<|aq7 ?_;let d:=h.nc9;let i:(vs.v::(nc++[sl.v,O U f.1,O U f.2]))[11]? =aM (.int U f.1):=by
  simp_all
 refine⟨f.1,Hl h.blk 11 i,λhf=>⟨b,11,_,_,I,h.blk,o,λj g c=>⟨I,?_,g⟩⟩,λhf=>⟨I,?_,qE _ _⟩⟩
 .have b:fX (vs.v::(nc++[sl.v,O U f.1,O U f.2])) 11 [O U e,O U a]=vs.v::(nc++[sl.v,O U e,O U a]):=by
   unfold fX;rw[fL,List.take_append,d,bm X];simp[d]
  rw[b]at c;let hf:f.1=0:=Zu
  have:j5 f [(e,a)]=(e,a):=by simp[j5,hf]
  rw[this];exact h.lD g c
 let hf:f.1≠0:=Zu
 rw[F0 hf];exact h
theorem rf(h:Lk f w b F vs vars nc sl xs){ok} e a (k:ok=aL):az aq 64 #[ae (aM ⟨b,0,VM⟩),O U e,O U a] w λr w'=>r=ak (ai #[])/\Lk (j5 f<|bad ok e a) w' b F vs vars nc sl xs/\ay [b] w w':=by
 subst k;exact vp h e a
theorem unM(h:Lk f w b F vs vars nc sl xs)(m:WS vars<=8388608){s:L}:az aq 199 #[ae (aM ⟨b,0,VM⟩),ab<|T s] w λe w'=>e=ak (aj<|JW<|s∈vars.map λv=>v.n)/\w'=w:=by
 refine ret<|asj<|have:=h.vr.len;⟨λk i u=>∃j:Nat,i=j/\k+j=WS vars/\j<=WS vars/\s∉(vars.take j).map (λv=>v.n)/\w=u,WS vars,R,?_⟩;rintro k _ _ ⟨j,rfl,g,d,a,rfl⟩;refine⟨vs,Hl h.blk 0 I,λc=>?_,λc=>⟨?_,I⟩⟩
 .have c:=S c;let⟨ad,y,s,f,e,p,q,n,o⟩:=h.vr.get (bf j) X;subst o;rw[aV]at e;refine⟨vs,Hl h.blk 0 I,ad,f,_,n.dv 0 _ I,λb=>⟨?_,I⟩,λb=>⟨k-1,X,j+1,N0,X,X,?_,I⟩⟩
  .rw[jC]at b
   grind
  rw[jC]at b;rw[aX,e,cK,cZ]
  grind
 grind
theorem acP(h:Lk f w b F vs vars nc sl xs)(m:WS xs<=1000) s:az aq 200 #[ae (aM ⟨b,0,VM⟩),ab<|T s] w λe w'=>e=ak (aj<|LU xs s)/\w'=w:=by
 refine ret<|asm ⟨sl,h.row,(wv h.sp s).mono ?_⟩;rintro _ u ⟨rfl,a⟩;obtain rfl:w=u:=a.symm;refine⟨_,I,λr u=>r=LU xs s/\w=u,A,λc=>?_,λc=>⟨?_,I⟩⟩
 .have c:=S c;rcases jf xs s with⟨e,_⟩|⟨j,y,e,b,_⟩
  .omega
  let⟨ad,d,f,_⟩:=gK h.sp b;rw[e];refine⟨sl,h.row,ad,d,_,f.dv 0 _ I,(ES w y.k).mono ?_⟩;rintro _ u ⟨rfl,a⟩;refine⟨_,I,?_,a.symm⟩;unfold LU;rw[e,fz b,bO X,cd]
 unfold LU
 grind
theorem GV(i:∀k,G k->k≠b)(g:WS vars<=8388608)(h:WS xs<=1000):∀(d:Nat) {f:Ft} {w:av} {x:Ex} {c:aI},Lk f w b F vs vars nc sl xs->QD aL d w G x c->Hc x<=8388608->
  az aq 152 #[ae (aM ⟨b,0,VM⟩),ah c.toArray] w λe w'=>e=ak (ai #[])/\Lk (j5 f<|XU xs (vars.map λv=>v.n) x) w' b F vs vars nc sl xs/\ay [b] w w'
 |0,_,_,_,_,_,a,_=>a.elim
 |d+1,f,w,x,c,k,⟨s,H,E⟩,z=>by
  subst H;let m:=E.1;have:=m.len;have:=k.lb;rw[Kq]at z;have:WS x.dP<=We x.dP:=by
   have:∀b:J Ex,WS b<=We b:=λb=>by induction b with
    |nil=>exact bE _
    |cons a b d=>
     rw[We,aY];have:=Kq a;omega
   exact this _
  generalize j:(vars.map λv=>v.n)=n;refine ret<|arS ?_;intro K e W Q T;have:=T.size;let l:=k.only T;let sm:∀{u B:av},ay [b] w u->e.heap.size<=u.heap.size->ay [b] u B->bX [K] u B:=λ_ z C=>C.same o;let St:Ft->av->Prop:=λf u=>Lk f u b F vs vars nc sl xs/\ay [b] w u/\e.heap.size<=u.heap.size
  let p:St f e:=⟨l,only1 T,X⟩
  refine⟨λr u=>r=(JW (x.k≠2)||JW (x.s∈n))/\St f u,λN M ⟨R,q⟩=>⟨λr u=>r=(JW (x.k≠3)||LU xs x.s)/\St f u,λP w2 ⟨V,t⟩=>⟨St<|j5 f<|bad (PA xs n x.k x.s) 23 x.a,λw3 L=>?_,λD=>?_,λD=>?_⟩,λhk=>⟨?_,q⟩,λhk=>?_⟩,λhk=>⟨?_,p⟩,λhk=>?_⟩
  .refine⟨λv w u=>∃a:Nat,w=(a:Int)/\v+a=WS x.dP/\a<=WS x.dP/\St (j5 f<|bad (PA xs n x.k x.s) 23 x.a++we xs n (x.dP.take a)) u,WS x.dP,⟨0,I,X,bE _,by rw[cr,we,bq];exact L⟩,?_⟩;rintro v _ w4 ⟨a,rfl,me,hj,s,r,F⟩;refine⟨λb=>?_,λb=>?_⟩
   .have b:=S b;let⟨ad,y,ds,g1,g2,g3,g4,g5,g6⟩:=(ZH (mz aL d) Z m r A).get (bf a) X;rw[aV]at g2;have:=Kr<|be g2;let G4:=g6;obtain⟨s',rfl⟩:=fK ⟨d,g6⟩;have DR:=GV i g h d s G4 X;rw[j]at DR;refine⟨ad,g1,_,_,_,_,_,_,g5,DR.mono ?_⟩;rintro _ w5 ⟨rfl,h5,f⟩;have:=f.size;let nj:x.dP.take (a+1)=x.dP.take a++[y]:=by rw[aX,g2];rfl
    refine⟨I,sm r F f,v-1,X,a+1,N0,X,X,?_,ii r f,X⟩;rw[nj,F2,we,we,bq,<-bp,gD];exact h5
   have b:=aQ b;have d:a=WS x.dP:=X
   subst d;rw[bm (bc _),<-fA]at s
   grind
  .obtain⟨b,a,s⟩:=t;let r:PA xs n x.k x.s=aL:=by
    unfold PA
    grind
   refine(rf b 23 x.a r).mono ?_;rintro _ w ⟨rfl,f,d⟩;have:=d.size;exact⟨I,sm a s d,f,ii a d,X⟩
  .have a:PA xs n x.k x.s=aE:=by
    unfold PA
    grind
   rw[a];exact t
  .simp_all
  .have hk:x.k=3:=Wq
   let⟨a,d,f⟩:=q;refine(acP a h _).mono ?_;rintro _ u ⟨rfl,b⟩;obtain rfl:M=u:=b.symm;exact⟨_,I,Zm _ _,Mh,a,d,f⟩
  .simp_all
  let hk:x.k=2:=Wq
  refine(unM l g).mono ?_;rintro _ u ⟨rfl,a⟩;obtain rfl:e=u:=a.symm;exact⟨_,I,Zm _ _,by rw[hk,j];rfl,p⟩
theorem E3(p:∀k,G k->k≠b)(h:WS vars<=8388608)(t:WS xs<=1000){l}{ud}(x:Lk f w b F vs vars nc sl xs)(g:lq aL (wI aL) 9 201 w G l ud)(B:lP ud<=8388608):
  az aq 151 #[ae (aM ⟨b,0,VM⟩),l.v] w λe w'=>e=ak (ai #[])/\Lk (j5 f<|mD xs (vars.map λv=>v.n) ud) w' b F vs vars nc sl xs/\ay [b] w w':=by
 generalize m:(vars.map λv=>v.n)=n;refine ret<|arR ?_;have:=g.1.len;have:=iz ud;let kp:∀{u:av},ay [b] w u->aA (wI aL) 9 u G l ud:=λq=>ZH (dU aL) Z g.1 q A;let St:Ft->av->Prop:=λf u=>Lk f u b F vs vars nc sl xs/\ay [b] w u
 refine⟨λa i u=>∃j:Nat,i=(j:Int)/\a+j=WS ud/\j<=WS ud/\St (j5 f<|mD xs n<|ud.take j) u,WS ud,⟨0,I,X,X,P9,qE _ _⟩,?_⟩;rintro a i u ⟨j,rfl,C,z,c⟩;refine⟨λo=>?_,λo=>?_⟩
 .have o:=S o;obtain⟨y,e⟩:∃y,ud[j]? =aM y:=⟨_,aR X⟩
  have V:=ve<|be e;unfold LV at V;let F:mD xs n (ud.take<|j+1)=mD xs n (ud.take j)++(bad (JW (y.k≠1)||JW (y.n∈n)) 23 y.a++XU xs n y.x):=by
   rw[aX,e];unfold mD;rw[kj];simp[SD]
  let at_:∀{v:av},ay [b] w v->∃ad s,ci l (j:Int) 9 ad/\aB v (ad.add 0) [O U y.k]/\aB v (ad.add 1) [ab (T y.n)]/\aB v (ad.add 2) (qS y.x.k y.x.n y.x.s y.x.op s y.x.a)/\aB v (ad.add 8) [O U y.a]/\rE aL v G y.x (qS y.x.k y.x.n y.x.s y.x.op s y.x.a):=fun{v} h=>by
   let⟨ad,y',y,r,b,q3,G,d,w⟩:=(kp h).get (bf j) X;rw[aV,e]at b;injection b with b;subst b;obtain⟨T,rfl,f⟩:=w;obtain⟨s,rfl⟩:=fK f;exact⟨ad,s,r,d.dv 0 _ I,d.dv 1 _ I,d.part 2 λi v l=>cV l,d.dv 8 _ I,f⟩
  let⟨ad,s,E,J,K,W,Y,g6⟩:=at_ c.2;refine⟨λr v=>r=(JW (y.k≠1)||JW (y.n∈n))/\St (j5 f<|mD xs n<|ud.take j) v,λP N ⟨Q,k⟩=>⟨St<|j5 f<|mD xs n (ud.take j)++bad (JW (y.k≠1)||JW (y.n∈n)) 23 y.a,λw2 D=>?_,λM=>?_,λM=>?_⟩,ad,E,_,J,λhk=>⟨?_,c⟩,λhk=>⟨ad,E,_,K,(unM c.1 h).mono ?_⟩⟩
  .obtain⟨y,w,r,G,T,s,p5,d,v⟩:=at_ D.2;have b:=GV p h t d D.1 v X;rw[m]at b;refine⟨y,r,_,_,_,_,_,_,s,b.mono ?_⟩;rintro _ w3 ⟨rfl,l,f⟩;refine⟨I,a-1,X,j+1,N0,X,X,?_,ii D.2 f⟩;rw[F,<-bp,gD];exact l
  .obtain⟨v,s,l,w,G,T,r,p6⟩:=at_ k.2;let f:(JW (y.k≠1)||JW (y.n∈n))=aL:=R
   refine⟨v,l,_,r,(rf k.1 23 _ f).mono ?_⟩;rintro _ w4 ⟨rfl,b,d⟩;refine⟨I,?_,ii k.2 d⟩;rw[gD];exact b
  .have b:(JW (y.k≠1)||JW (y.n∈n))=aE:=R
   rw[b];show St (j5 f<|_++[]) N;simp_all
  .simp_all
  simp_all
 grind
end
section
variable{f:Ft}{w w':av}{b:Nat}{F G:h}{vs sl:Sl}{vars:J Vr}{nc:aI}{xs:J dz}
theorem ag0(F:Fo xs){a b}(c:qW xs a)(d:qW xs b):∃(m:Nat) (x:dz),DA xs a b=m/\xs[m]? =aM x:=by
 rcases u9 (xs:=xs) a b (WS xs) with⟨_,h⟩|⟨m,e,f,_⟩
 .have b:=h 0 F.ne;let⟨x,a⟩:=eW (xs:=xs) (i:=0) F.ne;have:=(F.rt x a).2.2;let⟨e,j⟩:=c;let⟨g,k⟩:=d;rw[yX a e,yX a g,bO X,bO X]at b;cases b
 let⟨x,a⟩:=eW (xs:=xs) f;exact⟨m,x,e,a⟩
def aep(r:Fo xs)(v:WS xs<=64){C:Sl}{g:J (L)}(h:Lk f w b F vs vars nc sl xs)(H:aA oK 1 w G C g)(W:WS g<=1100000):
  az aq 153 #[ae (aM ⟨b,0,VM⟩),C.v] w λe w'=>e=ak (aj<|Ny xs [] g)/\ay [] w w':=by
 refine ret<|arT ?_;rw[LA];have:=H.len;let T:∀{u:av},ay [] w u->aA oK 1 u G C g:=λa=>ZH dI Z H a N;let m:∀{u:av},ay [] w u->aA nS 5 u F sl xs:=λa=>(h.only a).sp;refine⟨λB q A u=>∃(j:Nat) (i:J Int),A= ↑j/\B+j=WS g/\j<=WS g/\WS i=j/\(∀n∈i,qW xs n)/\dc w.heap.size u q i/\Ny xs [] g=Ny xs i (g.drop j)/\ay [] w u,WS g,⟨0,[],I,X,X,I,R,E7 ..,I,qE _ _⟩,?_⟩;rintro B q _ w0 ⟨j,i,rfl,Y,V,P,l,K,o,a⟩;refine⟨λd c D=>?_,λd=>⟨?_,a⟩⟩
 .have d:=S d;let f:=a.bG D;let⟨ad,s,cs,g1,G,g3,g4,g5,g6⟩:=(T f).get (bf j) X;have g6:cs=[ab _]:=g6;subst g6;rw[aV]at G;let am:g.drop j=s::g.drop (j+1):=by
   let⟨bJ,e⟩:=aZ.1 G;rw[<-e,Ef]
  rw[am,Gc]at o;refine⟨sl,(h.only f).row,ad,g1,_,g5,(wv (m f) s).mono ?_⟩;rintro _ u ⟨rfl,hu⟩;obtain rfl:c=u:=hu.symm;refine⟨_,I,λF=>⟨?_,f⟩,λF=>?_⟩
  .rw[o,E<|S F]
  have F:=aQ F;rw[Q F]at o;let D9:=TS r F;obtain⟨e,_⟩|⟨p,x,e,hx,_⟩:=jf xs s
  .omega
  let⟨aC,a1,a2,a3,_⟩:=gK (m f) hx;let aS:dc w.heap.size c q i:=K.kp D;let eN:DY xs s=if fh x.k=aE then x.pa else ↑p:=by
   rw[DY,e,fz hx,lz hx]
  rw[e]at F⊢;refine⟨sl,(h.only f).row,aC,a1,_,a2.dv 0 _ I,(ES c x.k).mono ?_⟩;rintro _ u ⟨rfl,hu⟩;obtain rfl:c=u:=hu.symm;refine⟨_,I,λi3 u=>i3=DY xs s/\c=u,λi3 w4 ⟨h3,aT⟩=>?_,λhh=>⟨sl,(h.only f).row,aC,a1,_,a3,?_,I⟩,λhh=>⟨?_,I⟩⟩
  .subst aT h3;refine⟨λrM A u=>∃t:Nat,A= ↑t/\rM+t=WS i/\t<=WS i/\((i.take t).any λbV=>!Py xs (DY xs s) bV)=aL/\ay [] c u,WS i,⟨0,I,X,bE _,I,qE _ _⟩,?_⟩;rintro rM _ w5 ⟨t,rfl,Ea,ht,e,dV⟩;have:=aS.len;let o5:=f.bG dV;let p:dc w.heap.size w5 q i:=aS.kp dV;refine⟨λx w6 dr=>?_,λx=>?_⟩
   .have x:=S x;let o6:=o5.bG dr;let cc:dc w.heap.size w6 q i:=p.kp dr;obtain⟨y,hy⟩:∃y,i[t]? =aM y:=⟨_,aR X⟩
    let n:=l y<|be hy;let⟨vJ,b1,b2⟩:=K9 (at9 cc) hy;let⟨y4,w7,k1,k2,k3⟩:=atv w6 (CH D9 v)<|CH n v;refine⟨λk=>k=b,I,sl,(h.only o6).row,vJ,b1,y,b2,y4,w7,k1,ZX k2,(agN (m<|o6.bG k2) r X k3 D9 n).mono ?_⟩;rintro _ w8 ⟨rfl,fD⟩;let o8:=(o6.bG k2).bG fD;let⟨Hk,c1,c2⟩:=K9 (at9<|(cc.kp k2).kp fD) hy;let⟨ce,z,em,ff⟩:=ag0 r D9 n;let⟨co,d1,d2,_⟩:=gK (m o8) ff;let bY:(!Py xs (DY xs s) y)=((ce==DY xs s|| ↑ce==y)||z.k !=2):=by
     unfold Py;rw[em,fz ff,bM];by_cases q: ↑ce=DY xs s<;>by_cases b: ↑ce=y<;>by_cases q3:z.k=2<;>simp[q,b,q3]
    rw[em];refine⟨_,I,ZX fD,Hk,λ_=>c1,_,λ_=>c2,sl,λ_=>(h.only o8).row,co,λ_=>d1,_,λ_=>d2.dv 0 _ I,λhq=>⟨?_,o8⟩,λhq=>⟨rM-1,X,t+1,N0,X,X,?_,(dV.bG dr).bG<|k2.bG fD⟩⟩
    .rw[o,E];exact gW.2 ⟨y,be hy,bY.trans hq⟩
    rw[aX,hy,xa,e,Mb];simp only[Option.toList,List.any_cons,List.any_nil,Bool.or_false];exact bY.trans hq
   let x:=aQ x;rw[bm X]at e;rw[Q (by rw[e];decide)]at o;let⟨z,y,q,k3,t,k,g1,G,g3,_⟩:=I5 w p o5 _ (CH D9 v) X;refine⟨z,y,q,t,k,g1,B-1,X,j+1,i++[DY xs s],N0,X,X,by rw[aU,bI,P],λn b=>?_,G,o,g3⟩;rcases cZ.1 b with b|b
   .exact l n b
   simp[bh]at b;subst b;exact D9
  .rw[eN,E hh]
  rw[eN,Q SM]
 let d:=aQ d;rw[fF X]at o;rw[o];rfl
end
def Wy(k:Int)(n:Nat)(i:L)(g:C):C:=JW (k=2/\(i≠[]∨n<2))||JW (k=1/\0<n/\g=aL)||JW (k=1/\n=0/\i≠[])
def RM n i g:Wy 2 n i g=aE↔i≠[]∨n<2:=by unfold Wy;simp
def UY n i g:Wy 1 n i g=aE↔(0<n/\g=aL)∨(n=0/\i≠[]):=by unfold Wy;simp
def aui{xs}{b}{l}{n} f (hk:1<=b.k/\b.k<=4) (hh:fh b.k=aL):j5 f (vE xs b l n)=if Wy b.k (DZ l) b.ini (wP b.ini l)=aE then j5 f [(25,b.a)]else if b.k=1/\DZ l=0/\WS l≠0 then j5 f [(26,b.a)]else f:=by
 let e:¬_:=λh=>by unfold fh at hh;rw[bO h]at hh;cases hh
 unfold vE;rw[Q SM];rcases(by omega:b.k=2∨b.k=1)with a|d
 .rw[E a,a];by_cases c:b.ini≠[]∨DZ l<2
  .have:(JW (b.ini=[])&&JW (1<DZ l))=aL:=by
    grind
   rw[E ((RM ..).2 c),this];rfl
  have:(JW (b.ini=[])&&JW (1<DZ l))=aE:=by
   grind
  rw[Q (λh=>c<|(RM ..).1 h),Q<|λh=>absurd h.1 Z,this];rfl
 rw[Q X,d];by_cases s:0<DZ l
 .rw[E s];cases g:wP b.ini l
  .rw[E ((UY ..).2 R)];rfl
  rw[Q (λh=>((UY ..).1 h).elim R X),Q<|λh=>X];rfl
 rw[Q s];let c:DZ l=0:=X
 by_cases i:b.ini=[]
 .rw[Q (λh=>((UY ..).1 h).elim X λh=>h.2 i),bO i];by_cases b:WS l=0
  .rw[Q (λh=>h.2.2 b),bO b];rfl
  rw[E ⟨I,c,b⟩,bR b];rfl
 rw[E ((UY ..).2 R),bR i,gD];show j5 (j5 f [_]) _=_;refine F0 ?_ _;rw[show j5 f [_]=if f.1=0 then _ else f from rfl]
 grind
section
variable{f:Ft}{w w':av}{b:Nat}{F G:h}{vs sl:Sl}{vars:J Vr}{nc:aI}{xs:J dz}
def acb(hG:∀k,G k->k≠b)(Y:Fo xs)(hv:WS vars<=8388608)(hm:WS xs<=64){V:Nat}{c:Nb}{s:J Nd}{cs:aI}(aC:Lk f w b F vs vars nc sl xs)(hx:pq aL (V+1) w G (.mk c s) cs){a:Nat}(ha:a<WS xs)(M:ml (.mk c s)<=1048576){dp:Nat}(kq:jZ dp (.mk c s)=aE):
  az aq 106 #[ae (aM ⟨b,0,VM⟩),ah cs.toArray,O U (a:Int)] w λe w'=>e=ak (ai #[])/\Lk (j5 f<|vE xs c s a++(mD xs (vars.map λv=>v.n) (c.en++c.lv)++c.mv.flatMap (Ez xs<|vars.map λv=>v.n))) w' b F vs vars nc sl xs/\ay [b] w w':=by
 have Cb:1<=c.k/\c.k<=4:=by
  rw[jZ,aO,aO]at kq;have i:=kq.1.2;unfold qH at i;rw[aO]at i;have i:=i.2;split at i
  .rename_i a;unfold fh at a;have:=S a;omega
  simp only[aO]at i;have:=(S i.1.1.1.1).1;omega
 have k8:∀P∈c.mv,P.k=3->0<=P.wt:=λP H hk=>by
  rw[jZ,aO,aO]at kq;have i:=kq.1.2;unfold qH at i;rw[aO]at i;have i:=i.2;split at i
  .simp only[aO]at i;have:=(S i.2).2.2.2.1;rw[mY.1 this]at H;simp at H
  rw[aO]at i;have:=gv.1 i.2 P H;unfold nq at this;rw[aO]at this;have:=S this.2;omega
 let⟨en,lv,mv,kids,jc,⟨he,bJ,pE⟩,fH⟩:=hx;dsimp only[Nd.kids,Nd.b]at jc he bJ pE fH;subst jc;have hk:=fH.1;rw[ml]at M;unfold yK at M;have aS:=qK s;have i:=aC.lb;generalize nj:(vars.map λv=>v.n)=m;let aT:J Ft:=vE xs c s a
 refine ret<|arr ?_;intro k0 w0 dC xp bT;have z0:=bT.size;let St:Ft->av->Prop:=λf u=>Lk f u b F vs vars nc sl xs/\ay [b] w u/\w0.heap.size<=u.heap.size
 have s0:St f w0:=⟨aC.only bT,only1 bT,bc _⟩
 have sm:∀{g:Ft} {u d:av},St g u->ay [b] u d->bX [k0] u d:=λhs hO=>hO.same (by have:=hs.2.2;simp;omega);have VJ:∀{g:Ft} {u d:av},St g u->ay [] u d->St g d:=fun{g u d} hs hO=>⟨hs.1.only hO,ii hs.2.1<|only1 hO,Du⟩
 have IU:∀{g B:Ft} {u d:av},St g u->Lk B d b F vs vars nc sl xs->ay [b] u d->St B d:=fun{g B u d} hs D hO=>⟨D,ii hs.2.1 hO,Du⟩
 have lN:∀(e W:Int) {g:Ft} {u:av},St g u->az aq 64 #[ae (aM ⟨b,0,VM⟩),O U e,O U W] u λr d=>r=ak (ai #[])/\bX [k0] u d/\St (j5 g [(e,W)]) d:=λe W {g u} hs=>(vp hs.1 e W).mono (by
  rintro _ d ⟨rfl,D,hO⟩;exact⟨I,sm hs hO,IU hs D hO⟩)
 have x:∀(k:Int) {u:av},az aq 77 #[O U k] u λr d=>∃b':C,r=ak (aj b')/\u=d/\b'=fh k:=λk {u}=>(ES u k).mono (by
  rintro _ d ⟨rfl,a⟩;exact⟨_,I,a.symm,I⟩)
 have kA:∀{u:av} {q:Sl} {o:J Ac},lq aL (wI aL) 9 201 w G q o->∀{g:Ft},St g u->lq aL (wI aL) 9 201 u G q o:=fun{u q o} h {g} hs=>h.keep (dU aL) Z λk hk L=>hs.2.1.block k L T5;have vw:∀{g:Ft} {u:av},St g u->aA (pq aL V) 9 u G kids s:=λhs=>ZH (cq aL V) Z hk hs.2.1 A;have RW:=hk.len;refine⟨λN i0 b0 am u=>∃j:Nat,am=(j:Int)/\N+j=WS s/\j<=WS s/\i0=(DZ (s.take j):Nat)/\b0=wP c.ini (s.take j)/\St f u,WS s,⟨0,I,X,bE _,I,I,s0⟩,?_⟩;rintro N _ _ _ w1 ⟨j,rfl,me,hj,rfl,rfl,K⟩;refine⟨λR=>?_,λR=>(x c.k).mono ?_⟩
 .have R:=S R;obtain⟨y,l⟩:∃y,s[j]? =aM y:=⟨_,aR<|show j<(WS s) by omega⟩
  have at_:∀{g:Ft} {u:av},St g u->∃(ad:Addr),ci kids (j:Int) 9 ad/\aB u (ad.add 0) [O U y.b.k]/\aB u (ad.add 1) [ab (T y.b.nm)]:=fun{g u} hs=>by
   let⟨ad,F,f,k,a,r,y,g,e⟩:=(vw hs).get (bf j) X;rw[aV,l]at a;injection a with a;subst a;cases V with
   |zero=>exact e.elim
   |succ G=>
    obtain⟨wA,wC,rT,T,rfl,_⟩:=e;exact⟨ad,k,g.dv 0 _ I,g.dv 1 _ I⟩
  have t:=Gf l;have v:=eg<|s.take j;rw[dj]at v;have b:wP c.ini (s.take<|j+1)=(wP c.ini (s.take j)||JW (y.b.nm=c.ini)):=by
   unfold wP;rw[aX,l,xa];simp
  let⟨ad,k,a,r⟩:=at_ K;refine⟨ad,k,_,a,(x y.b.k).mono ?_⟩;rintro _ u ⟨w,rfl,rfl,rfl⟩;refine⟨_,I,Zm _ _,λn u=>n=(DZ (s.take<|j+1):Nat)/\St f u,λn z ⟨q,p⟩=>?_,λhn=>⟨?_,K⟩,λhn=>⟨?_,K⟩⟩
  .obtain⟨e,g,F,y⟩:=at_ p;exact⟨e,λ_=>g,_,λ_=>y,λG f=>⟨N-1,X,j+1,N0,X,X,q,by rw[b,jC],VJ p f⟩⟩
  .rw[eI X X,t,Q<|by intro e;rw[e]at hn;cases hn];rfl
  rw[t,E ZP];rfl
 have R:=aQ R;have oc:j=WS s:=X
 subst oc;rw[bm (bc _)];rintro _ u ⟨b2,rfl,rfl,v⟩;have sI:∀{q:Sl} {o:J Ac},lq aL (wI aL) 9 201 w G q o->lP o<=8388608->∀{g:Ft} {u:av},St g u->az aq 151 #[ae (aM ⟨b,0,VM⟩),q.v] u λr d=>r=ak (ai #[])/\ay [b] u d/\St (j5 g<|mD xs m o) d:=fun{q o} h T {g u} hs=>(E3 hG hv X hs.1 (kA h hs) T).mono (by
  rw[nj];rintro _ d ⟨rfl,D,hO⟩;exact⟨I,hO,IU hs D hO⟩)
 refine⟨b2,I,Zm _ _,St<|j5 f<|vE xs c s a,λw6 s6=>?_,?_,?_⟩
 .refine(sI he X s6).mono ?_;rintro _ w7 ⟨rfl,fu,n⟩;refine⟨I,sm s6 fu,(sI bJ X n).mono ?_⟩;rintro _ w8 ⟨rfl,G,p⟩;have z:j5 (j5 (j5 f<|vE xs c s a)<|mD xs m c.en) (mD xs m c.lv)=j5 f (vE xs c s a++mD xs m (c.en++c.lv)):=by
   rw[<-gD,<-gD];unfold mD;rw[kj]
  rw[z]at p;have Dk:=pE.1.len;have bv:=nE c.mv;refine⟨I,sm n G,λN am u=>∃j:Nat,am=(j:Int)/\N+j=WS c.mv/\j<=WS c.mv/\St (j5 f<|vE xs c s a++(mD xs m (c.en++c.lv)++(c.mv.take j).flatMap (Ez xs m))) u,WS c.mv,⟨0,I,X,bE _,by rw[cr,Dm,bq];exact p⟩,?_⟩;rintro q _ w ⟨t,rfl,r,ht,l⟩;refine⟨λe=>?_,λe=>?_⟩
  .have e:=S e;let⟨ad,y,ds,g1,g2,g3,g4,g5,g6⟩:=(ZH (nX aL) Z pE.1 l.2.1 A).get (bf t) X;rw[aV]at g2;have wL:=be g2;have VB:=oP wL;have dO:=k8 y wL;unfold He at VB;obtain⟨gc,uv,tg,rfl,hg,AI,ob⟩:=g6;obtain⟨gs,rfl⟩:=fK hg;have B1:=wh y.tg;have e9:j5 f (vE xs c s a++(mD xs m (c.en++c.lv)++(c.mv.take<|t+1).flatMap (Ez xs m)))=j5 (j5 (j5 (j5 (j5 f<|vE xs c s a++(mD xs m (c.en++c.lv)++(c.mv.take t).flatMap (Ez xs m)))<|bad (NA y) 28 y.a)<|XU xs m y.g)<|mD xs m y.acts) (bad (Ny xs [] y.tg) 27 y.a):=by
    rw[aX,g2,kj];simp only[Option.toList,tF,Dm,bq,Ez,gD]
   refine⟨λu=>St (j5 f<|vE xs c s a++_) u,λdh I8=>⟨q-1,X,t+1,N0,X,X,I8⟩,ad,g1,_,_,_,_,_,_,_,_,_,_,_,_,_,g5,λk7 dE cC co dJ=>?_⟩;rw[e9];generalize j5 f (vE xs c s a++(mD xs m (c.en++c.lv)++(c.mv.take t).flatMap (Ez xs m)))=f9 at*
   have z9:=l.2.2;have ce:k7≠b:=by have:=l.1.lb;omega
   have bV:∀{u d:av},dE.heap.size<=u.heap.size->ay [b] u d->bX [k0,k7] u d:=λT hO=>hO.same (by have:=dJ.size;simp;omega);have bY:ay [b] w dE:=only1 dJ;have I9:=VJ l dJ;let⟨dg,cc⟩:=hg;let qj:Ft->av->Prop:=λg u=>St g u/\ay [b] w u/\dE.heap.size<=u.heap.size
   have up:∀{g B:Ft} {u d:av},qj g u->Lk B d b F vs vars nc sl xs->ay [b] u d->qj B d:=fun{g B u d} hs D hO=>⟨IU hs.1 D hO,ii hs.2.1 hO,Du⟩
   refine⟨qj<|j5 f9<|bad (NA y) 28 y.a,λey O5=>?_,λhw=>?_,λhw=>?_⟩
   .refine(GV hG hv X dg O5.1.1 ((mz aL dg).keep cc λk hk L=>O5.2.1.block k L T5) X).mono ?_;rw[nj];rintro _ ff ⟨rfl,xq,F⟩;have b:=up O5 xq F;refine⟨I,bV O5.2.2 F,(E3 hG hv X xq (AI.keep (dU aL) Z λk hk L=>b.2.1.block k L T5) X).mono ?_⟩;rw[nj];rintro _ fS ⟨rfl,g,dQ⟩;have f:=up b g dQ;refine⟨I,bV b.2.2 dQ,(aep Y hm g (ZH dI Z ob.1 f.2.1 A) X).mono ?_⟩;rintro _ gz ⟨rfl,t⟩;have a:=up f (g.only t)<|only1 t;refine⟨_,I,bV f.2.2<|only1 t,λh=>(vp a.1.1 27 _).mono ?_,λh=>?_⟩
    .rintro _ iA ⟨rfl,k,iE⟩;rw[show Ny xs [] y.tg=aL by simpa using h];exact⟨I,bV a.2.2 iE,(up a k iE).1⟩
    rw[show Ny xs [] y.tg=aE by simpa using h];exact a.1
   .refine(vp I9.1 28 _).mono ?_;rintro _ f ⟨rfl,b,a⟩;have:NA y=aL:=by
     unfold NA;simp at hw⊢;omega
    rw[this];exact⟨I,bV (bc _) a,up ⟨I9,bY,bc _⟩ b a⟩
   have:NA y=aE:=by
    unfold NA;simp at hw⊢;omega
   rw[this];exact⟨I9,bY,bc _⟩
  have e:=aQ e;rw[bm X]at l;exact⟨I,l.1,l.2.1⟩
 .intro hh iW jO;have w:fh c.k=aE:=by rw[<-v];exact hh
  have l:=VJ K jO;refine⟨sl,l.1.row,(wv l.1.sp c.dft).mono ?_⟩;rintro _ u ⟨rfl,F⟩;obtain rfl:iW=u:=F.symm;refine⟨_,I,Zm _ _,λje iL=>have k:=VJ l iL;let⟨y,r⟩:=eW ha;let⟨ad,a1,_,a3,_⟩:=gK k.1.sp r;⟨sl,k.1.row,sl,k.1.row,ad,a1,_,a3,(GD k.1.sp _ _).mono ?_⟩⟩;rintro _ u ⟨rfl,F⟩;obtain rfl:je=u:=F.symm;have Jc:y.pa<WS xs:=by
   by_cases e:a=0
   .subst e;have:=(Y.rt y r).1;omega
   let⟨p,t,z,f,q,_⟩:=Y.pa a y X r;have:=fG f;omega
  rw[kE Y _ _ Jc];have G:vE xs c s a=bad (LU xs c.dft&&oO xs (gr xs c.dft) y.pa) 26 c.a:=by unfold vE;rw[E w,lz r]
  refine⟨_,I,Zm _ _,λb6 u=>b6=(!(LU xs c.dft&&oO xs (gr xs c.dft) y.pa))/\St f u,λb6 nK ⟨g,n⟩=>⟨λh=>(lN 26 c.a n).mono ?_,λh=>?_⟩,λb=>⟨?_,k⟩,λb=>?_⟩
  .rintro _ u ⟨rfl,a,e⟩;rw[G,show(LU xs c.dft&&oO xs (gr xs c.dft) y.pa)=aL by rw[h]at g;exact(dS _).mp g.symm];exact⟨I,a,e⟩
  .rw[G,show(LU xs c.dft&&oO xs (gr xs c.dft) y.pa)=aE by rw[h]at g;exact(jo _).mp g.symm];exact n
  .unfold LU;rw[cj]at b;rcases b with b|b
   .rw[bR (by have:=S b;omega:¬0<=gr xs c.dft)];simp[b]
   rw[show oO xs (gr xs c.dft) y.pa=aL by simpa using b];simp
  rw[eH]at b;have p:=aQ b.1;have f:=by simpa using b.2
  rcases jf xs c.dft with⟨e,_⟩|⟨q,z,e,a,_⟩
  .omega
  let⟨y,q,t,_⟩:=gK k.1.sp a;rw[e];refine⟨sl,k.1.row,y,q,_,t.dv 0 _ I,(x z.k).mono ?_⟩;rintro _ u ⟨b7,rfl,rfl,rfl⟩;refine⟨_,I,Zm _ _,?_,k⟩;rw[<-e,f];unfold LU;rw[e,fz a,bO X];simp
 intro G;have t:fh c.k=aL:=by rw[<-v];exact G
 have F:(kids.n:Int)=WS s:=X
 have r:=aui (xs:=xs) (l:=s) (n:=a) f Cb t;have w:=jC c.ini [];refine⟨λz u=>z=Wy c.k (DZ s) c.ini (wP c.ini s)/\St f u,λz lS ⟨b,p⟩=>⟨λh=>(lN 25 c.a p).mono ?_,λq=>⟨λh=>(lN 26 c.a p).mono ?_,λh=>?_⟩⟩,λk=>⟨?_,K⟩,λk=>⟨λy=>⟨?_,K⟩,λy=>⟨?_,K⟩⟩⟩
 .rintro _ u ⟨rfl,a,e⟩;rw[r,E<|by rw[<-b];exact h];exact⟨I,a,e⟩
 .rintro _ u ⟨rfl,a,e⟩;rw[aO,aO,dw,dw,dx]at h;rw[r,Q<|by rw[<-b,q];decide,E ⟨h.1.1,X,X⟩];exact⟨I,a,e⟩
 .rw[r,Q<|by rw[<-b,q];decide,Q]
  .exact p
  rintro⟨a,f,g⟩;have e:((c.k==1&&((DZ s:Nat):Int)==0)&&JW ((kids.n:Int)>0))=aE:=by
   rw[aO,aO,dw,dw,dx];exact⟨⟨a,X⟩,X⟩
  rw[e]at h;cases h
 .rw[w]at k⊢;unfold Wy;rw[bM];revert k;generalize wP c.ini s=g;by_cases a:c.ini=[]<;>cases g<;>simp[a]<;>omega
 .rw[w]at k;unfold Wy;rw[bM];revert k y;generalize wP c.ini s=g;by_cases a:c.ini=[]<;>cases g<;>simp[a]<;>omega
 rw[w]at k⊢;unfold Wy;rw[bM];revert k y;generalize wP c.ini s=g;by_cases a:c.ini=[]<;>cases g<;>simp[a]<;>omega
end
def vH:∀{l:J Nd} {d:Nat} {y:Nd},iR d l=aE->y∈l->jZ d y=aE
 |[],_,_,_,h=>YI
 |x::l,d,y,h,a=>by
  rw[iR,aO]at h;rcases ba.1 a with rfl|a
  .exact h.1
  exact vH h.2 a
section
variable{b:Nat}{F G:h}{vs sl:Sl}{vars:J Vr}{nc:aI}{xs:J dz}
theorem vv(g:∀k,G k->k≠b)(h:Fo xs)(i:WS vars<=8388608)(m:WS xs<=64):∀(D:Nat) {f:Ft} {w:av} {x:Nd} {c:aI} {a d:Nat},Lk f w b F vs vars nc sl xs->pq aL D w G x c->ml x<=1048576->a+iI x<=(WS xs)->jZ d x=aE->
  az aq 65 #[ae (aM ⟨b,0,VM⟩),ah c.toArray,O U (a:Int)] w λe j=>e=ak (O U ((a+iI x:Nat):Int))/\Lk (j5 f<|QJ xs (vars.map λv=>v.n) a x) j b F vs vars nc sl xs/\ay [b] w j
 |0,_,_,_,_,_,_,_,a,_,_,_=>a.elim
 |D+1,f,w,.mk p s,c,a,d,B,C,E,ha,J=>by
  have Q:=C;let⟨en,lv,mv,kids,G,_,H⟩:=C;dsimp only[Nd.kids,Nd.b]at G H;subst G;have hk:=H.1;have RW:=hk.len;have Y:=E;rw[ml]at Y;have am:=qK s;have hb:=B.lb;rw[iI]at ha⊢;have x:=J;rw[jZ,aO]at x;refine ret<|aq8 ?_;intro k0 w0 dC ff T;have z0:=T.size;refine(acb g h i m (B.only T) ((cq aL _).keep Q λk _ V=>T.block k V N) (a:=a) X E J).mono ?_;rw[QJ];generalize P:(vars.map λv=>v.n)=n at*
  generalize aeJ:vE xs p s a++(mD xs n (p.en++p.lv)++p.mv.flatMap (Ez xs n))=z;have L:∀M,vE xs p s a++(mD xs n (p.en++p.lv)++(p.mv.flatMap (Ez xs n)++M))=z++M:=R
  rw[L];rintro _ w1 ⟨rfl,W,q⟩;have z1:=q.size;have o1:ay [b] w w1:=ii (only1 T) q;refine⟨I,q.same o,λt aC i2 u=>∃l:Nat,i2=(l:Int)/\t+l=WS s/\l<=WS s/\aC=((a+1+dY (s.take l):Nat):Int)/\Lk (j5 f<|z++qX xs n (a+1) (s.take l)) u b F vs vars nc sl xs/\ay [b] w u/\w0.heap.size<=u.heap.size,WS s,⟨0,I,X,bE _,by rw[cr,dY,eI X X];rfl,by rw[cr,qX,bq];exact W,o1,X⟩,?_⟩;rintro t _ _ w2 ⟨l,rfl,me,hj,rfl,h2,K,z2⟩;refine⟨λr=>?_,λr=>?_⟩
  .have r:=S r;let⟨ad,y,ds,g1,f,g3,g4,g5,k⟩:=(ZH (cq aL D) Z hk K A).get (bf l) X;rw[aV]at f;have v:=be f;have aS:=qJ v;have lG:=mQ f;have F:=k;obtain⟨b,rfl⟩:∃b,D=b+1:=by
    cases D with
    |zero=>exact k.elim
    |succ b=>exact⟨b,I⟩
   obtain⟨wA,wC,rT,ji,rfl,_⟩:=k;have DR:=vv g h i m (b+1) (a:=a+1+dY (s.take l)) h2 F X X<|vH x.2 v;rw[P]at DR;refine⟨ad,g1,_,_,_,_,wA,wC,rT,ji,_,g5,DR.mono ?_⟩;rintro _ w3 ⟨rfl,h3,cN⟩;have z3:=cN.size;have e:dY (s.take<|l+1)=dY (s.take l)+iI y:=by
    rw[aX,f,Bg];rfl
   have e2:qX xs n (a+1) (s.take<|l+1)=qX xs n (a+1) (s.take l)++QJ xs n (a+1+dY (s.take l)) y:=by
    rw[aX,f,F3];show _++qX xs n _ [y]=_;rw[qX,qX,bq]
   refine⟨_,I,cN.same o,t-1,X,l+1,N0,X,X,X,?_,ii K cN,X⟩;rw[e2,<-bp,gD];exact h3
  grind
end
abbrev OT:Rp Int:=λ_ _ (x:Int) c=>c=[Value.int U x]
def BU:Rp.Ok OT:=⟨λh _=>h,λh=>h,λh _=>h,λh=>by
 subst h;intro v a;simp only[ba,cy,fQ]at a;subst a;rfl⟩
abbrev W3(B:Nat)(w:av)(s:Sl)(i:J Int):Prop:=Own OT 1 3 B w (λ_=>False) s i
def RN(t:C):∀(c:Nat) {w:av} {G:h} {x:Nd} {d:aI} {B:Nat} {s:Sl} {is:J Int},pq t c w G x d->(∀k,G k->k<B)->W3 B w s is->B<=w.heap.size->WS is+iI x<=1000000->
  az aq 63 #[ah d.toArray,s.v] w λe a=>∃b,e=ak (Sl.v b)/\W3 B a b (is++(DB x).map λp=>p.2)/\Gr s w b a
 |0,_,_,_,_,_,_,_,e,_,_,_,_=>e.elim
 |c+1,w,G,.mk f g,d,B,s,is,⟨en,lv,mv,kids,W,_,H⟩,Q,hS,aC,hn=>by
  have hk:=H.1;clear H;dsimp only[Nd.kids,Nd.b]at hk W;subst W;rw[iI]at hn;rw[DB];have:=hk.len;have:=qI g;refine(aq6 f.k (T f.nm) (T f.ini) (T f.dft) en lv mv kids f.a s (λv a=>∃b,v=Sl.v b/\W3 B a b (is++(((f.nm,f.a)::AD g).map λp=>p.2))/\Gr s w b a) w ?_).mono A;intro L w0 H dC n;have:=n.size;let E:W3 B w0 s is:=hS.keep BU λk _ bJ=>n.block k bJ N;let⟨y,w2,k1,k3,l,m,g1,g2,⟨gs,u,g4⟩,g5⟩:=iO (P:=aq) (t:=31) (ty:=31) (e:=3) (i:=Tryz.t3) (bytes:=8) (size:=1) (r:=OT) (G:=λ_=>False) (v:=O U f.a) (x:=f.a) D D I I I I Z Z Z BU E X I I R X;have:=k3.size;have:=u.size;have:s.a≠aM ⟨L,0,VM⟩:=λe=>Tg
  let m3:Gr s w l m:=by
   refine⟨(n.bG k3).ph<|u.p (F:=λk=>s.a=aM ⟨k,0,VM⟩) R,λk hk=>?_⟩
   grind
  let n3:∀k,l.a=aM ⟨k,0,VM⟩->k≠L:=R
  have:W3 B m l (is++[f.a]):=by
   assumption
  let kz:∀{am:av} {q:Sl},Gr s w q am->aA (pq t c) 9 am G kids g:=λhm=>Zz (cq t c) Z hk hm.1 λk z _ i=>by
   have:=Q k z;have:=(hS.blk i).1
   grind
  refine⟨y,w2,k1,k3.same o,l,m,g1,u.same R,λM q V a=>∃j:Nat,V=(j:Int)/\M+j=WS g/\j<=WS g/\W3 B a q (is++f.a::(AD<|g.take j).map λp=>p.2)/\Gr s w q a/\m.heap.size<=a.heap.size/\∀k,q.a=aM ⟨k,0,VM⟩->k≠L,WS g,⟨0,I,X,X,P9,m3,X,n3⟩,?_⟩;rintro M q _ w5 ⟨j,rfl,me,lI,ff,Y,z5,n5⟩;refine⟨λK=>?_,λK=>?_⟩
  .have K:=S K;let⟨ad,y,T,v,q,F,P,B,r⟩:=(kz Y).get (bf j) X;rw[aV]at q;let s:=r;obtain⟨p,rfl⟩:∃p,c=p+1:=by
    cases c with
    |zero=>exact r.elim
    |succ p=>exact⟨p,I⟩
   obtain⟨wA,wC,rT,ji,rfl,_⟩:=s;have:=mQ q;refine⟨ad,v,_,_,_,_,wA,wC,rT,ji,_,B,(RN t (p+1) r Q ff X<|by rw[aU,aY,bP,Tf];omega).mono ?_⟩;rintro _ w7 ⟨q7,rfl,aT,m7⟩;have:=m7.1.size;refine⟨q7,I,m7.1.same λx hx=>?_,M-1,X,j+1,N0,X,X,?_,Y.trans m7,X,λk hk e=>?_⟩
   .grind
   .have e:AD (g.take<|j+1)=AD (g.take j)++DB y:=by
     rw[aX,q,Kw];show _++AD [y]=_;rw[AD,AD,bq]
    simp_all
   subst e;rcases m7.2 _ hk with i|i
   .exact n5 _ i I
   omega
  grind
def aei f ok {e a} (h:e≠0):j5 (j5 f<|bad ok e a) [(e,a)]=j5 f [(e,a)]:=by
 cases ok
 .show j5 (j5 f [_]) [_]=_;refine F0 ?_ _;rw[show j5 f [_]=if f.1=0 then _ else f from rfl]
  grind
 rfl
def acM{xs}{s}{j:Nat}(h:s∈(xs.take j).map λx:dz=>x.nm):gr xs s<j:=by
 let e:xs.map (λx:dz=>x.nm)=(xs.take j).map (λx:dz=>x.nm)++(xs.drop j).map λx:dz=>x.nm:=by
  simp_all
 have a:=qx.2 h;rw[bP,dj]at a;unfold gr;rw[e,Kx ((xs.drop j).map λx:dz=>x.nm) h,E X];omega
def pc(c:Ch):Ft:=if(jd c).2≠0 then((jd c).2, -1)else j5 (0,0) (Bj c)
def jh.sl'{B}{w}{s}{xs}(h:jh B w s xs):aA nS 5 w (λk=>B<=k) s xs:=(h.slice cH).mono cH A
def ace{w:av}{F:h}{D:Nat}{c:Ch}{d:Sl}{R:aI}(hx:ChR aL (D+1) w F c d R)(hn:Jd c)(i:oQ c.vars+ml c.root<=1048576):
  az aq 28 #[ah (d.v::R).toArray] w λe w'=>e=ak (ah #[O U (pc c).1,O U (pc c).2])/\ay [] w w':=by
 let⟨n,l,mv,kids,jc,_⟩:=hx.root;subst jc;refine ret (aqJ ?_);intro j m w0 fH dC kZ jl H;have z0:=H.size;have keep:∀{u:av},ay [] w u->ChR aL (D+1) u F c d (uY c.root.b.k c.root.b.nm c.root.b.ini c.root.b.dft n l mv kids c.root.b.a):=λg=>⟨hx.vars.keep fI Z λk _ f=>g.block k f N,(cq aL _).keep hx.root λk _ f=>g.block k f N⟩
 refine(agM (keep H) hn i).mono ?_;rintro _ t ⟨⟨sl,rfl,W,_⟩,K⟩;have z1:=K.size;have V:=H.bG K;refine⟨sl,_,I,K.same o,λhc w2 Y=>⟨?_,?_⟩,λhc b C yq uu P=>?_⟩
 .have hc:(jd c).2≠0:=WH
  unfold pc;rw[E hc]
 .exact(V.ph (Y.p (F:=λk=>w.heap.size<=k) λx hx=>by simp only[bh]at hx;exact .inl X)).only λk hk=>hk
 have hc:(jd c).2=0:=WH
 have zb:=W hc;have gT:=C0 hc;have kq:=CZ hc;unfold rH at kq;simp at kq;have el:pc c=j5 (0,0) (Bj c):=by unfold pc;rw[Q (λaS=>aS hc)]
 rw[el];have z3:=P.size;have o3:=V.bG P;have cc:=
  (cq aL _).keep ((cq aL _).mono ((cq aL _).inHeap hx.root) λk hk=>hk.2) λk _ f=>o3.block k f N
 refine(RN aL (D+1) (B:=C.heap.size) (s:=Sl.nil) (is:=[]) cc (λk hk=>X) (E7 ..) (bc _) Te).mono ?_;rintro _ w4 ⟨l1,rfl,hA,gG⟩;rw[cJ]at hA;have dB:ay [] C w4:=gG.1.only λk hk=>by cases hk
 have z4:=dB.size;have o4:=o3.bG dB;have gE:=Ey c;have g8:WS (cQ c)=iI c.root:=by unfold cQ;rw[lZ]
 have E4:=af1 c.root;have bY:(cQ c).map (λs:dz=>s.nm)=(DB c.root).map λp=>p.1:=Nz 0 (-1) 0 c.root;have g9:=hx.vars.1.len;have Df:=Bq c.vars;let VP:J (L×Int):=c.vars.map λv=>(v.n,v.a)
 have dO:Bj c=wO [] (DB c.root)++(wO [] VP++QJ (cQ c) _ 0 c.root):=I;rw[dO];generalize ip:cQ c=xs at*
 have ce:aA Wd 3 w4 (λk=>k<t.heap.size) d c.vars:=YE fI (WJ fI (PY fI hx.vars.1 Z) Z λk hk f=>o4.block k f N) λk hk=>PW
 have Hj:aA nS 5 w4 _ sl xs:=YE cH (WJ cH (PY cH zb.sl' Z) Z λk hk f=>(P.bG dB).block k f N) λk hk=>hk.2;have Ve:=Hj.len;let ff:aI:=uY c.root.b.k c.root.b.nm c.root.b.ini c.root.b.dft n l mv kids c.root.b.a
 have bV:∀{u:av} {f1 f2:Int},ay [b] w4 u->aF u b 128 (d.v::(ff++[sl.v,O U f1,O U f2]))->Lk (f1,f2) u b (λk=>k<t.heap.size) d c.vars ff sl xs:=fun{u f1 f2} g hB=>
  ⟨hB,I,ZH fI Z ce g λk hk _ hm=>OP,ZH cH Z Hj g λk hk _ hm=>OP,λk hk=>X⟩
 let bJ:Sl->Int->M->M->M->Sl->Sl->Sl->Sl->Int->Sl->Prop:=λl2 i2 s0 s1 s2 l3 l4 l5 l6 i3 l7=>d=l2/\c.root.b.k=i2/\T c.root.b.nm=s0/\T c.root.b.ini=s1/\T c.root.b.dft=s2/\n=l3/\l=l4/\mv=l5/\kids=l6/\c.root.b.a=i3/\sl=l7
 have aC:bJ d c.root.b.k (T c.root.b.nm) (T c.root.b.ini) (T c.root.b.dft) n l mv kids c.root.b.a sl:=⟨I,I,I,I,I,I,I,I,I,I,I⟩
 have co:∀{u u':av},ay [b] w4 u->ay [b] u u'->ay [b] w4 u':=λaS k=>ii aS k;have eQ:∀{u:av},ay [b] w4 u->ay [] w u:=λaS=>(o4.ph (aS.p (F:=λk=>w.heap.size<=k) λx hx=>Tz)).only λk hk=>hk;have sm:∀{u u':av},ay [b] w4 u->j≠b->m≠b->ay [b] u u'->bX [j,m] u u':=fun{u u'} hu h1 h2 g=>g.same (by have:=hu.size;simp;omega);refine⟨l1,I,dB.same o,λkv bv l2 i2 s0 s1 s2 l3 l4 l5 l6 i3 l7 f1 f2 u=>∃am:Nat,bv=(am:Int)/\kv+am=WS xs/\am<=WS xs/\bJ l2 i2 s0 s1 s2 l3 l4 l5 l6 i3 l7/\(f1,f2)=j5 (0,0) (wO [] ((DB c.root).take am))/\ay [b] w4 u,WS xs,⟨0,I,X,bE _,aC,I,qE _ _⟩,?_⟩;have fd:aA OT 1 w4 (λk=>C.heap.size<=k) l1 ((DB c.root).map λp=>p.2):=(hA.slice BU).mono BU λk hk=>hk.elim (λaS=>aS.elim) λaS=>aS.1;have gO:b<w4.heap.size:=X
 have kA:∀{u:av},ay [b] w4 u->aA OT 1 u (λk=>C.heap.size<=k) l1 ((DB c.root).map λp=>p.2):=λaS=>ZH BU Z fd aS λk hk _ hm=>OP
 have kS:∀{u:av},ay [b] w4 u->aA nS 5 u (λk=>k<t.heap.size) sl xs:=λaS=>ZH cH Z Hj aS λk hk _ hm=>by simp at hm;omega
 have gz:∀{u:av},ay [b] w4 u->aA Wd 3 u (λk=>k<t.heap.size) d c.vars:=λaS=>ZH fI Z ce aS λk hk _ hm=>OP
 have cC:∀{u:av} (e a f1 f2:Int),ay [b] w4 u->j≠b->m≠b->aF u b 128 (d.v::(ff++[sl.v,O U f1,O U f2]))->
   az aq 64 #[ae _,O U e,O U a] u λr u'=>r=ak (ai #[])/\bX [j,m] u u'/\∃c k:Int,aF u' b 128 (d.v::(ff++[sl.v,O U c,O U k]))/\(c,k)=j5 (f1,f2) [(e,a)]/\ay [b] w4 u':=fun{u} e a f1 f2 hu h1 h2 hB=>(vp (bV hu hB) e a).mono (by
  rintro _ u' ⟨rfl,p,g⟩;exact⟨I,sm hu h1 h2 g,_,_,p.blk,I,co hu g⟩)
 rintro kv _ _ _ _ _ _ _ _ _ _ _ _ i4 i5 w5 ⟨am,rfl,me,hj,⟨rfl,rfl,rfl,rfl,rfl,rfl,rfl,rfl,rfl,rfl,rfl⟩,aT,h5⟩;refine⟨λhc=>?_,λhc=>?_⟩
 .have hc:=S hc;let⟨y,r⟩:=eW (xs:=xs) (i:=am) X;let⟨ad,x,B,_⟩:=gK (kS h5) r;obtain⟨p,k⟩:∃p,(DB c.root)[am]? =aM p:=⟨_,aR (show am<(WS (DB c.root)) by omega)⟩
  have q:p.1=y.nm:=by
   have h1:(xs.map λs:dz=>s.nm)[am]? =aM y.nm:=by rw[cP,r];rfl
   rw[bY,cP,k]at h1;exact II h1
  have v:wO [] ((DB c.root).take (am+1))=wO [] ((DB c.root).take am)++bad (!JW (y.nm∈(xs.take am).map λs:dz=>s.nm)) 24 p.2:=by
   rw[aX,k,Bi,cJ,mg,<-bY,<-mg];simp only[Option.toList,wO,bq,q]
  have a:JW (y.nm∈(xs.take am).map λs:dz=>s.nm)=(gr xs y.nm !=(am:Int)):=by
   by_cases c:y.nm∈(xs.take am).map λs:dz=>s.nm
   .have:=acM c;rw[bO c];simp;omega
   rw[bR c,Al r (λz p e=>c (dK.2 ⟨z,p,e⟩)) rfl];simp
  refine⟨λl2 i2 s0 s1 s2 l3 l4 l5 l6 i3 l7 f1 f2 u=>bJ l2 i2 s0 s1 s2 l3 l4 l5 l6 i3 l7/\(f1,f2)=j5 (0,0) (wO [] ((DB c.root).take (am+1)))/\ay [b] w4 u,?_,ad,x,_,B.dv 1 _ I,(wv (kS h5) _).mono ?_⟩
  .rintro _ _ _ _ _ _ _ _ _ _ _ _ _ u ⟨i,c,hu⟩;exact⟨kv-1,X,am+1,N0,X,X,i,c,hu⟩
  rintro _ u ⟨rfl,hu⟩;obtain rfl:w5=u:=hu.symm;refine⟨_,I,Zm _ _,λc=>?_,λc=>⟨aC,?_,h5⟩⟩
  .obtain⟨p1,z,s,q1,e,q3,q4,q5,F⟩:=(kA h5).get (i:=(am:Int)) (bf am) (by have:=(kA h5).len;rw[bP]at this;omega);have F:s=[Value.int U z]:=F;subst F;rw[aV,cP,k]at e;have e:p.2=z:=II e;refine⟨p1,q1,_,q5,λhB h1 h2=>(cC 24 z _ _ h5 h1 h2 hB).mono ?_⟩;rintro _ u ⟨rfl,hS,O,T,G,hg,hu⟩;refine⟨I,hS,d,_,_,_,_,n,l,mv,kids,_,sl,O,T,G,aC,?_,hu⟩;rw[hg,aT,v,gD,a,show(gr xs y.nm !=(am:Int))=aE from c,e];rfl
  rw[aT,v,gD,a,show(gr xs y.nm !=(am:Int))=aL from c];rfl
 have hc:=aQ hc;have oc:am=WS xs:=X
 subst oc;rw[bm X]at aT;have iD:WS VP=WS c.vars:=bP _;refine⟨λkv bv l2 i2 s0 s1 s2 l3 l4 l5 l6 i3 l7 f1 f2 u=>∃am:Nat,bv=(am:Int)/\kv+am=WS c.vars/\am<=WS c.vars/\bJ l2 i2 s0 s1 s2 l3 l4 l5 l6 i3 l7/\(f1,f2)=j5 (0,0) (wO [] (DB c.root)++wO [] (VP.take am))/\ay [b] w4 u,WS c.vars,⟨0,I,X,bE _,aC,by rw[cr,wO,bq];exact aT,h5⟩,?_⟩;rintro rM _ _ _ _ _ _ _ _ _ _ _ _ i6 i7 w9 ⟨e,rfl,Ea,hm,⟨rfl,rfl,rfl,rfl,rfl,rfl,rfl,rfl,rfl,rfl,rfl⟩,r,s⟩;refine⟨λB=>?_,λB hB h1 h2=>?_⟩
 .have B:=S B;obtain⟨v,G⟩:∃v,c.vars[e]? =aM v:=⟨_,aR (show e<(WS c.vars) by omega)⟩
  have j8:wO [] (VP.take (e+1))=wO [] (VP.take e)++bad (!JW (v.n∈(c.vars.take e).map λv=>v.n)) 24 v.a:=by
   have q:VP[e]? =aM (v.n,v.a):=by show(c.vars.map λv=>(v.n,v.a))[e]? =_;rw[cP,G];rfl
   have y:(VP.take e).map (λp=>p.1)=(c.vars.take e).map λv=>v.n:=by
    show((c.vars.map λv=>(v.n,v.a)).take e).map _=_;rw[<-mg,gV];rfl
   rw[aX,q,Bi,cJ,y];simp only[Option.toList,wO,bq]
  refine⟨λkv bv l2 i2 s0 s1 s2 l3 l4 l5 l6 i3 l7 f1 f2 u=>∃am:Nat,bv=(am:Int)/\kv+am=e/\am<=e/\bJ l2 i2 s0 s1 s2 l3 l4 l5 l6 i3 l7/\(f1,f2)=j5 (i6,i7) (bad (!JW (v.n∈(c.vars.take am).map λv=>v.n)) 24 v.a)/\ay [b] w4 u,e,⟨0,I,X,bE _,aC,I,s⟩,?_⟩;rintro VF _ _ _ _ _ _ _ _ _ _ _ _ i8 i9 dh ⟨q,rfl,iF,a,⟨rfl,rfl,rfl,rfl,rfl,rfl,rfl,rfl,rfl,rfl,rfl⟩,k,x⟩;refine⟨λF=>?_,λF=>⟨rM-1,X,e+1,N0,X,X,aC,?_,x⟩⟩
  .have F:=S F;obtain⟨v2,iN⟩:∃v,c.vars[q]? =aM v:=⟨_,aR (show q<(WS c.vars) by omega)⟩
   have p:∀{u:av} {q:Nat} {v:Vr},ay [b] w4 u->c.vars[q]? =aM v->∃(ad:Addr),ci d (q:Int) 3 ad/\aB u (ad.add 0) [ab (T v.n)]/\aB u (ad.add 2) [O U v.a]:=fun{u q v} hu a=>by
    have iS:=(aZ.1 a).1;let⟨ad,y,ds,g1,c,g3,g4,g5,z⟩:=(gz hu).get (i:=(q:Int)) (bf q) X;rw[aV,a]at c;injection c with c;subst c;have z:ds=[ab (T v.n),O U v.v,O U v.a]:=z;subst z;exact⟨ad,g1,g5.dv 0 _ I,g5.dv 2 _ I⟩
   let⟨p2,e1,e2,_⟩:=p x iN;let⟨p3,e3,e4,_⟩:=p x G;have qj:∀z:L,z∈(c.vars.take (q+1)).map (λv=>v.n)↔z∈(c.vars.take q).map (λv=>v.n)∨v2.n=z:=λz=>by
    rw[aX,iN,cK,cZ];simp[eq_comm]
   refine⟨λl2 i2 s0 s1 s2 l3 l4 l5 l6 i3 l7 f1 f2 u=>bJ l2 i2 s0 s1 s2 l3 l4 l5 l6 i3 l7/\(f1,f2)=j5 (i6,i7) (bad (!JW (v.n∈(c.vars.take (q+1)).map λv=>v.n)) 24 v.a)/\ay [b] w4 u,?_,p2,e1,_,e2,p3,e3,_,e4,λa=>⟨p3,e3,λey eG=>?_⟩,λa fS dQ=>⟨aC,?_,x.bG dQ⟩⟩
   .rintro _ _ _ _ _ _ _ _ _ _ _ _ _ u ⟨i,c,hu⟩;exact⟨VF-1,X,q+1,N0,X,X,i,c,hu⟩
   .have c:=x.bG eG;let⟨p4,y,_,z⟩:=p c G;obtain rfl:=ci.OW e3 y;refine⟨_,z,λhB h1 h2=>(cC 24 v.a _ _ c h1 h2 hB).mono ?_⟩;rintro _ u ⟨rfl,U,O,T,q,hg,hu⟩;refine⟨I,U,d,_,_,_,_,n,l,mv,kids,_,sl,O,T,q,aC,?_,hu⟩;rw[jC]at a;have a:=S a;rw[hg,k,aei _ _ Z,bO ((qj _).2 (.inr a))];rfl
   rw[jC]at a;have a:=aQ a;rw[k];congr 3;exact A
  have F:=aQ F;have:q=e:=X
  subst this;rw[k,r,j8,<-gD,bp]
 have B:=aQ B;have:e=WS c.vars:=X
 subst this;rw[bm X]at r;have q:pq aL (D+1) w9 _ c.root ff:=(cq aL _).keep cc λk hk f=>(s.block k X o).trans (dB.block k f N);refine(vv (G:=λk=>k<w.heap.size) (λk hk=>X) gE X X (D+1) (bV s hB) q X (a:=0) X kq.1.2).mono ?_;rintro _ z ⟨rfl,O,p⟩;rw[r,<-gD,bp]at O;exact⟨_,I,sm s h1 h2 p,d,_,_,_,_,n,l,mv,kids,_,sl,_,_,O.blk,λy v _=>⟨I,by
  have:=((eQ (co s p)).ph (v.p (F:=λk=>w.heap.size<=k) λx hx=>Tz))
  exact this.only λk hk=>hk⟩⟩
section
def U0:∀l m,DE (l++m)=DE l++DE m
 |[],m=>Mi
 |x::l,m=>by rw[bZ,DE,DE,U0 l m,bp]
def HB(x:J dz):Nat->J Nd->J Ro
 |_,[]=>[]
 |a,y::l=>LW x a 0 y.b.mv++HB x (a+1) l
def BW xs:∀l m a,HB xs a (l++m)=HB xs a l++HB xs (a+WS l) m
 |[],m,a=>Mi
 |y::l,m,a=>by rw[bZ,HB,HB,BW xs l m,bp,aY];congr 3;omega
mutual
def Zg(s:J dz):∀(x:Nd) (a:Nat),HB s a (CM x)=XW s a x
 |.mk b l,a=>by rw[CM,HB,XW,RP s l];rfl
def RP(s:J dz):∀(l:J Nd) (a:Nat),HB s a (DE l)=uk s a l
 |[],a=>Mi
 |x::l,a=>by rw[DE,uk,BW,Zg s x,RP s l,BE]
end
section
variable{xs:J dz}(F:Fo xs)
include F
theorem pw{l:J Int}(h:l≠[]){q}(a:∀n∈l,∃k:Nat,n=k/\mC xs q k)(c:q=0∨kb xs q=1/\↑q∉l):∀f d,d<(WS xs)->(∀n∈l,∃k:Nat,n=k/\mC xs d k)->q<=d->q<=HA xs l f d
 |0,d,b,hd,q=>by
  rw[HA];omega
 |f+1,d,b,hd,g=>by
  rw[HA];by_cases x:0<(d:Int)/\(kb xs d≠1∨ ↑d∈l)
  .rw[E x];let⟨t,j⟩:=eW b;let⟨p,s,v,m,o,_,r,w⟩:=F.par j X;rw[lz j,m];have:q≠d:=by
    grind
   refine pw h a c f p X (λn i=>?_)<|qp λu=>?_
   .have⟨k,e,hk⟩:=hd n i;exact⟨k,e,F.pd ⟨s,o,X,r⟩ hk⟩
   let⟨n,i⟩:=gj l h;let⟨k,f,B,z,p,q⟩:=a n i;let⟨A,e,C,d,s,t⟩:=hd n i
   grind
  grind
def W6(x:J dz)(a:Int)(g:J Int)(d:Nat):C:=(JW (kb x d=1)&&(wD x a d||(d:Int)==0))&&g.all λt=>wD x t d
def Ll(x:J dz)(a:Int)(t:J Int):Nat->Int
 |0=> -1
 |m+1=>if W6 x a t m=aE then m else Ll x a t m
omit F in
theorem GW (a:Int) (tg:List Int):∀n:Nat,(Ll xs a tg n= -1/\∀m,m<n->W6 xs a tg m=aL)∨∃m:Nat,Ll xs a tg n=m/\m<n/\W6 xs a tg m=aE/\∀j,m<j->j<n->W6 xs a tg j=aL
 | 0=>.inl ⟨rfl,λm h=>X⟩
 | n+1=>by
  unfold Ll;by_cases h:W6 xs a tg n=aE
  .grind
  rw[Q h];have h:W6 xs a tg n=aL:=YW
  rcases GW a tg n with⟨h1,h2⟩ | ⟨m,h1,h2,h3,h4⟩
  .grind
  grind
section
variable{a:Nat}{tg:J Int}(ha:a<xs.length)(h0:kb xs 0=1)(ht:∀t,t∈tg->1<=t/\t<xs.length)
include ha ht
theorem Lm{d}(h:W6 xs a tg d=aE)(hd:d<WS xs):(∀n,n∈ ↑a::tg->∃k:Nat,n=k/\mC xs d k)/\(d=0∨kb xs d=1/\↑d∉ ↑a::tg):=by
 rw[W6]at h;simp at h;let⟨⟨f,g⟩,i⟩:=h;let⟨x,c⟩:=eW hd;have:∀n,wD xs n d=aE->∃k:Nat,n=k/\d<k/\mC xs d k:=λn h=>by
  rw[UA c,dx]at h;exact⟨n.toNat,X,X,x,c,X,X⟩
 by_cases b:d=0
 .subst b;refine⟨λn d=>?_,.inl I⟩;rcases ba.1 d with rfl|d
  .exact⟨a,I,F.vq ha⟩
  grind
 grind
include h0
theorem acg(i:tg≠[]):Ll xs a tg (WS xs)=D3 xs a tg:=by
 let⟨r,l,d,j,hk⟩:=clk F ha (λt h=>⟨by have:=ht t h;omega,(ht t h).2⟩) i;have f:W6 xs a tg r=aE:=by
  let⟨x,g⟩:=eW d;let p:kb xs r=1:=by
   grind
  let w:∀n,n∈ ↑a::tg->n≠r->wD xs n r=aE:=λn q i=>by
   let⟨k,e,y,a,r,s⟩:=j n q;rw[g,bN]at a;subst a;rw[UA g,dx];omega
  rw[W6]
  grind
 rcases GW (xs:=xs) a tg (WS xs) with⟨_,g⟩|⟨c,e,m,o,b⟩
 .simp_all
 let G:=qp λh=>by
  rw[b r h d]at f;cases f
 let⟨k,p⟩:=Lm F ha ht o m;let D:c<=D3 xs a tg:=by
  unfold D3 rV;rw[Q i,Q]
  .rcases xY xs _ (WS xs) with⟨_,g⟩|⟨q,a,e,k3,n⟩
   .have:=g c m;rw[tV.2 k]at this;cases this
   rw[a];refine pw F N k p _ q e (tV.1 k3)<|qp λh=>?_;have:=n c h m;rw[tV.2 k]at this;cases this
  rintro(e|e)
  .cases e
  let⟨n,a,g⟩:=gW.1 e;rw[dS,iM]at g;refine g<|Bx.2 ?_;rcases ba.1 a with rfl|a
  .exact⟨X,X⟩
  have:=ht n a;exact⟨X,this.2⟩
 omega
end
end
end
section
variable{w w':av}{F G:h}{sl sT:Sl}{xs:J dz}{tg:J Int}
theorem amq(f:aA nS 5 w F sl xs)(h:Fo xs)(m:WS xs<=64)(g:kb xs 0=1){a:Nat}(b:a<WS xs)(T:aA rInt 1 w G sT tg)(c:∀t∈tg,1<=t/\t<WS xs):
  az aq 32 #[sl.v,O U (a:Int),sT.v] w λe w'=>e=ak (O U<|D3 xs a tg)/\ay [] w w':=by
 refine ret<|aqN ?_;have:=f.len;have:=T.len;have:=T.big;have:=T.cap;by_cases i:tg=[]
 .subst i;refine⟨λ_ a _ u=>a= -1/\ay [] w u,0,⟨I,qE _ _⟩,?_⟩;rintro v _ d u ⟨rfl,e⟩;refine⟨λk=>?_,λ_=>⟨I,e⟩⟩;simp_all
 have:0<WS tg:=R
 let L:∀{u:av},ay [] w u->aA nS 5 u F sl xs:=λo=>ZH cH Z f o N;let A:∀{u:av},ay [] w u->aA rInt 1 u G sT tg:=λo=>ZH bA Z T o N;refine⟨λv V p u=>∃d:Nat,p=(d:Int)/\v+d=WS xs/\d<=WS xs/\ay [] w u/\V=Ll xs a tg d,WS xs,⟨0,I,X,X,qE _ _,I⟩,?_⟩;rintro v _ _ r ⟨d,rfl,B,D,o,rfl⟩;refine⟨λq=>?_,λq=>?_⟩
 .rw[aO]at q;have:=S q.1;let⟨x,F⟩:=eW (xs:=xs) (i:=d) X;let⟨ad,G,P,_,W,_⟩:=gK (L o) F;refine⟨λJ u=>J=Ll xs a tg (d+1)/\ay [] w u,λJ u ⟨Y,h2⟩=>⟨v-1,X,d+1,N0,X,X,h2,Y⟩,(GD (L o) a d).mono ?_⟩;rintro _ u ⟨rfl,C⟩;obtain rfl:r=u:=C.symm;refine⟨_,I,ad,G,x.k,P.dv 0 _ I,λM ok p u=>∃t:Nat,p=(t:Int)/\M+t=WS tg/\t<=WS tg/\ok=(((x.k==1)&&(wD xs a d||(d:Int)==0))&&(tg.take t).all λn=>wD xs n d)/\r=u,WS tg,R,?_⟩;rintro M _ _ _ ⟨t,rfl,Ea,B1,rfl,rfl⟩;refine⟨λH=>?_,λH=>?_⟩
  .have H:=S H;obtain⟨y,e⟩:∃y,tg[t]? =aM y:=⟨_,aR X⟩
   let⟨a,k,n⟩:=K9 (A o) e;refine⟨a,k,y,n,(GD (L o) y d).mono ?_⟩;rintro _ u ⟨rfl,C⟩;obtain rfl:r=u:=C.symm;refine⟨_,I,M-1,X,t+1,N0,X,X,?_,I⟩;rw[aX,e,iq]
   grind
  let H:=aQ H;let w:(((x.k==1)&&(wD xs a d||(d:Int)==0))&&(tg.take t).all λn=>wD xs n d)=W6 xs a tg d:=by
   rw[bm X];unfold W6;rw[fz F];rfl
  rw[w];have j8:Ll xs a tg (d+1)=if W6 xs a tg d=aE then(d:Int)else Ll xs a tg d:=I
  rcases GW (xs:=xs) a tg d with⟨e,_⟩|⟨am,e,hj,y,_⟩
  .rw[e]at j8⊢;refine⟨ad,R,0,R,ad,R,0,R,λn t a=>⟨?_,o.bG a⟩,λn x k=>⟨?_,o.bG k⟩⟩
   .simp_all
   simp_all
  let⟨z,t⟩:=eW (xs:=xs) (i:=am) X;let⟨vJ,x,_,_,b4,_⟩:=gK (L o) t;rw[e]at j8⊢;refine⟨ad,λ_ _=>G,_,λ_ _=>W,vJ,λ_ _=>x,_,λ_ _=>b4,λhq w4 h4=>⟨?_,o.bG h4⟩,λhq w5 h5=>⟨?_,o.bG h5⟩⟩
  .simp_all
  rw[j8,Q];intro e;let⟨k,ff,s1,z,g1,g2⟩:=(Lm h b c y X).1 a<|.head _;let⟨k',aC,s2,L5,g3,g4⟩:=(Lm h b c e X).1 a<|.head _;rw[t,bN]at z;subst z;have:=h.deep (n:=a) d hj t F X X;simp_all
 have:d=WS xs:=by
  grind
 rw[this,acg h b g c i];exact⟨I,o⟩
end
def rNX:Rp Nd:=λw F x c=>∃d,pq aL d w F x c
def Ar:rNX.Ok where
 keep:=λ⟨d,h⟩ hk=>⟨d,(cq aL d).keep h hk⟩
 inHeap:=λ⟨d,h⟩=>⟨d,(cq aL d).inHeap h⟩
 mono:=λ⟨d,h⟩ hk=>⟨d,(cq aL d).mono h hk⟩
 one:=λ⟨d,h⟩=>(cq aL d).one h
abbrev W7(B:Nat)(w:av)(F:h)(s:Sl)(l:J Nd):Prop:=Own rNX 9 27 B w (λk=>F k∨B<=k) s l
def OU:∀(b:Nat) {w:av} {F:h} {x:Nd} {d:aI} {B:Nat} {s:Sl} {ns:J Nd},pq aL b w F x d->(∀k,F k->k<B)->W7 B w F s ns->B<=w.heap.size->WS ns+iI x<=100000->
  az aq 30 #[s.v,ah d.toArray] w λe a=>∃c,e=ak (Sl.v c)/\W7 B a F c (ns++CM x)/\Gr s w c a
 |0,_,_,_,_,_,_,_,e,_,_,_,_=>e.elim
 |b+1,w,F,.mk f g,d,B,s,ns,L,z,hS,aS,hn=>by
  let M:=L;let⟨W,lv,mv,kids,jc,_,H⟩:=L;have hk:=H.1;clear H;dsimp only[Nd.kids,Nd.b]at hk jc;subst jc;rw[iI]at hn;rw[CM];have:=hk.len;have:=qI g;refine(aqL s f.k (T f.nm) (T f.ini) (T f.dft) W lv mv kids f.a (λv a=>∃c,v=Sl.v c/\W7 B a F c (ns++(.mk f g::DE g))/\Gr s w c a) w ?_).mono A;intro Q w0 H dC i;have:=i.size;let E:W7 B w0 F s ns:=hS.keep Ar λk _ p=>i.block k p N;let⟨y,w2,k1,k3,m,n,g1,g2,⟨gs,u,g4⟩,g5⟩:=iO (P:=aq) (t:=25) (ty:=25) (e:=27) (i:=Tryz.t27) (bytes:=160) (size:=9) (r:=rNX) (G:=F) (v:=ah (uY f.k f.nm f.ini f.dft W lv mv kids f.a).toArray) (x:=.mk f g) D D I I I I Z Z Z Ar E X I ⟨b+1,(cq aL _).mono ((cq aL _).keep ((cq aL _).inHeap M) λk _ p=>i.block k p N) λk hk=>hk.1⟩ (λq Y _=>⟨.inl Y,λe=>by have:=z q Y;have:=(hS.blk e).1;grind⟩) X;have:=k3.size;have:=u.size;have:s.a≠aM ⟨Q,0,VM⟩:=λe=>Tg
  let m3:Gr s w m n:=by
   refine⟨(i.bG k3).ph<|u.p (F:=λk=>s.a=aM ⟨k,0,VM⟩) R,λk hk=>?_⟩
   grind
  let n3:∀k,m.a=aM ⟨k,0,VM⟩->k≠Q:=R
  have:W7 B n F m (ns++[.mk f g]):=R
  let kz:∀{aC:av} {q:Sl},Gr s w q aC->aA (pq aL b) 9 aC F kids g:=λhm=>Zz (cq aL b) Z hk hm.1 λk C _ l=>by
   have:=z k C;have:=(hS.blk l).1
   grind
  refine⟨y,w2,k1,k3.same o,m,n,g1,u.same R,λV q am a=>∃j:Nat,am=(j:Int)/\V+j=WS g/\j<=WS g/\W7 B a F q (ns++.mk f g::DE (g.take j))/\Gr s w q a/\n.heap.size<=a.heap.size/\∀k,q.a=aM ⟨k,0,VM⟩->k≠Q,WS g,⟨0,I,X,X,P9,m3,X,n3⟩,?_⟩;rintro V q _ w5 ⟨j,rfl,me,lI,ff,m5,z5,n5⟩;refine⟨λK=>?_,λK=>?_⟩
  .have K:=S K;let⟨ad,y,T,v,r,G,P,B,s⟩:=(kz m5).get (bf j) X;rw[aV]at r;let t:=s;obtain⟨q,rfl⟩:∃q,b=q+1:=by
    cases b with
    |zero=>exact s.elim
    |succ q=>exact⟨q,I⟩
   obtain⟨wA,wC,rT,ji,rfl,_⟩:=t;have:=mQ r;refine⟨ad,v,_,_,_,_,wA,wC,rT,ji,_,B,(OU (q+1) s z ff X<|by rw[aU,aY,KO];omega).mono ?_⟩;rintro _ w7 ⟨q7,rfl,bv,m7⟩;have:=m7.1.size;refine⟨q7,I,m7.1.same λx L=>?_,V-1,X,j+1,N0,X,X,?_,m5.trans m7,X,λk hk e=>?_⟩
   .grind
   .have e:DE (g.take<|j+1)=DE (g.take j)++CM y:=by
     rw[aX,r,U0];show _++DE [y]=_;rw[DE,DE,bq]
    simp_all
   subst e;rcases m7.2 _ hk with l|l
   .exact n5 _ l I
   omega
  grind
end Con
