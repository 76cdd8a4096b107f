import Derived.Test.YtfemabakfkliiaaGreatDoorQg11
set_option linter.defProp false
set_option linter.unusedSectionVars false
set_option linter.unusedSimpArgs false
set_option linter.unusedVariables false
set_option maxHeartbeats 1600000
set_option maxRecDepth 100000
open Bool renaming true->L,false->aL
open Option renaming some->aM,none->aaf
open List renaming length->I
open Go.Value renaming int->O,string->K,pointer->ae,agg->ah,tuple->ai,bool->aj
open Go.IntKind renaming i64->U,wrap->ar
open Go.Ending renaming returned->ak
open _root_.ByteArray renaming mk->ao
open _root_.Go.Proofs.Tryz renaming prog->Q
open Go.Instr renaming buildSlice->au
open Go renaming World->M,Value->aw,Calls->az
open Go.Kt renaming Only->Z,SliceF->aA,Cells->aB,OnlyP->aD,Blk->aF
namespace Go.Proofs.YtfemabakfkliiaaGreatDoor.Con
open Go Go.RowKit Go.Kt Go.Kt.V Go.Proofs.YtfemabakfkliiaaGreatDoor.Vc
section
variable {w:M} {F G:aJ} {l sa:Sl} {xs:List dN} {is:List Int}
def NI(h:aA iM 1 w F sa is)(n:Int)(m:I is<=4611686018427387903):az Q 28 #[sa.v,O U n] w λe b=>e=ak (aj (decide (n∈is)))/\b=w:=by
 refine ret (akh _ _ ?_);have l:=h.len;refine⟨λk i u=>∃j:Nat,i=(j:Int)/\k+j=I is/\j<=I is/\n∉is.take j/\w=u,I is,⟨0,rfl,J,bm _,aaV,rfl⟩,?_⟩;rintro k _ _ ⟨j,rfl,p,d,a,rfl⟩;refine⟨λc=>?_,λc=>?_⟩
 ·have c:=aN c;have f:j<I is:=J
  obtain⟨ad,e,g⟩:=rV h (bh f);refine⟨ad,e,_,g,λhe=>?_,λhe=>⟨k-1,J,j+1,aaA,J,J,?_,rfl⟩⟩
  ·have he:is[j]=n:=abX
   exact⟨by rw[bE (by rw[<-he];exact kb f)],rfl⟩
  have he:¬is[j]=n:=abX
  rw[bq,bh f,cj];rintro(h | h)
  ·exact a h
  simp only[Option.toList,aP]at h;exact he h.symm
 have c:=aQ c;rw[bp J]at a;exact⟨by rw[bD a],rfl⟩
def agq{w u:M}{s:Sl}{i:List Int}{B:Nat}(h:gn B w s i)(a:Z [] w u):gn B u s i:=h.keep cK λk _ b=>a.block k b aaV
def abp(b:aA tA 5 w F l xs)(n:Nat)(m:I xs<=1000):az Q 52 #[l.v,O U (n:Int)] w λe c=>(∃(s:Sl),e=ak (Sl.v s)/\gn w.heap.size c s (j6 xs n (I xs)))/\Z [] w c:=by
 refine iW (akt _ _ ?_);have f:=b.len;refine⟨λk q i u=>∃j:Nat,i=(j:Int)/\k+j=I xs/\j<=I xs/\gn w.heap.size u q (j6 xs n j)/\Z [] w u,I xs,⟨0,rfl,J,bm _,Own.nil _ _ _ _ _ _,Only.refl _ _⟩,?_⟩;rintro k q _ u ⟨j,rfl,p,d,S,a⟩;refine⟨λh=>?_,λh=>?_⟩
 ·have h:=aN h;obtain⟨y,l⟩:=gj (xs:=xs) (i:=j) J;obtain⟨ad,o,_,r,_⟩:=jQ (SliceF.only dI X b a aaV) l;have v:I (j6 xs n j)<=j:=by
   unfold j6;rw[bJ];exact bH (gM _ _) agr
  refine⟨λq u=>gn w.heap.size u q (j6 xs n (j+1))/\Z [] w u,λq u ⟨s,t⟩=>⟨k-1,J,j+1,aaA,J,J,s,t⟩,ad,o,_,r,λg=>?_,λg=>⟨?_,a⟩⟩
  ·rw[aU,db]at g;obtain⟨C,A,y,k3,z,B,e,n,x,D⟩:=afS w S a j ⟨J,J⟩ J;refine⟨C,A,y,z,B,e,?_,x⟩;rw[vW,aV (by rw[l];exact bZ aM g.1)];exact n
  rw[vW,aR,bG]
  ·exact S
  rw[l];intro e;injection e with e;have e:y.pa=n:=e;rw[e]at g;simp at g
 have h:=aQ h;have:j=I xs:=J
 subst this;exact⟨⟨q,rfl,S⟩,a⟩
def H5{k:Int}(h:1<=k/\k<=4):(!((k==3)||(k==4)))=IC k:=by
 unfold IC;rcases h with⟨a,b⟩
 rcases(show k=1∨k=2∨k=3∨k=4 by omega)with rfl | rfl | rfl | rfl<;>rfl
def NJ(d:aA tA 5 w F l xs)(g:Sd xs)(n:Nat):az Q 30 #[l.v,O U (n:Int)] w λe z=>(∃(s:Sl),e=ak (Sl.v s)/\gn w.heap.size z s (oe xs n))/\Z [] w z:=by
 have N:=g.le;refine iW (akj _ _ ?_);refine(abp d n J).mono ?_;rintro _ A ⟨⟨b,rfl,y⟩,D⟩;have C:=y.len;have T:I (j6 xs n (I xs))<=I xs:=by
  unfold j6;rw[bJ];exact bH (gM _ _) agr
 have m:∀k,k∈j6 xs n (I xs)->∃(q:Nat) (t:dN),k=q/\xs[q]? =aM t:=λk hk=>by
  obtain⟨q,t,e,_,k,_⟩:=KJ.1 hk;exact⟨q,t,e,k⟩
 have B:oe xs n=(j6 xs n (I xs)).filter λk=>IC (kd xs k):=rfl;rw[B];generalize j6 xs n (I xs)=a at*
 refine⟨b,rfl,λo q p u=>∃j:Nat,p=(j:Int)/\o+j=I a/\j<=I a/\gn w.heap.size u q ((a.take j).filter λk=>IC (kd xs k))/\gn w.heap.size u b a/\(q.a=aaf∨q.a≠b.a)/\Z [] w u/\A.heap.size<=u.heap.size,I a,⟨0,rfl,J,bm _,Own.nil _ _ _ _ _ _,y,.inl rfl,D,aX _⟩,?_⟩;rintro o q _ u ⟨j,rfl,R,H,f,S,i,h,E⟩;refine⟨λc=>?_,λc=>?_⟩
 ·have c:=aN c;have V:j<I a:=J
  obtain⟨ad,W,Y⟩:=rV S.sl (bh V);obtain⟨q,t,n,l⟩:=m _ (kb V);obtain⟨xf,b1,b2,_⟩:=jQ (SliceF.only dI X d h aaV) l;have nY:(a.take (j+1)).filter (λk=>IC (kd xs k))=(a.take j).filter (λk=>IC (kd xs k))++if IC t.k=L then[(q:Int)]else[]:=by
   rw[bq,bh V,gZ,n];congr 1;show List.filter _ [(q:Int)]=_;rw[oX,KI l,ff]
  have am:I ((a.take j).filter λk=>IC (kd xs k))<=64:=by
   refine bH (gM _ _) ?_;rw[ch];omega
  refine⟨λs u=>gn w.heap.size u s ((a.take (j+1)).filter λk=>IC (kd xs k))/\gn w.heap.size u b a/\(s.a=aaf∨s.a≠b.a)/\Z [] w u/\A.heap.size<=u.heap.size,λs u ⟨h1,h2⟩=>⟨o-1,J,j+1,aaA,J,J,h1,h2⟩,ad,W,_,Y,xf,by rw[n];exact b1,t.k,b2.dM 0 _ rfl,(DX u t.k).mono ?_⟩;rintro _ u' ⟨rfl,ZA⟩;obtain rfl:u=u':=ZA.symm;refine⟨_,rfl,?_,?_⟩
  ·rw[H5 (g.kn q t l)];intro hb;obtain⟨y1,w2,k1,k3,s',w3,g1,g2,⟨gs,g3,g4⟩,g5⟩:=jV (P:=Q) (t:=33) (ty:=33) (e:=3) (i:=Tryz.t3) (bytes:=8) (size:=1) (r:=iM) (G:=λ_=>False) (v:=O U (a[j])) (x:=a[j]) aaz aaz rfl rfl rfl rfl X X X cK f h.size rfl ⟨rfl,by rw[n];exact⟨J,by have:=iw l;omega⟩⟩ (λ_ d=>d.elim) J;have z3:=g3.size;have z2:=k3.size;refine⟨ad,W,_,Y,y1,w2,k1,s',w3,g1,?_,?_,?_,?_,J⟩
   ·rw[nY,aV hb,<-n];exact gn.of g2
   ·refine(agq S k3).keep cK λk hk r=>g3.block k r λt=>?_;have e:=g4 _ t;rcases hk with hk | ⟨_,hk⟩
    ·exact hk
    rcases i with i | i
    ·rw[i]at e;cases e.1
    exact i (e.1.trans hk.symm)
   ·rcases g5 with e | ⟨k,e,r⟩
    ·rw[e];exact i
    right;rw[e];intro t;have:=S.blk t.symm;dsimp only at this;omega
   exact((h.cn k3).oQ (g3.p (F:=λk=>w.heap.size<=k) λe r=>.inl (g4 e r).2.1)).only λk hk=>hk
  rw[H5 (g.kn q t l)];intro hb;refine⟨?_,S,i,h,E⟩;rw[nY,aR ahQ,bG];exact f
 have c:=aQ c;have:j=I a:=J
 subst this;rw[bp (aX _)]at f;exact⟨⟨q,rfl,f⟩,h⟩
end
def W1(w:M){x:Nat}(d:x<18446744073709551616):az Q 10 #[.int .u64 (x:Int)] w λe c=>(∃s:Sl,e=ak s.v/\gn w.heap.size c s (iI x))/\Z [] w c:=by
 refine iW (aj7 _ ?_);refine⟨λk l i u=>∃j:Nat,i=(j:Int)/\k+j=64/\gn w.heap.size u l (KK j λi=>x.testBit i)/\Z [] w u,64,⟨0,rfl,rfl,Own.nil _ _ _ _ _ _,Only.refl _ _⟩,?_⟩;rintro k l _ f ⟨j,rfl,p,a,b⟩;refine⟨λh=>?_,λh=>?_⟩
 ·have h:=aN h;refine⟨λl u=>gn w.heap.size u l (KK (j+1) λi=>x.testBit i)/\Z [] w u,?_,J,?_⟩
  ·rintro m n ⟨e,g⟩;exact⟨k-1,J,j+1,aaA,J,e,g⟩
  have e:((((x:Int).fdiv (2 ^ (min (Int.toNat (j:Int)) 64))).tmod 2)==1)=x.testBit j:=by
   rw[aa5 x j J,fX,show(2:Int)=((2:Nat):Int)from rfl,<-Int.ofNat_tmod];rcases Nat.mod_two_eq_zero_or_one (x/2 ^ j)with e | e<;>rw[e]<;>rfl
  rw[e];refine⟨λg=>?_,λg=>⟨by rw[KL,g,aR X,bG];exact a,b⟩⟩;have E:=Qi j λi=>x.testBit i;obtain⟨y,r,q,k3,s,t,m,n,o,v⟩:=afS w a b j ⟨J,J⟩ J;exact⟨y,r,q,s,t,m,by rw[KL,g,aV rfl];exact n,o⟩
 have h:=aQ h;have:j=64:=J
 subst this;exact⟨⟨l,rfl,a⟩,b⟩
def Bx:aH:=[99,104,97,114,116,32,99,32,123,32,105,110,105,116,105,97,108,32,97,59,32,115,116,97,116,101,32,97,32,123,32,111,110,32,120,32,45,62,32,100,59,32,125,32,112,97,114,97,108,108,101,108,32,112,32,123,32,115,116,97,116,101,32,98,32,123,32,125,32,115,116,97,116,101,32,100,32,123,32,125,32,125,32,125]
def adQ:Bool:=decide ((rT Bx).1=0)&&afV Bx&&(decide (((Ts (uQ (fM Bx).1) 0 0 (fM Bx).1.root).map λc=>(c.dn,c.up))=[(30,0),(0,1),(24,1),(0,5),(0,5)])&&decide (((FH (dz (fM Bx).1) 0 (fM Bx).1.root).map (Qr (dz (fM Bx).1)))=[30]))&&decide (pI [4,0,99]=17)
def abq:adQ=L:=aaz
def W2{b a:Type}{f:b->a}{l:List b}{m:List a}(c:l.map f=m){i:Nat}{y:a}(h:m[i]? =aM y):∃x,l[i]? =aM x/\f x=y:=by
 rw[<-c,cN]at h;rcases hx:l[i]? with _|x
 ·rw[hx]at h;cases h
 rw[hx]at h;injection h with h;exact⟨x,rfl,h⟩
def W3{w:M}{F:aJ}{s:Sl}{b:List Ce}(h:aA Nq 11 w F s b){i:Nat}{x:Ce}(a:b[i]? =aM x):∃ad,cT s (i:Int) 11 ad/\∃e l:Sl,aB w ad [O U x.k,O U x.pa,.int .u64 (x.up:Nat),.int .u64 (x.dn:Nat),.int .u64 (x.rg:Nat),O U x.ini,O U x.dft,e.v,l.v,O U (x.f0:Nat),O U (x.f1:Nat)]:=by
 have W:=(bf.1 a).1;have m:=h.len;obtain⟨ad,y,f,c,g,j,k,d,e,l,rfl⟩:=h.get (aZ i) J;rw[aW,a]at g;injection g with g;subst g;exact⟨ad,c,e,l,d⟩
def W4(w:M)(N:Er w)(T:Tb w):az Q 5 #[] w λe w'=>e=ak (aj L)/\Z [] w w':=by
 refine ret (aqF ?_);have H:=abq;unfold adQ at H;simp only[aU,bF]at H;obtain⟨⟨⟨a,d⟩,p,G⟩,h5⟩:=H;have d:=afW d;have hc:DH Bx=(fM Bx).1:=by unfold DH;rw[aV a]
 have V:(ji (fM Bx).1).1=0:=by
  unfold rT at a;split at a
  ·exact a
  rename_i b;exact absurd a b
 refine(aaS Bx d.1 d.2 N T).mono ?_;rintro _ w0 ⟨x,cs,rfl,C,A⟩;rw[hc]at C;obtain⟨xe,xl,xm,xk,rfl,_⟩:=C.root;have z0:=A.size;refine⟨x,_,_,_,_,xe,xl,xm,xk,_,_,_,rfl,λk0 k1 w1 fT dZ mA jS E=>?_⟩;have z1:=E.size;have v:=A.cn E;have q:ChR L 15 w1 (Fr w.heap.size) (fM Bx).1 x _:=⟨C.vars.keep fh X λk _ W=>E.block k W aaV,(cA L 15).keep C.root λk _ W=>E.block k W aaV⟩
 refine(DR (D:=14) q.off d.1 d.2 (N.only v) (T.only v)).mono ?_;rintro _ w2 ⟨⟨qn,sv,su,sc,Y,rfl,XW⟩,R⟩;have z2:=R.size;have o2:=v.cn R;refine⟨qn,sv,su,sc,Y,_,_,rfl,R.same aba,λk2 k3 w3 qF rn xF sA o=>?_⟩;have z3:=o.size;have o3:=o2.cn o;have h:=(XW V).o0 o;obtain⟨x0,e0,f0⟩:=W2 p (i:=0) (y:=(30,0)) rfl;obtain⟨x4,e4,B⟩:=W2 p (i:=4) (y:=(0,5)) rfl;simp only[gP]at f0 B;obtain⟨l,a1,_,_,a2⟩:=W3 h.tc e0;obtain⟨m,b1,_,_,b2⟩:=W3 h.tc e4;have pY:sc.n=5:=by rw[h.tc.len,<-bJ (f:=λc:Ce=>(c.dn,c.up)),p];rfl
 have s:Y.n=1:=by rw[h.te.len,G];rfl
 have j:=h.te;rw[G]at j;obtain⟨n,y9,c9,g1,g,g3,g4,g5,g6⟩:=j.get (i:=0) J J;have g:aM (30:Nat)=aM y9:=g;injection g with g;subst g;refine⟨λb u=>b=L/\Z [] w u,?_,l,λ_=>a1,_,λ_=>a2.dM 3 _ rfl,m,λ_=>b1,_,λ_=>b2.dM 2 _ rfl,n,λ_=>g1,_,λ_=>g5.dM 7 _ g6.1,λ_=>?_,λS=>?_⟩
 ·rintro _ u ⟨rfl,b⟩;exact⟨rfl,b⟩
 ·obtain⟨y,c,k,D,b,_⟩:=ju (P:=Q) (t:=33) (e:=3) (i:=Tryz.t3) (z:=O U 0) (w:=w3) (F:=λ_=>False) (vs:=[O U 4,O U 0,O U 99]) (parts:=#[.mk 0 (O U 4),.mk 1 (O U 0),.mk 2 (O U 99)]) (len:=3) (xs:=[4,0,99]) (r:=iM) (size:=1) aaz aaz rfl rfl X rfl rfl X X cK ⟨⟨rfl,rfl,X,X⟩,⟨rfl,rfl,X,X⟩,⟨rfl,rfl,X,X⟩,trivial⟩;refine⟨y,c,k,b.same aba,(aa6 (D.slice cK)).mono ?_⟩;rintro _ u ⟨rfl,f⟩;obtain rfl:c=u:=f.symm;refine⟨_,rfl,cr.refl _ _,?_,o3.cn b⟩;rw[h5];rfl
 rw[a,V,pY,f0.1,B.2,s]at S;cases S
def W5(x:List dN)(i:Nat):HJ x i<18446744073709551616:=zr _
def H6(x:List dN)(i:Nat):Wc x i<18446744073709551616:=zr _
end Go.Proofs.YtfemabakfkliiaaGreatDoor.Con
namespace Go.Proofs.YtfemabakfkliiaaGreatDoor.Con
open Go Go.RowKit Go.Kt Go.Kt.V Go.Proofs.YtfemabakfkliiaaGreatDoor.Vc
def rY(n x:Nat):Nat:=(List.range n).countP λi=>x.testBit i
def DY(x:Nat):I (iI x)=rY 64 x:=by
 unfold iI KK rY;rw[bJ,YQ]
def NK(n x:Nat):rY (8+n) x=rY 8 (x % 256)+rY n (x/256):=by
 unfold rY;rw[List.range_add,List.countP_append,List.countP_map];congr 1
 ·refine List.countP_congr λi h=>?_;rw[kg]at h;rw[show 256=2 ^ 8 from rfl,Nat.testBit_mod_two_pow,bE h,cm]
 refine List.countP_congr λi _=>?_;rw[Function.comp_apply,show 256=2 ^ 8 from rfl,Nat.testBit_div_two_pow,fV]
def pk:List Nat->Nat
 | []=>0
 | a::l=>a+256*pk l
def En(m:Nat):Nat->Nat
 | 0=>0
 | n+1=>m+256*En m n
def qW:Nat->Nat->List Nat
 | 0,_=>[]
 | n+1,x=>x % 256::qW n (x/256)
def DZ:∀n x,I (qW n x)=n
 | 0,x=>rfl
 | n+1,x=>by rw[qW,ba,DZ n]
def FW:∀n x,∀a,a∈qW n x->a<256
 | 0,x,a,h=>abG
 | n+1,x,a,h=>by
  rw[qW]at h;rcases aY.1 h with rfl | h
  ·exact BG _ X
  exact FW n _ a h
def Lh:∀n x,x<256 ^ n->pk (qW n x)=x
 | 0,x,h=>by
  rw[qW,pk];omega
 | n+1,x,h=>by
  rw[qW,pk,Lh n (x/256) (by rw[Nat.pow_succ]at h;omega)];omega
def D0:∀n x,rY (8*n) x=((qW n x).map (rY 8)).sum
 | 0,x=>rfl
 | n+1,x=>by
  rw[show 8*(n+1)=8+8*n by omega,NK,qW,bQ,dc,D0 n]
def tG{a m u v:Nat}(h:a<256)(c:m<256):(a+256*u)&&& (m+256*v)=(a&&& m)+256*(u&&& v):=jo λi=>by
 have b:a&&& m<2 ^ 8:=xu YO h;rw[fV a,fV m,fV (a&&& m),show 256=2 ^ 8 from rfl,mY,wz _ h,wz _ c,wz _ b];split<;>rw[mY]
def xC(a:Nat):Nat:=(a/2&&& 85)+(a&&& 85)
def uZ(a:Nat):Nat:=(a/4&&& 51)+(a&&& 51)
def QO(a:Nat):Nat:=(a/16+a)&&& 15
def okB:Bool:=(List.range 256).all λa=>decide (xC a<256)&&decide (uZ (xC a)<=68)&&decide (uZ (xC a) % 16<=4)&&decide (QO (uZ (xC a))=rY 8 a)&&decide ((a/2+128)&&& 85=a/2&&& 85)&&((List.range 4).all λb=>decide ((a/4+64*b)&&& 51=a/4&&& 51))&&decide (rY 8 a<=8)
def amy:okB=L:=aaz
def AF{a:Nat}(h:a<256):xC a<256/\uZ (xC a)<=68/\uZ (xC a) % 16<=4/\QO (uZ (xC a))=rY 8 a/\(a/2+128)&&& 85=a/2&&& 85/\(∀b,b<4->(a/4+64*b)&&& 51=a/4&&& 51)/\rY 8 a<=8:=by
 have:=amy;unfold okB at this;rw[dF]at this;have:=this a (kg.2 h);simp only[aU,bF,dF,kg]at this;obtain⟨⟨⟨⟨⟨⟨c,d⟩,e⟩,f⟩,g⟩,i⟩,j⟩:=this;exact⟨c,d,e,f,g,i,j⟩
def amz:∀(l:List Nat),(∀a,a∈l->a<256)->(pk l/2&&& En 85 (I l))+(pk l&&& En 85 (I l))=pk (l.map xC)
 | [],_=>rfl
 | a::l,h=>by
  have c:=h a (.head _);have i:=amz l λb f=>h b (.tail _ f);rw[bQ,pk,pk,ba,En,<-i];have e:(a+256*pk l)/2=(a/2+128*(pk l % 2))+256*(pk l/2):=J
  rw[e,tG J X,tG c X];have d:(a/2+128*(pk l % 2))&&& 85=a/2&&& 85:=by
   rcases Nat.mod_two_eq_zero_or_one (pk l)with h | h
   ·rw[h,Nat.mul_zero,eE]
   rw[h,lq];exact(AF c).2.2.2.2.1
  rw[d];unfold xC;omega
def amA:∀(l:List Nat),(∀a,a∈l->a<256)->(pk l/4&&& En 51 (I l))+(pk l&&& En 51 (I l))=pk (l.map uZ)
 | [],_=>rfl
 | a::l,h=>by
  have c:=h a (.head _);have i:=amA l λb d=>h b (.tail _ d);rw[bQ,pk,pk,ba,En,<-i];have e:(a+256*pk l)/4=(a/4+64*(pk l % 4))+256*(pk l/4):=J
  rw[e,tG J X,tG c X,(AF c).2.2.2.2.2.1 _ (BG _ X)];unfold uZ;omega
def amB:∀(l:List Nat),(∀a,a∈l->a<=68/\a % 16<=4)->(pk l/16+pk l)&&& En 15 (I l)=pk (l.map QO)
 | [],_=>rfl
 | a::l,h=>by
  have f:=h a (.head _);have i:=amB l λb d=>h b (.tail _ d);have m:pk l % 16<=4:=by
   cases l with
   | nil=>exact bm _
   | cons b l=>
    have:=(h b (.tail _ (.head _))).2;rw[pk];omega
  rw[bQ,pk,pk,ba,En,<-i];have e:(a+256*pk l)/16+(a+256*pk l)=(a/16+a+16*(pk l % 16))+256*(pk l/16+pk l):=J
  rw[e,tG J X];have c:(a/16+a+16*(pk l % 16))&&& 15=QO a:=by
   unfold QO;rw[show(15:Nat)=2 ^ 4-1 from rfl,Tg,Tg];omega
  rw[c]
def asx(a b c d e f g i:Nat):[a,b,c,d,e,f,g,i].sum=a+b+c+d+e+f+g+i:=by
 simp only[dc,jU];omega
def pk8(a b c d e f g i:Nat):pk [a,b,c,d,e,f,g,i]=a+b*256+c*65536+d*16777216+e*4294967296+f*1099511627776+g*281474976710656+i*72057594037927936:=by
 simp only[pk];omega
def abr{a b c d e f g i:Nat}(r:a<=8)(s:b<=8)(q3:c<=8)(t:d<=8)(u:e<=8)(v:f<=8)(w:g<=8)(x:i<=8){Y X h:Nat}(o:Y=a+b*256+c*65536+d*16777216+e*4294967296+f*1099511627776+g*281474976710656+i*72057594037927936)(m:X=Y+Y/256)(n:h=X+X/65536):(h+h/4294967296) % 128=a+b+c+d+e+f+g+i:=by
 have j:Y/256=b+c*256+d*65536+e*16777216+f*4294967296+g*1099511627776+i*281474976710656:=J
 have l:X=(a+b)+(b+c)*256+(c+d)*65536+(d+e)*16777216+(e+f)*4294967296+(f+g)*1099511627776+(g+i)*281474976710656+i*72057594037927936:=J
 clear m j o;have k:X/65536=(c+d)+(d+e)*256+(e+f)*65536+(f+g)*16777216+(g+i)*4294967296+i*1099511627776:=J
 have q:h=(a+b+c+d)+(b+c+d+e)*256+(c+d+e+f)*65536+(d+e+f+g)*16777216+(e+f+g+i)*4294967296+(f+g+i)*1099511627776+(g+i)*281474976710656+i*72057594037927936:=J
 clear n k l;have p:h/4294967296=(e+f+g+i)+(f+g+i)*256+(g+i)*65536+i*16777216:=J
 omega
def NL(x:Nat):Nat:=
 let a:=(x/2&&& En 85 8)+(x&&& En 85 8)
 let b:=(a/4&&& En 51 8)+(a&&& En 51 8)
 let c:=(b/16+b)&&& En 15 8
 let d:=c+c/256
 let e:=d+d/65536
 e+e/4294967296
def abt{x:Nat}(p:x<2 ^ 64):NL x % 128=rY 64 x:=by
 have e:=Lh 8 x p;have k:=DZ 8 x;have i:=FW 8 x;have j:=D0 8 x;rw[show 8*8=64 from rfl]at j;generalize qW 8 x=l at*
 subst e;have m:=amz l i;rw[k]at m;have n:=amA (l.map xC) λa g=>by
  obtain⟨b,a,rfl⟩:=eZ.1 g;exact(AF (i b a)).1
 rw[bJ,k]at n;have o:=amB ((l.map xC).map uZ) λa g=>by
  obtain⟨b,a,rfl⟩:=eZ.1 g;obtain⟨c,u,rfl⟩:=eZ.1 a;have:=AF (i c u);exact⟨this.2.1,this.2.2.1⟩
 rw[bJ,bJ,k]at o;have q:((l.map xC).map uZ).map QO=l.map (rY 8):=by
  rw[fW,fW];exact pq λa g=>(AF (i a g)).2.2.2.1
 have h:∀c,c∈l.map (rY 8)->c<=8:=λc j=>by
  obtain⟨b,a,rfl⟩:=eZ.1 j;exact(AF (i b a)).2.2.2.2.2.2
 unfold NL;dsimp only;rw[m,n,o,q,j];have r:I (l.map (rY 8))=8:=by rw[bJ,k]
 generalize l.map (rY 8)=s at*
 match s,r,h with
 | [a,b,c,d,e,f,t,u],_,h=>
  have w:=h a aaV;have x:=h b aaV;have q3:=h c aaV;have y:=h d aaV;have z:=h e aaV;have A:=h f aaV;have B:=h t aaV;have C:=h u aaV;have v:[a,b,c,d,e,f,t,u].sum=a+b+c+d+e+f+t+u:=asx a b c d e f t u;rw[v];exact abr w x q3 y z A B C (pk8 a b c d e f t u) rfl rfl
section
def fd2(x:Nat)(k:Nat):((x:Nat):Int).fdiv (k:Int)=((x/k:Nat):Int):=by
 rw[xv _ J,Int.natCast_ediv]
def NM(w:M){x:Nat}(m:x<18446744073709551616):az Q 26 #[.int .u64 (x:Int)] w λe A=>e=ak (O U (rY 64 x:Nat))/\A=w:=by
 refine ret (aqI _ ?_);have v:En 85 8=6148914691236517205:=rfl;have y:En 51 8=3689348814741910323:=rfl;have z:En 15 8=1085102592571150095:=rfl;obtain⟨c,d⟩:∃c,c=(x/2&&& En 85 8)+(x&&& En 85 8):=⟨_,rfl⟩
 obtain⟨b,g⟩:∃b,b=(c/4&&& En 51 8)+(c&&& En 51 8):=⟨_,rfl⟩
 obtain⟨a,h⟩:∃a,a=(b/16+b)&&& En 15 8:=⟨_,rfl⟩
 have l:NL x=(a+a/256+(a+a/256)/65536)+(a+a/256+(a+a/256)/65536)/4294967296:=by
  unfold NL;rw[<-d];dsimp only;rw[<-g,<-h]
 rw[v]at d;rw[y]at g;rw[z]at h;have B:x/2&&& 6148914691236517205<=6148914691236517205:=oZ;have C:x&&& 6148914691236517205<=6148914691236517205:=oZ;have D:c/4&&& 3689348814741910323<=3689348814741910323:=oZ;have E:c&&& 3689348814741910323<=3689348814741910323:=oZ;have F:a<=1085102592571150095:=by rw[h];exact oZ
 have n:ar .u64 ((bits .and .u64 ((x:Int).fdiv 2) 6148914691236517205)+(bits .and .u64 (x:Int) 6148914691236517205))=(c:Int):=by
  have f:=fd2 x 2;rw[show((2:Nat):Int)=2 from rfl]at f;rw[f,show(6148914691236517205:Int)=((6148914691236517205:Nat):Int)from rfl,u64_and_nat _ _ J X,u64_and_nat _ _ m X,rW,d];omega
 have o:ar .u64 ((bits .and .u64 ((c:Int).fdiv 4) 3689348814741910323)+(bits .and .u64 (c:Int) 3689348814741910323))=(b:Int):=by
  have f:=fd2 c 4;rw[show((4:Nat):Int)=4 from rfl]at f;rw[f,show(3689348814741910323:Int)=((3689348814741910323:Nat):Int)from rfl,u64_and_nat _ _ J X,u64_and_nat _ _ J X,rW,g];omega
 have q:bits .and .u64 (ar .u64 (((b:Int).fdiv 16)+(b:Int))) 1085102592571150095=(a:Int):=by
  have f:=fd2 b 16;rw[show((16:Nat):Int)=16 from rfl]at f;have e:ar .u64 (((b/16:Nat):Int)+(b:Int))=((b/16+b:Nat):Int):=by rw[rW];omega
  rw[f,e,show(1085102592571150095:Int)=((1085102592571150095:Nat):Int)from rfl,u64_and_nat _ _ J X,h]
 rw[n,o,q];have i:=fd2 a 256;rw[show((256:Nat):Int)=256 from rfl]at i;have r:ar .u64 ((a:Int)+((a:Int).fdiv 256))=((a+a/256:Nat):Int):=by rw[i,rW];omega
 rw[r];have j:=fd2 (a+a/256) 65536;rw[show((65536:Nat):Int)=65536 from rfl]at j;have s:ar .u64 (((a+a/256:Nat):Int)+(((a+a/256:Nat):Int).fdiv 65536))=((a+a/256+(a+a/256)/65536:Nat):Int):=by rw[j,rW];omega
 rw[s];have k:=fd2 (a+a/256+(a+a/256)/65536) 4294967296;rw[show((4294967296:Nat):Int)=4294967296 from rfl]at k;have t:ar .u64 (((a+a/256+(a+a/256)/65536:Nat):Int)+(((a+a/256+(a+a/256)/65536:Nat):Int).fdiv 4294967296))=((NL x:Nat):Int):=by rw[k,rW,l];omega
 rw[t,i64_and127];refine⟨?_,rfl⟩;have p:=abt m;have u:ar U ((NL x:Nat):Int)=((NL x:Nat):Int):=fe J (by rw[l];omega);rw[u,<-p];rfl
section
variable {xs:List dN} (sd:Sd xs) (hl:xs.length<=64) {act:List Int} (A:Lg xs act)
include sd hl A
theorem D1{k:Nat}:(pI act).testBit k=L↔(k:Int)∈act:=by
 rw[wU,cP];refine⟨λh=>h.2,λh=>⟨?_,h⟩⟩;have:=(A.at_ k h).lt;omega
omit A in
theorem W6 (n:Nat):iI (Wc xs n)=oe xs n:=zq (qS _) (FI xs n) λx=>by
 rw[j9];constructor
 ·rintro⟨k,rfl,_,hk⟩;exact(zv sd.fo hl).1 hk
 intro h;obtain⟨q,t,rfl,h1,_⟩:=nT.1 h;have:=iw h1;exact⟨q,rfl,J,(zv sd.fo hl).2 h⟩
theorem amC{n:Nat}(a:(n:Int)∈act):HJ xs n&&& (18446744073709551615-pI act)=0:=jo λb=>by
 rw[mY,kc,eF];intro h;rw[aU,zu sd.fo hl,show 18446744073709551615-pI act=2 ^ 64-(pI act+1) by omega,YR (zr act),aU]at h;have i:=adK sd A n b a h.1.2;rw[(D1 sd hl A).2 i]at h;have:=h.2.2;cases this
theorem W7:pI act/2 ^ (I xs)=0:=Tf (Nat.lt_pow_two_of_testBit _ λi a=>by
 rw[eF];intro h;have:=(A.at_ i ((D1 sd hl A).1 h)).lt;omega)
end
mutual
def adR(a:Nat)(p d:Int):∀x:Nd,(Bt a p d x).map (λs:dN=>s.k)=(DJ x).map λb=>b.k
 | .mk b l=>by rw[Bt,DJ,bQ,bQ,W8]
def W8(a:Nat)(p d:Int):∀l:List Nd,(qE a p d l).map (λs:dN=>s.k)=(xY l).map λb=>b.k
 | []=>by rw[qE,xY];rfl
 | x::l=>by rw[qE,xY,cp,cp,adR,W8]
end
section
variable {xs:List dN} (sd:Sd xs) (hl:xs.length<=64) {m:Nat}
include sd hl
theorem NN{k:Nat}(hk:k<I xs):m.testBit k=L↔(k:Int)∈iI m:=by
 rw[j9];exact⟨λh=>⟨k,rfl,J,h⟩,λ⟨q,e,_,h⟩=>by rw[show k=q by omega];exact h⟩
theorem ags(n:Nat):I (iI (Wc xs n&&& m))=YX xs (iI m) n:=by
 unfold YX;rw[YQ];congr 1;refine zq (qS _) ((FI xs n).filter _) λx=>?_;rw[j9,mX,cP];constructor
 ·rintro⟨k,rfl,_,hk⟩;rw[mY,aU]at hk;have h:=(zv sd.fo hl).1 hk.1;obtain⟨q,t,e,g,_⟩:=nT.1 h;have:=iw g;exact⟨h,(NN sd hl J).1 hk.2⟩
 rintro⟨h,a⟩;obtain⟨q,t,rfl,g,_⟩:=nT.1 h;have:=iw g;exact⟨q,rfl,J,by rw[mY,(zv sd.fo hl).2 h,(NN sd hl this).2 a];rfl⟩
theorem agt(a:m<2 ^ 64){n:Nat}{t:dN}(b:xs[n]? =aM t)(c:(HJ xs n&&& (18446744073709551615-m))=0):n=0∨t.pa∈iI m:=by
 by_cases h:n=0
 ·exact .inl h
 obtain⟨p,s,i,d,e,_,f,_⟩:=sd.fo.par b J;right;have g:(HJ xs n).testBit p=L:=(zu sd.fo hl).2 ⟨i,s,e,J,f⟩;have:=bZ (λx=>x.testBit p) c;rw[mY,g,kc,cm,show 18446744073709551615-m=2 ^ 64-(m+1) by omega,YR a]at this;have S:=iw e;rw[bE (by omega:p<64),cm]at this;rw[d];exact(NN sd hl S).1 (by simpa using this)
end
def Sz{w:M}{F:aJ}{C sv G sc E:Sl}{c:Ch}(z:Dj w)(T:aA Nq 11 w F sc (Ts (uQ c) 0 0 c.root))(sd:Sd (dz c))(l:I (dz c)<=64){m:Nat}(d:m<18446744073709551616):
  az Q 8 #[ah #[C.v,sv.v,G.v,sc.v,E.v],.int .u64 (m:Int)] w λe H=>(∃b:Bool,e=ak (aj b)/\(b=L↔Lg (dz c) (iI m)))/\Z [] w H:=by
 refine iW (aj5 _ _ _ _ _ _ ?_);intro R S P N D;have V:=D.size;have p:∀{u:M},¬Lg (dz c) (iI m)->Z [] w u->(∃b:Bool,ak (aj aL)=ak (aj b)/\(b=L↔Lg (dz c) (iI m)))/\Z [] w u:=λj B=>⟨⟨aL,rfl,(λh=>abG),λh=>absurd h j⟩,B⟩
 have r:I (dz c)=iB c.root:=aew
 have i:sc.n=I (dz c):=by rw[T.len,B8,r]
 have o:bits .and .u64 (m:Int) 1=((m % 2:Nat):Int):=by
  rw[show(1:Int)=((1:Nat):Int)from rfl,u64_and_nat _ _ d X,Nat.and_one_is_mod]
 have q:(m:Int).fdiv (2 ^ (min (Int.toNat (sc.n:Int)) 64))=((m/2 ^ (I (dz c)):Nat):Int):=by
  rw[aW,Cv J,HN,fd2,i]
 have g:pI (iI m)=m:=Nn d;refine⟨λ_=>J,λa=>p (λA=>?_) D,λa=>(Wh (z.only D) d).mono ?_⟩
 ·rw[o,q]at a;have h:=(D1 sd l A (k:=0)).2 A.rt;have b:=W7 sd l A;rw[g]at h b;rw[fX,cP,Nat.pow_zero,Nat.div_one]at h;rw[h,b]at a;simp at a
 rw[o,q]at a;have F8:m.testBit 0=L:=by
  rw[fX,cP,Nat.pow_zero,Nat.div_one];simp at a;omega
 have bW:m<2 ^ (I (dz c)):=by
  have:m/2 ^ (I (dz c))=0:=Int.ofNat_eq_zero.1 (ve.1 (dq.1 a).2);rcases Nat.div_eq_zero_iff.1 this with h | h
  ·exact absurd h (Nat.pos_iff_ne_zero.1 (Nat.two_pow_pos _))
  exact h
 have nZ:∀x,x∈iI m->∃(n:Nat) (t:dN),x=n/\(dz c)[n]? =aM t:=λx hx=>by
  obtain⟨k,rfl,_,hk⟩:=j9.1 hx;have:k<I (dz c):=AW λh=>by
   rw[BJ (cH bW (E2 X h))]at hk;cases hk
  obtain⟨t,b⟩:=gj this;exact⟨k,t,rfl,b⟩
 rintro _ w1 ⟨⟨l0,rfl,hL⟩,cE⟩;have z1:=cE.size;have o1:=D.cn cE;have am:=hL.slice cK;have Ed:=am.len;have aC:I (iI m)<=64:=Ar _;generalize W:iI m=act at*
 refine⟨l0,rfl,cE.same aba,λkv aS u=>∃Y:Nat,aS=(Y:Int)/\kv+Y=I act/\Y<=I act/\(∀x,x∈act.take Y->acq (dz c) act x)/\Z [] w1 u,I act,⟨0,rfl,J,bm _,aaV,Only.refl _ _⟩,?_⟩;rintro kv _ w2 ⟨Y,rfl,pZ,hj,gy,cR⟩;refine⟨λhc=>?_,λhc=>⟨⟨L,rfl,λ_=>⟨?_,by rw[<-W];exact qS _,λx hx=>?_⟩,λ_=>rfl⟩,o1.cn cR⟩⟩
 ·have hc:=aN hc;have mf:Y<I act:=J
  obtain⟨ad,a1,a2⟩:=rV (kI am cR) (bh mf);have hg:act[Y]? =aM act[Y]:=bh mf;have k:=kb mf;obtain⟨n,t,j,ht⟩:=nZ _ k;have Oo:=iw ht;rw[j]at a2 k hg;obtain⟨x,hx⟩:∃x,(Ts (uQ c) 0 0 c.root)[n]? =aM x:=⟨_,bh (by rw[B8];omega)⟩
  obtain⟨b,f,hb,IH,_⟩:=Wg _ _ _ _ _ _ hx;rw[bS]at IH;obtain⟨xf,b1,el,ll,b2⟩:=W3 (SliceF.only lp X T (o1.cn cR) aaV) hx;have hk:x.k=kd (dz c) n:=by
   have:((dz c).map λs:dN=>s.k)[n]? =aM b.k:=by
    have e:(dz c).map (λs:dN=>s.k)=(DJ c.root).map λb=>b.k:=adR 0 (-1) 0 c.root;rw[e,cN,hb];rfl
   rw[cN,ht]at this;injection this with this;rw[KI ht,IH];exact this.symm
  have hu:x.up=HJ (dz c) n:=by rw[IH];rfl
  have hr:x.rg=Wc (dz c) n:=by rw[IH];rfl
  have bV:Wc (dz c) n&&& m<18446744073709551616:=xu YO (H6 _ _);have bY:rY 64 (Wc (dz c) n&&& m)=YX (dz c) act n:=by rw[<-DY,<-W];exact ags sd l n
  have aT:rY 64 (Wc (dz c) n)=I (oe (dz c) n):=by rw[<-DY,W6 sd l n]
  refine⟨ad,a1,_,a2,xf,b1,_,_,_,_,_,_,_,el,ll,_,_,b2,λk3 w3 xF sA di=>?_⟩;have z2:=cR.size;have z3:=di.size;dsimp only;rw[hr,hu,u64_and_nat _ _ (H6 _ _) d];refine(NM w3 bV).mono ?_;rintro _ u ⟨rfl,ZA⟩;obtain rfl:w3=u:=ZA.symm;refine⟨_,rfl,cr.refl _ _,(NM w3 (H6 _ _)).mono ?_⟩;rintro _ u ⟨rfl,ZA⟩;obtain rfl:w3=u:=ZA.symm;rw[bY,aT];refine⟨_,rfl,cr.refl _ _,λv u=>(((YX (dz c) act n:Nat):Int)=v↔Si (dz c) act n=L)/\Z [] w1 u/\w3.heap.size<=u.heap.size,?_,λhe=>(NM w3 (H6 _ _)).mono ?_,λhe=>⟨?_,cR.cn di,aX _⟩⟩
  ·rintro v w6 ⟨f,t,z6⟩;refine(KT w6 x.k).mono ?_;rintro _ u ⟨rfl,ZA⟩;obtain rfl:w6=u:=ZA.symm;have cc:acq (dz c) act n->HJ (dz c) n&&& (18446744073709551615-m)=0->True:=λ_ _=>trivial;refine⟨_,rfl,cr.refl _ _,λe=>p (λA=>?_) (o1.cn t),λe=>⟨kv-1,J,Y+1,aaA,J,J,λy b=>?_,t⟩⟩
   ·have h:=A.at_ n k;have v:HJ (dz c) n&&& (18446744073709551615-m)=0:=by
     have:=amC sd l A k;rwa[g]at this
    have s:=h.on;rw[aW]at s;rw[hk,h.st,u64_andNot_nat _ _ (W5 _ _) d,v,<-f.2 s]at e;simp at e
   rw[bq,hg,cj]at b;rcases b with b | b
   ·exact gy y b
   simp only[Option.toList,aP]at b;subst b;rw[hk,u64_andNot_nat _ _ (W5 _ _) d]at e;simp only[dq,gY,ve]at e;obtain⟨⟨n,x⟩,v⟩:=e;have c:=agt sd l d ht J;refine⟨J,J,n,?_,?_⟩
   ·rcases c with h | h
    ·exact .inl J
    refine .inr λs y=>?_;rw[aW,ht]at y;injection y with y;rw[<-y,<-W];exact h
   rw[aW];exact f.1 v
  ·rintro _ u ⟨rfl,ZA⟩;obtain rfl:w3=u:=ZA.symm;refine⟨_,rfl,cr.refl _ _,?_,cR.cn di,aX _⟩;have he:x.k=2:=abX
   rw[aT];unfold Si;rw[aV (by rw[<-hk];exact he),db];omega
  have he:x.k≠2:=abX
  unfold Si;rw[aR (show ¬kd (dz c) (n:Int)=2 from λe=>he (hk.trans e)),db];split<;>omega
 ·rw[<-W,j9];exact⟨0,rfl,X,F8⟩
 have hc:=aQ hc;rw[bp J]at gy;exact gy x hx
end
structure Lk (f:Ft) (w:M) (b:Nat) (F:aJ) (vs:Sl) (vars:List Vr) (nc:aI) (sl:Sl) (xs:List dN):Prop where
 blk:aF w b 104 (vs.v::(nc++[sl.v,O U f.1,O U f.2]))
 nc9:I nc=9
 vr:aA M0 3 w F vs vars
 sp:aA tA 5 w F sl xs
 nF:∀k,F k->k≠b
section
variable {f g:Ft} {w w':M} {b:Nat} {F G:aJ} {vs sl:Sl} {vars:List Vr} {nc:aI} {xs:List dN}
def Lk.only(h:Lk f w b F vs vars nc sl xs)(a:Z [] w w'):Lk f w' b F vs vars nc sl xs:=
 ⟨a.blk h.blk aaV,h.nc9,SliceF.only fh X h.vr a aaV,SliceF.only dI X h.sp a aaV,h.nF⟩
def Lk.kY(h:Lk f w b F vs vars nc sl xs)(a:Z [b] w w')(B:aF w' b 104 (vs.v::(nc++[sl.v,O U g.1,O U g.2]))):Lk g w' b F vs vars nc sl xs:=
 ⟨B,h.nc9,SliceF.only fh X h.vr a λk hk _ hm=>h.nF k hk abR,SliceF.only dI X h.sp a λk hk _ hm=>h.nF k hk abR,h.nF⟩
def Lk.lb(h:Lk f w b F vs vars nc sl xs):b<w.heap.size:=h.blk.lt
def Lk.row(h:Lk f w b F vs vars nc sl xs):aB w ((⟨b,0,aaf⟩:Addr).add 10) [sl.v]:=by
 have a:=h.nc9;exact Blk.dM h.blk 10 (by rw[cO,cd J,a];rfl)
def tH(h:Lk f w b F vs vars nc sl xs)(e a:Int):az Q 47 #[ae (aM ⟨b,0,aaf⟩),O U e,O U a] w λr w'=>r=ak (ai #[])/\Lk (iY f [(e,a)]) w' b F vs vars nc sl xs/\Z [b] w w':=by
 refine ret (akp _ _ _ ?_);have c:=h.nc9;have g:(vs.v::(nc++[sl.v,O U f.1,O U f.2]))[11]? =aM (.int U f.1):=by
  rw[cO,cd J,c];rfl
 refine⟨f.1,Blk.dM h.blk 11 g,λhf=>⟨b,11,_,_,rfl,h.blk,aba,λi d Y=>⟨rfl,?_,d⟩⟩,λhf=>⟨rfl,?_,Only.refl _ _⟩⟩
 ·have b:fQ (vs.v::(nc++[sl.v,O U f.1,O U f.2])) 11 [O U e,O U a]=vs.v::(nc++[sl.v,O U e,O U a]):=by
   unfold fQ;rw[eJ,List.take_append,c,bp J];simp[c]
  rw[b]at Y;have hf:f.1=0:=ac3
  have:iY f [(e,a)]=(e,a):=by simp[iY,hf]
  rw[this];exact h.kY d Y
 have hf:f.1≠0:=ac3
 rw[Dr hf];exact h
def QP(h:Lk f w b F vs vars nc sl xs){ok:Bool}(e a:Int)(k:ok=aL):az Q 47 #[ae (aM ⟨b,0,aaf⟩),O U e,O U a] w λr w'=>r=ak (ai #[])/\Lk (iY f (bad ok e a)) w' b F vs vars nc sl xs/\Z [b] w w':=by
 subst k;exact tH h e a
def QS(a:Lk f w b F vs vars nc sl xs)(m:I vars<=8388608)(s:aH):az Q 163 #[ae (aM ⟨b,0,aaf⟩),K (T s)] w λe w'=>e=ak (aj (decide (s∈vars.map λv=>v.n)))/\w'=w:=by
 refine ret (alq _ _ ?_);have l:=a.vr.len;refine⟨λk i u=>∃j:Nat,i=(j:Int)/\k+j=I vars/\j<=I vars/\s∉(vars.take j).map (λv=>v.n)/\w=u,I vars,⟨0,rfl,J,bm _,aaV,rfl⟩,?_⟩;rintro k _ _ ⟨j,rfl,p,d,c,rfl⟩;refine⟨vs,Blk.dM a.blk 0 rfl,λh=>?_,λh=>⟨?_,rfl⟩⟩
 ·have h:=aN h;obtain⟨ad,y,s,f,g,o,q,n,e⟩:=a.vr.get (aZ j) J;have e:s=[K (T y.n),O U y.v,O U y.a]:=e;subst e;rw[aW]at g;refine⟨vs,Blk.dM a.blk 0 rfl,ad,f,_,n.dM 0 _ rfl,λb=>⟨?_,rfl⟩,λb=>⟨k-1,J,j+1,aaA,J,J,?_,rfl⟩⟩
  ·rw[iV]at b;have b:=aN b;rw[bE (eZ.2 ⟨y,bB g,b⟩)]
  rw[iV]at b;rw[bq,g,cp,cj];rintro(r | r)
  ·exact c r
  simp only[Option.toList,bQ,ft,aP]at r;exact aQ b r.symm
 have h:=aQ h;rw[bp J]at c;rw[bD c]
def SA(h:Lk f w b F vs vars nc sl xs)(m:I xs<=1000)(s:aH):az Q 164 #[ae (aM ⟨b,0,aaf⟩),K (T s)] w λe w'=>e=ak (aj (IB xs s))/\w'=w:=by
 refine ret (alr _ _ ?_);refine⟨sl,h.row,(uF h.sp s).mono ?_⟩;rintro _ u ⟨rfl,a⟩;obtain rfl:w=u:=a.symm;refine⟨_,rfl,λr u=>r=IB xs s/\w=u,λr u ⟨d,g⟩=>⟨by rw[d],g.symm⟩,λc=>?_,λc=>⟨?_,rfl⟩⟩
 ·have c:=aN c;rcases jE xs s with⟨e,_⟩ | ⟨j,y,e,b,_⟩
  ·omega
  obtain⟨ad,f,i,_⟩:=jQ h.sp b;rw[e];refine⟨sl,h.row,ad,f,_,i.dM 0 _ rfl,(Cg w y.k).mono ?_⟩;rintro _ u ⟨rfl,a⟩;refine⟨_,rfl,?_,a.symm⟩;unfold IB;rw[e,ic b,bE J,cm]
 unfold IB;rw[show decide (0<=fN xs s)=aL from c,cV]
def D2(h:∀k,G k->k≠b)(g:I vars<=8388608)(hm:I xs<=1000):∀(d:Nat) {f:Ft} {w:M} {x:Ex} {c:aI},Lk f w b F vs vars nc sl xs->MY aL d w G x c->Di x<=8388608->
  az Q 117 #[ae (aM ⟨b,0,aaf⟩),ah c.toArray] w λe w'=>e=ak (ai #[])/\Lk (iY f (PF xs (vars.map λv=>v.n) x)) w' b F vs vars nc sl xs/\Z [b] w w'
 | 0,_,_,_,_,_,a,_=>a.elim
 | d+1,f,w,x,c,p,⟨s,N,Y⟩,z=>by
  subst N;have t:=Y.1;have rK:=t.len;have hb:=p.lb;rw[Dk]at z;have H:I x.dC<=LR x.dC:=by
   have:∀b:List Ex,I b<=LR b:=λb=>by induction b with
    | nil=>exact bm _
    | cons a b d=>
     rw[LR,ba];have:=Dk a;omega
   exact this _
  generalize R:(vars.map λv=>v.n)=n;refine ret (akZ _ _ _ _ _ _ _ ?_);intro P e W V D;have z0:=D.size;have q:=p.only D;have sm:∀{u E:M},Z [b] w u->e.heap.size<=u.heap.size->Z [b] u E->cr [P] u E:=λ_ z G=>G.same aba;let St:Ft->M->Prop:=λf u=>Lk f u b F vs vars nc sl xs/\Z [b] w u/\e.heap.size<=u.heap.size
  have A:St f e:=⟨q,only1 D,aX _⟩
  refine⟨λr u=>r=(decide (x.k≠2)||decide (x.s∈n))/\St f u,λj T ⟨m,B⟩=>⟨λr u=>r=(decide (x.k≠3)||IB xs x.s)/\St f u,λl w2 ⟨o,C⟩=>⟨St (iY f (bad (LU xs n x.k x.s) 23 x.a)),λw3 S=>?_,λi=>?_,λi=>?_⟩,λhk=>⟨?_,B⟩,λhk=>?_⟩,λhk=>⟨?_,A⟩,λhk=>?_⟩
  ·refine⟨λw F u=>∃a:Nat,F=(a:Int)/\w+a=I x.dC/\a<=I x.dC/\St (iY f (bad (LU xs n x.k x.s) 23 x.a++tt xs n (x.dC.take a))) u,I x.dC,⟨0,rfl,J,bm _,by rw[ci,tt,bG];exact S⟩,?_⟩;rintro w _ w4 ⟨a,rfl,pZ,hj,v,s,z4⟩;refine⟨λb=>?_,λb=>?_⟩
   ·have b:=aN b;obtain⟨ad,y,ds,g1,g2,g3,g4,g5,g6⟩:=(SliceF.only (lM aL d) X t s λk hk _ hm=>h k hk abR).get (aZ a) J;rw[aW]at g2;have am:=Hm (bB g2);have D9:=g6;obtain⟨s',rfl⟩:=fp ⟨d,g6⟩;have Bm:=D2 h g hm d v D9 J;rw[R]at Bm;refine⟨ad,g1,_,_,_,_,_,_,g5,Bm.mono ?_⟩;rintro _ w5 ⟨rfl,h5,f⟩;have z5:=f.size;have nY:x.dC.take (a+1)=x.dC.take a++[y]:=by rw[bq,g2];rfl
    refine⟨rfl,sm s z4 f,w-1,J,a+1,aaA,J,J,?_,gL s f,J⟩;rw[nY,Dt,tt,tt,bG,<-bC,ga];exact h5
   have b:=aQ b;have d:a=I x.dC:=J
   subst d;rw[bp (aX _),<-Vo]at v;exact⟨rfl,v,s⟩
  ·obtain⟨b,a,s⟩:=C;have k:LU xs n x.k x.s=aL:=by
    unfold LU;rw[<-m,<-o];cases j<;>cases l<;>simp at i⊢
   refine(QP b 23 x.a k).mono ?_;rintro _ w ⟨rfl,f,d⟩;have v:=d.size;exact⟨rfl,sm a s d,f,gL a d,J⟩
  ·have k:LU xs n x.k x.s=L:=by
    unfold LU;rw[<-m,<-o];cases j<;>cases l<;>simp at i⊢
   rw[k];exact C
  ·have hk:x.k≠3:=abI
   rw[bE hk];rfl
  ·have hk:x.k=3:=abI
   obtain⟨a,d,f⟩:=B;refine(SA a hm _).mono ?_;rintro _ u ⟨rfl,b⟩;obtain rfl:T=u:=b.symm;exact⟨_,rfl,cr.refl _ _,by rw[hk];rfl,a,d,f⟩
  ·have hk:x.k≠2:=abI
   rw[bE hk];rfl
  have hk:x.k=2:=abI
  refine(QS q g _).mono ?_;rintro _ u ⟨rfl,a⟩;obtain rfl:e=u:=a.symm;exact⟨_,rfl,cr.refl _ _,by rw[hk,R];rfl,A⟩
def Li(g:∀k,G k->k≠b)(h:I vars<=8388608)(hm:I xs<=1000){a:Sl}{p:List Ac}(q:Lk f w b F vs vars nc sl xs)(o:kx aL (qv aL) 9 161 w G a p)(z:jF p<=8388608):
  az Q 116 #[ae (aM ⟨b,0,aaf⟩),a.v] w λe w'=>e=ak (ai #[])/\Lk (iY f (lm xs (vars.map λv=>v.n) p)) w' b F vs vars nc sl xs/\Z [b] w w':=by
 generalize R:(vars.map λv=>v.n)=n;refine ret (akY _ _ ?_);have E:=o.1.len;have t:=gI p;have kp:∀{u:M},Z [b] w u->aA (qv aL) 9 u G a p:=λr=>SliceF.only (dy aL) X o.1 r λk hk _ hm=>g k hk abR;let St:Ft->M->Prop:=λf u=>Lk f u b F vs vars nc sl xs/\Z [b] w u
 refine⟨λc i u=>∃j:Nat,i=(j:Int)/\c+j=I p/\j<=I p/\St (iY f (lm xs n (p.take j))) u,I p,⟨0,rfl,J,bm _,by rw[ci];exact q,Only.refl _ _⟩,?_⟩;rintro c i u ⟨j,rfl,A,x,l⟩;refine⟨λm=>?_,λm=>?_⟩
 ·have m:=aN m;obtain⟨y,B⟩:∃y,p[j]? =aM y:=⟨_,bh (show j<(I p) by omega)⟩
  have H:=qR (bB B);unfold FC at H;have N:lm xs n (p.take (j+1))=lm xs n (p.take j)++(bad (decide (y.k≠1)||decide (y.n∈n)) 23 y.a++PF xs n y.x):=by
   rw[bq,B];unfold lm;rw[jM];simp[acF]
  have at_:∀{v:M},Z [b] w v->∃ad s,cT a (j:Int) 9 ad/\aB v (ad.add 0) [O U y.k]/\aB v (ad.add 1) [K (T y.n)]/\aB v (ad.add 2) (oa y.x.k y.x.n y.x.s y.x.op s y.x.a)/\aB v (ad.add 8) [O U y.a]/\rE aL v G y.x (oa y.x.k y.x.n y.x.s y.x.op s y.x.a):=fun{v} h=>by
   obtain⟨ad,y',T,y,b,q3,q4,d,G⟩:=(kp h).get (aZ j) J;rw[aW,B]at b;injection b with b;subst b;obtain⟨xc,rfl,f⟩:=G;obtain⟨s,rfl⟩:=fp f;exact⟨ad,s,y,d.dM 0 _ rfl,d.dM 1 _ rfl,d.part 2 λi v w=>K6 w,d.dM 8 _ rfl,f⟩
  obtain⟨ad,s,F,P,S,g4,g5,g6⟩:=at_ l.2;refine⟨λV v=>V=(decide (y.k≠1)||decide (y.n∈n))/\St (iY f (lm xs n (p.take j))) v,λY W ⟨D,e⟩=>⟨St (iY f (lm xs n (p.take j)++bad (decide (y.k≠1)||decide (y.n∈n)) 23 y.a)),λw2 C=>?_,λk=>?_,λk=>?_⟩,ad,F,_,P,λhk=>⟨?_,l⟩,λhk=>⟨ad,F,_,S,(QS l.1 h _).mono ?_⟩⟩
  ·obtain⟨T,G,v,p2,p3,w,p5,d,y⟩:=at_ C.2;have b:=D2 g h hm d C.1 y J;rw[R]at b;refine⟨T,v,_,_,_,_,_,_,w,b.mono ?_⟩;rintro _ w3 ⟨rfl,s,f⟩;refine⟨rfl,c-1,J,j+1,aaA,J,J,?_,gL C.2 f⟩;rw[N,<-bC,ga];exact s
  ·obtain⟨G,w,s,T,p3,p4,v,p6⟩:=at_ e.2;have f:(decide (y.k≠1)||decide (y.n∈n))=aL:=by rw[<-D];simpa using k
   refine⟨G,s,_,v,(QP e.1 23 _ f).mono ?_⟩;rintro _ w4 ⟨rfl,b,d⟩;refine⟨rfl,?_,gL e.2 d⟩;rw[ga];exact b
  ·have b:(decide (y.k≠1)||decide (y.n∈n))=L:=by rw[<-D];simpa using k
   rw[b];show St (iY f (_++[])) W;rw[bG];exact e
  ·have hk:y.k≠1:=abI
   rw[bE hk];rfl
  have hk:y.k=1:=abI
  rintro _ v ⟨rfl,b⟩;obtain rfl:u=v:=b.symm;exact⟨_,rfl,by rw[hk,R];rfl,l⟩
 have m:=aQ m;have b:j=I p:=J
 subst b;rw[bp (aX _)]at l;exact⟨rfl,l.1,l.2⟩
end
section
variable {f:Ft} {w w':M} {b:Nat} {F G:aJ} {vs sl:Sl} {vars:List Vr} {nc:aI} {xs:List dN}
def abu(F:Fo xs){a b:Int}(c:xU xs a)(d:xU xs b):∃(m:Nat) (x:dN),yX xs a b=m/\xs[m]? =aM x:=by
 unfold yX;rcases wN (xs:=xs) a b (I xs) with⟨_,h⟩ | ⟨m,e,f,_⟩
 ·have b:=h 0 F.ne;obtain⟨x,a⟩:=gj (xs:=xs) (i:=0) F.ne;have r:=(F.rt x a).2.2;obtain⟨e,j⟩:=c;obtain⟨g,k⟩:=d;rw[wZ a e,wZ a g,bE J,bE J]at b;cases b
 obtain⟨x,a⟩:=gj (xs:=xs) f;exact⟨m,x,e,a⟩
def Lj(v:Fo xs)(A:I xs<=64){D:Sl}{g:List (aH)}(a:Lk f w b F vs vars nc sl xs)(H:aA ke 1 w G D g)(W:I g<=1100000):
  az Q 118 #[ae (aM ⟨b,0,aaf⟩),D.v] w λe w'=>e=ak (aj (LS xs [] g))/\Z [] w w':=by
 refine ret (ak0 _ _ ?_);have S:=H.len;have R:∀{u:M},Z [] w u->aA ke 1 u G D g:=λc=>SliceF.only cY X H c aaV;have r:∀{u:M},Z [] w u->aA tA 5 u F sl xs:=λc=>(a.only c).sp;refine⟨λC q B u=>∃(j:Nat) (i:List Int),B=(j:Int)/\C+j=I g/\j<=I g/\I i=j/\(∀n,n∈i->xU xs n)/\gn w.heap.size u q i/\LS xs [] g=LS xs i (g.drop j)/\Z [] w u,I g,⟨0,[],rfl,J,bm _,rfl,λn h=>by simp at h,Own.nil _ _ _ _ _ _,rfl,Only.refl _ _⟩,?_⟩;rintro C q _ w0 ⟨j,i,rfl,Y,V,N,m,P,o,c⟩;refine⟨λl d E=>?_,λl=>⟨?_,c⟩⟩
 ·have l:=aN l;have f:=c.cn E;obtain⟨ad,s,cs,g1,G,g3,g4,g5,g6⟩:=(R f).get (aZ j) J;have g6:cs=[K (T s)]:=g6;subst g6;rw[aW]at G;have am:g.drop j=s::g.drop (j+1):=by
   obtain⟨bW,e⟩:=bf.1 G;rw[<-e,BI]
  rw[am,DF]at o;refine⟨sl,(a.only f).row,ad,g1,_,g5,(uF (r f) s).mono ?_⟩;rintro _ u ⟨rfl,hu⟩;obtain rfl:d=u:=hu.symm;refine⟨_,rfl,λF=>⟨?_,f⟩,λF=>?_⟩
  ·rw[o,aV (aN F)]
  have F:=aQ F;rw[aR F]at o;have T:=Qc v F;obtain⟨e,_⟩ | ⟨p,x,e,hx,_⟩:=jE xs s
  ·omega
  obtain⟨aC,a1,a2,a3,_⟩:=jQ (r f) hx;have aS:gn w.heap.size d q i:=P.kp E;have eN:Fw xs s=if iu x.k=L then x.pa else(p:Int):=by
   unfold Fw;rw[e,ic hx,mG hx]
  rw[e]at F⊢;refine⟨sl,(a.only f).row,aC,a1,_,a2.dM 0 _ rfl,(Cg d x.k).mono ?_⟩;rintro _ u ⟨rfl,hu⟩;obtain rfl:d=u:=hu.symm;refine⟨_,rfl,λi3 u=>i3=Fw xs s/\d=u,λi3 w4 ⟨h3,aT⟩=>?_,λhh=>⟨sl,(a.only f).row,aC,a1,_,a3,?_,rfl⟩,λhh=>⟨?_,rfl⟩⟩
  ·subst aT h3;refine⟨λAQ B u=>∃t:Nat,B=(t:Int)/\AQ+t=I i/\t<=I i/\((i.take t).any λbY=>!PD xs (Fw xs s) bY)=aL/\Z [] d u,I i,⟨0,rfl,J,bm _,rfl,Only.refl _ _⟩,?_⟩;rintro AQ _ w5 ⟨t,rfl,Ee,ht,e,eW⟩;have bV:=aS.len;have o5:=f.cn eW;have p:gn w.heap.size w5 q i:=aS.kp eW;refine⟨λx w6 dY=>?_,λx=>?_⟩
   ·have x:=aN x;have o6:=o5.cn dY;have co:gn w.heap.size w6 q i:=p.kp dY;obtain⟨y,hy⟩:∃y,i[t]? =aM y:=⟨_,bh (show t<(I i) by omega)⟩
    have n:=m y (bB hy);obtain⟨xf,b1,b2⟩:=H3 (amx co) hy;obtain⟨y4,w7,k1,k2,k3⟩:=amd w6 (Ao T A) (Ao n A);refine⟨λk=>k=b,rfl,sl,(a.only o6).row,xf,b1,y,b2,y4,w7,k1,bR.only k2,(abo (r (o6.cn k2)) v J k3 T n).mono ?_⟩;rintro _ w8 ⟨rfl,fy⟩;have o8:=(o6.cn k2).cn fy;obtain⟨Cp,c1,c2⟩:=H3 (amx ((co.kp k2).kp fy)) hy;obtain⟨cC,z,em,II⟩:=abu v T n;obtain⟨dO,d1,d2,_⟩:=jQ (r o8) II;have cc:(!PD xs (Fw xs s) y)=(((cC:Int)==Fw xs s||(cC:Int)==y)||z.k !=2):=by
     unfold PD;rw[em,ic II,bM];by_cases q:(cC:Int)=Fw xs s<;>by_cases b:(cC:Int)=y<;>by_cases q3:z.k=2<;>simp[q,b,q3]
    rw[em];refine⟨_,rfl,bR.only fy,Cp,λ_=>c1,_,λ_=>c2,sl,λ_=>(a.only o8).row,dO,λ_=>d1,_,λ_=>d2.dM 0 _ rfl,λhq=>⟨?_,o8⟩,λhq=>⟨AQ-1,J,t+1,aaA,J,J,?_,(eW.cn dY).cn (k2.cn fy)⟩⟩
    ·rw[o,aV];exact oY.2 ⟨y,bB hy,cc.trans hq⟩
    rw[bq,hy,Cu,e,qc];simp only[Option.toList,List.any_cons,List.any_nil,IV];exact cc.trans hq
   have x:=aQ x;rw[bp J]at e;rw[aR (by rw[e];decide)]at o;obtain⟨y,t,k,k3,q,b,g1,G,g3,_⟩:=adE w p o5 (Fw xs s) (Ao T A) J;refine⟨y,t,k,q,b,g1,C-1,J,j+1,i++[Fw xs s],aaA,J,J,by rw[aO,bI,N],λn h=>?_,G,o,g3⟩;rcases cj.1 h with h | h
   ·exact m n h
   simp only[aP]at h;subst h;exact T
  ·rw[eN,aV hh]
  rw[eN,aR adz]
 have l:=aQ l;rw[eP J]at o;rw[o];rfl
end
def b25(k:Int)(n:Nat)(i:aH)(g:Bool):Bool:=decide (k=2/\(i≠[]∨n<2))||decide (k=1/\0<n/\g=aL)||decide (k=1/\n=0/\i≠[])
def adS n i g:b25 2 n i g=L↔i≠[]∨n<2:=by unfold b25;simp
def QT n i g:b25 1 n i g=L↔(0<n/\g=aL)∨(n=0/\i≠[]):=by unfold b25;simp
def amD{xs}{b}{l}{n} f (hk:1<=b.k/\b.k<=4) (hh:iu b.k=aL):iY f (uX xs b l n)=if b25 b.k (Du l) b.ini (yZ b.ini l)=L then iY f [(25,b.a)]else if b.k=1/\Du l=0/\I l≠0 then iY f [(26,b.a)]else f:=by
 have e:¬_:=λh=>by unfold iu at hh;rw[bE h]at hh;cases hh
 unfold uX;rw[aR adz];rcases(by omega:b.k=2∨b.k=1)with a | d
 ·rw[aV a,a];by_cases c:b.ini≠[]∨Du l<2
  ·have:(decide (b.ini=[])&&decide (1<Du l))=aL:=by
    rw[fS,dS,dS];rcases c with c | c
    ·exact .inl c
    exact .inr J
   rw[aV ((adS _ _ _).2 c),this];rfl
  have:(decide (b.ini=[])&&decide (1<Du l))=L:=by
   rw[aU,cP,cP];exact⟨yy.1 λh=>c (.inl h),AW λh=>c (.inr J)⟩
  rw[aR (λh=>c ((adS _ _ _).1 h)),aR (λh=>absurd h.1 X),this];rfl
 rw[aR J,d];by_cases s:0<Du l
 ·rw[aV s];cases g:yZ b.ini l
  ·rw[aV ((QT _ _ _).2 (.inl ⟨s,rfl⟩))];rfl
  rw[aR (λh=>((QT _ _ _).1 h).elim (λh=>(by cases h.2)) λh=>J),aR (λh=>J)];rfl
 rw[aR s];have Y:Du l=0:=J
 by_cases i:b.ini=[]
 ·rw[aR (λh=>((QT _ _ _).1 h).elim (λh=>J) λh=>h.2 i),bE i];by_cases b:I l=0
  ·rw[aR (λh=>h.2.2 b),bE b];rfl
  rw[aV ⟨rfl,Y,b⟩,bD b];rfl
 rw[aV ((QT _ _ _).2 (.inr ⟨Y,i⟩)),bD i,ga];show iY (iY f [_]) _=_;refine Dr ?_ _;rw[show iY f [_]=if f.1=0 then _ else f from rfl];split
 ·show 25≠0;decide
 assumption
section
variable {f:Ft} {w w':M} {b:Nat} {F G:aJ} {vs sl:Sl} {vars:List Vr} {nc:aI} {xs:List dN}
def W9(hG:∀k,G k->k≠b)(R:Fo xs)(hv:I vars<=8388608)(hm:I xs<=64){N:Nat}{c:Nb}{s:List Nd}{cs:aI}(aC:Lk f w b F vs vars nc sl xs)(hx:mz aL (N+1) w G (.mk c s) cs){a:Nat}(ha:a<I xs)(B:lf (.mk c s)<=1048576){dp:Nat}(S:lY dp (.mk c s)=L):
  az Q 81 #[ae (aM ⟨b,0,aaf⟩),ah cs.toArray,O U (a:Int)] w λe w'=>e=ak (ai #[])/\Lk (iY f (uX xs c s a++(lm xs (vars.map λv=>v.n) (c.en++c.lv)++c.mv.flatMap (B1 xs (vars.map λv=>v.n))))) w' b F vs vars nc sl xs/\Z [b] w w':=by
 have Mf:1<=c.k/\c.k<=4:=by
  rw[lY,aU,aU]at S;have i:=S.1.2;unfold uq at i;rw[aU]at i;have i:=i.2;split at i
  ·rename_i a;unfold iu at a;have:=aN a;omega
  simp only[aU]at i;have:=(aN i.1.1.1.1).1;omega
 have TP:∀D,D∈c.mv->D.k=3->0<=D.wt:=λD Y hk=>by
  rw[lY,aU,aU]at S;have i:=S.1.2;unfold uq at i;rw[aU]at i;have i:=i.2;split at i
  ·simp only[aU]at i;have:=(aN i.2).2.2.2.1;rw[AX.1 this]at Y;simp at Y
  rw[aU]at i;have:=dF.1 i.2 D Y;unfold pU at this;rw[aU]at this;have:=aN this.2;omega
 obtain⟨en,lv,mv,kids,ix,⟨he,Co,oS⟩,fT⟩:=hx;dsimp only[Nd.kids,Nd.b]at ix he Co oS fT;subst ix;have hk:=fT.1;rw[lf]at B;unfold wO at B;have LH:=pG s;have i:=aC.lb;generalize V:(vars.map λv=>v.n)=m;let aT:List Ft:=uX xs c s a
 refine ret (akG _ _ _ _ _ _ _ _ _ _ _ ?_);intro k0 w0 dZ wx cD;have z0:=cD.size;let St:Ft->M->Prop:=λf u=>Lk f u b F vs vars nc sl xs/\Z [b] w u/\w0.heap.size<=u.heap.size
 have s0:St f w0:=⟨aC.only cD,only1 cD,aX _⟩
 have sm:∀{g:Ft} {u d:M},St g u->Z [b] u d->cr [k0] u d:=λhs hO=>hO.same (by have:=hs.2.2;simp;omega);have Z9:∀{g:Ft} {u d:M},St g u->Z [] u d->St g d:=fun{g u d} hs hO=>⟨hs.1.only hO,gL hs.2.1 (only1 hO),adY⟩
 have xC:∀{g r:Ft} {u d:M},St g u->Lk r d b F vs vars nc sl xs->Z [b] u d->St r d:=fun{g r u d} hs x hO=>⟨x,gL hs.2.1 hO,adY⟩
 have lk:∀(e P:Int) {g:Ft} {u:M},St g u->az Q 47 #[ae (aM ⟨b,0,aaf⟩),O U e,O U P] u λH d=>H=ak (ai #[])/\cr [k0] u d/\St (iY g [(e,P)]) d:=λe P {g u} hs=>(tH hs.1 e P).mono (by
  rintro _ d ⟨rfl,x,hO⟩;exact⟨rfl,sm hs hO,xC hs x hO⟩)
 have YJ:∀(k:Int) {u:M},az Q 29 #[O U k] u λH d=>∃b':Bool,H=ak (aj b')/\u=d/\b'=iu k:=λk {u}=>(Cg u k).mono (by
  rintro _ d ⟨rfl,a⟩;exact⟨_,rfl,a.symm,rfl⟩)
 have kA:∀{u:M} {q:Sl} {o:List Ac},kx aL (qv aL) 9 161 w G q o->∀{g:Ft},St g u->kx aL (qv aL) 9 161 u G q o:=fun{u q o} h {g} hs=>h.keep (dy aL) X λk hk W=>hs.2.1.block k W aeB;have kK:∀{g:Ft} {u:M},St g u->aA (mz aL N) 9 u G kids s:=λhs=>SliceF.only (cA aL N) X hk hs.2.1 λk hk _ hm=>hG k hk abR;have aS:=hk.len;refine⟨λC i0 b0 am u=>∃j:Nat,am=(j:Int)/\C+j=I s/\j<=I s/\i0=(Du (s.take j):Nat)/\b0=yZ c.ini (s.take j)/\St f u,I s,⟨0,rfl,J,bm _,rfl,rfl,s0⟩,?_⟩;rintro C _ _ _ w1 ⟨j,rfl,pZ,hj,rfl,rfl,A⟩;refine⟨λE=>?_,λE=>(YJ c.k).mono ?_⟩
 ·have E:=aN E;obtain⟨y,l⟩:∃y,s[j]? =aM y:=⟨_,bh (show j<(I s) by omega)⟩
  have at_:∀{g:Ft} {u:M},St g u->∃(ad:Addr),cT kids (j:Int) 9 ad/\aB u (ad.add 0) [O U y.b.k]/\aB u (ad.add 1) [K (T y.b.nm)]:=fun{g u} hs=>by
   obtain⟨ad,T,y,k,a,v,G,e,f⟩:=(kK hs).get (aZ j) J;rw[aW,l]at a;injection a with a;subst a;cases N with
   | zero=>exact f.elim
   | succ D'=>
    obtain⟨tT,tU,qk,iE,rfl,_⟩:=f;exact⟨ad,k,e.dM 0 _ rfl,e.dM 1 _ rfl⟩
  have t:=DG l;have w:=VV (s.take j);rw[ch]at w;have b:yZ c.ini (s.take (j+1))=(yZ c.ini (s.take j)||decide (y.b.nm=c.ini)):=by
   unfold yZ;rw[bq,l,Cu];simp
  obtain⟨ad,k,a,v⟩:=at_ A;refine⟨ad,k,_,a,(YJ y.b.k).mono ?_⟩;rintro _ u ⟨z,rfl,rfl,rfl⟩;refine⟨_,rfl,cr.refl _ _,λn u=>n=(Du (s.take (j+1)):Nat)/\St f u,λn F ⟨q,p⟩=>?_,λhn=>⟨?_,A⟩,λhn=>⟨?_,A⟩⟩
  ·obtain⟨e,y,T,G⟩:=at_ p;exact⟨e,λ_=>y,_,λ_=>G,λw4 f=>⟨C-1,J,j+1,aaA,J,J,q,by rw[b,iV],Z9 p f⟩⟩
  ·rw[fe J J,t,aR (by intro e;rw[e]at hn;cases hn)];rfl
  rw[t,aV aeb];rfl
 have E:=aQ E;have lc:j=I s:=J
 subst lc;rw[bp (aX _)];rintro _ u ⟨b2,rfl,rfl,zU⟩;have rC:∀{q:Sl} {o:List Ac},kx aL (qv aL) 9 161 w G q o->jF o<=8388608->∀{g:Ft} {u:M},St g u->az Q 116 #[ae (aM ⟨b,0,aaf⟩),q.v] u λH d=>H=ak (ai #[])/\Z [b] u d/\St (iY g (lm xs m o)) d:=fun{q o} h v {g u} hs=>(Li hG hv J hs.1 (kA h hs) v).mono (by
  rw[V];rintro _ d ⟨rfl,x,hO⟩;exact⟨rfl,hO,xC hs x hO⟩)
 refine⟨b2,rfl,cr.refl _ _,St (iY f (uX xs c s a)),λw6 T=>?_,?_,?_⟩
 ·refine(rC he J T).mono ?_;rintro _ w7 ⟨rfl,gq,p⟩;refine⟨rfl,sm T gq,(rC Co J p).mono ?_⟩;rintro _ w8 ⟨rfl,fy,q⟩;have G:iY (iY (iY f (uX xs c s a)) (lm xs m c.en)) (lm xs m c.lv)=iY f (uX xs c s a++lm xs m (c.en++c.lv)):=by
   rw[<-ga,<-ga];unfold lm;rw[jM]
  rw[G]at q;have Es:=oS.1.len;have Yd:=kR c.mv;refine⟨rfl,sm p fy,λC am u=>∃j:Nat,am=(j:Int)/\C+j=I c.mv/\j<=I c.mv/\St (iY f (uX xs c s a++(lm xs m (c.en++c.lv)++(c.mv.take j).flatMap (B1 xs m)))) u,I c.mv,⟨0,rfl,J,bm _,by rw[ci,tW,bG];exact q⟩,?_⟩;rintro n _ w ⟨t,rfl,z,ht,l⟩;refine⟨λe=>?_,λe=>?_⟩
  ·have e:=aN e;obtain⟨ad,y,ds,g1,g2,g3,g4,g5,g6⟩:=(SliceF.only (mr aL) X oS.1 l.2.1 λk hk _ hm=>hG k hk abR).get (aZ t) J;rw[aW]at g2;have rj:=bB g2;have Ri:=nR rj;have cC:=TP y rj;unfold El at Ri;obtain⟨gc,rM,tg,rfl,hg,BC,om⟩:=g6;obtain⟨gs,rfl⟩:=fp hg;have EI:=uw y.tg;have e9:iY f (uX xs c s a++(lm xs m (c.en++c.lv)++(c.mv.take (t+1)).flatMap (B1 xs m)))=iY (iY (iY (iY (iY f (uX xs c s a++(lm xs m (c.en++c.lv)++(c.mv.take t).flatMap (B1 xs m)))) (bad (Kn y) 28 y.a)) (PF xs m y.g)) (lm xs m y.acts)) (bad (LS xs [] y.tg) 27 y.a):=by
    rw[bq,g2,jM];simp only[Option.toList,yw,tW,bG,B1,ga]
   refine⟨λu=>St (iY f (uX xs c s a++_)) u,λdA EO=>⟨n-1,J,t+1,aaA,J,J,EO⟩,ad,g1,_,_,_,_,_,_,_,_,_,_,_,_,_,g5,λk7 dL co Ym eh=>?_⟩;rw[e9];generalize iY f (uX xs c s a++(lm xs m (c.en++c.lv)++(c.mv.take t).flatMap (B1 xs m)))=f9 at*
   have z9:=l.2.2;have cc:k7≠b:=by have:=l.1.lb;omega
   have bV:∀{u d:M},dL.heap.size<=u.heap.size->Z [b] u d->cr [k0,k7] u d:=λv hO=>hO.same (by have:=eh.size;simp;omega);have bY:Z [b] w dL:=only1 eh;have D5:=Z9 l eh;obtain⟨dg,TQ⟩:=hg;let S5:Ft->M->Prop:=λg u=>St g u/\Z [b] w u/\dL.heap.size<=u.heap.size
   have up:∀{g r:Ft} {u d:M},S5 g u->Lk r d b F vs vars nc sl xs->Z [b] u d->S5 r d:=fun{g r u d} hs x hO=>⟨xC hs.1 x hO,gL hs.2.1 hO,adY⟩
   refine⟨S5 (iY f9 (bad (Kn y) 28 y.a)),λez F3=>?_,λhw=>?_,λhw=>?_⟩
   ·refine(D2 hG hv J dg F3.1.1 ((lM aL dg).keep TQ λk hk W=>F3.2.1.block k W aeB) J).mono ?_;rw[V];rintro _ fj ⟨rfl,u9,dV⟩;have f:=up F3 u9 dV;refine⟨rfl,bV F3.2.2 dV,(Li hG hv J u9 (BC.keep (dy aL) X λk hk W=>f.2.1.block k W aeB) J).mono ?_⟩;rw[V];rintro _ fU ⟨rfl,t,eS⟩;have b:=up f t eS;refine⟨rfl,bV f.2.2 eS,(Lj R hm t (SliceF.only cY X om.1 b.2.1 λk hk _ Y=>hG k hk (by simpa using Y)) J).mono ?_⟩;rintro _ gC ⟨rfl,F⟩;have a:=up b (t.only F) (only1 F);refine⟨_,rfl,bV b.2.2 (only1 F),λh=>(tH a.1.1 27 _).mono ?_,λh=>?_⟩
    ·rintro _ iQ ⟨rfl,k,iT⟩;rw[show LS xs [] y.tg=aL by simpa using h];exact⟨rfl,bV a.2.2 iT,(up a k iT).1⟩
    rw[show LS xs [] y.tg=L by simpa using h];exact a.1
   ·refine(tH D5.1 28 _).mono ?_;rintro _ f ⟨rfl,b,a⟩;have:Kn y=aL:=by
     unfold Kn;simp at hw⊢;omega
    rw[this];exact⟨rfl,bV (aX _) a,up ⟨D5,bY,aX _⟩ b a⟩
   have:Kn y=L:=by
    unfold Kn;simp at hw⊢;omega
   rw[this];exact⟨D5,bY,aX _⟩
  have e:=aQ e;rw[bp J]at l;exact⟨rfl,l.1,l.2.1⟩
 ·intro hh iR jR;have LI:iu c.k=L:=by rw[<-zU];exact hh
  have F:=Z9 A jR;refine⟨sl,F.1.row,(uF F.1.sp c.dft).mono ?_⟩;rintro _ u ⟨rfl,G⟩;obtain rfl:iR=u:=G.symm;refine⟨_,rfl,cr.refl _ _,λiU jT=>?_⟩;have l:=Z9 F jT;obtain⟨y,w⟩:=gj ha;obtain⟨ad,a1,_,a3,_⟩:=jQ l.1.sp w;refine⟨sl,l.1.row,sl,l.1.row,ad,a1,_,a3,(H4 l.1.sp _ _).mono ?_⟩;rintro _ u ⟨rfl,G⟩;obtain rfl:iU=u:=G.symm;have S1:y.pa<I xs:=by
   by_cases e:a=0
   ·subst e;have:=(R.rt y w).1;omega
   obtain⟨p,t,z,f,q,_⟩:=R.pa a y J w;have:=iw f;omega
  rw[ago R _ _ S1];have Om:uX xs c s a=bad (IB xs c.dft&&Al xs (fN xs c.dft) y.pa) 26 c.a:=by unfold uX;rw[aV LI,mG w]
  refine⟨_,rfl,cr.refl _ _,λb6 u=>b6=(!(IB xs c.dft&&Al xs (fN xs c.dft) y.pa))/\St f u,λb6 mV ⟨k,n⟩=>⟨λh=>(lk 26 c.a n).mono ?_,λh=>?_⟩,λb=>⟨?_,l⟩,λb=>?_⟩
  ·rintro _ u ⟨rfl,a,e⟩;rw[Om,show(IB xs c.dft&&Al xs (fN xs c.dft) y.pa)=aL by rw[h]at k;exact(dr _).mp k.symm];exact⟨rfl,a,e⟩
  ·rw[Om,show(IB xs c.dft&&Al xs (fN xs c.dft) y.pa)=L by rw[h]at k;exact(gY _).mp k.symm];exact n
  ·unfold IB;rw[cu]at b;rcases b with b | b
   ·rw[bD (by have:=aN b;omega:¬0<=fN xs c.dft)];simp[b]
   rw[show Al xs (fN xs c.dft) y.pa=aL by simpa using b];simp
  rw[dq]at b;have p:=aQ b.1;have f:=by simpa using b.2
  rcases jE xs c.dft with⟨e,_⟩ | ⟨q,z,e,a,_⟩
  ·omega
  obtain⟨y,q,t,_⟩:=jQ l.1.sp a;rw[e];refine⟨sl,l.1.row,y,q,_,t.dM 0 _ rfl,(YJ z.k).mono ?_⟩;rintro _ u ⟨b7,rfl,rfl,rfl⟩;refine⟨_,rfl,cr.refl _ _,?_,l⟩;rw[<-e,f];unfold IB;rw[e,ic a,bE J];simp
 intro hh;have F:iu c.k=aL:=by rw[<-zU];exact hh
 have G:(kids.n:Int)=I s:=J
 have t:=amD (xs:=xs) (l:=s) (n:=a) f Mf F;have w:=iV c.ini [];refine⟨λz u=>z=b25 c.k (Du s) c.ini (yZ c.ini s)/\St f u,λz nu ⟨b,p⟩=>⟨λh=>(lk 25 c.a p).mono ?_,λq=>⟨λh=>(lk 26 c.a p).mono ?_,λh=>?_⟩⟩,λk=>⟨?_,A⟩,λk=>⟨λy=>⟨?_,A⟩,λy=>⟨?_,A⟩⟩⟩
 ·rintro _ u ⟨rfl,a,e⟩;rw[t,aV (by rw[<-b];exact h)];exact⟨rfl,a,e⟩
 ·rintro _ u ⟨rfl,a,e⟩;rw[aU,aU,db,db,cP]at h;rw[t,aR (by rw[<-b,q];decide),aV ⟨h.1.1,J,J⟩];exact⟨rfl,a,e⟩
 ·rw[t,aR (by rw[<-b,q];decide),aR]
  ·exact p
  rintro⟨a,f,l⟩;have e:((c.k==1&&((Du s:Nat):Int)==0)&&decide ((kids.n:Int)>0))=L:=by
   rw[aU,aU,db,db,cP];exact⟨⟨a,J⟩,J⟩
  rw[e]at h;cases h
 ·rw[w]at k⊢;unfold b25;rw[bM];revert k;generalize yZ c.ini s=g;by_cases a:c.ini=[]<;>cases g<;>simp[a]<;>omega
 ·rw[w]at k;unfold b25;rw[bM];revert k y;generalize yZ c.ini s=g;by_cases a:c.ini=[]<;>cases g<;>simp[a]<;>omega
 rw[w]at k⊢;unfold b25;rw[bM];revert k y;generalize yZ c.ini s=g;by_cases a:c.ini=[]<;>cases g<;>simp[a]<;>omega
end
def FX:∀{l:List Nd} {d:Nat} {y:Nd},jP d l=L->y∈l->lY d y=L
 | [],_,_,_,h=>abS
 | x::l,d,y,h,a=>by
  rw[jP,aU]at h;rcases aY.1 a with rfl | a
  ·exact h.1
  exact FX h.2 a
section
variable {b:Nat} {F G:aJ} {vs sl:Sl} {vars:List Vr} {nc:aI} {xs:List dN}
def QU(h:∀k,G k->k≠b)(g:Fo xs)(i:I vars<=8388608)(hm:I xs<=64):∀(D:Nat) {f:Ft} {w:M} {x:Nd} {c:aI} {a d:Nat},Lk f w b F vs vars nc sl xs->mz aL D w G x c->lf x<=1048576->a+iB x<=(I xs)->lY d x=L->
  az Q 48 #[ae (aM ⟨b,0,aaf⟩),ah c.toArray,O U (a:Int)] w λe j=>e=ak (O U ((a+iB x:Nat):Int))/\Lk (iY f (LV xs (vars.map λv=>v.n) a x)) j b F vs vars nc sl xs/\Z [b] w j
 | 0,_,_,_,_,_,_,_,a,_,_,_=>a.elim
 | D+1,f,w,.mk m s,c,a,d,C,G,H,ha,P=>by
  have S:=G;obtain⟨en,lv,mv,kids,N,_,T⟩:=G;dsimp only[Nd.kids,Nd.b]at N T;subst N;have hk:=T.1;have am:=hk.len;have R:=H;rw[lf]at R;have LH:=pG s;have hb:=C.lb;rw[iB]at ha⊢;have o:=P;rw[lY,aU]at o;refine ret (akq _ _ _ _ _ _ _ _ _ _ _ ?_);intro k0 w0 dZ wx q;have z0:=q.size;refine(W9 h g i hm (C.only q) ((cA aL _).keep S λk _ W=>q.block k W aaV) (a:=a) J H P).mono ?_;rw[LV];generalize V:(vars.map λv=>v.n)=n at*
  generalize eL:uX xs m s a++(lm xs n (m.en++m.lv)++m.mv.flatMap (B1 xs n))=B;have t:∀r,uX xs m s a++(lm xs n (m.en++m.lv)++(m.mv.flatMap (B1 xs n)++r))=B++r:=λr=>by rw[<-eL,bC,bC]
  rw[t];rintro _ w1 ⟨rfl,Y,E⟩;have z1:=E.size;have o1:Z [b] w w1:=gL (only1 q) E;refine⟨rfl,E.same aba,λx aC i2 A=>∃l:Nat,i2=(l:Int)/\x+l=I s/\l<=I s/\aC=((a+1+dx (s.take l):Nat):Int)/\Lk (iY f (B++pF xs n (a+1) (s.take l))) A b F vs vars nc sl xs/\Z [b] w A/\w0.heap.size<=A.heap.size,I s,⟨0,rfl,J,bm _,by rw[ci,dx,fe J J];rfl,by rw[ci,pF,bG];exact Y,o1,J⟩,?_⟩;rintro x _ _ w2 ⟨l,rfl,pZ,hj,rfl,u,z,z2⟩;refine⟨λp=>?_,λp=>?_⟩
  ·have p:=aN p;obtain⟨ad,y,ds,g1,f,g3,g4,g5,v⟩:=(SliceF.only (cA aL D) X hk z λk hk _ hm=>h k hk abR).get (aZ l) J;rw[aW]at f;have F:=bB f;have aS:=mH F;have sB:=ld f;have D9:=v;obtain⟨b,rfl⟩:∃b,D=b+1:=by
    cases D with
    | zero=>exact v.elim
    | succ b=>exact⟨b,rfl⟩
   obtain⟨tT,tU,qk,iE,rfl,_⟩:=v;have Bm:=QU h g i hm (b+1) (a:=a+1+dx (s.take l)) u D9 J J (FX o.2 F);rw[V]at Bm;refine⟨ad,g1,_,_,_,_,tT,tU,qk,iE,_,g5,Bm.mono ?_⟩;rintro _ w3 ⟨rfl,h3,k⟩;have z3:=k.size;have e:dx (s.take (l+1))=dx (s.take l)+iB y:=by
    rw[bq,f,yU];show _+dx [y]=_;rw[dx,dx];omega
   have e2:pF xs n (a+1) (s.take (l+1))=pF xs n (a+1) (s.take l)++LV xs n (a+1+dx (s.take l)) y:=by
    rw[bq,f,Dv];show _++pF xs n _ [y]=_;rw[pF,pF,bG]
   refine⟨_,rfl,k.same aba,x-1,J,l+1,aaA,J,J,by rw[e];congr 1;omega,?_,gL z k,J⟩;rw[e2,<-bC,ga];exact h3
  have p:=aQ p;have a:l=I s:=J
  subst a;rw[bp (aX _)]at u⊢;exact⟨by congr 2;omega,u,z⟩
end
abbrev Xa:Rp Int:=λ_ _ (x:Int) c=>c=[Value.int U x]
def zF:Rp.Ok Xa:=⟨λh _=>h,λh=>h,λh _=>h,λh=>by
 subst h;intro v a;simp only[aY,bA,cf]at a;subst a;rfl⟩
abbrev Xb(B:Nat)(w:M)(s:Sl)(i:List Int):Prop:=Own Xa 1 3 B w (λ_=>False) s i
def adT(t:Bool):∀(D:Nat) {w:M} {G:aJ} {x:Nd} {b:aI} {B:Nat} {s:Sl} {is:List Int},mz t D w G x b->(∀k,G k->k<B)->Xb B w s is->B<=w.heap.size->I is+iB x<=1000000->
  az Q 46 #[ah b.toArray,s.v] w λe a=>∃d,e=ak (Sl.v d)/\Xb B a d (is++(zR x).map λp=>p.2)/\Gr s w d a
 | 0,_,_,_,_,_,_,_,h,_,_,_,_=>h.elim
 | D+1,w,G,.mk i f,b,B,s,is,⟨en,lv,mv,kids,R,_,T⟩,H,hS,am,hn=>by
  have hk:=T.1;clear T;dsimp only[Nd.kids,Nd.b]at hk R;subst R;rw[iB]at hn;rw[zR];have ET:=hk.len;have aC:=nQ f;refine iW (ako _ _ _ _ _ _ _ _ _ _ ?_);intro u w0 T dZ n;have z0:=n.size;have Zy:Xb B w0 s is:=hS.keep zF λk _ bW=>n.block k bW aaV;obtain⟨y,w2,k1,k3,l,m,g1,g2,⟨gs,o,g4⟩,E⟩:=jV (P:=Q) (t:=33) (ty:=33) (e:=3) (i:=Tryz.t3) (bytes:=8) (size:=1) (r:=Xa) (G:=λ_=>False) (v:=O U i.a) (x:=i.a) aaz aaz rfl rfl rfl rfl X X X zF Zy J rfl rfl (λ_ h=>h.elim) J;have z2:=k3.size;have z3:=o.size;have qA:s.a≠aM ⟨u,0,aaf⟩:=λe=>abU
  have m3:Gr s w l m:=by
   refine⟨(n.cn k3).oQ (o.p (F:=λk=>s.a=aM ⟨k,0,aaf⟩) λc p=>.inl (g4 c p).1),λk hk=>?_⟩;rcases E with e | ⟨c,e,h⟩
   ·exact .inl abW
   rw[e]at hk;injection hk with hk;injection hk with hk;exact .inr J
  have n3:∀k,l.a=aM ⟨k,0,aaf⟩->k≠u:=λk hk e=>by
   subst e;rcases E with e | ⟨c,e,h⟩
   ·exact qA abW
   rw[e]at hk;injection hk with hk;injection hk with hk;omega
  have Y:Xb B m l (is++[i.a]):=by
   rcases g2 with⟨F,e⟩ | ⟨h,s,tail,k,p,q,r,t,v,B,y⟩
   ·simp at e
   exact .inr ⟨h,s,tail,k,p,q,r,t,v,B,io.SG (λx c _ g=>g) y⟩
  have jJ:∀{V:M} {q:Sl},Gr s w q V->aA (mz t D) 9 V G kids f:=λhm=>SliceF.lO (cA t D) X hk hm.1 λk W _ h=>by
   have:=H k W;have:=(hS.blk h).1;dsimp only at this;omega
  refine⟨y,w2,k1,k3.same aba,l,m,g1,o.same λx hx=>⟨abF,λh=>acr⟩,λz q N a=>∃j:Nat,N=(j:Int)/\z+j=I f/\j<=I f/\Xb B a q (is++i.a::(xA (f.take j)).map λp=>p.2)/\Gr s w q a/\m.heap.size<=a.heap.size/\∀k,q.a=aM ⟨k,0,aaf⟩->k≠u,I f,⟨0,rfl,J,bm _,by rw[ci,xA];exact Y,m3,aX _,n3⟩,?_⟩;rintro z q _ w5 ⟨j,rfl,pZ,mf,A,C,z5,S⟩;refine⟨λg=>?_,λg=>?_⟩
  ·have g:=aN g;obtain⟨ad,y,P,s,p,B,F,v,q⟩:=(jJ C).get (aZ j) J;rw[aW]at p;have r:=q;obtain⟨c,rfl⟩:∃c,D=c+1:=by
    cases D with
    | zero=>exact q.elim
    | succ c=>exact⟨c,rfl⟩
   obtain⟨tT,tU,qk,iE,rfl,_⟩:=r;have sB:=ld p;refine⟨ad,s,_,_,_,_,tT,tU,qk,iE,_,v,(adT t (c+1) q H A J (by rw[aO,ba,bJ,PE];omega)).mono ?_⟩;rintro _ w7 ⟨q7,rfl,TN,m7⟩;have z7:=m7.1.size;refine⟨q7,rfl,m7.1.same λx hx=>?_,z-1,J,j+1,aaA,J,J,?_,C.trans m7,J,λk hk e=>?_⟩
   ·simp only[aP]at hx;subst hx;exact⟨J,λh=>S _ h rfl⟩
   ·have e:xA (f.take (j+1))=xA (f.take j)++zR y:=by
     rw[bq,p,Hs];show _++xA [y]=_;rw[xA,xA,bG]
    rw[e,cp,<-ca,<-bC];exact TN
   subst e;rcases m7.2 _ hk with h | h
   ·exact S _ h rfl
   omega
  have g:=aQ g;have c:j=I f:=J
  subst c;rw[bp (aX _)]at A;exact⟨q,rfl,A,C⟩
def SB f ok {e a} (h:e≠0):iY (iY f (bad ok e a)) [(e,a)]=iY f [(e,a)]:=by
 cases ok
 ·show iY (iY f [_]) [_]=_;refine Dr ?_ _;rw[show iY f [_]=if f.1=0 then _ else f from rfl];split
  ·exact h
  assumption
 rfl
def SD{xs}{s}{j:Nat}(h:s∈(xs.take j).map λx:dN=>x.nm):fN xs s<j:=by
 have e:xs.map (λx:dN=>x.nm)=(xs.take j).map (λx:dN=>x.nm)++(xs.drop j).map λx:dN=>x.nm:=by
  rw[<-cp,fb]
 have a:=pf.2 h;rw[bJ,ch]at a;unfold fN;rw[e,Ht ((xs.drop j).map λx:dN=>x.nm) h,aV J];omega
def nW(c:Ch):Ft:=if(iG c).2≠0 then((iG c).2, -1)else iY (0,0) (za c)
def agu{c}(a:(ji c).1=0):nW c=(0,0):=by
 obtain⟨h,b⟩:=oL a;have:(iG c).2=0:=by
  unfold iH at h;unfold iG;by_cases d:rl c=L
  ·rw[aV d]at h⊢;by_cases l:16384<I (dX [] (Kj c))
   ·rw[aV l]at h;exact absurd h (by show ¬2=0;decide)
   rw[aR l]
  rw[aR d]at h;exact absurd h (by show ¬22=0;decide)
 unfold nW;rw[aR (λe=>e this),b];rfl
def gW.sl'{B}{w}{s}{xs}(h:gW B w s xs):aA tA 5 w (λk=>B<=k) s xs:=(h.slice dI).mono dI λk hk=>hk.elim (λh=>h.elim) λh=>h.1
def Xc{w:M}{F:aJ}{D:Nat}{c:Ch}{d:Sl}{C:aI}(h:ChR aL (D+1) w F c d C)(P:Mb c)(g:nr c.vars+lf c.root<=1048576):
  az Q 20 #[ah (d.v::C).toArray] w λe V=>e=ak (ah #[O U (nW c).1,O U (nW c).2])/\Z [] w V:=by
 obtain⟨n,l,mv,kids,S,_⟩:=h.root;subst S;refine ret (aka _ _ _ _ _ _ _ _ _ _ ?_);intro j m w0 fT Y mA jS t;have z0:=t.size;have keep:∀{u:M},Z [] w u->ChR aL (D+1) u F c d (od c.root.b.k c.root.b.nm c.root.b.ini c.root.b.dft n l mv kids c.root.b.a):=λf=>⟨h.vars.keep fh X λk _ W=>f.block k W aaV,(cA aL _).keep h.root λk _ W=>f.block k W aaV⟩
 refine(abn (keep t) P g).mono ?_;rintro _ o ⟨⟨sl,rfl,N,_⟩,E⟩;have z1:=E.size;have H:=t.cn E;refine⟨sl,_,rfl,E.same aba,λhc w2 R=>⟨?_,?_⟩,λhc b r qF rn A=>?_⟩
 ·have hc:(iG c).2≠0:=abv
  unfold nW;rw[aV hc]
 ·exact(H.oQ (R.p (F:=λk=>w.heap.size<=k) λx h=>by simp only[aP]at h;exact .inl J)).only λk hk=>hk
 have hc:(iG c).2=0:=abv
 have gE:=N hc;have gO:=AE hc;have kH:=AD hc;unfold rl at kH;simp at kH;have fd:nW c=iY (0,0) (za c):=by unfold nW;rw[aR (λaC=>aC hc)]
 rw[fd];have z3:=A.size;have o3:=H.cn A;have cc:=
  (cA aL _).keep ((cA aL _).mono ((cA aL _).inHeap h.root) λk hk=>hk.2) λk _ W=>o3.block k W aaV
 refine(adT aL (D+1) (B:=r.heap.size) (s:=Sl.nil) (is:=[]) cc (λk hk=>J) (Own.nil _ _ _ _ _ _) (aX _) ack).mono ?_;rintro _ w4 ⟨l1,rfl,hA,f8⟩;rw[cb]at hA;have dW:Z [] r w4:=f8.1.only λk hk=>agF
 have z4:=dW.size;have o4:=o3.cn dW;have IU:=yV c;have gT:I (dz c)=iB c.root:=aew
 have Oo:=aaC c.root;have bY:(dz c).map (λs:dN=>s.nm)=(zR c.root).map λp=>p.1:=Km 0 (-1) 0 c.root;have ip:=h.vars.1.len;have Bz:=wc c.vars;let VP:List (aH×Int):=c.vars.map λv=>(v.n,v.a)
 have eQ:za c=uu [] (zR c.root)++(uu [] VP++LV (dz c) _ 0 c.root):=rfl;rw[eQ];generalize iD:dz c=xs at*
 have co:aA M0 3 w4 (λk=>k<o.heap.size) d c.vars:=SliceF.mono fh (SliceF.keep fh (SliceF.inHeap fh h.vars.1 X) X λk hk W=>o4.block k W aaV) λk hk=>ab9
 have Et:aA tA 5 w4 _ sl xs:=SliceF.mono dI (SliceF.keep dI (SliceF.inHeap dI gE.sl' X) X λk hk W=>(A.cn dW).block k W aaV) λk hk=>hk.2;have SL:=Et.len;let NC:aI:=od c.root.b.k c.root.b.nm c.root.b.ini c.root.b.dft n l mv kids c.root.b.a
 have bV:∀{u:M} {f1 f2:Int},Z [b] w4 u->aF u b 104 (d.v::(NC++[sl.v,O U f1,O U f2]))->Lk (f1,f2) u b (λk=>k<o.heap.size) d c.vars NC sl xs:=fun{u f1 f2} f hB=>
  ⟨hB,rfl,SliceF.only fh X co f λk hk _ hm=>acn,SliceF.only dI X Et f λk hk _ hm=>acn,λk hk=>J⟩
 let SC:Sl->Int->aK->aK->aK->Sl->Sl->Sl->Sl->Int->Sl->Prop:=λl2 i2 s0 s1 s2 l3 l4 l5 l6 i3 l7=>d=l2/\c.root.b.k=i2/\T c.root.b.nm=s0/\T c.root.b.ini=s1/\T c.root.b.dft=s2/\n=l3/\l=l4/\mv=l5/\kids=l6/\c.root.b.a=i3/\sl=l7
 have aS:SC d c.root.b.k (T c.root.b.nm) (T c.root.b.ini) (T c.root.b.dft) n l mv kids c.root.b.a sl:=⟨rfl,rfl,rfl,rfl,rfl,rfl,rfl,rfl,rfl,rfl,rfl⟩
 have cC:∀{u u':M},Z [b] w4 u->Z [b] u u'->Z [b] w4 u':=λaC k=>gL aC k;have fin:∀{u:M},Z [b] w4 u->Z [] w u:=λaC=>(o4.oQ (aC.p (F:=λk=>w.heap.size<=k) λx h=>by simp at h;exact .inl J)).only λk hk=>hk;have sm:∀{u u':M},Z [b] w4 u->j≠b->m≠b->Z [b] u u'->cr [j,m] u u':=fun{u u'} hu h1 h2 f=>f.same (by have:=hu.size;simp;omega);refine⟨l1,rfl,dW.same aba,λkv i l2 i2 s0 s1 s2 l3 l4 l5 l6 i3 l7 f1 f2 u=>∃am:Nat,i=(am:Int)/\kv+am=I xs/\am<=I xs/\SC l2 i2 s0 s1 s2 l3 l4 l5 l6 i3 l7/\(f1,f2)=iY (0,0) (uu [] ((zR c.root).take am))/\Z [b] w4 u,I xs,⟨0,rfl,J,bm _,aS,rfl,Only.refl _ _⟩,?_⟩;have f7:aA Xa 1 w4 (λk=>r.heap.size<=k) l1 ((zR c.root).map λp=>p.2):=(hA.slice zF).mono zF λk hk=>hk.elim (λaC=>aC.elim) λaC=>aC.1;have gG:b<w4.heap.size:=J
 have kA:∀{u:M},Z [b] w4 u->aA Xa 1 u (λk=>r.heap.size<=k) l1 ((zR c.root).map λp=>p.2):=λaC=>SliceF.only zF X f7 aC λk hk _ hm=>acn
 have kS:∀{u:M},Z [b] w4 u->aA tA 5 u (λk=>k<o.heap.size) sl xs:=λaC=>SliceF.only dI X Et aC λk hk _ hm=>by simp at hm;omega
 have kV:∀{u:M},Z [b] w4 u->aA M0 3 u (λk=>k<o.heap.size) d c.vars:=λaC=>SliceF.only fh X co aC λk hk _ hm=>acn
 have dO:∀{u:M} (e a f1 f2:Int),Z [b] w4 u->j≠b->m≠b->aF u b 104 (d.v::(NC++[sl.v,O U f1,O U f2]))->
   az Q 47 #[ae _,O U e,O U a] u λp u'=>p=ak (ai #[])/\cr [j,m] u u'/\∃c i:Int,aF u' b 104 (d.v::(NC++[sl.v,O U c,O U i]))/\(c,i)=iY (f1,f2) [(e,a)]/\Z [b] w4 u':=fun{u} e a f1 f2 hu h1 h2 hB=>(tH (bV hu hB) e a).mono (by
  rintro _ u' ⟨rfl,k,f⟩;exact⟨rfl,sm hu h1 h2 f,_,_,k.blk,rfl,cC hu f⟩)
 rintro kv _ _ _ _ _ _ _ _ _ _ _ _ i4 i5 w5 ⟨am,rfl,pZ,hj,⟨rfl,rfl,rfl,rfl,rfl,rfl,rfl,rfl,rfl,rfl,rfl⟩,aT,h5⟩;refine⟨λhc=>?_,λhc=>?_⟩
 ·have hc:=aN hc;obtain⟨y,v⟩:=gj (xs:=xs) (i:=am) J;obtain⟨ad,B,F,_⟩:=jQ (kS h5) v;obtain⟨p,k⟩:∃p,(zR c.root)[am]? =aM p:=⟨_,bh (show am<(I (zR c.root)) by omega)⟩
  have q:p.1=y.nm:=by
   have h1:(xs.map λs:dN=>s.nm)[am]? =aM y.nm:=by rw[cN,v];rfl
   rw[bY,cN,k]at h1;exact YM h1
  have x:uu [] ((zR c.root).take (am+1))=uu [] ((zR c.root).take am)++bad (!decide (y.nm∈(xs.take am).map λs:dN=>s.nm)) 24 p.2:=by
   rw[bq,k,yY,cb,lC,<-bY,<-lC];simp only[Option.toList,uu,bG,q]
  have a:decide (y.nm∈(xs.take am).map λs:dN=>s.nm)=(fN xs y.nm !=(am:Int)):=by
   by_cases c:y.nm∈(xs.take am).map λs:dN=>s.nm
   ·have:=SD c;rw[bE c];simp;omega
   rw[bD c,xW v (λz i e=>c (eZ.2 ⟨z,i,e⟩)) rfl];simp
  refine⟨λl2 i2 s0 s1 s2 l3 l4 l5 l6 i3 l7 f1 f2 u=>SC l2 i2 s0 s1 s2 l3 l4 l5 l6 i3 l7/\(f1,f2)=iY (0,0) (uu [] ((zR c.root).take (am+1)))/\Z [b] w4 u,?_,ad,B,_,F.dM 1 _ rfl,(uF (kS h5) _).mono ?_⟩
  ·rintro _ _ _ _ _ _ _ _ _ _ _ _ _ u ⟨g,c,hu⟩;exact⟨kv-1,J,am+1,aaA,J,J,g,c,hu⟩
  rintro _ u ⟨rfl,hu⟩;obtain rfl:w5=u:=hu.symm;refine⟨_,rfl,cr.refl _ _,λc=>?_,λc=>⟨aS,?_,h5⟩⟩
  ·obtain⟨p1,z,s,q1,e,q3,q4,q5,G⟩:=(kA h5).get (i:=(am:Int)) (aZ am) (by have:=(kA h5).len;rw[bJ]at this;omega);have G:s=[Value.int U z]:=G;subst G;rw[aW,cN,k]at e;have e:p.2=z:=YM e;refine⟨p1,q1,_,q5,λhB h1 h2=>(dO 24 z _ _ h5 h1 h2 hB).mono ?_⟩;rintro _ u ⟨rfl,hS,g1,g2,T,hg,hu⟩;refine⟨rfl,hS,d,_,_,_,_,n,l,mv,kids,_,sl,g1,g2,T,aS,?_,hu⟩;rw[hg,aT,x,ga,a,show(fN xs y.nm !=(am:Int))=L from c,e];rfl
  rw[aT,x,ga,a,show(fN xs y.nm !=(am:Int))=aL from c];rfl
 have hc:=aQ hc;have lc:am=I xs:=J
 subst lc;rw[bp J]at aT;have iF:I VP=I c.vars:=bJ _;refine⟨λkv i l2 i2 s0 s1 s2 l3 l4 l5 l6 i3 l7 f1 f2 u=>∃am:Nat,i=(am:Int)/\kv+am=I c.vars/\am<=I c.vars/\SC l2 i2 s0 s1 s2 l3 l4 l5 l6 i3 l7/\(f1,f2)=iY (0,0) (uu [] (zR c.root)++uu [] (VP.take am))/\Z [b] w4 u,I c.vars,⟨0,rfl,J,bm _,aS,by rw[ci,uu,bG];exact aT,h5⟩,?_⟩;rintro AQ _ _ _ _ _ _ _ _ _ _ _ _ i6 i7 w9 ⟨e,rfl,Ee,hm,⟨rfl,rfl,rfl,rfl,rfl,rfl,rfl,rfl,rfl,rfl,rfl⟩,s,B⟩;refine⟨λkF=>?_,λkF hB h1 h2=>?_⟩
 ·have kF:=aN kF;obtain⟨v,G⟩:∃v,c.vars[e]? =aM v:=⟨_,bh (show e<(I c.vars) by omega)⟩
  have oo:uu [] (VP.take (e+1))=uu [] (VP.take e)++bad (!decide (v.n∈(c.vars.take e).map λv=>v.n)) 24 v.a:=by
   have i:VP[e]? =aM (v.n,v.a):=by show(c.vars.map λv=>(v.n,v.a))[e]? =_;rw[cN,G];rfl
   have q:(VP.take e).map (λp=>p.1)=(c.vars.take e).map λv=>v.n:=by
    show((c.vars.map λv=>(v.n,v.a)).take e).map _=_;rw[<-lC,fW];rfl
   rw[bq,i,yY,cb,q];simp only[Option.toList,uu,bG]
  refine⟨λkv i l2 i2 s0 s1 s2 l3 l4 l5 l6 i3 l7 f1 f2 u=>∃am:Nat,i=(am:Int)/\kv+am=e/\am<=e/\SC l2 i2 s0 s1 s2 l3 l4 l5 l6 i3 l7/\(f1,f2)=iY (i6,i7) (bad (!decide (v.n∈(c.vars.take am).map λv=>v.n)) 24 v.a)/\Z [b] w4 u,e,⟨0,rfl,J,bm _,aS,rfl,B⟩,?_⟩;rintro iN _ _ _ _ _ _ _ _ _ _ _ _ i8 i9 dA ⟨q,rfl,iS,a,⟨rfl,rfl,rfl,rfl,rfl,rfl,rfl,rfl,rfl,rfl,rfl⟩,k,F⟩;refine⟨λx=>?_,λx=>⟨AQ-1,J,e+1,aaA,J,J,aS,?_,F⟩⟩
  ·have x:=aN x;obtain⟨v2,lE⟩:∃v,c.vars[q]? =aM v:=⟨_,bh (show q<(I c.vars) by omega)⟩
   have p:∀{u:M} {q:Nat} {v:Vr},Z [b] w4 u->c.vars[q]? =aM v->∃(ad:Addr),cT d (q:Int) 3 ad/\aB u (ad.add 0) [K (T v.n)]/\aB u (ad.add 2) [O U v.a]:=fun{u q v} hu a=>by
    have lT:=(bf.1 a).1;obtain⟨ad,y,ds,g1,c,g3,g4,g5,z⟩:=(kV hu).get (i:=(q:Int)) (aZ q) J;rw[aW,a]at c;injection c with c;subst c;have z:ds=[K (T v.n),O U v.v,O U v.a]:=z;subst z;exact⟨ad,g1,g5.dM 0 _ rfl,g5.dM 2 _ rfl⟩
   obtain⟨p2,e1,e2,_⟩:=p F lE;obtain⟨p3,e3,e4,_⟩:=p F G;have nZ:∀z:aH,z∈(c.vars.take (q+1)).map (λv=>v.n)↔z∈(c.vars.take q).map (λv=>v.n)∨v2.n=z:=λz=>by
    rw[bq,lE,cp,cj];simp[eq_comm]
   refine⟨λl2 i2 s0 s1 s2 l3 l4 l5 l6 i3 l7 f1 f2 u=>SC l2 i2 s0 s1 s2 l3 l4 l5 l6 i3 l7/\(f1,f2)=iY (i6,i7) (bad (!decide (v.n∈(c.vars.take (q+1)).map λv=>v.n)) 24 v.a)/\Z [b] w4 u,?_,p2,e1,_,e2,p3,e3,_,e4,λa=>⟨p3,e3,λez eM=>?_⟩,λa fU eS=>⟨aS,?_,F.cn eS⟩⟩
   ·rintro _ _ _ _ _ _ _ _ _ _ _ _ _ u ⟨g,c,hu⟩;exact⟨iN-1,J,q+1,aaA,J,J,g,c,hu⟩
   ·have c:=F.cn eM;obtain⟨p4,q,_,y⟩:=p c G;obtain rfl:=cT.Xl e3 q;refine⟨_,y,λhB h1 h2=>(dO 24 v.a _ _ c h1 h2 hB).mono ?_⟩;rintro _ u ⟨rfl,hS,z,T,i,hg,hu⟩;refine⟨rfl,hS,d,_,_,_,_,n,l,mv,kids,_,sl,z,T,i,aS,?_,hu⟩;rw[iV]at a;have a:=aN a;rw[hg,k,SB _ _ X,bE ((nZ _).2 (.inr a))];rfl
   rw[iV]at a;have a:=aQ a;rw[k];congr 3;exact je.2 ⟨λaC=>(nZ _).2 (.inl aC),λaC=>((nZ _).1 aC).resolve_right a⟩
  have x:=aQ x;have:q=e:=J
  subst this;rw[k,s,oo,<-ga,bC]
 have kF:=aQ kF;have:e=I c.vars:=J
 subst this;rw[bp J]at s;have p:mz aL (D+1) w9 _ c.root NC:=(cA aL _).keep cc λk hk W=>(B.block k J aba).trans (dW.block k W aaV);refine(QU (G:=λk=>k<w.heap.size) (λk hk=>J) IU J J (D+1) (bV B hB) p J (a:=0) J kH.1.2).mono ?_;rintro _ q ⟨rfl,i,y⟩;rw[s,<-ga,bC]at i;exact⟨_,rfl,sm B h1 h2 y,d,_,_,_,_,n,l,mv,kids,_,sl,_,_,i.blk,λv T _=>⟨rfl,by
  have:=((fin (cC B y)).oQ (T.p (F:=λk=>w.heap.size<=k) λx h=>by simp at h;exact .inl J))
  exact this.only λk hk=>hk⟩⟩
section
def QV:∀l m:List Nd,yq (l++m)=yq l++yq m
 | [],m=>by rw[cb,yq,cb]
 | x::l,m=>by rw[ca,yq,yq,QV l m,bC]
def Eo(x:List dN):Nat->List Nd->List Ro
 | _,[]=>[]
 | a,y::l=>zT x a 0 y.b.mv++Eo x (a+1) l
def zG(x:List dN):∀(l m:List Nd) (a:Nat),Eo x a (l++m)=Eo x a l++Eo x (a+I l) m
 | [],m,a=>by rw[cb,Eo,cb];rfl
 | y::l,m,a=>by rw[ca,Eo,Eo,zG x l m,bC,ba];congr 3;omega
mutual
def Xd(s:List dN):∀(x:Nd) (a:Nat),Eo s a (Au x)=FH s a x
 | .mk b l,a=>by rw[Au,Eo,FH,adU s l];rfl
def adU(s:List dN):∀(l:List Nd) (a:Nat),Eo s a (yq l)=nt s a l
 | [],a=>by rw[yq,nt];rfl
 | x::l,a=>by rw[yq,nt,zG,Xd s x,adU s l,zw]
end
section
variable {xs:List dN} (F:Fo xs)
include F
theorem Ll{l:List Int}(a:l≠[]){q:Nat}(b:∀n,n∈l->∃k:Nat,n=k/\tq xs q k)(h:q=0∨jI xs q=1/\(q:Int)∉l):∀(f d:Nat),d<(I xs)->(∀n,n∈l->∃k:Nat,n=k/\tq xs d k)->q<=d->(q:Int)<=Aq xs l f d
 | 0,d,c,hd,q=>by
  unfold Aq;omega
 | f+1,d,c,hd,g=>by
  unfold Aq;by_cases x:0<(d:Int)/\(jI xs d≠1∨(d:Int)∈l)
  ·rw[aV x];obtain⟨t,j⟩:=gj c;obtain⟨p,s,w,m,i,_,o,r⟩:=F.par j J;rw[mG j,m];have z:q≠d:=by
    rintro rfl;rcases h with y | ⟨u,v⟩
    ·omega
    exact x.2.elim (λc=>c u) v
   refine Ll a b h f p (iw i) (λn d=>?_) (jd λt=>?_)
   ·obtain⟨k,e,hk⟩:=hd n d;exact⟨k,e,F.Ih ⟨s,i,J,o⟩ hk⟩
   obtain⟨n,d⟩:=List.exists_mem_of_ne_nil l a;obtain⟨k,s,p,f,B,C⟩:=b n d;obtain⟨F,e,G,A,D,E⟩:=hd n d;have:=r q p f J J;omega
  rw[aR x];omega
def SE(x:List dN)(a:Int)(g:List Int)(d:Nat):Bool:=(decide (jI x d=1)&&(wD x a d||(d:Int)==0))&&g.all λt=>wD x t d
def H7(x:List dN)(a:Int)(t:List Int):Nat->Int
 | 0=> -1
 | m+1=>if SE x a t m=L then m else H7 x a t m
omit F in
theorem D3 (a:Int) (tg:List Int):∀n:Nat,(H7 xs a tg n= -1/\∀m,m<n->SE xs a tg m=aL)∨∃m:Nat,H7 xs a tg n=m/\m<n/\SE xs a tg m=L/\∀j,m<j->j<n->SE xs a tg j=aL
 | 0=>.inl ⟨rfl,λm h=>J⟩
 | n+1=>by
  unfold H7;by_cases h:SE xs a tg n=L
  ·rw[aV h];exact .inr ⟨n,rfl,J,h,λj h1 h2=>J⟩
  rw[aR h];have h:SE xs a tg n=aL:=abT
  rcases D3 a tg n with⟨h1,h2⟩ | ⟨m,h1,h2,h3,h4⟩
  ·exact .inl ⟨h1,λm hm=>(qe.1 hm).elim (h2 m) λe=>ahI⟩
  exact .inr ⟨m,h1,J,h3,λj h5 h6=>(qe.1 h6).elim (h4 j h5) λe=>ahI⟩
section
variable {a:Nat} {tg:List Int} (ha:a<xs.length) (h0:jI xs 0=1) (ht:∀t,t∈tg->1<=t/\t<xs.length)
include ha ht
theorem H8{d:Nat}(h:SE xs a tg d=L)(hd:d<I xs):(∀n,n∈(a:Int)::tg->∃k:Nat,n=k/\tq xs d k)/\(d=0∨jI xs d=1/\(d:Int)∉(a:Int)::tg):=by
 unfold SE at h;simp only[aU,bF,cu,db,dF]at h;obtain⟨⟨j,b⟩,g⟩:=h;obtain⟨x,i⟩:=gj hd;have c:∀n:Int,wD xs n d=L->∃k:Nat,n=k/\d<k/\tq xs d k:=λn h=>by
  rw[QN i,cP]at h;exact⟨n.toNat,J,J,x,i,J,J⟩
 by_cases f:d=0
 ·subst f;refine⟨λn d=>?_,.inl rfl⟩;rcases aY.1 d with rfl | d
  ·exact⟨a,rfl,F.zI ha⟩
  obtain⟨k,e,_,hk⟩:=c n (g n d);exact⟨k,e,hk⟩
 have b:=b.resolve_right J;have m:∀n,n∈(a:Int)::tg->∃k:Nat,n=k/\d<k/\tq xs d k:=λn l=>by
  rcases aY.1 l with rfl | l
  ·exact c _ b
  exact c _ (g n l)
 refine⟨λn l=>?_,.inr ⟨j,λl=>?_⟩⟩
 ·obtain⟨k,e,_,hk⟩:=m n l;exact⟨k,e,hk⟩
 obtain⟨k,e,hk,_⟩:=m _ l;omega
include h0
theorem Xe(i:tg≠[]):H7 xs a tg (I xs)=xX xs a tg:=by
 obtain⟨r,f,d,j,hk⟩:=aa2 F ha (λt b=>⟨by have:=ht t b;omega,(ht t b).2⟩) i;have H:SE xs a tg r=L:=by
  obtain⟨x,q⟩:=gj d;have p:jI xs r=1:=by
   rcases hk with rfl | hk
   ·exact h0
   exact hk.1
  have w:∀n,n∈(a:Int)::tg->n≠r->wD xs n r=L:=λn l i=>by
   obtain⟨k,e,y,a,s,t⟩:=j n l;rw[q,bN]at a;subst a;rw[QN q,cP];omega
  unfold SE;simp only[aU,bF,cu,db,dF];refine⟨⟨p,?_⟩,λt h=>w t (.tail _ h) ?_⟩
  ·rcases hk with rfl | ⟨_,l⟩
   ·exact .inr rfl
   exact .inl (w _ (.head _) λe=>l (by rw[<-e];exact .head _))
  rcases hk with rfl | ⟨_,l⟩
  ·have:=ht t h;omega
  exact λe=>l (by rw[<-e];exact .tail _ h)
 rcases D3 (xs:=xs) (a:Int) tg (I xs) with⟨_,g⟩ | ⟨m,e,h,o,c⟩
 ·rw[g r d]at H;cases H
 have s:r<=m:=jd λb=>by
  rw[c r b d]at H;cases H
 obtain⟨k,l⟩:=H8 F ha ht o h;have E:(m:Int)<=xX xs a tg:=by
  unfold xX mtM;rw[aR i,aR]
  ·rcases tD xs ((a:Int)::tg) (I xs) with⟨_,g⟩ | ⟨q,e,n,k3,p⟩
   ·have:=g m h;rw[qw.2 k]at this;cases this
   rw[e];refine Ll F aaV k l _ q n (qw.1 k3) (jd λb=>?_);have:=p m b h;rw[qw.2 k]at this;cases this
  rintro(e | e)
  ·cases e
  obtain⟨n,a,p⟩:=oY.1 e;rw[dr,eF]at p;refine p (zm.2 ?_);rcases aY.1 a with rfl | a
  ·exact⟨J,J⟩
  have:=ht n a;exact⟨J,this.2⟩
 rw[e,f];omega
end
end
end
section
variable {w w':M} {F G:aJ} {sl sT:Sl} {xs:List dN} {tg:List Int}
def agv(h:aA tA 5 w F sl xs)(b:Fo xs)(m:I xs<=64)(g:jI xs 0=1){a:Nat}(c:a<I xs)(T:aA iM 1 w G sT tg)(f:∀t,t∈tg->1<=t/\t<I xs):
  az Q 24 #[sl.v,O U (a:Int),sT.v] w λe w'=>e=ak (O U (xX xs a tg))/\Z [] w w':=by
 refine ret (ake _ _ _ ?_);have l:=h.len;have o:=T.len;have p:=T.big;have j:=T.cap;by_cases i:tg=[]
 ·subst i;refine⟨λ_ Y _ u=>Y= -1/\Z [] w u,0,⟨rfl,Only.refl _ _⟩,?_⟩;rintro k _ d u ⟨rfl,e⟩;refine⟨λa=>?_,λ_=>⟨rfl,e⟩⟩;rw[aU]at a;have:=aN a.2;rw[bK]at o;omega
 have C:0<I tg:=lS.2 i;have v:∀{u:M},Z [] w u->aA tA 5 u F sl xs:=λq=>SliceF.only dI X h q aaV;have D:∀{u:M},Z [] w u->aA iM 1 u G sT tg:=λq=>SliceF.only cK X T q aaV;refine⟨λA Y s u=>∃d:Nat,s=(d:Int)/\A+d=I xs/\d<=I xs/\Z [] w u/\Y=H7 xs a tg d,I xs,⟨0,rfl,J,bm _,Only.refl _ _,rfl⟩,?_⟩;rintro A _ _ B ⟨d,rfl,H,E,q,rfl⟩;refine⟨λr=>?_,λr=>?_⟩
 ·rw[aU]at r;have pO:=aN r.1;obtain⟨x,P⟩:=gj (xs:=xs) (i:=d) J;obtain⟨ad,R,V,_,W,_⟩:=jQ (v q) P;refine⟨λS u=>S=H7 xs a tg (d+1)/\Z [] w u,λS u ⟨h1,h2⟩=>⟨A-1,J,d+1,aaA,J,J,h2,h1⟩,(H4 (v q) a d).mono ?_⟩;rintro _ u ⟨rfl,N⟩;obtain rfl:B=u:=N.symm;refine⟨_,rfl,ad,R,x.k,V.dM 0 _ rfl,λG ok s u=>∃t:Nat,s=(t:Int)/\G+t=I tg/\t<=I tg/\ok=(((x.k==1)&&(wD xs a d||(d:Int)==0))&&(tg.take t).all λn=>wD xs n d)/\B=u,I tg,⟨0,rfl,J,bm _,aaV,rfl⟩,?_⟩;rintro G _ _ _ ⟨t,rfl,Ee,EI,rfl,rfl⟩;refine⟨λF=>?_,λF=>?_⟩
  ·have F:=aN F;obtain⟨y,e⟩:∃y,tg[t]? =aM y:=⟨_,bh (show t<(I tg) by omega)⟩
   obtain⟨a,k,n⟩:=H3 (D q) e;refine⟨a,k,y,n,(H4 (v q) y d).mono ?_⟩;rintro _ u ⟨rfl,N⟩;obtain rfl:B=u:=N.symm;refine⟨_,rfl,G-1,J,t+1,aaA,J,J,?_,rfl⟩;rw[bq,e,iK];simp[rq]
  have F:=aQ F;have y:(((x.k==1)&&(wD xs a d||(d:Int)==0))&&(tg.take t).all λn=>wD xs n d)=SE xs a tg d:=by
   rw[bp J];unfold SE;rw[ic P];rfl
  rw[y];have w:H7 xs a tg (d+1)=if SE xs a tg d=L then(d:Int)else H7 xs a tg d:=rfl
  rcases D3 (xs:=xs) a tg d with⟨e,_⟩ | ⟨am,e,hj,Tt,_⟩
  ·rw[e]at w⊢;refine⟨ad,λ_ h=>absurd h X,0,λ_ h=>absurd h X,ad,λ_ h=>absurd h X,0,λ_ h=>absurd h X,λhq n a=>⟨?_,q.cn a⟩,λhq t k=>⟨?_,q.cn k⟩⟩
   ·rw[w,aV aec]
   rw[w,aR aec]
  obtain⟨z,t⟩:=gj (xs:=xs) (i:=am) J;obtain⟨xf,b1,_,_,b4,_⟩:=jQ (v q) t;rw[e]at w⊢;refine⟨ad,λ_ _=>R,_,λ_ _=>W,xf,λ_ _=>b1,_,λ_ _=>b4,λhq w4 h4=>⟨?_,q.cn h4⟩,λhq w5 h5=>⟨?_,q.cn h5⟩⟩
  ·rw[w,aV];rw[aU]at hq;exact hq.1
  rw[w,aR];intro e;obtain⟨k,ek,s1,QZ,g1,g2⟩:=(H8 b c f Tt J).1 a (.head _);obtain⟨k',aC,s2,L8,g3,g4⟩:=(H8 b c f e J).1 a (.head _);rw[t,bN]at QZ;subst QZ;have:=b.deep (n:=a) d hj t P J J;rw[e,bE (show x.dp>z.dp from this)]at hq;simp at hq
 have:d=I xs:=by
  rw[fS]at r;rcases r with r | r
  ·have:=aQ r;omega
  have:=aQ r;omega
 rw[this,Xe b c g f i];exact⟨rfl,q⟩
end
def rNX:Rp Nd:=λw F x c=>∃d,mz aL d w F x c
def wk:rNX.Ok where
 keep:=λ⟨d,h⟩ hk=>⟨d,(cA aL d).keep h hk⟩
 inHeap:=λ⟨d,h⟩=>⟨d,(cA aL d).inHeap h⟩
 mono:=λ⟨d,h⟩ hk=>⟨d,(cA aL d).mono h hk⟩
 one:=λ⟨d,h⟩=>(cA aL d).one h
abbrev Xf(B:Nat)(w:M)(F:aJ)(s:Sl)(l:List Nd):Prop:=Own rNX 9 27 B w (λk=>F k∨B<=k) s l
def Lm:∀(D:Nat) {w:M} {F:aJ} {x:Nd} {c:aI} {B:Nat} {s:Sl} {ns:List Nd},mz aL D w F x c->(∀k,F k->k<B)->Xf B w F s ns->B<=w.heap.size->I ns+iB x<=100000->
  az Q 22 #[s.v,ah c.toArray] w λe a=>∃b,e=ak (Sl.v b)/\Xf B a F b (ns++Au x)/\Gr s w b a
 | 0,_,_,_,_,_,_,_,h,_,_,_,_=>h.elim
 | D+1,w,F,.mk f d,c,B,s,ns,hx,p,hS,am,hn=>by
  have Yo:=hx;obtain⟨en,lv,mv,kids,N,_,T⟩:=hx;have hk:=T.1;clear T;dsimp only[Nd.kids,Nd.b]at hk N;subst N;rw[iB]at hn;rw[Au];have ET:=hk.len;have aC:=nQ d;refine iW (akc _ _ _ _ _ _ _ _ _ _ ?_);intro u w0 T dZ i;have z0:=i.size;have Zy:Xf B w0 F s ns:=hS.keep wk λk _ W=>i.block k W aaV;obtain⟨y,w2,k1,k3,m,n,g1,g2,⟨gs,o,g4⟩,E⟩:=jV (P:=Q) (t:=25) (ty:=25) (e:=27) (i:=Tryz.t27) (bytes:=160) (size:=9) (r:=rNX) (G:=F) (v:=ah (od f.k f.nm f.ini f.dft en lv mv kids f.a).toArray) (x:=.mk f d) aaz aaz rfl rfl rfl rfl X X X wk Zy J rfl ⟨D+1,(cA aL _).mono ((cA aL _).keep ((cA aL _).inHeap Yo) λk _ W=>i.block k W aaV) λk hk=>hk.1⟩ (λq l _=>⟨.inl l,λe=>by have h1:=p q l;have:=(hS.blk e).1;dsimp only at this;omega⟩) J;have z2:=k3.size;have z3:=o.size;have qA:s.a≠aM ⟨u,0,aaf⟩:=λe=>abU
  have m3:Gr s w m n:=by
   refine⟨(i.cn k3).oQ (o.p (F:=λk=>s.a=aM ⟨k,0,aaf⟩) λq r=>.inl (g4 q r).1),λk hk=>?_⟩;rcases E with e | ⟨q,e,h⟩
   ·exact .inl abW
   rw[e]at hk;injection hk with hk;injection hk with hk;exact .inr J
  have n3:∀k,m.a=aM ⟨k,0,aaf⟩->k≠u:=λk hk e=>by
   subst e;rcases E with e | ⟨k,e,h⟩
   ·exact qA abW
   rw[e]at hk;injection hk with hk;injection hk with hk;omega
  have Y:Xf B n F m (ns++[.mk f d]):=g2.mono wk λq l=>l.elim id λh=>.inr J;have jJ:∀{S:M} {q:Sl},Gr s w q S->aA (mz aL D) 9 S F kids d:=λhm=>SliceF.lO (cA aL D) X hk hm.1 λk V _ h=>by
   have:=p k V;have:=(hS.blk h).1;dsimp only at this;omega
  refine⟨y,w2,k1,k3.same aba,m,n,g1,o.same λx hx=>⟨abF,λh=>acr⟩,λz q H a=>∃j:Nat,H=(j:Int)/\z+j=I d/\j<=I d/\Xf B a F q (ns++.mk f d::yq (d.take j))/\Gr s w q a/\n.heap.size<=a.heap.size/\∀k,q.a=aM ⟨k,0,aaf⟩->k≠u,I d,⟨0,rfl,J,bm _,by rw[ci,yq];exact Y,m3,aX _,n3⟩,?_⟩;rintro z q _ w5 ⟨j,rfl,pZ,mf,A,C,z5,R⟩;refine⟨λg=>?_,λg=>?_⟩
  ·have g:=aN g;obtain⟨ad,y,ds,v,r,G,P,B,s⟩:=(jJ C).get (aZ j) J;rw[aW]at r;have t:=s;obtain⟨q,rfl⟩:∃q,D=q+1:=by
    cases D with
    | zero=>exact s.elim
    | succ q=>exact⟨q,rfl⟩
   obtain⟨tT,tU,qk,iE,rfl,_⟩:=t;have sB:=ld r;refine⟨ad,v,_,_,_,_,tT,tU,qk,iE,_,B,(Lm (q+1) s p A J (by rw[aO,ba,HL];omega)).mono ?_⟩;rintro _ w7 ⟨q7,rfl,TN,m7⟩;have z7:=m7.1.size;refine⟨q7,rfl,m7.1.same λx hx=>?_,z-1,J,j+1,aaA,J,J,?_,C.trans m7,J,λk hk e=>?_⟩
   ·simp only[aP]at hx;subst hx;exact⟨J,λh=>R _ h rfl⟩
   ·have e:yq (d.take (j+1))=yq (d.take j)++Au y:=by
     rw[bq,r,QV];show _++yq [y]=_;rw[yq,yq,bG]
    rw[e,<-ca,<-bC];exact TN
   subst e;rcases m7.2 _ hk with h | h
   ·exact R _ h rfl
   omega
  have g:=aQ g;have e:j=I d:=J
  subst e;rw[bp (aX _)]at A;exact⟨q,rfl,A,C⟩
def asy{c}(a:(nW c).1=0):(iG c).2=0/\Snd c (dz c) (Ko c):=by
 unfold nW at a;by_cases h:(iG c).2≠0
 ·rw[aV h]at a;exact absurd a h
 rw[aR h]at a;have h:=yy.1 h;exact⟨h,Qp (AD h) (Ds (Dw c) a)⟩
def Xg{c}(h:(nW c).1=0):nW c=(0,0):=by
 unfold nW at h⊢;by_cases p:(iG c).2≠0
 ·rw[aV p]at h;exact absurd h p
 rw[aR p]at h⊢;rw[Ds (Dw c) h];rfl
def Snd.amM{c}{xs}{vs}(N:Snd c xs vs){a:Nat}{y}{m}(d:(Au c.root)[a]? =aM y)(h:m∈y.b.mv):∀s,s∈m.tg->pV xs s=fN xs s/\∃k:Nat,fN xs s=k/\1<=k/\k<I xs:=by
 obtain⟨i,p,_,_,o,H,_⟩:=N.nice _ _ d;have f:=by
  have:=o m h;obtain⟨_,this⟩:=fg.1 this;obtain⟨_,this⟩:=fg.1 this;obtain⟨_,this⟩:=fg.1 this;exact Hr.1 this
 have n:=λs b=>by
  unfold uq at H;by_cases a:iu y.b.k=L
  ·rw[aV a]at H;simp only[aU]at H;have:=AX.1 (aN H.2.2).2.2.2.1;rw[this]at h;cases h
  rw[aR a]at H;simp only[aU]at H;have:=dF.1 H.2.2 m h;unfold pU at this;simp only[aU]at this;exact We (dF.1 this.1.2 s b)
 intro s b;have g:=Qg f s b;rcases jE xs s with⟨e,_⟩ | ⟨k,j,e,u,_⟩
 ·omega
 exact⟨by unfold pV;rw[aR (n s b)],k,e,J,iw u⟩
mutual
def Xh:∀(x y:Nd),y∈Au x->wO y.b<=lf x
 | .mk b l,y,h=>by
  rw[Au]at h;rw[lf];rcases aY.1 h with rfl | h
  ·show wO b<=_;omega
  have:=Xi l y h;omega
def Xi:∀(l:List Nd) (y:Nd),y∈yq l->wO y.b<=iZ l
 | [],y,h=>by rw[yq]at h;cases h
 | x::l,y,h=>by
  rw[yq,cj]at h;rw[iZ];rcases h with h | h
  ·have:=Xh x y h;omega
  have:=Xi l y h;omega
end
def abw xs {y} {ns} {a} (h:ns[a]? =aM y):I (Eo xs 0 (ns.take a))+I y.b.mv<=I (Eo xs 0 ns):=by
 have e:ns.take (a+1)=ns.take a++[y]:=by rw[bq,h];rfl
 have:=bZ List.length (zG xs (ns.take (a+1)) (ns.drop (a+1)) 0);rw[fb,aO,e,zG,aO,Eo,Eo,bG,mO]at this;omega
def Xj xs {y} {n:List Nd} {a} (h:n[a]? =aM y):Eo xs 0 (n.take (a+1))=Eo xs 0 (n.take a)++zT xs a 0 y.b.mv:=by
 have e:n.take (a+1)=n.take a++[y]:=by rw[bq,h];rfl
 have l:I (n.take a)=a:=by
  have:=(bf.1 h).1;rw[ch];omega
 rw[e,zG,Eo,Eo,bG,l,bS]
def PlQ(w:M)(B:Nat)(b:Prop)(s i sd sr:Sl)(c:Ch):Prop:=(b->PlR w (λk=>B<=k) s i sd sr (uQ c))/\(¬b->s=Sl.nil/\i=Sl.nil/\sd=Sl.nil/\sr=Sl.nil)
def agw{w:M}{F:aJ}{D:Nat}{c:Ch}{r:Sl}{A:aI}(hx:ChR aL (D+1) w F c r A)(P:Mb c)(j:nr c.vars+lf c.root<=1048576):
  az Q 7 #[ah (r.v::A).toArray] w λe N=>(∃s H sd sr:Sl,e=ak (ai #[ah #[s.v,H.v,sd.v,sr.v],ah #[O U (nW c).1,O U (nW c).2]])/\PlQ N w.heap.size ((nW c).1=0) s H sd sr c)/\Z [] w N:=by
 obtain⟨g,l,mv,kids,S,_⟩:=hx.root;subst S;refine iW (aj4 _ _ _ _ _ _ _ _ _ _ ?_);intro V W Y w0 fT dZ mA jS qF rn p;have z0:=p.size;have keep:∀{u:M},Z [] w u->ChR aL (D+1) u F c r (od c.root.b.k c.root.b.nm c.root.b.ini c.root.b.dft g l mv kids c.root.b.a):=λi=>⟨hx.vars.keep fh X λk _ b=>i.block k b aaV,(cA aL _).keep hx.root λk _ b=>i.block k b aaV⟩
 refine(Xc (keep p) P j).mono ?_;rintro _ w1 ⟨rfl,E⟩;have z1:=E.size;have C:=p.cn E;refine⟨_,_,rfl,E.same aba,λhc k3 w2 xF sA R n1 n2 n3 n4 n5 n6=>?_,λhc k3 m xF sA o=>?_⟩
 ·have hc:(nW c).1≠0:=abv
  refine⟨λk=>k=k3,rfl,λh=>n5 h,λh=>n6 h,λm o=>⟨⟨Sl.nil,Sl.nil,Sl.nil,Sl.nil,rfl,λh=>absurd h hc,λ_=>⟨rfl,rfl,rfl,rfl⟩⟩,(C.cn R).trans o λx hx=>.inr abH⟩⟩
 have hc:(nW c).1=0:=abv
 obtain⟨hp,cC⟩:=asy hc;have f8:=AE hp;have z3:=o.size;have o3:=C.cn o;refine(W0 (keep o3) f8).mono ?_;rintro _ w4 ⟨⟨x2,rfl,TM⟩,dW⟩;have z4:=dW.size;have o4:=o3.cn dW;have gE:mz aL (D+1) w4 (λk=>k<w.heap.size) c.root (od c.root.b.k c.root.b.nm c.root.b.ini c.root.b.dft g l mv kids c.root.b.a):=
  (cA aL _).keep ((cA aL _).mono ((cA aL _).inHeap hx.root) λk hk=>hk.2) λk _ b=>o4.block k b aaV
 have F5:(2:Nat)*iB c.root<=128:=J
 refine⟨x2,rfl,dW.same aba,(Lm (D+1) (B:=w4.heap.size) (s:=Sl.nil) (ns:=[]) gE (λk hk=>J) (Own.nil _ _ _ _ _ _) (aX _) ack).mono ?_⟩;rintro _ w5 ⟨x3,rfl,aT,f7⟩;rw[cb]at aT;have eW:Z [] w4 w5:=f7.1.only λk hk=>agF
 have z5:=eW.size;have o5:=o4.cn eW;refine⟨x3,rfl,eW.same aba,λk4 w6 uT AN dY=>?_⟩;have z6:=dY.size;have o6:=o5.cn dY;have fi:I (dz c)=iB c.root:=aew
 have Oo:I (Au c.root)=iB c.root:=zw _;have Rc:∀{a:Nat} {y:Nd} {am:Mv},(Au c.root)[a]? =aM y->am∈y.b.mv->∀s,s∈am.tg->pV (dz c) s=fN (dz c) s/\∃k:Nat,fN (dz c) s=k/\1<=k/\k<I (dz c):=λh hm=>cC.amM h hm;have gO:=Xh c.root;have eQ:jI (dz c) 0=1:=by
  obtain⟨s,j,hk⟩:=cC.sd.rt;exact(ic j).trans hk
 have gG:=V8 (dz c) c.root 0;have IU:=cC.fo;have dO:uQ c=⟨dz c,(Au c.root).map λy=>pV (dz c) y.b.ini,(Au c.root).map λy=>pV (dz c) y.b.dft,Eo (dz c) 0 (Au c.root)⟩:=by
  unfold uQ;rw[Xd,<-adH,fW,fW];rfl
 rw[<-Xd]at gG;have fd:aA tA 5 w6 (λk=>k<k4/\m.heap.size<=k) x2 (dz c):=SliceF.only dI X (SliceF.mono dI (SliceF.inHeap dI (SliceF.only dI X (SliceF.inHeap dI TM.sl' X) eW aaV) X) λk hk=>⟨ab9,by have:=hk.1.1;omega⟩) dY aaV;have co:aA rNX 9 w6 (λk=>k<k4) x3 (Au c.root):=SliceF.only wk X (SliceF.mono wk (SliceF.inHeap wk (aT.slice wk) X) λk hk=>ab9) dY aaV;clear aT TM;generalize iD:dz c=xs at*
 generalize gT:Au c.root=ns at*
 have Yu:∀k,¬Q3 Sl.nil Sl.nil Sl.nil k:=λk hk=>by rcases hk with hk | hk | hk<;>cases hk
 have Oj:Lb w6 k4 (λk=>k<k4/\m.heap.size<=k) x2 Sl.nil Sl.nil Sl.nil xs [] [] []:=⟨fd,λk hk=>⟨J,J,Yu k⟩,Own.nil _ _ _ _ _ _,Own.nil _ _ _ _ _ _,Own.nil _ _ _ _ _ _,λk h=>abG,λk h=>abG⟩
 have bV:∀n,ub (pV xs n):=λn=>by
  rcases V7 xs n with h | ⟨c,h,a⟩
  ·rw[h];exact⟨X,X⟩
  rw[h];exact⟨J,J⟩
 have cc:∀{u:M},aD (λk=>k=k4) w6 u->∀{a:Nat} {y:Nd},ns[a]? =aM y->∃ad g l mv kids,cT x3 (a:Int) 9 ad/\aB u ad (od y.b.k y.b.nm y.b.ini y.b.dft g l mv kids y.b.a)/\aA (Iz aL) 13 u (λk=>k<k4) mv y.b.mv:=fun{u} i {a y} hy=>by
  have h:=SliceF.lO wk X co i λk hk _ hm=>J
  have:=h.len;obtain⟨ad,v,t,f,c,q,s,n,e⟩:=h.get (i:=(a:Int)) (aZ a) (by have:=(bf.1 hy).1;omega);rw[aW,hy]at c;injection c with c;subst c;obtain⟨d,e⟩:=e;cases d with
  | zero=>exact e.elim
  | succ d=>
   obtain⟨k,x⟩:=y;obtain⟨g,l,mv,kids,rfl,⟨_,_,a⟩,_⟩:=e;exact⟨ad,g,l,mv,kids,f,n,a.1⟩
 refine⟨λkv bY q0 q1 q2 q3 u=>∃a:Nat,bY=(a:Int)/\kv+a=I ns/\a<=I ns/\x2=q0/\Lb u k4 (λk=>k<k4/\m.heap.size<=k) x2 q1 q2 q3 xs ((ns.take a).map λy=>pV xs y.b.ini) ((ns.take a).map λy=>pV xs y.b.dft) (Eo xs 0 (ns.take a))/\aD (λk=>k=k4) w6 u/\∀k,Q3 q1 q2 q3 k->w6.heap.size<=k,I ns,⟨0,rfl,J,bm _,rfl,by rw[ci,Eo];exact Oj,OnlyP.refl _ _,λk hk=>absurd hk (Yu k)⟩,?_⟩;rintro kv _ _ q1 q2 q3 w7 ⟨a,rfl,pZ,ha,rfl,xb,m7,aC⟩;have z7:=m7.size;have ip:x3.n=I ns:=co.len;refine⟨λaS=>?_,λaS=>?_⟩
 ·have aS:=aN aS;obtain⟨y,hy⟩:∃y,ns[a]? =aM y:=⟨_,bh (show a<(I ns) by omega)⟩
  obtain⟨ad,tT,tU,qk,iE,d,n,B⟩:=cc m7 hy;have TR:a<I xs:=J
  have iF:=abw xs hy;have Es:=B.len;have nY:∀f:Nd->Int,(ns.take (a+1)).map f=(ns.take a).map f++[f y]:=λf=>by rw[bq,hy,cp];rfl
  refine⟨λv u=>v=pV xs y.b.ini/\w7=u,?_,ad,d,_,n.dM 2 _ rfl,λc=>⟨ad,d,_,n.dM 2 _ rfl,(uF xb.sp y.b.ini).mono ?_⟩,λc=>⟨?_,rfl⟩⟩
  ·rintro _ _ ⟨rfl,rfl⟩;refine⟨λv u=>v=pV xs y.b.dft/\w7=u,?_,ad,d,_,n.dM 3 _ rfl,λc=>⟨ad,d,_,n.dM 3 _ rfl,(uF xb.sp y.b.dft).mono ?_⟩,λc=>⟨?_,rfl⟩⟩
   ·rintro _ _ ⟨rfl,rfl⟩;have Zm:k4<w7.heap.size:=J
    have Mc:I ((ns.take a).map λy=>pV xs y.b.ini)=a:=agQ
    have Zx:I ((ns.take a).map λy=>pV xs y.b.dft)=a:=agQ
    obtain⟨y1,w8,p1,p2,s1,w9,p3,p4,p5,p6⟩:=xb.abB (bV y.b.ini) Zm (by rw[Mc];omega);have z8:=p2.size;have z9:=p4.size;have sm:∀{u v:M} {lE:aJ},w6.heap.size<=u.heap.size->aD lE u v->(∀k,lE k->w6.heap.size<=k)->cr [V,W,Y,k3,k4] u v:=fun{u v lE} hz i hP=>i.same λx hx=>by
     simp only[aY,bA,cf]at hx;exact⟨J,λh=>by have:=hP x h;omega⟩
    refine⟨y1,w8,p1,p2.same aba,s1,w9,p3,sm J p4 λk hk=>aC k (.inl hk),λdA dR=>?_⟩;have Yr:=p6 dA dR;have LA:=dR.size;have lT:aD (λk=>k=k4) w6 dA:=(m7.trans (p2.oQ p4) λk hk=>.inr (aC k (.inl hk))).trans (dR.p (F:=λk=>k=k4) aaV) λk hk=>.inl hk;have Zh:∀k,fE s1 k->w6.heap.size<=k:=λk hk=>(p5 k hk).elim (λh=>aC k (.inl h)) λh=>J
    obtain⟨y2,dL,r1,r2,s2,ez,r3,r4,r5,r6⟩:=Yr.abC (bV y.b.dft) J (by rw[Zx];omega);have Cj:=r2.size;have pi:=r4.size;refine⟨y2,dL,r1,r2.same aba,s2,ez,r3,sm J r4 λk hk=>aC k (.inr (.inl hk)),λfj dV=>?_⟩;have Yt:=r6 fj dV;have SX:=dV.size;have mt:aD (λk=>k=k4) w6 fj:=(lT.trans (r2.oQ r4) λk hk=>.inr (aC k (.inr (.inl hk)))).trans (dV.p (F:=λk=>k=k4) aaV) λk hk=>.inl hk;have mK:∀k,fE s2 k->w6.heap.size<=k:=λk hk=>(r5 k hk).elim (λh=>aC k (.inr (.inl h))) λh=>J
    refine⟨λAQ bY p0 p1 p2 p3 u=>∃f:Nat,bY=(f:Int)/\AQ+f=I y.b.mv/\f<=I y.b.mv/\x2=p0/\s1=p1/\s2=p2/\Lb u k4 (λk=>k<k4/\m.heap.size<=k) x2 s1 s2 p3 xs (((ns.take a).map λy=>pV xs y.b.ini)++[pV xs y.b.ini]) (((ns.take a).map λy=>pV xs y.b.dft)++[pV xs y.b.dft]) (Eo xs 0 (ns.take a)++zT xs a 0 (y.b.mv.take f))/\aD (λk=>k=k4) w6 u/\∀k,fE p3 k->w6.heap.size<=k,I y.b.mv,⟨0,rfl,J,bm _,rfl,rfl,rfl,by rw[ci,zT,bG];exact Yt,mt,λk hk=>aC k (.inr (.inr hk))⟩,?_⟩;rintro AQ _ _ _ _ q fU ⟨f,rfl,Ee,hj,rfl,rfl,rfl,Ef,iN,iS⟩;have XN:=iN.size;obtain⟨LX,oF,oN,oR,nO,b1,b5,oS⟩:=cc iN hy;obtain rfl:=cT.Xl d b1;have yu:=oS.len;refine⟨ad,b1,_,b5.dM 6 _ rfl,λpO=>?_,λpO=>?_⟩
    ·have pO:=aN pO;obtain⟨xf,am,ds,d1,d2,d3,d4,d5,d6⟩:=oS.get (aZ f) J;rw[aW]at d2;obtain⟨gc,rM,tg,rfl,TQ,BC,om⟩:=d6;obtain⟨sl,rfl⟩:=fp TQ;have om:=om.1;have EI:=om.len;have Yd:=bB d2;have tO:El am<=wa y.b.mv:=nR Yd;have As:=gO y (bB hy);have wd:=uw am.tg;have uP:wa y.b.mv<=wO y.b:=agP
     have pP:=Rc hy Yd;unfold El at tO;refine⟨ad,b1,_,b5.dM 6 _ rfl,xf,d1,_,_,_,_,_,_,_,_,sl,_,rM,tg,_,d5,λk5 k6 q rk Eb XQ Ol iy=>?_⟩;have AC:=iy.size;refine⟨λv bY v0 v1 v2 ev wt rx dm u=>∃t:Nat,bY=(t:Int)/\v0=(a:Int)/\v1=(f:Int)/\v2=am.k/\ev=T am.ev/\wt=am.wt/\dm=0/\v+t=I am.tg/\t<=I am.tg/\gn q.heap.size u rx ((am.tg.take t).map (pV xs))/\Z [] fU u/\q.heap.size<=u.heap.size,I am.tg,⟨0,rfl,rfl,rfl,rfl,rfl,rfl,rfl,J,bm _,Own.nil _ _ _ _ _ _,iy,aX _⟩,?_⟩;rintro v _ _ _ _ _ _ rx _ iQ ⟨t,rfl,rfl,rfl,rfl,rfl,rfl,rfl,ut,ht,hT,iT,AS⟩;have nA:∀k,fE rx k->q.heap.size<=k:=λk e=>(hT.blk e).1;have pm:=SliceF.only dI X Ef.sp iT aaV;have Zu:I ((am.tg.take t).map (pV xs))=t:=agQ
     refine⟨λkF=>?_,λkF=>?_⟩
     ·have kF:=aN kF;refine λim z=>⟨λk=>k<q.heap.size,Ol,?_⟩
      have By:=z.size;obtain⟨Cp,s,Bv,e1,T,e3,e4,e5,e6⟩:=(SliceF.only cY X om (iT.cn z) aaV).get (aZ t) J;rw[aW]at T;unfold ke at e6;subst e6;refine⟨Cp,e1,_,e5,?_⟩;refine(uF (SliceF.only dI X pm z aaV) s).mono ?_;rintro _ u ⟨rfl,hu⟩;obtain rfl:im=u:=hu.symm;rw[<-(pP s (bB T)).1];have y:gn q.heap.size im rx _:=hT.keep cK λk _ b=>z.block k b aaV;obtain⟨y3,iR,c1,a,l2,kf,c3,c4,h,c6⟩:=aaW y J (bV s) (by rw[Zu];omega);have BV:=a.size;have BY:=h.size;have AT:Z [] fU kf:=(((iT.cn z).cn a).oQ (h.mono (G:=λk=>fU.heap.size<=k) λk _ e=>aeX)).only λk hk=>hk;refine⟨_,rfl,cr.refl _ _,λ_ _ _=>rfl,y3,iR,c1,a.same aba,bR.only a,l2,kf,c3,h.same λx hx=>?_,λk hk _=>h.block k J λe=>aeX,λiU jT=>⟨v-1,J,t+1,aaA,rfl,rfl,rfl,rfl,rfl,rfl,J,J,?_,AT.trans jT λx hx=>.inr abF,by have:=jT.size;omega⟩⟩
      ·simp only[aY,bA,cf]at hx;exact⟨J,λe=>ae3⟩
      rw[bq,T,cp];exact c4.keep cK λk hk b=>jT.block k b aca
     have kF:=aQ kF;have G:t=I am.tg:=J
     subst G;rw[bp (aX _)]at hT Zu;refine(agv pm IU J eQ TR (hT.slice cK) (λz hz=>?_)).mono ?_
     ·obtain⟨s,j,rfl⟩:=eZ.1 hz;obtain⟨e,k,a,h,t⟩:=pP s j;rw[e,a];exact⟨J,J⟩
     rintro _ kZ ⟨rfl,z⟩;have Cc:=z.size;refine⟨_,rfl,z.same aba,λmV oU=>?_⟩;have CC:=oU.size;have t:Z [] fU mV:=(iT.cn z).trans oU λx hx=>.inr abF;have T:=Ef.o0 t;have s:gn q.heap.size mV rx _:=(hT.keep cK λk _ b=>z.block k b aaV).keep cK λk hk b=>oU.block k b aca;obtain⟨y4,po,g1,g2,q',ra,g3,g4,g5,g6⟩:=T.abD (x:=Qh xs a f am) (s.slice cK) (s.roC λEQ hg=>.inr ⟨(s.blk hg).1,hg⟩) (λk hk=>by
      have hk:=hk.resolve_left id;exact⟨J,λe=>by have:=Ef.bi k e;omega,λe=>by have:=Ef.bd k e;omega,λe=>by have:=Ef.br k e;omega⟩) J (by rw[aO,mO,ch];omega)
     have Do:=g2.size;have DO:=g4.size;refine⟨y4,po,g1,g2.same aba,q',ra,g3,g4.same λx hx=>?_,λnu tQ=>⟨AQ-1,J,f+1,aaA,J,J,rfl,rfl,rfl,?_,?_,λk hk=>(g5 k hk).elim (iS k) λh=>J⟩⟩
     ·simp only[aY,bA,cf]at hx;refine⟨J,λh=>?_⟩;have a:=iS x h;have e:=Ef.br x h;omega
     ·have e:y.b.mv.take (f+1)=y.b.mv.take f++[am]:=by rw[bq,d2];rfl
      have h:I (y.b.mv.take f)=f:=aej
      rw[e,zo,h,bS,<-bC];exact g6 nu tQ
     exact(iN.trans (t.oQ (g2.oQ g4)) λk hk=>.inr (iS k hk)).trans (tQ.p (F:=λk=>k=k4) aaV) λk hk=>.inl hk
    have pO:=aQ pO;have e:f=I y.b.mv:=J
    subst e;rw[bp (aX _)]at Ef;refine⟨kv-1,J,a+1,aaA,J,J,rfl,?_,iN,λk hk=>hk.elim (Zh k) λhk=>hk.elim (mK k) (iS k)⟩;rw[nY,nY,Xj xs hy];exact Ef
   ·rintro _ u ⟨rfl,h⟩;obtain rfl:w7=u:=h.symm;rw[iV]at c;refine⟨_,rfl,cr.refl _ _,?_,rfl⟩;unfold pV;rw[aR];simpa using c
   rw[iV]at c;unfold pV;rw[aV];simpa using c
  ·rintro _ u ⟨rfl,h⟩;obtain rfl:w7=u:=h.symm;rw[iV]at c;refine⟨_,rfl,cr.refl _ _,?_,rfl⟩;unfold pV;rw[aR];simpa using c
  rw[iV]at c;unfold pV;rw[aV];simpa using c
 have aS:=aQ aS;have e:a=I ns:=J
 subst e;rw[bp (aX _)]at xb;refine λc f=>⟨⟨x2,q1,q2,q3,by rw[Xg hc],λ_=>?_,λh=>absurd hc h⟩,?_⟩
 ·rw[dO];refine⟨(xb.sp.keep dI X λk hk b=>f.block k b aba).mono dI λk hk=>J,((xb.i.slice cK).keep cK X λk hk b=>f.block k b ?_).mono cK λk hk=>?_,((xb.d.slice cK).keep cK X λk hk b=>f.block k b ?_).mono cK λk hk=>?_,((xb.r.slice kz).keep kz X λk hk b=>f.block k b ?_).mono kz λk hk=>?_⟩
  ·have:=hk.resolve_left id;simp;omega
  ·have:=hk.resolve_left id;omega
  ·have:=hk.resolve_left id;simp;omega
  ·have:=hk.resolve_left id;omega
  ·rcases hk with hk | hk
   ·have:=hk.1;simp;omega
   simp;omega
  rcases hk with hk | hk
  ·have:=hk.1;omega
  omega
 refine((o6.oQ (m7.mono (G:=λk=>w.heap.size<=k) λk _ hk=>J)).only λk hk=>hk).trans f λx hx=>.inr abH
section
variable {w:M} {F G:aJ} {l sa:Sl} {xs:List dN} {act:List Int}
def agx{u:M}(h:aA tA 5 w F l xs)(a:Z [] w u):aA tA 5 u F l xs:=SliceF.only dI X h a aaV
def Xk(h:aA tA 5 w F l xs)(i:Sd xs)(g:aA iM 1 w G sa act)(m:I act<=4611686018427387903):az Q 9 #[l.v,sa.v] w λe r=>(∃b:Bool,e=ak (aj b)/\(b=L↔Lg xs act))/\Z [] w r:=by
 have d:=i.le;refine iW (aj6 _ _ ?_);have v:=h.len;have T:=g.len;have o:∀{u:M},¬Lg xs act->Z [] w u->(∃b:Bool,ak (aj aL)=ak (aj b)/\(b=L↔Lg xs act))/\Z [] w u:=λj a=>⟨⟨aL,rfl,(λh=>abG),λh=>absurd h j⟩,a⟩
 refine(NI g 0 m).mono ?_;rintro _ u ⟨rfl,f⟩;obtain rfl:w=u:=f.symm;refine⟨_,rfl,λhb=>o (λc=>?_) (Only.refl _ _),λhb=>?_⟩
 ·rw[bE c.rt]at hb;cases hb
 have E:(0:Int)∈act:=by
  have:decide ((0:Int)∈act)=L:=abP
  exact aN this
 refine⟨λC A u=>∃l:Nat,A=(l:Int)/\C+l=I act/\l<=I act/\(act.take l).Pairwise (· <·)/\(∀x,x∈act.take l->acq xs act x)/\Z [] w u,I act,⟨0,rfl,J,bm _,aaV,aaV,Only.refl _ _⟩,?_⟩;rintro C _ u ⟨l,rfl,H,F,z,D,a⟩;refine⟨λB=>?_,λB=>?_⟩
 ·have B:=aN B;have P:l<I act:=J
  have V:act[l]∈act:=kb P;have w:aA iM 1 u G sa act:=kI g a;obtain⟨ad,Y,a2⟩:=rV w (bh P);obtain⟨N,R,a3,a4,W⟩:∃(N:Addr) (R:Int),(0<l->cT sa (ar U ((l:Int)-1)) 1 N)/\(0<l->aB u N [O U R])/\(0<l->act[l-1]? =aM R):=by
   by_cases b:0<l
   ·obtain⟨N,h,k⟩:=rV w (bh (i:=l-1) J);refine⟨N,act[l-1],λ_=>?_,λ_=>k,λ_=>bh J⟩;rw[fe J J];have e:((l-1:Nat):Int)=(l:Int)-1:=J
    rw[<-e];exact h
   ·exact⟨default,0,λh=>absurd h b,λh=>absurd h b,λh=>absurd h b⟩
  generalize S:act[l]=n at*
  refine⟨ad,Y,n,a2,N,λ_ hh=>a3 adP,R,λ_ hh=>a4 adP,λhb=>o (λc=>?_) a,λhb=>?_⟩
  ·have h:=c.at_ n V;have b:=h.ge;have k:=h.lt;rw[cu,cu,aU]at hb;rcases hb with(hb | hb) | hb
   ·have:=aN hb;omega
   ·have:=aN hb;omega
   ·have n:0<l:=by have:=aN hb.1;omega
    have p:=aN hb.2;have:=ym.1 c.rise (l-1) l J P J;rw[S]at this;have e:=W n;rw[bh J]at e;injection e with e;omega
  ·rw[dq,dq,fS]at hb;have am:=aQ hb.1.1;have aC:=aQ hb.1.2;obtain⟨G,rfl⟩:∃G:Nat,n=G:=⟨n.toNat,J⟩
   obtain⟨y,rj⟩:=gj (xs:=xs) (i:=G) J;have Mf:=KI rj;obtain⟨Cp,b1,b2,b3,_⟩:=jQ (agx h a) rj;refine⟨Cp,b1,y.k,b2.dM 0 _ rfl,(DX u y.k).mono ?_⟩;rintro _ u' ⟨rfl,f⟩;obtain rfl:u=u':=f.symm;refine⟨_,rfl,λb u'=>u=u'/\(b=L↔(G:Int)=0∨y.pa∈act),?_,λhz=>⟨rfl,λ_=>.inl ae7,λ_=>rfl⟩,λhz=>⟨Cp,b1,y.pa,b3,(NI w y.pa m).mono ?_⟩⟩
   ·rintro b _ ⟨rfl,aS⟩;have lP:∀{k:Int},1<=k/\k<=4->((k==3)||(k==4))=!(IC k):=λhk=>by rw[<-H5 hk,Bool.not_not]
    rw[lP (i.kn G y rj)];refine⟨λn=>o (λc=>?_) a,λn=>?_⟩
    ·have p:=c.at_ G V;have k:=p.st;rw[Mf]at k;rw[k]at n;have h:b=aL:=by simpa using n
     rcases p.up with e | e
     ·rw[aS.2 (.inl e)]at h;cases h
     ·rw[aS.2 (.inr (e y (by rw[aW];exact rj)))]at h;cases h
    ·rw[dq]at n;have QZ:IC y.k=L:=by simpa using n.1
     have yt:b=L:=by simpa using n.2
     have bY:=aS.1 yt;refine(NJ (agx h a) i G).mono ?_;rintro _ w4 ⟨⟨s4,rfl,TM⟩,dW⟩;have o4:=a.cn dW;have Zw:=TM.len;have cc:=Wa xs G;have eo:YX xs act G=(oe xs G).countP λaT=>decide (aT∈act):=rfl;have bV:Si xs act G=if y.k=2 then YX xs act G==I (oe xs G) else YX xs act G==min 1 (I (oe xs G)):=by unfold Si;rw[Mf]
     have pY:YX xs act G<=I (oe xs G):=List.countP_le_length;generalize co:oe xs G=k at*
     refine⟨s4,rfl,λC on A u'=>∃t:Nat,A=(t:Int)/\C+t=I k/\t<=I k/\on=(((k.take t).countP λaT=>decide (aT∈act):Nat):Int)/\w4=u',I k,⟨0,rfl,J,bm _,aaV,rfl⟩,?_⟩;rintro AQ _ _ _ ⟨t,rfl,Ee,ht,rfl,rfl⟩;refine⟨λkF=>?_,λkF=>?_⟩
     ·have kF:=aN kF;have e:t<I k:=J
      obtain⟨b,q,s⟩:=rV TM.sl (bh e);have cC:(k.take t).countP (λaT=>decide (aT∈act))<=t:=bH List.countP_le_length aej;have p:(k.take (t+1)).countP (λaT=>decide (aT∈act))=(k.take t).countP (λaT=>decide (aT∈act))+if decide (k[t]∈act)=L then 1 else 0:=by
       rw[bq,bh e,List.countP_append];congr 1;show List.countP _ [k[t]]=_;rw[List.countP_cons,List.countP_nil,bS]
      refine⟨λh u'=>h=(((k.take (t+1)).countP λaT=>decide (aT∈act):Nat):Int)/\w4=u',λh u' ⟨x,y⟩=>⟨AQ-1,J,t+1,aaA,J,J,x,y⟩,b,q,_,s,(NI (kI g o4) _ m).mono ?_⟩;rintro _ u' ⟨rfl,f⟩;obtain rfl:w4=u':=f.symm;refine⟨_,rfl,λhh=>⟨?_,rfl⟩,λhh=>⟨?_,rfl⟩⟩
      ·rw[fe J J,p,aV hh];rfl
      ·rw[p,aR adz];rfl
     ·have kF:=aQ kF;have:t=I k:=J
      subst this;rw[bp (aX _),<-eo];obtain⟨b,c1,c2,_⟩:=jQ (agx h o4) rj;have ck:aB w4 (b.add 0) [O U y.k]:=c2.dM 0 _ rfl;have dO:y.k=1∨y.k=2:=by simpa[IC]using QZ
      refine⟨b,c1,y.k,ck,b,λ_=>c1,y.k,λ_=>ck,λn=>o (λc=>?_) o4,λn=>⟨C-1,J,l+1,aaA,J,J,?_,λx d=>?_,o4⟩⟩
      ·have h:=(c.at_ G V).on;rw[aW,bV]at h;rcases dO with e | e
       ·rw[e]at h n;rw[aR X,db]at h;rw[h]at n;simp only[cu,aU,bne_iff_ne,db]at n;rcases n with n | n
        ·exact absurd n.1 X
        ·refine n.2 ?_;split<;>omega
       ·rw[e]at h n;rw[aV rfl,db]at h;rw[h]at n;simp only[cu,aU,bne_iff_ne,db]at n;rcases n with n | n
        ·exact n.2 J
        ·exact absurd n.1 X
      ·rw[bq,bh P,S,List.pairwise_append];refine⟨z,aaV,λp h q s=>?_⟩;simp only[Option.toList,aP]at s;subst s;rcases hb.2 with e | e
       ·have:l=0:=by have:=aQ e;omega
        subst this;simp at h
       ·have e:=aQ e;by_cases p:0<l
        ·have e:=W p;obtain⟨A,q,rfl⟩:=List.getElem_of_mem h;rw[ch]at q;have t:((act.take l)[A]'(by rw[ch];exact q))<=R:=by
          rw[Ow];rw[bh J]at e;injection e with e;by_cases x:A=l-1
          ·subst x;omega
          ·have:=ym.1 z A (l-1) aej aej J;rw[Ow,Ow]at this;omega
         omega
        ·have:l=0:=J
         subst this;simp at h
      ·rw[bq,bh P,S,cj]at d;rcases d with d | d
       ·exact D x d
       ·simp only[Option.toList,aP]at d;subst d;refine⟨J,J,by rw[Mf];exact QZ,?_,?_⟩
        ·rcases bY with e | e
         ·exact .inl e
         ·exact .inr λs h=>by
           rw[aW,rj]at h;injection h with h;rw[<-h];exact e
        ·rw[aW,bV];simp only[dq,fS,ve,vf]at n;rcases dO with e | e
         ·rw[e,aR X,db];rcases n.2 with h | h
          ·exact absurd e h
          ·split at h<;>omega
         ·rw[e,aV rfl,db];rcases n.1 with h | h
          ·exact absurd e h
          ·omega
   ·rintro _ u' ⟨rfl,f⟩;obtain rfl:u=u':=f.symm;refine⟨_,rfl,rfl,λhh=>.inr (aN hh),λhh=>?_⟩;rcases hh with hh | hh
    ·rw[hh]at hz;cases hz
    ·exact bE hh
 ·have B:=aQ B;rw[bp J]at z D;exact⟨⟨L,rfl,λ_=>⟨E,z,D⟩,λ_=>rfl⟩,a⟩
end
def trights_c{w:M}{x:Ch×Nat}{b:aI}(j:rChU w (λ_=>True) x b)(g:x.2<=1048576){m:Int}(l:0<=m/\m<=18446744073709551615)(E:Er w)(d:Tb w)(f:Dj w):az Q 3 #[ah b.toArray,.int .u64 m] w λe a=>e=ak (aj L)/\Z [] w a:=by
 obtain⟨mk,rfl⟩:∃x:Nat,m=x:=⟨m.toNat,J⟩
 have T:mk<18446744073709551616:=J
 obtain⟨c,m⟩:=x;obtain⟨D,v,b,rfl,h,n,i⟩:=j;dsimp only at h n i g;have C:=h;cases D with
 | zero=>exact h.root.elim
 | succ D=>
 obtain⟨en,lv,mv,kids,rfl,_⟩:=C.root;refine ret (aqE _ _ _ _ _ _ _ _ _ _ _ ?_);have keep:∀{a:M},Z [] w a->ChR aL (D+1) a (λ_=>True) c v (od c.root.b.k c.root.b.nm c.root.b.ini c.root.b.dft en lv mv kids c.root.b.a):=λG=>⟨h.vars.keep fh X λk _ W=>G.block k W aaV,(cA aL _).keep h.root λk _ W=>G.block k W aaV⟩
 intro k0 w0 fT dZ e;have z0:=e.size;refine(W4 w0 (E.only e) (d.only e)).mono ?_;rintro _ w1 ⟨rfl,r⟩;have z1:=r.size;have p:=e.cn r;refine⟨L,rfl,r.same aba,(DR (keep p) n J (E.only p) (d.only p)).mono ?_⟩;rintro _ w2 ⟨⟨qn,sv,su,sc,se,rfl,Y⟩,R⟩;have z2:=R.size;have H:=p.cn R;refine⟨qn,sv,su,sc,se,_,_,rfl,R.same aba,λk1 k2 w3 mA jS qF rn o=>⟨λ_=>⟨rfl,H.cn o⟩,λhc=>?_⟩⟩;have B:(ji c).1=0:=abv
 have z3:=o.size;have P:=H.cn o;refine(agw (keep P) n J).mono ?_;rintro _ w4 ⟨⟨s,si,F,sr,rfl,hP⟩,u⟩;have z4:=u.size;have Zv:=hP.1 (by rw[agu B]);refine⟨s,si,F,sr,_,_,rfl,u.same aba,λk3 k4 w5 xF sA uT AN x=>?_⟩;have z5:=x.size;have N:=af5 B;have sd:=N.sd;have sB:I (dz c)<=64:=N.le;have V:=u.cn x;have S:=P.cn V;have A:=(Y B).o0 (o.cn V);refine⟨λk=>k=k3,rfl,(Sz (f.only S) A.tc sd sB T).mono ?_⟩;rintro _ w7 ⟨⟨b1,rfl,yt⟩,q⟩;have z7:=q.size;refine⟨_,rfl,q.same aba,bR.only q,(W1 w7 T).mono ?_⟩;rintro _ w8 ⟨⟨t,rfl,ht⟩,y⟩;have z8:=y.size;refine⟨t,rfl,y.same aba,bR.only y,(Xk (xs:=dz c) (((Zv.o0 (x.cn q)).o0 y).sp) sd (ht.slice cK) (by have:=Ar mk;omega)).mono ?_⟩;rintro _ w9 ⟨⟨b2,rfl,zU⟩,z⟩;refine⟨_,rfl,z.same aba,bR.only z,?_,((S.cn q).cn y).cn z⟩;rw[bM.2 (yt.trans zU.symm)];simp
end Go.Proofs.YtfemabakfkliiaaGreatDoor.Con
