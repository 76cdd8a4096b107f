import Derived.Test.YtpbgcbdclnfpnaaGreatDoorQs10
set_option linter.unusedSectionVars false
set_option linter.unusedSimpArgs false
set_option linter.unusedVariables false
set_option maxRecDepth 100000
set_option maxHeartbeats 1600000
open Go.Value renaming int->O,string->ah,pointer->ai,agg->aj,tuple->ak,bool->ao
open Go.IntKind renaming i64->ae,wrap->av
open Go.Ending renaming returned->aq
open _root_.ByteArray renaming mk->ar
open _root_.Go.Proofs.Tryz renaming prog->au
open Go.Instr renaming buildSlice->aw
open Go renaming World->ay,Value->az,Calls->aB
open Go.Kt renaming Only->aA,SliceF->aD,Cells->aE,OnlyP->aF,Blk->aH
namespace Go.Proofs.YtpbgcbdclnfpnaaGreatDoor.Con
open Go Go.RowKit Go.Kt Go.Kt.V Go.Proofs.YtpbgcbdclnfpnaaGreatDoor.Vc
def ig(W:Int->Nat):List Int->Nat
 | []=>0
 | r::l=>W r+ig W l
def iI(W:Int->Nat):List Int->Nat
 | []=>1
 | r::l=>W r*iI W l
theorem yh(W:Int->Nat)(r:Int):∀l,ig W (l++[r])=ig W l+W r
 | []=>by simp[ig]
 | x::l=>by rw[cp,ig,ig,yh W r l,eY]
theorem yi(W:Int->Nat)(r:Int):∀l,iI W (l++[r])=iI W l*W r
 | []=>by simp[iI]
 | x::l=>by rw[cp,iI,iI,yi W r l,Gz]
theorem BW{W V:Int->Nat}:∀{l:List Int},(∀r,r∈l->W r=V r)->ig W l=ig V l
 | [],_=>rfl
 | x::l,h=>by rw[ig,ig,h x (.head _),BW λr hr=>h r (.tail _ hr)]
theorem BX{W V:Int->Nat}:∀{l:List Int},(∀r,r∈l->W r=V r)->iI W l=iI V l
 | [],_=>rfl
 | x::l,h=>by rw[iI,iI,h x (.head _),BX λr hr=>h r (.tail _ hr)]
theorem DN(W:Int->Nat):∀(l:List Int) (j:Nat),ig W (l.take j)<=ig W l
 | [],j=>by simp[ig]
 | x::l,0=>by simp[ig]
 | x::l,j+1=>by rw[eF,ig,ig];have:=DN W l j;omega
theorem BZ{W:Int->Nat}:∀{l:List Int},(∀r,r∈l->0<W r)->0<iI W l
 | [],_=>Nat.one_pos
 | x::l,h=>by rw[iI];exact Nat.mul_pos (h x (.head _)) (BZ λr hr=>h r (.tail _ hr))
theorem DP{W:Int->Nat}:∀{l:List Int} (j:Nat),(∀r,r∈l->0<W r)->iI W (l.take j)<=iI W l
 | [],j,_=>by simp[iI]
 | x::l,0,h=>by rw[de];exact BZ h
 | x::l,j+1,h=>by rw[eF,iI,iI];exact Gc _ (DP j λr hr=>h r (.tail _ hr))
def wy(xs:List cM):Nat->Nat->Nat
 | 0,_=>1
 | f+1,n=>if(cY xs n).length=0 then 1 else if kd xs n=2 then iI (λr=>wy xs f r.toNat) (cY xs n)else ig (λr=>wy xs f r.toNat) (cY xs n)
def W(xs:List cM)(r:Int):Nat:=wy xs xs.length r.toNat
section
variable {xs:List cM}
theorem NA(hF:Sd xs):∀(f g n:Nat),xs.length<=n+f->xs.length<=n+g->wy xs f n=wy xs g n
 | 0,0,_,_,_=>rfl
 | 0,g+1,n,hf,_=>by
  have:cY xs n=[]:=qX.2 λr hr=>by
   obtain⟨q,t,_,h2,_,_,h5,_⟩:=hF.DV hr;have:=eS h2;omega
  rw[wy,wy,this];rfl
 | f+1,0,n,_,hg=>by
  have:cY xs n=[]:=qX.2 λr hr=>by
   obtain⟨q,t,_,h2,_,_,h5,_⟩:=hF.DV hr;have:=eS h2;omega
  rw[wy,wy,this];rfl
 | f+1,g+1,n,hf,hg=>by
  have key:∀r,r∈cY xs n->wy xs f r.toNat=wy xs g r.toNat:=λr hr=>by
   obtain⟨q,t,rfl,_,_,_,h5,_⟩:=hF.DV hr;rw[aU];exact NA hF f g q aG aG
  rw[wy,wy,BW key,BX key]
theorem Sd.acA(hF:Sd xs)(n:Nat):W xs n=if(cY xs n).length=0 then 1 else if kd xs n=2 then iI (W xs) (cY xs n)else ig (W xs) (cY xs n):=by
 have h1:W xs n=wy xs (xs.length+1) n:=by
  unfold W;rw[aU];exact NA hF _ _ n aG aG
 rw[h1,wy];rfl
def nE(xs:List cM)(r:Int):Nat:=(Fw xs r-r).toNat
theorem ack{x y:Nat}(hx:2<=x)(hy:2<=y):x+y<=x*y:=by
 obtain⟨a,rfl⟩:∃a,x=a+2:=⟨x-2,aG⟩
 obtain⟨b,rfl⟩:∃b,y=b+2:=⟨y-2,aG⟩
 rw[eM,Nat.mul_add];have:=bh (a*b);omega
theorem rM{m:Nat}(h:1<=m):2<=2 ^ m:=by
 have:=lK (n:=2) aN h;simpa using this
theorem FG{V:Int->Nat}{z:Int->Nat}:∀{l:List Int},(∀r,r∈l->2*V r<=2 ^ z r/\1<=z r)->l≠[]->2*ig V l<=2 ^ (ig z l)
 | [],_,h=>absurd rfl h
 | [x],h,_=>by simpa[ig]using(h x (.head _)).1
 | x::y::l,h,_=>by
  have h1:=h x (.head _);have ih:=FG (l:=y::l) (λr hr=>h r (.tail _ hr)) aac;have hz:1<=ig z (y::l):=by
   have:=(h y (.tail _ (.head _))).2;rw[ig];omega
  have e1:ig V (x::y::l)=V x+ig V (y::l):=rfl;have e2:ig z (x::y::l)=z x+ig z (y::l):=rfl;rw[e1,e2,Nat.pow_add];have:=ack (rM h1.2) (rM hz);omega
theorem FH{V:Int->Nat}{z:Int->Nat}:∀{l:List Int},(∀r,r∈l->2*V r<=2 ^ z r/\1<=z r)->l≠[]->2*iI V l<=2 ^ (ig z l)
 | [],_,h=>absurd rfl h
 | [x],h,_=>by simpa[ig,iI]using(h x (.head _)).1
 | x::y::l,h,_=>by
  have h1:=h x (.head _);have ih:=FH (l:=y::l) (λr hr=>h r (.tail _ hr)) aac;have e1:iI V (x::y::l)=V x*iI V (y::l):=rfl;have e2:ig z (x::y::l)=z x+ig z (y::l):=rfl;rw[e1,e2,Nat.pow_add];have:2*(V x*iI V (y::l))<=(2*V x)*(2*iI V (y::l)):=by
   rw[Gz,Nat.mul_left_comm (V x) 2];have:=bh (V x*iI V (y::l));omega
  exact bf this (CV h1.1 ih)
theorem ZI{z:Int->Nat}{en:Int->Int}:∀{l:List Int} {lo hi:Int},l.Pairwise (λa b=>en a<=b)->(∀r,r∈l->lo<=r/\en r<=hi/\(z r:Int)=en r-r)->lo<=hi->(ig z l:Int)<=hi-lo
 | [],lo,hi,_,_,h=>by rw[ig];omega
 | x::l,lo,hi,hp,hm,h=>by
  rw[dG]at hp;have hx:=hm x (.head _);have:=ZI (l:=l) (lo:=en x) (hi:=hi) hp.2 (λr hr=>⟨hp.1 r hr,(hm r (.tail _ hr)).2⟩) hx.2.1;rw[ig];omega
theorem Sd.NK(hF:Sd xs){n:Nat}{s:cM}(hs:xs[n]? =some s):(ig (nE xs) (cY xs n):Int)<=s.en-n-1:=by
 have hu:=hF.fo.up n s hs;have:=ZI (z:=nE xs) (en:=Fw xs) (l:=cY xs n) (lo:=n+1) (hi:=s.en) (hF.rO n (og xs n) λr hr=>hr) (λr hr=>by
  obtain⟨q,t,rfl,h2,_,_,h5,h6⟩:=hF.DV hr;have h7:=hF.fo.up q t h2;have h8:=hF.fo.ZM q hs h2 h5 (h6 s hs);unfold nE;rw[mq h2];exact⟨aG,h8,aG⟩) aG
 omega
theorem Sd.NL(hF:Sd xs):∀(f n:Nat) {s:cM},xs[n]? =some s->1<=wy xs f n/\2*wy xs f n<=2 ^ nE xs n
 | 0,n,s,hs=>by
  have hu:=hF.fo.up n s hs;have:1<=nE xs n:=by unfold nE;rw[mq hs];omega
  rw[wy];exact⟨ba _,rM this⟩
 | f+1,n,s,hs=>by
  have hu:=hF.fo.up n s hs;have hz:1<=nE xs n:=by unfold nE;rw[mq hs];omega
  rw[wy];split
  ·exact⟨ba _,rM hz⟩
  rename_i gq;have Yz:cY xs n≠[]:=λe=>gq (by rw[e];rfl);have key:∀r,r∈cY xs n->2*wy xs f r.toNat<=2 ^ nE xs r/\1<=nE xs r:=λr hr=>by
   obtain⟨q,t,rfl,h2,_⟩:=hF.DV hr;have h7:=hF.fo.up q t h2;rw[aU];exact⟨(hF.NL f q h2).2,by unfold nE;rw[mq h2];omega⟩
  have pos:∀r,r∈cY xs n->0<wy xs f r.toNat:=λr hr=>by
   obtain⟨q,t,rfl,h2,_⟩:=hF.DV hr;rw[aU];exact(hF.NL f q h2).1
  have kA:2 ^ ig (nE xs) (cY xs n)<=2 ^ nE xs n:=lK aN (by
   have:=hF.NK hs;unfold nE at*
   rw[mq hs];omega)
  split
  ·exact⟨BZ pos,bf (FH key Yz) kA⟩
  refine⟨?_,bf (FG key Yz) kA⟩;cases hr:cY xs n with
  | nil=>exact absurd hr Yz
  | cons x l=>
   have:=pos x (by rw[hr];exact .head _);rw[ig];omega
theorem Sd.Uj(hF:Sd xs){n:Nat}{s:cM}(hs:xs[n]? =some s):1<=W xs n:=by
 unfold W;rw[aU];exact(hF.NL _ n hs).1
theorem Sd.ZR(hF:Sd xs){n:Nat}{s:cM}(hs:xs[n]? =some s):ig (W xs) (cY xs n)<=4611686018427387904/\iI (W xs) (cY xs n)<=4611686018427387904:=by
 have key:∀r,r∈cY xs n->2*W xs r<=2 ^ nE xs r/\1<=nE xs r:=λr hr=>by
  obtain⟨q,t,rfl,h2,_⟩:=hF.DV hr;have h7:=hF.fo.up q t h2;unfold W;rw[aU];exact⟨(hF.NL _ q h2).2,by unfold nE;rw[mq h2];omega⟩
 have kA:2 ^ ig (nE xs) (cY xs n)<=2 ^ 63:=lK aN (by
  have:=hF.NK hs;have hu:=hF.fo.up n s hs;have:=hF.le;omega)
 by_cases hr:cY xs n=[]
 ·rw[hr];exact⟨bh _,by rw[iI];decide⟩
 have h1:=FG key hr;have h2:=FH key hr;have e63:2 ^ 63=9223372036854775808:=aN
 rw[e63]at kA;omega
theorem Sd.acB(hF:Sd xs){n:Nat}{s:cM}(hs:xs[n]? =some s):W xs n<=4611686018427387904:=by
 rw[hF.acA n];have:=hF.ZR hs;split
 ·decide
 split
 ·exact this.2
 exact this.1
theorem Sd.Uk(hF:Sd xs){n:Nat}{r:Int}(hr:r∈cY xs n):0<W xs r:=by
 obtain⟨q,t,rfl,h2,_⟩:=hF.DV hr;exact hF.Uj h2
def pick(V:Int->Nat):List Int->Nat->Option (Int×Nat)
 | [],_=>none
 | r::l,k=>if k<V r then some (r,k)else pick V l (k-V r)
def jN(V:Int->Nat):List Int->Nat->List Nat×Nat
 | [],k=>([],k)
 | r::l,k=>((jN V l k).2 % V r::(jN V l k).1,(jN V l k).2/V r)
def jA(xs:List cM):Nat->Nat->Nat->List Int
 | 0,n,_=>[(n:Int)]
 | f+1,n,k=>(n:Int)::if kd xs n=1 then(match pick (W xs) (cY xs n) k with
  | some (r,k')=>jA xs f r.toNat k'
  | none=>[])else((cY xs n).zip (jN (W xs) (cY xs n) k).1).flatMap λp=>jA xs f p.1.toNat p.2
def Ql(xs:List cM)(act:List Int)(par:Bool)(rec:Int->Nat):List Int->Nat->Nat
 | [],k=>k
 | r::l,k=>if par then Ql xs act par rec l (k*W xs r+rec r)else if r∈act then k+rec r else Ql xs act par rec l (k+W xs r)
def ZJ(xs:List cM)(act:List Int):Nat->Nat->Nat
 | 0,_=>0
 | f+1,n=>Ql xs act (kd xs n==2) (λr=>ZJ xs act f r.toNat) (cY xs n) 0
theorem wT{V:Int->Nat}:∀{l:List Int} {k:Nat} {r:Int} {k':Nat},pick V l k=some (r,k')->r∈l/\k'<V r
 | [],_,_,_,h=>aal
 | x::l,k,r,k',h=>by
  rw[pick]at h;split at h
  ·injection h with h;injection h with h1 h2;subst h1 h2;exact⟨.head _,by assumption⟩
  obtain⟨h1,h2⟩:=wT h;exact⟨.tail _ h1,h2⟩
theorem FI(hF:Sd xs):∀(f n k:Nat) {s:cM},xs[n]? =some s->(jA xs f n k).Pairwise (· <·)/\∀x,x∈jA xs f n k->(n:Int)<=x/\x<s.en
 | 0,n,k,s,hs=>by
  have:=hF.fo.up n s hs;rw[jA];exact⟨aac,λx hx=>by rw[aO]at hx;omega⟩
 | f+1,n,k,s,hs=>by
  have hu:=hF.fo.up n s hs;rw[jA];have key:∀(r:Int) (d:Nat),r∈cY xs n->(jA xs f r.toNat d).Pairwise (· <·)/\(∀x,x∈jA xs f r.toNat d->r<=x/\x<Fw xs r)/\(n:Int)<r/\Fw xs r<=s.en:=λr d hr=>by
   obtain⟨q,t,rfl,h2,_,_,h5,h6⟩:=hF.DV hr;rw[aU,mq h2];obtain⟨h7,h8⟩:=FI hF f q d h2;exact⟨h7,h8,aG,hF.fo.ZM q hs h2 h5 (h6 s hs)⟩
  have fin:∀(L:List Int),L.Pairwise (· <·)->(∀x,x∈L->(n:Int)<x/\x<s.en)->((n:Int)::L).Pairwise (· <·)/\∀x,x∈(n:Int)::L->(n:Int)<=x/\x<s.en:=λL h1 h2=>⟨dG.2 ⟨λx hx=>(h2 x hx).1,h1⟩,λx hx=>by
   rw[aV]at hx;rcases hx with rfl | hx
   ·omega
   ·have:=h2 x hx;omega⟩
  split
  ·cases hp:pick (W xs) (cY xs n) k with
   | none=>exact fin [] aac aac
   | some p=>
    obtain⟨r,k'⟩:=p;obtain⟨h1,h2,h3,h4⟩:=key r k' (wT hp).1;exact fin _ h1 λx hx=>by have:=h2 x hx;omega
  ·have hz:((cY xs n).zip (jN (W xs) (cY xs n) k).1).Pairwise λa b=>Fw xs a.1<=b.1:=by
    have h1:=hF.rO n (og xs n) λr hr=>hr;have:(((cY xs n).zip (jN (W xs) (cY xs n) k).1).map Prod.fst).Pairwise λa b=>Fw xs a<=b:=by
     have P4:((cY xs n).zip (jN (W xs) (cY xs n) k).1).map Prod.fst=(cY xs n).take ((jN (W xs) (cY xs n) k).1.length):=by
      generalize (jN (W xs) (cY xs n) k).1=ds;generalize cY xs n=rs
      induction rs generalizing ds with
      | nil=>simp
      | cons r rs ih=>
       cases ds with
       | nil=>simp
       | cons d ds=>simp[ih]
     rw[P4];exact h1.sublist (List.take_sublist _ _)
    rwa[oY]at this
   refine fin _ (xZ (f:=λp:Int×Nat=>jA xs f p.1.toNat p.2) (lo:=λp=>p.1) (hi:=λp=>Fw xs p.1) hz λp hp=>?_) λx hx=>?_
   ·have:=key p.1 p.2 (Vi hp).1;exact⟨this.1,this.2.1⟩
   ·obtain⟨p,hp,hx⟩:=dY.1 hx;obtain⟨_,h2,h3,h4⟩:=key p.1 p.2 (Vi hp).1;have:=h2 x hx;omega
theorem XC(hF:Sd xs)(f n k:Nat){s:cM}(hs:xs[n]? =some s):(jA xs f n k).length<=64:=by
 obtain⟨h1,h2⟩:=FI hF f n k hs;have hu:=hF.fo.up n s hs;have kA:=hF.le;have:=BI h1 h2 aG;omega
end
section
variable {w:ay} {F G:aL} {l sa:Sl} {xs:List cM} {act:List Int}
theorem Pm{u:ay}(h:aD nN 5 w F l xs)(hO:aA [] w u):aD nN 5 u F l xs:=SliceF.only db aN h hO aac
end
theorem mkI(w:ay){n:Nat}(hn:n<=1000000):∃(s:Sl) (w':ay),(Instr.makeSlice 33 (O ae (n:Int)) (O ae (n:Int))).run au w=.ok s.v w'/\dd w.heap.size w' s (List.replicate n 0)/\aA [] w w':=by
 obtain⟨w',h1,h2,h3⟩:=run_makeSlice_full (P:=au) (w:=w) w.heap.size 33 3 Tryz.t3 (O ae 0) 1 (by kernel_rfl) (by kernel_rfl) rfl rfl ae ae n aG (by show 8*n<=_;omega) (by show n<=9223372036854775807;omega) (ba _);have e:(madeCells (Value.int ae 0).cells (n*1)).toList=(List.replicate n (0:Int)).map (Value.int ae):=by
  rw[kl,List.map_replicate];exact toList_madeCells_one _ _
 rw[e]at h2;have h2':w'.ownsRow w.heap.size 3 1 (.slice (some ⟨w.heap.size,0,none⟩) n n) (List.replicate n (0:Int)).length ((List.replicate n (0:Int)).map (Value.int ae)):=by rw[fT];exact h2
 obtain⟨s,vL,hs2⟩:=dd.ofRow h2' λx hx=>by rw[(I2.1 hx).2];exact⟨aN,aN⟩
 exact⟨s,w',by rw[<-vL];exact h1,hs2,by have:=Only.T5 h3;simpa using this⟩
def wsL(xs:List cM):List Int:=(List.range xs.length).map λn:Nat=>(W xs (n:Int):Int)
theorem FJ{xs:List cM}{n:Nat}(h:n<xs.length):(wsL xs)[n]? =some (W xs n:Int):=by
 unfold wsL;rw[ch,List.getElem?_range h];rfl
section
variable {w:ay} {F G:aL} {l ws sa:Sl} {xs:List cM} {cD act:List Int} {k0 n:Nat} {x:cM}
theorem XD(hB:aH w k0 81 [l.v,ws.v])(h:aD nN 5 w F l xs)(hF:Sd xs)(hws:aD rInt 1 w G ws cD)(hv:∀q:Nat,(q:Int)∈cY xs n->cD[q]? =some (W xs q:Int))(hx:xs[n]? =some x):
  aB au 67 #[ai (some ⟨k0,0,none⟩),O ae (n:Int)] w λe w'=>e=aq (O ae (W xs n:Int))/\aA [] w w':=by
 refine ret (anH _ _ _ _ ?_);have kA:=hF.le;refine⟨l,Blk.eh hB 0 rfl,(uw h hF hx).mono ?_⟩;rintro _ w0 ⟨⟨s1,rfl,xo⟩,cG⟩;have VB:=xo.len;have U3:=wN xs n;have Va:=hF.acA n;have K1:=hF.ZR hx;have N6:∀{r:Int},r∈cY xs n->_:=fun{r} h=>hF.DV (n:=n) (r:=r) h;have uI:∀r,r∈cY xs n->0<W xs r:=λr hr=>hF.Uk hr;rw[kz hx]at Va;have lH:∀t,ig (W xs) ((cY xs n).take t)<=ig (W xs) (cY xs n):=λt=>DN _ _ t;have hpt:∀t,iI (W xs) ((cY xs n).take t)<=iI (W xs) (cY xs n):=λt=>DP t uI;generalize cY xs n=rs at*
 refine⟨s1,rfl,λhc=>⟨?_,cG⟩,λhc=>?_⟩
 ·have hc:(s1.n:Int)=0:=aai
  rw[Va,bc aG];rfl
 have hc:(s1.n:Int)≠0:=aai
 rw[aY aG]at Va;refine⟨λkv su pr i u=>∃t:Nat,i=(t:Int)/\kv+t=rs.length/\t<=rs.length/\su=(ig (W xs) (rs.take t):Int)/\pr=(iI (W xs) (rs.take t):Int)/\aA [] w0 u,rs.length,⟨0,rfl,aG,bh _,by simp[ig],by simp[iI],Only.refl _ _⟩,?_⟩;rintro kv _ _ _ u ⟨t,rfl,sJ,ht,rfl,rfl,hO⟩;have o:=cG.cr hO;have QH:=o.blk hB aac;refine⟨λtW=>?_,λtW=>?_⟩
 ·have tW:=aP tW;have ux:t<rs.length:=aG
  obtain⟨ad,a1,a2⟩:=gD (tN xo hO).sl (aQ ux);have qN:=dZ ux;obtain⟨q,y,hq,hy,_⟩:=N6 qN;have hvq:=hv q (by rw[<-hq];exact qN);obtain⟨uz,b1,b2⟩:=gD (kI hws o) hvq;have c1:aE u (Addr.add ⟨k0,0,none⟩ 1) [ws.v]:=Blk.eh QH 1 rfl;have mJ:rs.take (t+1)=rs.take t++[rs[t]]:=by rw[bE,aQ ux];rfl
  have h1:=lH (t+1);have h2:=hpt (t+1);rw[mJ,yh,hq]at h1;rw[mJ,yi,hq]at h2;refine⟨ad,a1,_,a2,ws,c1,uz,by rw[hq];exact b1,_,b2,ws,c1,uz,by rw[hq];exact b1,_,b2,λw2 dk=>⟨kv-1,aG,t+1,aad,aG,aG,?_,?_,hO.cr dk⟩⟩
  ·rw[mJ,yh,hq,gx aG aG];omega
  have e:(iI (W xs) (rs.take t):Int)*(W xs (q:Int):Int)=((iI (W xs) (rs.take t)*W xs (q:Int):Nat):Int):=by rw[Int.natCast_mul]
  rw[mJ,yi,hq,e,gx aG aG]
 have tW:=aX tW;have:t=rs.length:=aG
 subst this;obtain⟨ad,a1,a2,_⟩:=jJ (Pm h o) hx;rw[bq (ba _)];refine⟨l,Blk.eh QH 0 rfl,ad,a1,x.k,a2.eh 0 _ rfl,λhk=>⟨?_,o⟩,λhk=>⟨?_,o⟩⟩
 ·rw[Va,bc aas]
 rw[Va,aY aas]
structure CtB (w:ay) (k0:Nat) (l ws:Sl) (xs:List cM) (F G:aL):Prop where
 blk:aH w k0 81 [l.v,ws.v]
 sp:aD nN 5 w F l xs
 ws:aD rInt 1 w G ws (wsL xs)
theorem CtB.only{u:ay}(h:CtB w k0 l ws xs F G)(hO:aA [] w u):CtB u k0 l ws xs F G:=⟨hO.blk h.blk aac,Pm h.sp hO,kI h.ws hO⟩
theorem CtB.mono{F' G':aL}(h:CtB w k0 l ws xs F G)(hF:∀k,F k->F' k)(hG:∀k,G k->G' k):CtB w k0 l ws xs F' G':=⟨h.blk,SliceF.mono db h.sp hF,SliceF.mono bF h.ws hG⟩
theorem DQ(h:aD nN 5 w F l xs)(hF:Sd xs):aB au 26 #[l.v] w λe w'=>(∃(k0:Nat) (ws:Sl),e=aq (ai (some ⟨k0,0,none⟩))/\w.heap.size<=k0/\k0<w'.heap.size/\CtB w' k0 l ws xs (λk=>F k/\k<w.heap.size) (λk=>w.heap.size<=k))/\aA [] w w':=by
 refine(ank l (λv w'=>(∃(k0:Nat) (ws:Sl),v=ai (some ⟨k0,0,none⟩)/\w.heap.size<=k0/\k0<w'.heap.size/\CtB w' k0 l ws xs (λk=>F k/\k<w.heap.size) (λk=>w.heap.size<=k))/\aA [] w w') w ?_).mono (by rintro _ w' ⟨v,rfl,⟨s,t,rfl,h⟩,h'⟩;exact⟨⟨s,t,rfl,h⟩,h'⟩);have kA:=hF.le;have hl:=h.len;obtain⟨ws,w0,m1,m2,m3⟩:=mkI w (n:=l.n) aG;have z0:=m3.size;refine⟨ws,w0,m1,λk0 w1 gU fD cG=>?_⟩;have o1:=m3.cr cG;have z1:=cG.size;have h1:aD nN 5 w1 (λk=>F k/\k<w.heap.size) l xs:=Pm (SliceF.inHeap db h aN) o1;have uI:=hF.fo.ne;have hwa:∀{g:Nat},ws.a=some ⟨g,0,none⟩->w.heap.size<=g/\g<w0.heap.size:=λe=>m2.blk e;refine⟨λkv i l1 l2 u=>∃(m:Nat) (cD:List Int),i=(m:Int)-1/\kv=m/\m<=xs.length/\l=l1/\ws=l2/\dd w.heap.size u ws cD/\cD.length=xs.length/\(∀q:Nat,m<=q->q<xs.length->cD[q]? =some (W xs q:Int))/\aD nN 5 u (λk=>F k/\k<w.heap.size) l xs/\aA [] w u/\w1.heap.size<=u.heap.size,xs.length,⟨xs.length,List.replicate l.n 0,by rw[gx aG aG];omega,rfl,ba _,rfl,rfl,tN m2 cG,by rw[fT];exact hl,λq h1 h2=>aG,h1,o1,ba _⟩,?_⟩;rintro kv _ _ _ u ⟨m,cD,rfl,sJ,hm,rfl,rfl,hS,hvl,yV,xx,hO,hz⟩;refine⟨λhc w3 dz=>?_,λhc hB=>⟨⟨k0,ws,rfl,aG,aG,hB,xx,?_⟩,hO⟩⟩
 ·have hc:=aP hc;obtain⟨m,rfl⟩:∃m',m=m'+1:=⟨m-1,aG⟩
  have em:((m+1:Nat):Int)-1=(m:Int):=aG
  rw[em];obtain⟨x,hx⟩:=fL (xs:=xs) (i:=m) aG;have Ct:=tN hS dz;refine⟨λk=>k=k0,rfl,λhB=>(XD hB (Pm xx dz) hF Ct.sl (λq hq=>?_) hx).mono ?_⟩
  ·obtain⟨q',t,e,h2,_,_,h5,_⟩:=hF.DV hq;have:q'=q:=aG
   subst this;exact yV q' aG (eS h2)
  rintro _ w4 ⟨rfl,dK⟩;have z3:=dz.size;have z4:=dK.size;have N2:=tN Ct dK;have ar7:=hF.acB hx;obtain⟨g,cells,p1,p2,p3,p4,p5⟩:=Own.store (x:=(W xs m:Int)) (n:=m) (vs:=[O ae (W xs m:Int)]) (G:=λ_=>False) bF N2 aG rfl ⟨rfl,aG,aG⟩ (λk hk _=>hk.elim) aN;have hgw:=hwa p1;refine⟨_,rfl,l,ws,dK.blk hB aac,bS.only dK,_,p2,g,m*1,cells,_,rfl,p3,p4,aG,λw5 eJ xb=>⟨m,aG,m,cD.set m (W xs m:Int),by rw[gx aG aG],rfl,aG,rfl,rfl,p5 w5 eJ xb,by rw[iB];exact hvl,λq h1 h2=>?_,SliceF.only db aN (Pm (Pm xx dz) dK) eJ λk hk _ yW=>by simp only[aO]at yW;omega,?_,?_⟩⟩
  ·by_cases hqm:q=m
   ·subst hqm;rw[oU aG]
   rw[CT (λe=>hqm e.symm)];exact yV q aG h2
  ·exact(((hO.cr dz).cr dK).mZ (eJ.p (F:=λk=>w.heap.size<=k) λk hk=>by simp only[aO]at hk;exact .inl aG)).only λk hk=>hk
  have:=eJ.size;omega
 have hc:=aX hc;have NP:m=0:=aG
 subst NP;have e:cD=wsL xs:=gu λq=>by
  by_cases hq:q<xs.length
  ·rw[yV q (bh _) hq,FJ hq]
  rw[cN aG,cN (by unfold wsL;rw[bA,fE];omega)]
 rw[e]at hS;exact hS.sl
theorem XE(h:aD nN 5 w F l xs)(hF:Sd xs):aB au 8 #[l.v] w λe w'=>e=aq (O ae (W xs 0:Int))/\aA [] w w':=by
 refine ret (anb _ _ _ ?_);have hl:=h.len;have uI:=hF.fo.ne;refine⟨λhc=>absurd (show(l.n:Int)=0 by simpa using hc) aG,λ_=>(DQ h hF).mono ?_⟩;rintro _ w1 ⟨⟨k0,ws,rfl,_,_,hC⟩,hO⟩;obtain⟨ad,a1,a2⟩:=gD hC.ws (FJ uI);exact⟨_,rfl,⟨k0,0,none⟩,rfl,ws,Blk.eh hC.blk 1 rfl,ad,a1,_,a2,rfl,hO⟩
end
def Gr(s:Sl)(w:ay)(s':Sl)(w':ay):Prop:=aF (λk=>s.a=some ⟨k,0,none⟩) w w'/\∀k,s'.a=some ⟨k,0,none⟩->s.a=some ⟨k,0,none⟩∨w.heap.size<=k
theorem Gr.trans{s s' s'':Sl}{w w' tT:ay}(h:Gr s w s' w')(k:Gr s' w' s'' tT):Gr s w s'' tT:=by
 have z:=h.1.size;refine⟨h.1.trans k.1 λx hx=>?_,λx hx=>?_⟩
 ·rcases h.2 x hx with e | e
  ·exact .inl e
  exact .inr e
 rcases k.2 x hx with e | e
 ·exact h.2 x e
 exact .inr aG
theorem Gr.only{s:Sl}{w w':ay}(h:aA [] w w'):Gr s w s w':=⟨h.p0,λ_ h=>.inl h⟩
theorem B0(V:Int->Nat):∀(l:List Int) (k:Nat),(jN V l k).1.length=l.length
 | [],k=>rfl
 | r::l,k=>by rw[jN,bn,bn,B0 V l k]
theorem NB(V:Int->Nat):∀(l:List Int) (k:Nat),(jN V l k).2<=k
 | [],k=>ba _
 | r::l,k=>by rw[jN];exact bf (Nat.div_le_self _ _) (NB V l k)
theorem FK{V:Int->Nat}:∀{l:List Int} {k j:Nat} {r:Int} {d:Nat},(∀r,r∈l->0<V r)->l[j]? =some r->(jN V l k).1[j]? =some d->d<V r
 | [],_,_,_,_,_,h,_=>aal
 | x::l,k,0,r,d,hp,h,g=>by
  rw[jN]at g;rw[cR,be]at h g;subst h g;exact Nat.mod_lt _ (hp _ (.head _))
 | x::l,k,j+1,r,d,hp,h,g=>by
  rw[jN]at g;rw[du]at h g;exact FK (λr hr=>hp r (.tail _ hr)) h g
theorem aoh(w0:ay){u:ay}{s:Sl}{is:List Int}(h:dd w0.heap.size u s is)(hO:aA [] w0 u)(n:Int)(hn:rf n)(hm:is.length<=2000000):
  ∃y w1,(aw 33 1 #[.mk 0 (O ae n)]).run au u=.ok (Sl.v y) w1/\∃s' w2,(Builtin.append_ #[33,33] 33 #[Sl.v s,Sl.v y]).run au w1=.ok (Sl.v s') w2/\dd w0.heap.size w2 s' (is++[n])/\aA [] w0 w2/\Gr s u s' w2:=by
 obtain⟨y,w1,k1,k3,s',w2,g1,g2,⟨gs,g3,g4⟩,g5⟩:=jG (P:=au) (t:=33) (ty:=33) (e:=3) (i:=Tryz.t3) (bytes:=8) (size:=1) (r:=rInt) (G:=λ_=>False) (v:=O ae n) (x:=n) (by kernel_rfl) (by kernel_rfl) rfl rfl rfl rfl aN aN aN bF h hO.size rfl ⟨rfl,hn⟩ (λ_ h=>h.elim) aG;refine⟨y,w1,k1,s',w2,g1,dd.of g2,((hO.cr k3).mZ (g3.p (F:=λk=>w0.heap.size<=k) λg hg=>.inl (g4 g hg).2.1)).only λk hk=>hk,k3.mZ (g3.p λg hg=>.inl (g4 g hg).1),λk hk=>?_⟩;rcases g5 with e | ⟨g,e,h⟩
 ·exact .inl acf
 rw[e]at hk;injection hk with hk;injection hk with hk;exact .inr aG
section
variable {w0:ay} {F G:aL} {l ws:Sl} {xs:List cM} {k0:Nat}
theorem CtB.nP{w u:ay}{S:aL}(h:CtB w k0 l ws xs F G)(hO:aF S w u)(h0:¬S k0)(hF:∀k,F k->¬S k)(hG:∀k,G k->¬S k):CtB u k0 l ws xs F G:=
 ⟨hO.blk h.blk h0,SliceF.nP db aN h.sp hO λk hk _=>hF k hk,SliceF.nP bF aN h.ws hO λk hk _=>hG k hk⟩
theorem Kw(hF:Sd xs)(hC:CtB w0 k0 l ws xs F G)(hFw:∀k,F k->k<w0.heap.size)(hGw:∀k,G k->k<w0.heap.size):∀(f n k:Nat) {w:ay} {x:cM} {out:Sl} {L:List Int},xs[n]? =some x->xs.length<=n+f->k<W xs n->dd w0.heap.size w out L->aA [] w0 w->L.length+(jA xs f n k).length<=1000000->
  aB au 30 #[ai (some ⟨k0,0,none⟩),out.v,O ae (n:Int),O ae (k:Int)] w λe w'=>∃s:Sl,e=aq s.v/\dd w0.heap.size w' s (L++jA xs f n k)/\Gr out w s w'
 | 0,n,k,w,x,out,L,hx,hf,_,_,_,_=>by
  have:=eS hx;omega
 | f+1,n,k,w,x,out,L,hx,hf,hk,hL,hO,hm=>by
  have kA:=hF.le;have VN:=eS hx;refine(anl ⟨k0,0,none⟩ out n k (λv w'=>∃s:Sl,v=s.v/\dd w0.heap.size w' s (L++jA xs (f+1) n k)/\Gr out w s w') w ?_).mono (by rintro _ w' ⟨v,rfl,s,rfl,h⟩;exact⟨s,rfl,h⟩);have ar7:=hF.acB hx;have e0:jA xs (f+1) n k=(n:Int)::if kd xs n=1 then(match pick (W xs) (cY xs n) k with
   | some (r,k')=>jA xs f r.toNat k'
   | none=>[])else((cY xs n).zip (jN (W xs) (cY xs n) k).1).flatMap λp=>jA xs f p.1.toNat p.2:=rfl
  rw[e0,kz hx]at hm⊢;have azS:=hC.blk.lt;obtain⟨y1,w1,k1,s1,w2,g1,g2,g3,g4⟩:=aoh w0 hL hO n ⟨aG,aG⟩ aG;have hC2:=hC.only g3;refine⟨y1,w1,k1,s1,w2,g1,l,Blk.eh hC2.blk 0 rfl,(uw hC2.sp hF hx).mono ?_⟩;rintro _ w3 ⟨⟨s3,rfl,Ct⟩,dz⟩;have o3:=g3.cr dz;have hC3:=hC.only o3;have cG:dd w0.heap.size w3 s1 (L++[(n:Int)]):=tN g2 dz;have vL:∀{g:Nat},s1.a=some ⟨g,0,none⟩->w0.heap.size<=g/\g<w2.heap.size:=λe=>g2.blk e;have hs3:∀{g:Nat},s3.a=some ⟨g,0,none⟩->w2.heap.size<=g/\g<w3.heap.size:=λe=>Ct.blk e;have g4':Gr out w s1 w3:=g4.trans (Gr.only dz);obtain⟨ad,a1,a2,_⟩:=jJ hC3.sp hx;have hl3:=Ct.len;have U3:=wN xs n;have N6:∀{r:Int},r∈cY xs n->_:=fun{r} h=>hF.DV (n:=n) (r:=r) h;have uI:∀r,r∈cY xs n->0<W xs r:=λr hr=>hF.Uk hr;have asb:∀r,r∈cY xs n->W xs r<=4611686018427387904:=λr hr=>by
   obtain⟨q,t,rfl,h2,_⟩:=N6 hr;exact hF.acB h2
  generalize cY xs n=rs at*
  have rat:∀{u:ay} {t:Nat} {r:Int},rs[t]? =some r->aF (λk=>s1.a=some ⟨k,0,none⟩) w3 u->∃(q:Nat) (y:cM) (ad uz:Addr),r=q/\xs[q]? =some y/\n<q/\dE s3 (t:Int) 1 ad/\aE u ad [O ae r]/\aE u (Addr.add ⟨k0,0,none⟩ 1) [ws.v]/\dE ws r 1 uz/\aE u uz [O ae (W xs r:Int)]:=fun{u t r} ht hu=>by
   obtain⟨q,y,rfl,hy,_,_,hnq,_⟩:=N6 (bB ht);have hSu:dd w2.heap.size u s3 rs:=Ct.keep bF λk hk bT=>hu.block k bT λhh=>by
    have h1:=vL hh;rcases hk with hk | hk
    ·exact hk.elim
    omega
   obtain⟨ad,b1,b2⟩:=gD hSu.sl ht;have hCu:=hC3.nP hu (λhh=>by have:=vL hh;omega) (λk hk hh=>by have:=vL hh;have:=hFw k hk;omega) (λk hk hh=>by have:=vL hh;have:=hGw k hk;omega);obtain⟨uz,c1,c2⟩:=gD hCu.ws (FJ (eS hy));exact⟨q,y,ad,uz,rfl,hy,hnq,b1,b2,Blk.eh hCu.blk 1 rfl,c1,c2⟩
  refine⟨s3,rfl,l,Blk.eh hC3.blk 0 rfl,ad,a1,x.k,a2.eh 0 _ rfl,λkc=>?_,λkc=>?_⟩
  ·have kc:x.k=1:=by simpa using kc
   rw[bc kc]at hm⊢;refine⟨λkv i1 i u=>∃t k':Nat,i=(t:Int)/\i1=(k':Int)/\kv+t=rs.length/\t<=rs.length/\k'<=k/\pick (W xs) rs k=pick (W xs) (rs.drop t) k'/\w3=u,rs.length,⟨0,k,rfl,rfl,aG,bh _,ba _,by rw[fx],rfl⟩,?_⟩;rintro kv _ _ _ ⟨t,k',rfl,rfl,sJ,ht,F6,X4,rfl⟩;refine⟨λhc=>?_,λhc=>?_⟩
   ·have hc:=aP hc;have ux:t<rs.length:=aG
    have htr:=aQ ux;obtain⟨q,y,ad,uz,hq,hy,hnq,b1,b2,b3,b4,b5⟩:=rat htr (OnlyP.refl _ _);have hpd:pick (W xs) (rs.drop t) k'=if k'<W xs rs[t]then some (rs[t],k')else pick (W xs) (rs.drop (t+1)) (k'-W xs rs[t]):=by
     rw[fM ux,pick]
    have azU:=asb _ (dZ ux);rw[hpd]at X4;refine⟨ad,b1,_,b2,ws,b3,uz,b4,_,b5,λbT=>?_,λbT=>⟨ws,b3,uz,b4,_,b5,kv-1,aG,t+1,k'-W xs rs[t],aad,?_,aG,aG,aG,?_,rfl⟩⟩
    ·have bT:=aP bT;have aes:k'<W xs rs[t]:=aG
     rw[bc aes]at X4;rw[X4]at hm⊢;dsimp only at hm⊢;rw[hq,aU]at hm⊢;rw[hq]at aes;rw[bn]at hm;refine(Kw hF hC hFw hGw f q k' hy aG aes cG o3 aaE).mono ?_;rintro _ w4 ⟨s4,rfl,h4,o4⟩;exact⟨s4,rfl,s4,rfl,by rw[bP]at h4;exact h4,g4'.trans o4⟩
    ·have bT:=aX bT;rw[gx aG aG];omega
    have bT:=aX bT;rw[aY aG]at X4;exact X4
   have hc:=aX hc;rw[oS aG,pick]at X4;rw[X4];exact⟨s1,rfl,cG,g4'⟩
  have kc:x.k≠1:=by simpa using kc
  rw[aY kc]at hm⊢;obtain⟨es,w5,m1,m2,m3⟩:=mkI w3 (n:=s3.n) aG;have o5:=o3.cr m3;have z5:=m3.size;have hea:∀{g:Nat},es.a=some ⟨g,0,none⟩->w3.heap.size<=g/\g<w5.heap.size:=λe=>m2.blk e;refine⟨es,w5,m1,λkv i6 i u=>∃(m k':Nat) (ds:List Int),i=(m:Int)-1/\i6=(k':Int)/\kv=m/\m<=rs.length/\k'=(jN (W xs) (rs.drop m) k).2/\dd w3.heap.size u es ds/\ds.length=rs.length/\ds.drop m=(jN (W xs) (rs.drop m) k).1.map (λd:Nat=>(d:Int))/\aA [] w3 u/\w5.heap.size<=u.heap.size,rs.length,⟨rs.length,k,List.replicate s3.n 0,by rw[gx aG aG];omega,rfl,rfl,ba _,by rw[List.drop_length];rfl,m2,by rw[fT];exact hl3,by rw[List.drop_length,oS (by rw[fT];omega)];rfl,m3,ba _⟩,?_⟩;rintro kv _ _ u ⟨m,k',ds,rfl,rfl,sJ,Cs,iJ,hD,zm,VA,YE,hz⟩;refine⟨λhc w7 fN=>?_,λhc=>?_⟩
  ·have hc:=aP hc;obtain⟨m,rfl⟩:∃m',m=m'+1:=⟨m-1,aG⟩
   have em:((m+1:Nat):Int)-1=(m:Int):=aG
   rw[em];have htr:=aQ (show m<rs.length by omega);have o7:=YE.cr fN;obtain⟨q,y,ad,uz,hq,hy,hnq,b1,b2,b3,b4,b5⟩:=rat htr o7.p0;have hD7:=tN hD fN;have z7:=fN.size;have hwp:=uI _ (dZ (show m<rs.length by omega));have avl:k'<=k:=by rw[iJ];exact NB _ _ _
   have hdg:jN (W xs) (rs.drop m) k=(k' % W xs rs[m]::(jN (W xs) (rs.drop (m+1)) k).1,k'/W xs rs[m]):=by
    rw[fM (show m<rs.length by omega),jN,<-iJ]
   have asd:(k':Int).tmod (W xs rs[m]:Int)=((k' % W xs rs[m]:Nat):Int):=rfl;have hdiv:(k':Int).tdiv (W xs rs[m]:Int)=((k'/W xs rs[m]:Nat):Int):=rfl;have azX:k' % W xs rs[m]<=k':=Nat.mod_le _ _;have ase:k'/W xs rs[m]<=k':=Nat.div_le_self _ _;obtain⟨g,cells,p1,p2,p3,p4,p5⟩:=Own.store (x:=((k' % W xs rs[m]:Nat):Int)) (n:=m) (vs:=[O ae ((k' % W xs rs[m]:Nat):Int)]) (G:=λ_=>False) bF hD7 aG rfl ⟨rfl,aG,aG⟩ (λk hk _=>hk.elim) aN;have hgw:=hea p1;refine⟨ws,b3,ad,b1,_,b2,uz,b4,_,b5,aG,_,p2,g,m*1,cells,_,rfl,p3,p4,λw8 fX ve=>?_⟩;rw[asd]at ve;have o8:aA [] w3 w8:=(o7.mZ (fX.p (F:=λk=>w3.heap.size<=k) λk hk=>by simp only[aO]at hk;exact .inl aG)).only λk hk=>hk;have z8:=fX.size;obtain⟨q',y',FV,asf,_,_,_,c1,c2,c3,c4,c5⟩:=rat htr o8.p0;refine⟨ws,c3,FV,c1,_,c2,asf,c4,_,c5,aG,λw9 gH=>?_⟩;have z9:=gH.size;rw[hdiv];refine⟨m,aG,m,_,ds.set m ((k' % W xs rs[m]:Nat):Int),by rw[gx aG aG],by rw[gx (Int.le_trans aN (bD _)) (Int.le_trans (Int.ofNat_le.2 ase) aG)],rfl,aG,by rw[hdg],tN (p5 w8 fX ve) gH,by rw[iB];exact zm,?_,o8.cr gH,aG⟩;rw[hdg,bH,<-VA,fM (show m<(ds.set m ((k' % W xs rs[m]:Nat):Int)).length by rw[iB];omega),List.getElem_set_self,Gi aG]
  have hc:=aX hc;have NP:m=0:=aG
  subst NP;rw[fx,fx]at VA;have asg:=B0 (W xs) rs k;let dg:=(jN (W xs) rs k).1
  have hdg:dg=(jN (W xs) rs k).1:=rfl;rw[<-hdg]at hm VA asg⊢;have ou:=o3.cr YE;have hDv:∀{v:ay} {q:Sl},Gr s1 u q v->dd w3.heap.size v es ds:=fun{v q} hg=>hD.keep bF λk hk bT=>hg.1.block k bT λhh=>by
   have h1:=vL hh;have z3:=dz.size;rcases hk with hk | hk
   ·exact hk.elim
   omega
  have ash:dd w0.heap.size u s1 (L++[(n:Int)]):=tN cG YE;let Z:Nat->List Int:=λt=>((rs.zip dg).take t).flatMap λp=>jA xs f p.1.toNat p.2
  have hZ:∀t r d,rs[t]? =some r->dg[t]? =some d->Z (t+1)=Z t++jA xs f r.toNat d:=λt r d h1 h2=>by
   show((rs.zip dg).take (t+1)).flatMap _=_;rw[bE,fO];congr 1;have:(rs.zip dg)[t]? =some (r,d):=ju.2 ⟨h1,h2⟩;rw[this];simp
  have asi:∀t,(Z t).length<=(Z rs.length).length:=λt=>by
   show(((rs.zip dg).take t).flatMap _).length<=(((rs.zip dg).take rs.length).flatMap _).length;rw[bq (i:=rs.length) (by rw[List.length_zip];omega)]
   conv=>rhs;rw[<-dl t (rs.zip dg)]
   rw[fO,aW];omega
  have akn:Z rs.length=(rs.zip dg).flatMap λp=>jA xs f p.1.toNat p.2:=by
   show((rs.zip dg).take rs.length).flatMap _=_;rw[bq (i:=rs.length) (by rw[List.length_zip];omega)]
  rw[<-akn]at hm⊢;rw[bn]at hm;refine⟨λkv q i v=>∃t:Nat,i=(t:Int)/\kv+t=rs.length/\t<=rs.length/\dd w0.heap.size v q (L++(n:Int)::Z t)/\Gr s1 u q v,rs.length,⟨0,rfl,aG,bh _,by simpa[Z]using ash,Gr.only (Only.refl _ _)⟩,?_⟩;rintro Ci q _ v ⟨t,rfl,YA,ht,hq,hGv⟩;have CQ:aF (λk=>s1.a=some ⟨k,0,none⟩) w3 v:=YE.mZ hGv.1;have asj:aA [] w0 v:=(o3.mZ (CQ.mono (G:=λk=>w0.heap.size<=k) λk _ hk=>(vL hk).1)).only λk hk=>hk;refine⟨λoh=>?_,λoh=>?_⟩
  ·have oh:=aP oh;have ux:t<rs.length:=aG
   have htr:=aQ ux;have htd:=aQ (show t<dg.length by omega);obtain⟨q',y,ad,uz,hq',hy,hnq,b1,b2,_⟩:=rat htr CQ;have hds:ds[t]? =some ((dg[t]' aG:Nat):Int):=(bm (λz:List Int=>z[t]?) VA).trans (by rw[ch,htd];rfl);obtain⟨ad3,c1,c2⟩:=gD (hDv hGv).sl hds;have ako:=FK uI htr htd;have hz1:=hZ t _ _ htr htd;have D2:=asi (t+1);rw[hz1,aW]at D2;refine⟨ad,b1,_,b2,ad3,c1,_,c2,?_⟩;rw[hq']at ako hz1⊢;rw[hq']at D2;rw[aU]at hz1 D2;refine(Kw hF hC hFw hGw f q' _ hy aG ako hq asj (by simp only[aW,bn];omega)).mono ?_;rintro _ dN ⟨NR,rfl,Jf,VM⟩;refine⟨NR,rfl,Ci-1,aG,t+1,aad,aG,aG,?_,hGv.trans VM⟩;rw[hz1];rw[bP,cp]at Jf;exact Jf
  have oh:=aX oh;have:t=rs.length:=aG
  subst this;exact⟨q,rfl,hq,(g4'.trans (Gr.only YE)).trans hGv⟩
end
structure WkB (b b1 b2 b3:Nat) (l sa:Sl) (xs:List cM) (act:List Int) (F G:aL) (w:ay):Prop where
 lb:aH w b 32 [l.v]
 ab:aH w b1 33 [sa.v]
 fb:aH w b3 84 [.func (.func 27) #[] #[ai (some ⟨b2,0,none⟩),ai (some ⟨b,0,none⟩),ai (some ⟨b1,0,none⟩),ai (some ⟨b3,0,none⟩)]]
 sp:aD nN 5 w F l xs
 ac:aD rInt 1 w G sa act
 nF:∀k,F k->k≠b2
 nG:∀k,G k->k≠b2
 n0:b≠b2
 n1:b1≠b2
 n3:b3≠b2
section
variable {b b1 b2 b3:Nat} {F G:aL} {l sa:Sl} {xs:List cM} {act:List Int}
theorem WkB.only{w w'}(h:WkB b b1 b2 b3 l sa xs act F G w)(hO:aA [b2] w w'):WkB b b1 b2 b3 l sa xs act F G w':=
 ⟨hO.blk h.lb (by simpa using h.n0),hO.blk h.ab (by simpa using h.n1),hO.blk h.fb (by simpa using h.n3),SliceF.only db aN h.sp hO λk hk _ hm=>h.nF k hk abz,SliceF.only bF aN h.ac hO λk hk _ hm=>h.nG k hk abz,h.nF,h.nG,h.n0,h.n1,h.n3⟩
theorem TW(hF:Sd xs)(hr:act.Pairwise (· <·))(gq:act≠[])(hm:act.length<=1000000000):∀(f n:Nat) {w:ay} {x:cM} {left:Int},xs[n]? =some x->xs.length<=n+f->WkB b b1 b2 b3 l sa xs act F G w->aH w b2 3 [O ae left]-> -1000<=left-(ur xs act f n).length->left<=1000000000->
  aB au 27 #[O ae (n:Int),ai (some ⟨b2,0,none⟩),ai (some ⟨b,0,none⟩),ai (some ⟨b1,0,none⟩),ai (some ⟨b3,0,none⟩)] w λe w'=>
   (∃r:Bool,e=aq (ao r)/\(r=true↔∀m,m∈ur xs act f n->mW xs act m.toNat=true)/\∃qU:Int,aH w' b2 3 [O ae qU]/\(r=true->qU=left-(ur xs act f n).length))/\aA [b2] w w'
 | 0,n,w,x,left,hx,hf,_,_,_,_=>by
  have:=eS hx;omega
 | f+1,n,w,x,left,hx,hf,hW,hB,hlo,hhi=>by
  have kA:=hF.le;refine(anC n ⟨b2,0,none⟩ _ ⟨b1,0,none⟩ ⟨b3,0,none⟩ (λv w'=>(∃r:Bool,v=ao r/\(r=true↔∀m,m∈ur xs act (f+1) n->mW xs act m.toNat=true)/\∃qU:Int,aH w' b2 3 [O ae qU]/\(r=true->qU=left-(ur xs act (f+1) n).length))/\aA [b2] w w') w ?_).mono (by rintro _ w' ⟨v,rfl,⟨r,rfl,h⟩,h'⟩;exact⟨⟨r,rfl,h⟩,h'⟩);refine⟨left,hB.cells 0 _ aac,b2,0,_,_,rfl,hB,aac,λw0 cO sF=>?_⟩;have sF:aH w0 b2 3 [O ae (left-1)]:=by
   rw[<-gx (x:=left-1) aG aG];exact sF
  have hW0:=hW.only cO;refine⟨l,hW0.lb.cells 0 _ aac,(uw hW0.sp hF hx).mono ?_⟩;rintro _ w1 ⟨⟨s1,rfl,xo⟩,cG⟩;have o1:aA [b2] w w1:=cO.cr cG;have tV:b2<w0.heap.size:=sF.lt;have u7:=cG.blk sF aac;have VB:=xo.len;have U3:=wN xs n;have N6:=fun{r} h=>hF.DV (n:=n) (r:=r) h;have eo:Ie xs act n=(cY xs n).countP λr=>decide (r∈act):=rfl;have hek:mW xs act n=if x.k=2 then Ie xs act n==(cY xs n).length else Ie xs act n==min 1 (cY xs n).length:=by unfold mW;rw[kz hx]
  have pC:Ie xs act n<=(cY xs n).length:=List.countP_le_length;have asn:ur xs act (f+1) n=(n:Int)::((cY xs n).filter λr=>decide (r∈act)).flatMap λr=>ur xs act f r.toNat:=rfl;rw[asn]at hlo⊢;generalize cY xs n=rs at*
  let V:Nat->List Int:=λt=>((rs.take t).filter λr=>decide (r∈act)).flatMap λr=>ur xs act f r.toNat
  have hV:∀t r,rs[t]? =some r->V (t+1)=V t++if decide (r∈act)=true then ur xs act f r.toNat else[]:=λt r ht=>by
   show((rs.take (t+1)).filter _).flatMap _=_;rw[bE,ht,eC,fO];congr 1;show(List.filter _ [r]).flatMap _=_;rw[mz,eI];split<;>simp
  have aso:∀t,(V t).length<=(V rs.length).length:=λt=>by
   show(((rs.take t).filter _).flatMap _).length<=(((rs.take rs.length).filter _).flatMap _).length;rw[bq (ba rs.length)]
   conv=>rhs;rw[<-dl t rs]
   rw[eC,fO,aW];omega
  have aaF:V rs.length=(rs.filter λr=>decide (r∈act)).flatMap λr=>ur xs act f r.toNat:=by
   show((rs.take rs.length).filter _).flatMap _=_;rw[bq (ba rs.length)]
  rw[<-aaF]at hlo⊢;rw[bn]at hlo⊢;refine⟨s1,rfl,λkv on i u=>∃t:Nat,i=(t:Int)/\kv+t=rs.length/\t<=rs.length/\on=(((rs.take t).countP λr=>decide (r∈act):Nat):Int)/\(∀m,m∈V t->mW xs act m.toNat=true)/\aH u b2 3 [O ae (left-1-(V t).length)]/\aA [b2] w u/\aA [b2] w1 u,rs.length,⟨0,rfl,aG,bh _,aac,by simp[V],by simpa[V]using u7,o1,Only.refl _ _⟩,?_⟩;rintro kv _ _ u ⟨t,rfl,sJ,ht,rfl,mr,QH,hO,YE⟩;have hWu:=hW.only hO;have hSu:dd w0.heap.size u s1 rs:=xo.keep bF λk hk bT=>YE.block k bT λhm=>by
   have:=hk.elim False.elim λh=>h.1;simp at hm;omega
  refine⟨λhc=>?_,λhc=>?_⟩
  ·have hc:=aP hc;have ux:t<rs.length:=aG
   obtain⟨ad,a1,a2⟩:=gD hSu.sl (aQ ux);have hcn:(rs.take t).countP (λr=>decide (r∈act))<=t:=bf List.countP_le_length ac9;have mJ:(rs.take (t+1)).countP (λr=>decide (r∈act))=(rs.take t).countP (λr=>decide (r∈act))+if decide (rs[t]∈act)=true then 1 else 0:=by
    rw[bE,aQ ux,List.countP_append];congr 1;show List.countP _ [rs[t]]=_;rw[Qc,List.countP_nil,bO]
   have hvt:=hV t _ (aQ ux);have hv2:=aso (t+1);obtain⟨q,y,hq,hy,VI,_,hnq,_⟩:=N6 (dZ ux);refine⟨λi6 u'=>i6=(((rs.take (t+1)).countP λr=>decide (r∈act):Nat):Int)/\_/\aH u' b2 3 [O ae (left-1-(V (t+1)).length)]/\aA [b2] w u'/\aA [b2] w1 u',λi6 u' ⟨h1,h2⟩=>⟨kv-1,aG,t+1,aad,aG,aG,h1,h2⟩,ad,a1,_,a2,sa,hWu.ab.cells 0 _ aac,(aoe hWu.ac hr gq hm _).mono ?_⟩;rintro _ u4 ⟨⟨i5,rfl⟩,dK⟩;have hW4:=hWu.only (dK.weaken aac);have sS:=dK.blk QH aac;refine⟨i5,_,rfl,λhb=>?_,λhb=>⟨?_,?_,?_,hO.cr dK,YE.cr dK⟩⟩
   ·rw[bc hb]at hvt mJ;rw[hq,aU]at hvt;have fy:(V (t+1)).length=(V t).length+(ur xs act f q).length:=by rw[hvt,aW]
    have asp:=TW hF hr gq hm f q hy aG hW4 sS aG aG;refine⟨⟨.func (.func 27) #[] #[ai (some ⟨b2,0,none⟩),ai (some _),ai (some ⟨b1,0,none⟩),ai (some ⟨b3,0,none⟩)],rfl⟩,hW4.fb.cells 0 _ aac,27,[],[ai (some ⟨b2,0,none⟩),ai (some ⟨b,0,none⟩),ai (some _),ai (some ⟨b3,0,none⟩)],rfl,eU (by kernel_rfl),?_⟩;rw[hq];refine asp.mono ?_;rintro _ u6 ⟨⟨r,rfl,QL,qU,KQ,asq⟩,eH⟩;have o6:aA [b2] w u6:=(hO.cr dK).mem eH aac;have o6':aA [b2] w1 u6:=(YE.cr dK).mem eH aac;refine⟨r,rfl,λhf=>?_,λGb=>?_⟩
    ·have hf:r=false:=acS
     refine⟨⟨false,rfl,⟨(λh=>aal),λjh=>?_⟩,qU,KQ,λh=>aal⟩,o6⟩;have:r=true:=QL.2 λm yW=>jh m (dj _ (by
      rw[aaF];exact dY.2 ⟨rs[t],di.2 ⟨dZ ux,hb⟩,by rw[hq,aU];exact yW⟩))
     rw[hf]at this;cases this
    ·have Gb:r=true:=by simpa using Gb
     refine⟨by rw[gx aG aG,mJ];rfl,λm yW=>?_,?_,o6,o6'⟩
     ·rw[hvt,bN]at yW;rcases yW with yW | yW
      ·exact mr m yW
      ·exact QL.1 Gb m yW
     ·rw[asq Gb]at KQ;rw[fy];rw[show left-1-(((V t).length+(ur xs act f q).length:Nat):Int)=left-1-((V t).length:Int)-((ur xs act f q).length:Int) by omega];exact KQ
   ·rw[mJ,aY (by rw[hb];decide)];rfl
   ·rw[hvt,aY (by rw[hb];decide),bQ];exact mr
   ·rw[hvt,aY (by rw[hb];decide),bQ];exact sS
  ·have hc:=aX hc;have:t=rs.length:=aG
   subst this;obtain⟨ad,a1,a2,_⟩:=jJ hWu.sp hx;rw[bq (ba _),<-eo];have fin:∀r:Bool,r=mW xs act n->(∃r':Bool,Value.bool r=ao r'/\(r'=true↔∀m,m∈(n:Int)::V rs.length->mW xs act m.toNat=true)/\∃qU:Int,aH u b2 3 [O ae qU]/\(r'=true->qU=left-(((V rs.length).length+1:Nat):Int)))/\aA [b2] w u:=λr N0=>⟨⟨r,rfl,⟨λh m yW=>?_,λh=>?_⟩,_,QH,λ_=>aG⟩,hO⟩
   ·refine⟨l,hWu.lb.cells 0 _ aac,ad,a1,x.k,a2.eh 0 _ rfl,λhk=>fin _ ?_,λhk=>fin _ ?_⟩
    ·rw[hek,bc aas,bW,dq,dq];omega
    ·rw[hek,aY aas,bW,bU,dq,dq,dq];omega
   ·rw[aV]at yW;rcases yW with rfl | yW
    ·rw[aU,<-N0];exact h
    ·exact mr m yW
   ·rw[N0];have:=h n (.head _);rwa[aU]at this
end
theorem Pn{act:List Int}{t:Nat}(h:t+1<act.length):(act.take (t+2)).Pairwise (· <·)↔(act.take (t+1)).Pairwise (· <·)/\act[t]<act[t+1]:=by
 rw[bE (i:=t+1),aQ h,gf];constructor
 ·rintro⟨h1,_,h3⟩;refine⟨h1,h3 _ ?_ _ aac⟩;exact List.mem_iff_getElem.2 ⟨t,ac9,by rw[pc]⟩
 ·rintro⟨h1,h2⟩;refine⟨h1,aac,λp hp q hq=>?_⟩;simp only[Option.toList,aO]at hq;subst hq;obtain⟨i,hi,rfl⟩:=jW hp;rw[cJ]at hi;by_cases hit:i=t
  ·subst hit;rw[pc];exact h2
  ·have:=dB.1 h1 i t ac9 ac9 aG;rw[pc,pc]at this;rw[pc];omega
theorem Lg.zero{xs:List cM}{act:List Int}(h:Lg xs act):act[0]? =some 0:=by
 obtain⟨i,hi,he⟩:=jW h.rt;by_cases h0:i=0
 ·subst h0;rw[aQ hi,he]
 have h1:=dB.1 h.rise 0 i aG hi aG;have h2:=(h.at_ _ (dZ (show 0<act.length by omega))).ge;omega
theorem XF{w:ay}{F G:aL}{l sa:Sl}{xs:List cM}{act:List Int}(h:aD nN 5 w F l xs)(hF:Sd xs)(ha:aD rInt 1 w G sa act)(hm:act.length<=1000000000):aB au 9 #[l.v,sa.v] w λe w'=>(∃r:Bool,e=aq (ao r)/\(r=true↔Lg xs act))/\aA [] w w':=by
 refine(anQ l sa (λv w'=>(∃r:Bool,v=ao r/\(r=true↔Lg xs act))/\aA [] w w') w ?_).mono aau;unfold abh;intro b b1 w1 hb jL pD az0 cG;have z1:=cG.size;have IX:=ha.len;have lI:=ha.cap;have P6:=kI ha cG;have no:∀{u:ay},¬Lg xs act->aA [] w u->(∃r:Bool,Value.bool false=ao r/\(r=true↔Lg xs act))/\aA [] w u:=λhn hO=>⟨⟨false,rfl,(λh=>aal),λh=>absurd h hn⟩,hO⟩
 obtain⟨ad,x1,a1,a2,a3⟩:∃(ad:Addr) (x1:Int),((((sa.n:Nat):Int)==0)=false->dE sa 0 1 ad)/\((((sa.n:Nat):Int)==0)=false->aE w1 ad [O ae x1])/\(0<act.length->act[0]? =some x1):=by
  by_cases h0:0<act.length
  ·obtain⟨ad,c1,c2⟩:=gD P6 (aQ h0);exact⟨ad,_,λ_=>c1,λ_=>c2,λ_=>aQ h0⟩
  ·exact⟨default,0,λhh=>absurd adi (show ¬sa.n≠0 by omega),λhh=>absurd adi (show ¬sa.n≠0 by omega),λhh=>absurd hh h0⟩
 refine⟨ad,a1,x1,a2,λhc=>no (λhL=>?_) cG,λhc=>?_⟩
 ·have e0:=hL.zero;have h0:0<act.length:=by
   cases act with
   | nil=>cases e0
   | cons a l=>exact Nat.succ_pos _
  rw[a3 h0]at e0;injection e0 with e0;rw[e0]at hc;rw[bU]at hc;rcases hc with hc | hc
  ·have:(sa.n:Int)=0:=aai
   omega
  ·exact absurd hc aN
 rw[ii]at hc;have hn0:(sa.n:Int)≠0:=by simpa using hc.1
 have h0:0<act.length:=aG
 have e0:act[0]? =some 0:=by
  rw[a3 h0];have:x1=0:=by simpa using hc.2
  rw[this]
 have gq:act≠[]:=gz.1 h0;refine⟨⟨aG,lI,ba _⟩,λb2 b3 w5 tV az1 Yh az2 eJ hB u7 pF xf=>?_⟩;have o5:=cG.cr eJ;have z5:=eJ.size;have ha5:=kI ha o5;have KF:=SliceF.cut ha5 (lo:=1) (hi:=sa.n) (m:=sa.c) aG lI (ba _) (ba _);have hcn:(Sl.cut sa 1 sa.n sa.c 1).n=sa.n-1:=rfl;have hdr:∀t,t+1<act.length->((act.drop 1).take (sa.n-1))[t]? =act[t+1]? :=λt ht=>by
  rw[xp aG,jc,jE]
 refine⟨λnv ris i u=>∃t:Nat,i=(t:Int)/\nv+t=act.length/\t+1<=act.length/\(ris=true↔(act.take (t+1)).Pairwise (· <·))/\w5=u,act.length,⟨0,rfl,rfl,h0,⟨λ_=>by
  rw[bE,de];cases act[0]? <;>simp,λ_=>rfl⟩,rfl⟩,?_⟩
 rintro nv ris _ _ ⟨t,rfl,hnv,ht,QL,rfl⟩;rw[hcn];refine⟨λoh=>?_,λoh _ _ _ _=>?_⟩
 ·have oh:=aP oh;have ux:t+1<act.length:=aG
  obtain⟨Z9,c1,c2⟩:=gD KF (i:=t) (by rw[hdr t ux];exact aQ ux);obtain⟨uz,c3,c4⟩:=gD ha5 (aQ (show t<act.length by omega));refine⟨Z9,c1,λ_ _ _ _=>⟨_,c2,uz,λ_=>c3,_,λ_=>c4,nv-1,aG,t+1,aad,aG,aG,?_,rfl⟩⟩;rw[Pn ux,aR,QL,bL]
 ·have oh:=aX oh;rw[bq aG]at QL;refine⟨λr u=>(r=true↔Lg xs act)/\aA [] w u,λr u hh _ _ _=>⟨⟨r,rfl,hh.1⟩,hh.2⟩,λhrt=>?_,λhrf=>⟨⟨(λh=>aal),λhL=>?_⟩,o5⟩⟩
  ·obtain⟨s,hs,_⟩:=hF.rt;have hW:WkB b b1 b2 b3 l sa xs act (λk=>F k/\k<w.heap.size) (λk=>G k/\k<w.heap.size) w5:=
    ⟨hB,u7,xf,SliceF.only db aN (SliceF.inHeap db h aN) o5 aac,kI (SliceF.inHeap bF ha aN) o5,λk hk=>aG,λk hk=>aG,aG,aG,λe=>by
     subst e;have:=pF;have e1:=xf;unfold aH at this e1;rw[this]at e1;injection e1 with e1;injection e1 with e1;cases e1⟩
   have hvl:=hF.XP act xs.length hs;refine(TW hF (QL.1 hrt) gq hm xs.length 0 hs aG hW pF aG aG).mono ?_;rintro _ w8 ⟨⟨r,rfl,NW,qU,ve,KR⟩,fX⟩;refine⟨r,rfl,fX.same λx hx=>?_,qU,ve,?_,(o5.mZ (fX.p (F:=λk=>w.heap.size<=k) λx hx=>by simp only[aO]at hx;exact .inl aG)).only λk hk=>hk⟩
   ·have n3:=hW.n3;simp only[aV,bp,cm]at hx⊢;rcases hx with rfl | rfl | rfl
    ·exact⟨aG,hW.n0⟩
    ·exact⟨aG,hW.n1⟩
    ·exact⟨aG,n3⟩
   ·rw[<-hF.Pu e0 xs.length (ba _),aR];constructor
    ·rintro⟨h1,h2⟩;have h2:qU=0:=acM
     have:=KR h1;exact⟨QL.1 hrt,NW.1 h1,aG⟩
    ·rintro⟨h1,h2,h3⟩;have h4:=NW.2 h2;have:=KR h4;exact⟨h4,by rw[dq];omega⟩
  ·rw[QL.2 hL.rise]at hrf;cases hrf
section
variable {w w0:ay} {F G G':aL} {l ws sa:Sl} {xs:List cM} {act:List Int} {k0:Nat}
theorem ahO(h:aD nN 5 w F l xs)(hF:Sd xs)(k:Int)(hm:∀n:Nat,(jA xs xs.length 0 n).length<=1000000):aB au 10 #[l.v,O ae k] w λe w'=>(∃(s:Sl) (b:Bool) (is:List Int),e=aq (ak #[s.v,ao b])/\dd w.heap.size w' s is/\(b=true↔0<=k/\k<W xs 0)/\is=if b=true then jA xs xs.length 0 k.toNat else[])/\aA [] w w':=by
 refine(anc l k (λv w'=>(∃(s:Sl) (b:Bool) (is:List Int),v=ak #[s.v,ao b]/\dd w.heap.size w' s is/\(b=true↔0<=k/\k<W xs 0)/\is=if b=true then jA xs xs.length 0 k.toNat else[])/\aA [] w w') w ?_).mono (by rintro _ w' ⟨v,rfl,⟨k,b,is,rfl,h⟩,h'⟩;exact⟨⟨k,b,is,rfl,h⟩,h'⟩);have hl:=h.len;have uI:=hF.fo.ne;refine(DQ h hF).mono ?_;rintro _ w1 ⟨⟨k0,ws,rfl,gU,fD,hC⟩,cG⟩;have z1:=cG.size;obtain⟨ad,a1,a2⟩:=gD hC.ws (FJ uI);refine⟨_,rfl,⟨k0,0,none⟩,λ_=>rfl,ws,λ_=>Blk.eh hC.blk 1 rfl,ad,λ_=>a1,_,λ_=>a2,λhc=>⟨⟨Sl.nil,false,[],rfl,Own.nil _ _ _ _ _ _,⟨(λh=>aal),λhk=>?_⟩,rfl⟩,cG⟩,λhc=>?_⟩
 ·rw[bU,bU]at hc;rcases hc with(hc | hc) | hc
  ·have:(l.n:Int)=0:=aai
   omega
  ·have:=aP hc;omega
  have:=aP hc;have:=hk.2;simp only[Int.ofNat_zero]at*
  omega
 rw[ii,ii]at hc;have c1:=aX hc.1.2;have c2:=aX hc.2;obtain⟨m,rfl⟩:∃m:Nat,k=m:=⟨k.toNat,aG⟩
 obtain⟨x,hx⟩:=fL (xs:=xs) (i:=0) uI;have hC':CtB w1 k0 l ws xs (λk=>k<w1.heap.size) (λk=>k<w1.heap.size):=⟨hC.blk,SliceF.mono db (SliceF.inHeap db hC.sp aN) λk hk=>hk.2,SliceF.mono bF (SliceF.inHeap bF hC.ws aN) λk hk=>hk.2⟩
 have bT:m<W xs ((0:Nat):Int):=aG
 refine(Kw hF hC' (λk hk=>hk) (λk hk=>hk) xs.length 0 m (out:=Sl.nil) (L:=[]) hx aG bT (Own.nil _ _ _ _ _ _) (Only.refl _ _) (by have:=hm m;simpa using this)).mono ?_;rintro _ w2 ⟨s2,rfl,Gx,hG2⟩;have dk:aA [] w1 w2:=hG2.1.only λk hk=>aeO
 rw[cF]at Gx;exact⟨s2,rfl,⟨s2,true,_,rfl,Own.low Gx z1,⟨λ_=>⟨aG,by simpa using bT⟩,λ_=>rfl⟩,by rw[bc rfl,aU]⟩,cG.cr dk⟩
end
section
variable {xs:List cM}
theorem B1{p:Int->Bool}{r0:Int}:∀{l:List Int},l.Pairwise (· <·)->r0∈l->(∀r,r∈l->(p r=true↔r=r0))->l.countP p=1
 | [],_,h,_=>aal
 | x::l,hp,h,hi=>by
  rw[dG]at hp;rw[Qc];by_cases hx:x=r0
  ·subst hx;rw[bc ((hi x (.head _)).2 rfl)];have:l.countP p=0:=by
    rw[List.countP_eq_zero];intro r hr hpr;have h1:=(hi r (.tail _ hr)).1 hpr;have:=hp.1 r hr;omega
   omega
  ·have h':r0∈l:=by
    rw[aV]at h;exact h.resolve_left λe=>hx e.symm
   rw[aY (λe=>hx ((hi x (.head _)).1 e)),B1 hp.2 h' λr hr=>hi r (.tail _ hr)]
theorem DR{V:Int->Nat}:∀{l:List Int} {k:Nat},k<ig V l->∃r k',pick V l k=some (r,k')
 | [],k,h=>by simp[ig]at h
 | x::l,k,h=>by
  rw[pick];by_cases hk:k<V x
  ·exact⟨_,_,bc hk⟩
  rw[aY hk];exact DR (by rw[ig]at h;omega)
theorem Iz{A:List Int}{rc:Int->Nat}{r0:Int}{k':Nat}:∀{l:List Int} {k c:Nat},l.Pairwise (· <·)->pick (W xs) l k=some (r0,k')->(∀r,r∈l->(r∈A↔r=r0))->Ql xs A false rc l c+k'=c+k+rc r0
 | [],k,c,_,h,_=>aal
 | x::l,k,c,hp,h,hi=>by
  rw[dG]at hp;rw[pick]at h;have e:Ql xs A false rc (x::l) c=if x∈A then c+rc x else Ql xs A false rc l (c+W xs x):=rfl
  rw[e];by_cases hk:k<W xs x
  ·rw[bc hk]at h;injection h with h;injection h with h1 h2;subst h1 h2;rw[bc ((hi x (.head _)).2 rfl)];omega
  ·rw[aY hk]at h;have hm:=(wT h).1;have hx:x≠r0:=λe=>by
    have:=hp.1 r0 hm;omega
   rw[aY (λhA=>hx ((hi x (.head _)).1 hA))];have:=Iz (rc:=rc) (c:=c+W xs x) hp.2 h λr hr=>hi r (.tail _ hr);omega
theorem IA{V:Int->Nat}:∀(l:List Int) (k:Nat),(jN V l k).2=k/iI V l
 | [],k=>by rw[jN,iI,Nat.div_one]
 | x::l,k=>by rw[jN,iI,IA l k,Nat.div_div_eq_div_mul,Nat.mul_comm]
theorem IB{A:List Int}{rc:Int->Nat}:∀{l:List Int} {k c:Nat},(∀p,p∈l.zip (jN (W xs) l k).1->rc p.1=p.2)->Ql xs A true rc l c+(jN (W xs) l k).2*iI (W xs) l=c*iI (W xs) l+k
 | [],k,c,_=>by simp[Ql,jN,iI]
 | x::l,k,c,h=>by
  have e:Ql xs A true rc (x::l) c=Ql xs A true rc l (c*W xs x+rc x):=rfl;rw[jN]at h⊢;rw[List.zip_cons_cons]at h;have hx:=h _ (.head _);have ih:=IB (l:=l) (k:=k) (c:=c*W xs x+rc x) (A:=A) λp hp=>h p (.tail _ hp);rw[e,iI];have hx:rc x=(jN (W xs) l k).2 % W xs x:=hx;rw[hx]at ih⊢;generalize (jN (W xs) l k).2=q at*
  generalize iI (W xs) l=P at*
  have hq:=Nat.div_add_mod q (W xs x);have h1:q*P=(q/W xs x)*(W xs x*P)+(q % W xs x)*P:=by
   conv=>lhs;rw[<-hq]
   rw[eM,Nat.mul_comm (W xs x) (q/W xs x),Gz]
  have h2:(c*W xs x+q % W xs x)*P=c*(W xs x*P)+(q % W xs x)*P:=by rw[eM,Gz]
  show Ql xs A true rc l (c*W xs x+q % W xs x)+q/W xs x*(W xs x*P)=c*(W xs x*P)+k;rw[h2]at ih;rw[h1]at ih;omega
theorem wU(f n k:Nat):(n:Int)∈jA xs f n k:=by
 cases f with
 | zero=>rw[jA];exact .head _
 | succ f=>rw[jA];exact .head _
theorem TX(hF:Sd xs):∀(f n k:Nat) {s:cM},xs[n]? =some s->xs.length<=n+f->xr s.k=true->k<W xs n->∀A:List Int,(∀x:Int,(n:Int)<=x->x<s.en->(x∈A↔x∈jA xs f n k))->
  (∀x,x∈jA xs f n k->xr (kd xs x)=true/\(x=n∨∀t,xs[x.toNat]? =some t->t.pa∈A)/\mW xs A x.toNat=true)/\ZJ xs A f n=k
 | 0,n,k,s,hs,hf,_,_,A,_=>by
  have:=eS hs;omega
 | f+1,n,k,s,hs,hf,lH,hk,A,hA=>by
  have hu:=hF.fo.up n s hs;have hW:=hF.acA n;have QG:=kz hs;have hnA:(n:Int)∈A:=(hA n (kq _) hu.1).2 (wU _ _ _);have e0:jA xs (f+1) n k=(n:Int)::if kd xs n=1 then(match pick (W xs) (cY xs n) k with
   | some (r,k')=>jA xs f r.toNat k'
   | none=>[])else((cY xs n).zip (jN (W xs) (cY xs n) k).1).flatMap λp=>jA xs f p.1.toNat p.2:=rfl
  have e1:ZJ xs A (f+1) n=Ql xs A (kd xs n==2) (λr=>ZJ xs A f r.toNat) (cY xs n) 0:=rfl;have eo:mW xs A n=if kd xs n=2 then Ie xs A n==(cY xs n).length else Ie xs A n==min 1 (cY xs n).length:=rfl
  have ec:Ie xs A n=(cY xs n).countP λr=>decide (r∈A):=rfl;have N6:∀{r:Int},r∈cY xs n->_:=fun{r} h=>hF.DV (n:=n) (r:=r) h;have Ja:(cY xs n).Pairwise λa b=>Fw xs a<=b:=hF.rO n (og xs n) λr hr=>hr;have QL:=og xs n;have sub:∀(r:Int) (d:Nat),r∈cY xs n->d<W xs r->(∀x:Int,r<=x->x<Fw xs r->(x∈A↔x∈jA xs f r.toNat d))->
    (∀x,x∈jA xs f r.toNat d->xr (kd xs x)=true/\(∀t,xs[x.toNat]? =some t->t.pa∈A)/\mW xs A x.toNat=true)/\ZJ xs A f r.toNat=d:=λr d hr hd hAr=>by
   obtain⟨q,t,rfl,h2,h3,h4,h5,h6⟩:=N6 hr;rw[aU];rw[aU,mq h2]at hAr;obtain⟨g1,g2⟩:=TX hF f q d h2 aG h4 hd A hAr;refine⟨λx hx=>?_,g2⟩;obtain⟨a1,a2,a3⟩:=g1 x hx;refine⟨a1,?_,a3⟩;rcases a2 with rfl | a2
   ·intro t' Gb;rw[aU,h2]at Gb;injection Gb with Gb;rw[<-Gb,h3];exact hnA
   exact a2
  have inb:∀(r:Int) (d:Nat),r∈cY xs n->∀x,x∈jA xs f r.toNat d->r<=x/\x<Fw xs r:=λr d hr x hx=>by
   obtain⟨q,t,rfl,h2,_⟩:=N6 hr;rw[aU]at hx;rw[mq h2];exact(FI hF f q d h2).2 x hx
  have rin:∀r,r∈cY xs n->(n:Int)<r/\r<Fw xs r/\Fw xs r<=s.en:=λr hr=>by
   obtain⟨q,t,rfl,h2,_,_,h5,h6⟩:=N6 hr;have:=hF.fo.up q t h2;rw[mq h2];exact⟨aG,this.1,hF.fo.ZM q hs h2 h5 (h6 s hs)⟩
  rw[e0]at hA⊢;rw[e1];rw[QG]at hW hA⊢;have asr:s.k=1∨s.k=2:=by simpa[xr]using lH
  generalize Ur:cY xs n=rs at*
  have top:∀{L:List Int},(∀x,x∈L->xr (kd xs x)=true/\(∀t,xs[x.toNat]? =some t->t.pa∈A)/\mW xs A x.toNat=true)->mW xs A n=true->∀x,x∈(n:Int)::L->xr (kd xs x)=true/\(x=n∨∀t,xs[x.toNat]? =some t->t.pa∈A)/\mW xs A x.toNat=true:=λhL ho x hx=>by
   rw[aV]at hx;rcases hx with rfl | hx
   ·exact⟨by rw[QG];exact lH,.inl rfl,by rw[aU];exact ho⟩
   obtain⟨a1,a2,a3⟩:=hL x hx;exact⟨a1,.inr a2,a3⟩
  by_cases h0:rs.length=0
  ·have hre:rs=[]:=bR h0;subst hre;have gU:k=0:=by
    rw[bc h0]at hW;omega
   subst gU;refine⟨?_,by cases(s.k==2)<;>rfl⟩;have ho:mW xs A n=true:=by
    rw[eo,ec];split<;>rfl
   split
   ·exact top (λx hx=>adK) ho
   exact top (λx hx=>adK) ho
  rw[aY h0]at hW;rcases asr with e | e
  ·rw[e]at hW hA⊢;rw[aY aN]at hW;obtain⟨r0,k',hp⟩:=DR (V:=W xs) (l:=rs) (k:=k) aG;obtain⟨YD,iJ⟩:=wT hp;rw[bc rfl,hp]at hA⊢;dsimp only at hA⊢;have hb:=rin r0 YD;have kT:∀r,r∈rs->(r∈A↔r=r0):=λr hr=>by
    have hbr:=rin r hr;rw[hA r aG aG,aV];constructor
    ·rintro(h | h)
     ·omega
     have h1:=inb r0 k' YD r h;by_cases bT:r=r0
     ·exact bT
     have:r0<r:=aG
     have h2:=dB.1 Ja;obtain⟨i,hi,rfl⟩:=jW YD;obtain⟨j,hj,rfl⟩:=jW hr;have sD:i<j:=by
      refine gL λhh=>?_;by_cases sD:i=j
      ·subst sD;omega
      have:=dB.1 QL j i hj hi aG;omega
     have:=h2 i j hi hj sD;omega
    rintro rfl;right;obtain⟨q,t,rfl,_⟩:=N6 hr;rw[aU];exact wU _ _ _
   have hA0:∀x:Int,r0<=x->x<Fw xs r0->(x∈A↔x∈jA xs f r0.toNat k'):=λx h1 h2=>by
    rw[hA x aG aG,aV];exact⟨λh=>h.resolve_left aG,.inr⟩
   obtain⟨g1,g2⟩:=sub r0 k' YD iJ hA0;have UT:mW xs A n=true:=by
    rw[eo,QG,e,aY aN,ec,B1 QL YD λr hr=>by rw[bL];exact kT r hr,dq];omega
   refine⟨top g1 UT,?_⟩;have:=Iz (xs:=xs) (A:=A) (rc:=λr=>ZJ xs A f r.toNat) (c:=0) QL hp kT;have e2:((1:Int)==2)=false:=rfl;rw[e2];rw[g2]at this;omega
  rw[e]at hW hA⊢;rw[bc rfl]at hW;rw[aY aN]at hA⊢;have zm:=B0 (W xs) rs k;have uI:∀r,r∈rs->0<W xs r:=λr hr=>by rw[<-Ur]at hr;exact hF.Uk hr
  let dg:=(jN (W xs) rs k).1
  have hdg:dg=(jN (W xs) rs k).1:=rfl;rw[<-hdg]at hA zm⊢;have zp:∀p,p∈rs.zip dg->p.1∈rs/\p.2<W xs p.1:=λp hp=>by
   refine⟨(Vi hp).1,?_⟩;obtain⟨i,hi⟩:=fh hp;have:=ju.1 hi;exact FK uI this.1 this.2
  have hA0:∀p,p∈rs.zip dg->∀x:Int,p.1<=x->x<Fw xs p.1->(x∈A↔x∈jA xs f p.1.toNat p.2):=λp hp x h1 h2=>by
   have hb:=rin p.1 (zp p hp).1;rw[hA x aG aG,aV,dY];constructor
   ·rintro(h | ⟨q,hq,h⟩)
    ·omega
    have h3:=inb q.1 q.2 (zp q hq).1 x h;have hqp:q=p:=by
     obtain⟨i,hi⟩:=fh hp;obtain⟨j,hj⟩:=fh hq;have B7:=ju.1 hi;have Qn:=ju.1 hj;have IP:=(aZ.1 B7.1).1;have iA:=(aZ.1 Qn.1).1;have ei:rs[i]=p.1:=by have:=B7.1;rw[aQ IP]at this;exact Ad this
     have ej:rs[j]=q.1:=by have:=Qn.1;rw[aQ iA]at this;exact Ad this
     have sD:i=j:=by
      refine gL λhh=>?_;rcases I1 hh with hh | hh
      ·have:=dB.1 Ja i j IP iA hh;rw[ei,ej]at this;omega
      have:=dB.1 Ja j i iA IP hh;rw[ei,ej]at this;omega
     subst sD;rw[hi]at hj;exact(Ad hj).symm
    rw[hqp]at h;exact h
   intro h;exact .inr ⟨p,hp,h⟩
  have P4:=λp hp=>sub p.1 p.2 (zp p hp).1 (zp p hp).2 (hA0 p hp);have UT:mW xs A n=true:=by
   rw[eo,QG,e,bc rfl,ec,dq,List.countP_eq_length];intro r hr;rw[bL];obtain⟨i,hi,rfl⟩:=jW hr;have hb:=rin _ hr;have hz:(rs[i],dg[i]' aG)∈rs.zip dg:=bB (ju.2 ⟨aQ hi,aQ aG⟩);refine(hA0 _ hz _ (kq _) hb.2.1).2 ?_;obtain⟨q,t,hq,_⟩:=N6 hr;rw[hq,aU];exact wU _ _ _
  refine⟨top (λx hx=>?_) UT,?_⟩
  ·obtain⟨p,hp,hx⟩:=dY.1 hx;exact(P4 p hp).1 x hx
  have:=IB (xs:=xs) (A:=A) (rc:=λr=>ZJ xs A f r.toNat) (l:=rs) (k:=k) (c:=0) λp hp=>(P4 p hp).2;rw[IA,Nat.div_eq_of_lt aG,zD,fJ,bO]at this;exact this
theorem XG(hF:Sd xs){k:Nat}(hk:k<W xs 0):Lg xs (jA xs xs.length 0 k)/\ZJ xs (jA xs xs.length 0 k) xs.length 0=k:=by
 obtain⟨s,hs,kc⟩:=hF.rt;have hu:=hF.fo.up 0 s hs;obtain⟨h1,h2⟩:=TX hF xs.length 0 k hs aG (by rw[kc];rfl) (by exact_mod_cast hk) _ λx _ _=>zE;obtain⟨h3,h4⟩:=FI hF xs.length 0 k hs;refine⟨⟨by exact_mod_cast wU (xs:=xs) xs.length 0 k,h3,λx hx=>?_⟩,h2⟩;obtain⟨a1,a2,a3⟩:=h1 x hx;have:=h4 x hx;exact⟨aG,aG,a1,a2.imp (λh=>aaA) id,a3⟩
end
def wV:aJ:=[99,104,97,114,116,32,99,32,123,32,105,110,105,116,105,97,108,32,112,59,32,111,110,32,120,32,45,62,32,112,59,32,112,97,114,97,108,108,101,108,32,112,32,123,32,115,116,97,116,101,32,97,32,123,32,105,110,105,116,105,97,108,32,98,59,32,111,110,32,120,32,45,62,32,100,59,32,115,116,97,116,101,32,98,32,123,32,111,110,32,120,32,45,62,32,100,59,32,125,32,115,116,97,116,101,32,100,32,123,32,125,32,125,32,115,116,97,116,101,32,101,32,123,32,111,110,32,120,59,32,111,110,32,120,32,45,62,32,112,59,32,125,32,125,32,125]
def ZK:Bool:=decide ((nq wV).1=0)&&ab1 wV&&decide ((Fu (cx (eO wV).1) 0 (eO wV).1.root).length=5)&&decide (kM (cx (eO wV).1) (Fu (cx (eO wV).1) 0 (eO wV).1.root) [0,1,2,3,5] [true,true,true,true,true]=[2,3])
theorem XH:ZK=true:=by kernel_rfl
theorem DS(c:Ch):(dR c).ro.Pairwise λr s=>r.src<=s.src:=Ix (cx c) c.root 0
theorem TY(w:ay)(hE:Er w)(hT:Tb w):aB au 16 #[] w λe w'=>e=aq (ao true)/\aA [] w w':=by
 refine ret (anf _ _ ?_);have mr:=XH;unfold ZK at mr;simp only[aR,bL]at mr;obtain⟨⟨⟨h1,h2⟩,h3⟩,h4⟩:=mr;have h2:=ab2 h2;have hc:xX wV=(eO wV).1:=by unfold xX;rw[bc h1]
 have hl:(jK (eO wV).1).1=0:=by
  unfold nq at h1;split at h1
  ·exact h1
  rename_i h;exact absurd h1 h
 refine(Xd wV h2.1 h2.2 hE hT).mono ?_;rintro _ w0 ⟨vs,cs,rfl,hC,cO⟩;rw[hc]at hC;obtain⟨xe,xl,xm,xk,rfl,_⟩:=hC.root;have z0:=cO.size;refine⟨vs,_,_,_,_,xe,xl,xm,xk,_,_,_,rfl,λk0 k1 w1 gU fD kc jO cG=>?_⟩;have z1:=cG.size;have o1:=cO.cr cG;have hC1:ChR true 15 w1 (Fr w.heap.size) (eO wV).1 vs _:=⟨hC.vars.keep gC aN λk _ bT=>cG.block k bT aac,(cX true 15).keep hC.root λk _ bT=>cG.block k bT aac⟩
 refine(Ts (D:=14) hC1.off h2.1 h2.2 (hE.only o1) (hT.only o1)).mono ?_;rintro _ w2 ⟨⟨s,si,rQ,sr,rfl,hP⟩,dk⟩;have z2:=dk.size;have o2:=o1.cr dk;refine⟨s,si,rQ,sr,_,_,rfl,dk.same aae,λk2 k3 w3 vf xh zr xi dz=>?_⟩;have z3:=dz.size;have o3:=o2.cr dz;have N5:=(hP hl).o0 dz;have N:=TC hl;obtain⟨y,w4,p1,p2,p3,_⟩:=jv (P:=au) (t:=33) (e:=3) (i:=Tryz.t3) (z:=O ae 0) (w:=w3) (F:=λ_=>False) (vs:=[O ae 0,O ae 1,O ae 2,O ae 3,O ae 5]) (parts:=#[.mk 0 (O ae 0),.mk 1 (O ae 1),.mk 2 (O ae 2),.mk 3 (O ae 3),.mk 4 (O ae 5)]) (len:=5) (xs:=[0,1,2,3,5]) (r:=rInt) (size:=1) (by kernel_rfl) (by kernel_rfl) rfl rfl aN rfl rfl aN aN bF ⟨⟨rfl,rfl,aN,aN⟩,⟨rfl,rfl,aN,aN⟩,⟨rfl,rfl,aN,aN⟩,⟨rfl,rfl,aN,aN⟩,⟨rfl,rfl,aN,aN⟩,trivial⟩;have z4:=p3.size;obtain⟨yb,w5,q1,q2,q3,_⟩:=jv (P:=au) (t:=58) (e:=4) (i:=Tryz.t4) (z:=ao false) (w:=w4) (F:=λ_=>False) (vs:=[ao true,ao true,ao true,ao true,ao true]) (parts:=#[.mk 0 (ao true),.mk 1 (ao true),.mk 2 (ao true),.mk 3 (ao true),.mk 4 (ao true)]) (len:=5) (xs:=[true,true,true,true,true]) (r:=rBool) (size:=1) (by kernel_rfl) (by kernel_rfl) rfl rfl aN rfl rfl aN aN qF ⟨⟨rfl,rfl⟩,⟨rfl,rfl⟩,⟨rfl,rfl⟩,⟨rfl,rfl⟩,⟨rfl,rfl⟩,trivial⟩;have z5:=q3.size;refine⟨y,w4,p1,p3.same aae,yb,w5,q1,q3.same aae,(ZH ((N5.o0 p3).o0 q3) N.sd N.le (DS _) (by show(Fu _ _ _).length<=_;omega) (kI (p2.slice bF) q3) aN (q2.slice qF)).mono ?_⟩;rintro _ w6 ⟨⟨t,rfl,ht⟩,eH⟩;have e:kM (dR (eO wV).1).sp (dR (eO wV).1).ro [0,1,2,3,5] [true,true,true,true,true]=[2,3]:=h4;rw[e]at ht;have hts:=ht.slice bF;obtain⟨ad,a1,a2⟩:=gD hts (i:=0) rfl;obtain⟨FV,b1,b2⟩:=gD hts (i:=1) rfl;have hrn:sr.n=5:=by rw[N5.ro.len];exact h3
 refine⟨t,rfl,eH.same aae,ad,λ_=>a1,_,λ_=>a2,FV,λ_=>b1,_,λ_=>b2,?_,((o3.cr p3).cr q3).cr eH⟩;rw[h1,hl,hrn,ht.len];rfl
theorem TZ(xs:List cM)(ro:List Ro)(act:List Int)(may:List Bool)(st:List Int×List Int)(x:Int):(zj xs ro act may st x).2.length<=st.2.length+1:=by
 unfold zj;dsimp only;split
 ·omega
 dsimp only;split
 ·omega
 rw[aW,bK];have:=cu (λo=>!gF xs ro act (oG xs ro may x) o) st.2;omega
abbrev ahP:Rp (Int×List Int×Unit):=rPair rInt (rPair (rSl rInt 1 8) rUnit)
theorem acm{w:ay}{F:aL}{s:Sl}{l:List (Int×List Int×Unit)}(h:aD ahP 2 w F s l){i:Nat}{x:Int×List Int×Unit}(hx:l[i]? =some x):∃ad,∃t:Sl,dE s (i:Int) 2 ad/\aE w ad [O ae x.1,t.v]/\aD rInt 1 w F t x.2.1:=by
 have bT:=(aZ.1 hx).1;have hl:=h.len;obtain⟨ad,y,cs,g1,g2,g3,g4,g5,g6⟩:=h.get (bD i) aG;rw[aU,hx]at g2;injection g2 with g2;subst g2;obtain⟨c1,c2,rfl,⟨rfl,_⟩,c3,c4,rfl,⟨t,rfl,ht,_⟩,rfl⟩:=g6;exact⟨ad,t,g1,g5,ht⟩
theorem mem_sum{α:Type}{f:α->Nat}{x:α}:∀{l:List α},x∈l->f x<=(l.map f).sum
 | a::l,h=>by
  rw[bH,cE];rcases aV.1 h with rfl | h
  ·omega
  have:=mem_sum (f:=f) h;omega
structure PaOk (xs:List cM) (u:ay) (l:Sl) (L:List (Int×List Int)):Prop where
 sl:aD Ir 2 u (λ_=>True) l L
 g:∀x,x∈L->gI x.1
 ok:uW xs (iX L)
 len:∀k l,iX L k=some l->l.length<=1000000
theorem PaOk.o0{xs:List cM}{u u':ay}{l:Sl}{L:List (Int×List Int)}(h:PaOk xs u l L)(hO:aA [] u u'):PaOk xs u' l L:=
 ⟨SliceF.only nr aN h.sl hO aac,h.g,h.ok,h.len⟩
theorem PaOk.nil(xs:List cM)(u:ay):PaOk xs u Sl.nil []:=⟨SliceF.nil _ _ _ _,λ_ h=>aal,uW.none xs,λ_ _ h=>aal⟩
theorem T0{xs:List cM}{act left:List Int}{M:ye}(hl:xs.length<=64)(h:∀k l,M k=some l->l.length<=1000000):∀k l,vE xs act left M k=some l->l.length<=1000000:=λk l hk=>by
 unfold vE at hk;split at hk
 ·rename_i t _;split at hk
  ·injection hk with hk;have:=Nx xs t act;unfold Xt at this;rw[<-hk];omega
  exact h k l hk
 exact h k l hk
section
variable {w:ay} {F G H:aL} {s si rQ sr sa sl l4:Sl} {c:Ch} {act left:List Int} {L:List (Int×List Int)}
theorem T1(xx:aD nN 5 w F s (cx c))(sd:Sd (cx c))(i:Int):aB au 10 #[s.v,O ae ((bits .and ae i 1048575).tmod ((W (cx c) 0:Nat):Int))] w λe w'=>(∃(sa:Sl) (act:List Int),e=aq (ak #[sa.v,ao true])/\dd w.heap.size w' sa act/\Lg (cx c) act/\act.length<=64)/\aA [] w w':=by
 obtain⟨s0,Cq,_⟩:=sd.rt;have kA:=sd.le;have hW:1<=W (cx c) ((0:Nat):Int):=sd.Uj Cq;have hW:1<=W (cx c) 0:=hW;have NP:0<=(bits .and ae i 1048575).tmod ((W (cx c) 0:Nat):Int):=Int.tmod_nonneg _ (acj i);have PG:(bits .and ae i 1048575).tmod ((W (cx c) 0:Nat):Int)<((W (cx c) 0:Nat):Int):=Int.tmod_lt_of_pos _ aG;refine(ahO (xs:=cx c) xx sd _ λq=>by have:=XC sd (cx c).length 0 q Cq;omega).mono ?_;rintro _ w6 ⟨⟨sa,bt,act,rfl,Vb,hbt,hae⟩,eH⟩;have hbt:bt=true:=hbt.2 ⟨NP,PG⟩;rw[bc hbt]at hae;have A:Lg (cx c) act:=by
  rw[hae];exact(XG sd aG).1
 have IX:act.length<=64:=by rw[<-Pk sd kA A];exact DC _
 exact⟨⟨sa,act,by rw[hbt],Vb,A,IX⟩,eH⟩
theorem T2(N:Snd c (cx c) (Gm c))(hP:PlR w F s si rQ sr (dR c))(A:Lg (cx c) act)(ha:aD rInt 1 w G sa act)(IX:act.length<=64)(hlf:aD rInt 1 w H sl left)(PS:left.length<=2000000)(hL:PaOk (cx c) w l4 L):
  aB au 11 #[aj #[s.v,si.v,rQ.v,sr.v],sa.v,sl.v,l4.v] w λe w'=>(∃(t:Sl) (L':List (Int×List Int)),e=aq t.v/\PaOk (cx c) w' t L')/\aA [] w w':=by
 refine(Ph hP N.sd A ha aG hlf PS hL.sl hL.g hL.len).mono ?_;rintro _ w' ⟨⟨t,L',rfl,h1,h2,h3⟩,hO⟩;exact⟨⟨t,L',rfl,(h1.slice nr).mono nr λ_ _=>trivial,h3,by rw[h2];exact N.acx hL.ok A,by rw[h2];exact T0 N.le hL.len⟩,hO⟩
end
section
variable {w:ay} {F G H:aL} {sl ss sm:Sl} {l less more:List Int}
def pO(l less more:List Int)(n:Nat):Bool:=(decide ((n:Int)∈l)&&!decide ((n:Int)∈less))||decide ((n:Int)∈more)
end
theorem acn{m:Nat}(h:m<2 ^ 64)(n:Int):Fy m n<2 ^ 64:=Nat.or_lt_two_pow h (Xh n)
theorem T3(xs:List cM)(d:Int):∀(f:Nat) (g:Int) (S:Nat),S<2 ^ 64->Nh xs d f g S<2 ^ 64
 | 0,g,S,h=>h
 | f+1,g,S,h=>by
  unfold Nh;split
  ·exact T3 xs d f _ _ (acn h g)
  exact h
theorem B3(xs:List cM)(d:Int):∀(G:List Int) (S:Nat),S<2 ^ 64->kY xs d G S<2 ^ 64
 | [],S,h=>h
 | g::G,S,h=>by
  unfold kY;rw[iC];exact B3 xs d G _ (T3 xs d _ g S h)
theorem NC(xs:List cM)(gl:Nat->List Int):∀(n S:Nat),S<2 ^ 64->nX xs gl n S<2 ^ 64
 | 0,S,h=>h
 | n+1,S,h=>by
  have ih:=NC xs gl n S h;rw[nX];generalize nX xs gl n S=U at ih;unfold Ih;split
  ·split
   ·exact Xi _ ih
   split
   ·exact B3 _ _ _ _ ih
   exact ih
  exact ih
theorem ZL{T n:Nat}(h:T<2 ^ 64)(hb:T.testBit n=true):n<64:=Qb λhn=>by
 have:T<2 ^ n:=cq h (lK aN hn);rw[Nat.testBit_lt_two_pow this]at hb;cases hb
theorem Po(xs:List cM)(ro:List Ro)(act:List Int)(may:List Bool):(kM xs ro act may).length<=xs.length:=by
 have key:∀(l:List Int) (st:List Int×List Int),(l.foldl (zj xs ro act may) st).2.length<=st.2.length+l.length:=λl=>by
  induction l with
  | nil=>exact λst=>ba _
  | cons x l ih=>
   intro st;have h1:=ih (zj xs ro act may st x);have h2:=TZ xs ro act may st x;rw[iC,bn];omega
 have h1:=key (CG xs act) ([],[]);have h2:(CG xs act).length<=xs.length:=rI _ _;unfold kM;simp only[cZ]at h1;omega
theorem DT(xs:List cM)(ro:List Ro)(act:List Int)(k:Int):(fH xs ro act k).length<=act.length:=by
 unfold fH;split
 ·exact bh _
 split
 ·split
  ·exact bh _
  exact cu _ _
 exact bh _
theorem rN(xs:List cM)(ro:List Ro)(act:List Int):∀ks:List Int,(ks.flatMap (fH xs ro act)).length<=ks.length*act.length
 | []=>bh _
 | k::ks=>by
  rw[vO,aW,bn,eM];have:=rN xs ro act ks;have:=DT xs ro act k;omega
theorem XI{w:ay}{F G H:aL}{s si rQ sr sa sk:Sl}{p:Pl}{act ks:List Int}(hP:PlR w F s si rQ sr p)(zZ:Fo p.sp)(ha:aD rInt 1 w G sa act)(IX:act.length<=64)(hk:aD rInt 1 w H sk ks)(KN:ks.length<=1000):
  aB au 18 #[aj #[s.v,si.v,rQ.v,sr.v],sa.v,sk.v] w λe w'=>∃t:Sl,e=aq t.v/\dd w.heap.size w' t (rJ (ks.flatMap (fH p.sp p.ro act)))/\aA [] w w':=by
 refine(v8w s si rQ sr sa sk (λv w'=>∃t:Sl,v=t.v/\dd w.heap.size w' t (rJ (ks.flatMap (fH p.sp p.ro act)))/\aA [] w w') w ?_).mono abX;intro k0 w0 gU fD cO;have z0:=cO.size;have hn:=hk.len;have hc:=hk.cap;have Jd:=hk.big;refine⟨λkv t i u=>∃j:Nat,i=(j:Int)/\kv+j=ks.length/\j<=ks.length/\dd w0.heap.size u t ((ks.take j).flatMap (fH p.sp p.ro act))/\aA [] w0 u,ks.length,⟨0,rfl,aG,bh _,Own.nil _ _ _ _ _ _,Only.refl _ _⟩,?_⟩;rintro kv t _ u ⟨j,rfl,sJ,hj,ht,hO⟩;have zu:=hO.size;have ou:=cO.cr hO;have lz:∀q,im t q->w0.heap.size<=q:=λq e=>(ht.blk e).1;refine⟨λhc=>?_,λhc=>?_⟩
 ·have hc:=aP hc;have iA:j<ks.length:=aG
  obtain⟨ad,a1,a2⟩:=gD (kI hk ou) (aQ iA);refine⟨ad,a1,_,a2,(FD (hP.o0 ou) zZ (kI ha ou) aG ks[j]).mono ?_⟩;rintro _ w2 ⟨⟨l1,rfl,VB⟩,dk⟩;have z2:=dk.size;have h1:=rN p.sp p.ro act (ks.take j);have h2:=DT p.sp p.ro act ks[j];have h3:(ks.take j).length<=1000:=ac9
  have h4:(ks.take j).length*act.length<=1000*64:=CV h3 IX;have ht2:dd w0.heap.size w2 t _:=ht.keep bF λk _ bT=>dk.block k bT aac;obtain⟨s',w3,g1,g2,g3,g4⟩:=Ng ht2 aG (VB.slice bF) (λk hk hA=>by
   have h5:=(ht.blk hA).2;dsimp only at h5;rcases hk with hk | ⟨hk,_⟩
   ·exact hk
   omega) aG
  refine⟨l1,rfl,dk.same aae,s',w3,g1,λq hq=>g3.block q ?_ λe=>?_,kv-1,aG,j+1,aad,aG,aG,?_,((hO.cr dk).mZ (g3.mono (G:=λq=>w0.heap.size<=q) λq _ e=>lz q e)).only λq hq=>hq⟩
  ·simp only[aO]at hq;omega
  ·simp only[aO]at hq;have:=lz q e;omega
  have nt:ks.take (j+1)=ks.take j++[ks[j]]:=acT
  rw[nt,fO,List.flatMap_singleton];exact g2
 have hc:=aX hc;have iA:j=ks.length:=aG
 subst iA;rw[qY]at ht;have PG:=rN p.sp p.ro act ks;have PF:ks.length*act.length<=1000*64:=CV KN IX;generalize ks.flatMap (fH p.sp p.ro act)=l at*
 rcases ht.Ue with⟨rfl,rfl⟩ | ⟨g,hg⟩
 ·refine(Tryz.slices_Sort_int_none none 0 u).mono ?_;rintro _ u' ⟨rfl,hu⟩;obtain rfl:u=u':=hu.symm;refine⟨rfl,λ_ _=>rfl,(Tryz.slices_Compact_int_empty none 0 u).mono ?_⟩;rintro _ u' ⟨rfl,hu⟩;obtain rfl:u=u':=hu.symm;exact⟨Sl.nil,rfl,λ_ _=>rfl,Sl.nil,rfl,by rw[Ig];exact Own.nil _ _ _ _ _ _,ou⟩
 obtain⟨tail,h1,h2,h3,h4,h5,h6,h7⟩:=ht.cells hg;obtain⟨ta,tn,tc⟩:=t;dsimp only at hg h3 h4 h5 h6;subst hg h4;refine(Tryz.slices_Sort_int g 0 tc l u (ht.holds rfl) h2.lt aG).mono ?_;rintro _ w1 ⟨rfl,n,os,rfl⟩;have Cj:=sM l λx y=>decide (x<=y);have hli:∀x,x∈(l.mergeSort λx y=>decide (x<=y))->rf x:=λx hx=>h7 x (Cj.mem_iff.1 hx);obtain⟨xo,cG⟩:=ht.put (d:=l.mergeSort λx y=>decide (x<=y)) rfl Cj.length_eq hli n os;have z1:=cG.size;refine⟨rfl,cG.same aae,?_⟩;have esr:rJ l=Lib.compact (l.mergeSort λx y=>decide (x<=y)):=rfl;have Cs:=Cj.length_eq;rw[esr];generalize hw1:Sort.grow _ os=w1 at*
 generalize hms:(l.mergeSort λx y=>decide (x<=y))=ms at*
 have pC:=tM ms;have U5:∀x,x∈Lib.compact ms->x∈ms:=λx hx=>by
  have:=(nW (uv l)).2 x;rw[hms]at this;exact this.1 hx
 rw[<-Cs];refine(Tryz.slices_Compact_int g 0 tc ms w1 (xo.holds rfl) aG aG).mono ?_;rintro _ w2 ⟨rfl,q,rfl⟩;obtain⟨Gx,dk⟩:=xo.put (d:=Lib.compact ms++List.replicate (ms.length-(Lib.compact ms).length) 0) rfl (by rw[aW,fT];omega) (λx hx=>by
  rw[bN]at hx;rcases hx with hx | hx
  ·exact hli x (U5 x hx)
  rw[(I2.1 hx).2];exact⟨aN,aN⟩) q #[]
 rw[Sort.grow_empty]at Gx dk;have Ct:=Gx.cut (Lib.compact ms).length abA aac;rw[CR]at Ct;refine⟨⟨some ⟨g,0,none⟩,_,tc⟩,rfl,dk.same aae,_,rfl,Ct.low aG,(ou.trans cG λx hx=>.inr ?_).trans dk λx hx=>.inr ?_⟩
 ·simp only[aO]at hx;omega
 simp only[aO]at hx;omega
def T4(ro:List Ro)(k:Int):Option Ro:=match ro[k.toNat]? with
 | some r=>if r.tg=[]then none else some r
 | none=>none
theorem mX{ro:List Ro}{k:Int}{r:Ro}:T4 ro k=some r↔ro[k.toNat]? =some r/\r.tg≠[]:=by
 unfold T4;split
 ·rename_i r' h;rw[h];split
  ·rename_i h0;constructor
   ·intro h;cases h
   rintro⟨h1,h2⟩;injection h1 with h1;subst h1;exact absurd h0 h2
  rename_i h0;constructor
  ·intro h;injection h with h;subst h;exact⟨rfl,h0⟩
  rintro⟨h1,_⟩;exact h1
 rename_i h;rw[h];constructor
 ·intro h;cases h
 rintro⟨h,_⟩;cases h
theorem zW{xs:List cM}{ro:List Ro}{act:List Int}{n:Nat}{r:Ro}(h:ro[n]? =some r)(x:Int):x∈fH xs ro act n↔x∈act/\jq xs x r.dom=true:=by
 unfold fH;rw[aY aG,aU,h];dsimp only;split
 ·constructor
  ·intro h;cases h
  rintro⟨_,h⟩;obtain⟨i,j,e,_⟩:=lr.1 h;omega
 exact di
section
variable {c:Ch} {M:ye} (N:Snd c (cx c) (Gm c)) (hM:uW (cx c) M)
include N hM
theorem B4:∀(L:List Int) (S:Nat),(∀x,x∈L->∃(n:Nat) (r:Ro),x=n/\(dR c).ro[n]? =some r)->∀m:Nat,(L.foldl (oO (dR c) M) S).testBit m=true↔S.testBit m=true∨∃x,x∈L/\∃r,T4 (dR c).ro x=some r/\r.dom<m/\∃s,s∈r.tg/\∃g:Nat,(g:Int)∈fj (cx c) (dR c).dft M s/\jp (cx c) m g
 | [],S,_,m=>by
  constructor
  ·exact .inl
  rintro(h | ⟨_,h,_⟩)
  ·exact h
  cases h
 | x::L,S,h,m=>by
  obtain⟨n,r,rfl,hr⟩:=h x (.head _);have hrm:r∈(dR c).ro:=bB hr;have he:oO (dR c) M S n=if r.dom<0 then S else kY (cx c) r.dom (r.tg.flatMap (fj (cx c) (dR c).dft M)) S:=by
   unfold oO;rw[aY aG,aU,hr];rfl
  rw[iC,B4 L _ (λy hy=>h y (.tail _ hy)) m,he];have key:((if r.dom<0 then S else kY (cx c) r.dom (r.tg.flatMap (fj (cx c) (dR c).dft M)) S).testBit m=true↔S.testBit m=true∨∃r',T4 (dR c).ro n=some r'/\r'.dom<m/\∃s,s∈r'.tg/\∃g:Nat,(g:Int)∈fj (cx c) (dR c).dft M s/\jp (cx c) m g):=by
   rcases N.wX hM rfl hrm with⟨e1,e2⟩ | ⟨h1,_,_,d,_,_,ed,_,_,_,hH⟩
   ·rw[bc aG];constructor
    ·exact .inl
    rintro(h | ⟨r',h,_⟩)
    ·exact h
    obtain⟨h2,h3⟩:=mX.1 h;rw[aU,hr]at h2;injection h2 with h2;subst h2;exact absurd e1 h3
   rw[aY aG,qI N.fo N.le (d:=r.dom) aG _ S (λg hg=>by
    obtain⟨t,ht,hg⟩:=dY.1 hg;exact hH t ht g hg)]
   refine or_congr zE ⟨?_,?_⟩
   ·rintro⟨h2,g,hg,hc⟩;obtain⟨t,ht,hg⟩:=dY.1 hg;exact⟨r,mX.2 ⟨by rw[aU];exact hr,h1⟩,h2,t,ht,g,hg,hc⟩
   rintro⟨r',h,h2,t,ht,g,hg,hc⟩;obtain⟨h3,_⟩:=mX.1 h;rw[aU,hr]at h3;injection h3 with h3;subst h3;exact⟨h2,g,dY.2 ⟨t,ht,hg⟩,hc⟩
  rw[key,or_assoc];refine or_congr zE ⟨?_,?_⟩
  ·rintro(h | ⟨y,hy,h⟩)
   ·exact⟨n,.head _,h⟩
   exact⟨y,.tail _ hy,h⟩
  rintro⟨y,hy,h⟩;rcases aV.1 hy with rfl | hy
  ·exact .inl h
  exact .inr ⟨y,hy,h⟩
theorem Kx{act:List Int}(A:Lg (cx c) act){L:List Int}(ok:∀x,x∈L->∃(n:Nat) (r:Ro),x=n/\(dR c).ro[n]? =some r/\r.src∈act)(ap:L.Pairwise λb a=>gF (cx c) (dR c).ro act a b=false){T:Nat}(hT:T=nX (cx c) (Vu (dR c) M) (cx c).length (L.foldl (oO (dR c) M) 0)):
  Lg (cx c) (Gn (cx c).length (pO act (rJ (L.flatMap (fH (cx c) (dR c).ro act))) (jg T)))/\∀n:Nat,(n:Int)∈act->(n:Int)∉rJ (L.flatMap (fH (cx c) (dR c).ro act))->(n:Int)∉jg T:=by
 have sd:=N.sd;have kA:=N.le;have mrs:∀r,r∈L.filterMap (T4 (dR c).ro)↔∃x,x∈L/\T4 (dR c).ro x=some r:=λr=>List.mem_filterMap;have hr:∀r,r∈L.filterMap (T4 (dR c).ro)->r∈Fu (cx c) 0 c.root/\r.tg≠[]/\r.src∈act:=λr h=>by
  obtain⟨x,hx,hf⟩:=(mrs r).1 h;obtain⟨n,r',rfl,h1,h2⟩:=ok x hx;obtain⟨h3,h4⟩:=mX.1 hf;rw[aU,h1]at h3;injection h3 with h3;subst h3;exact⟨bB h1,h4,h2⟩
 have hp:(L.filterMap (T4 (dR c).ro)).Pairwise λr r'=>∀x,x∈act->¬(jq (cx c) x r.dom=true/\jq (cx c) x r'.dom=true):=by
  refine List.pairwise_filterMap.2 (ap.imp_of_mem fun{b a} hb ha hc r h r' h' x hx hw=>?_);obtain⟨n,r1,rfl,h1,_⟩:=ok b hb;obtain⟨n',r2,rfl,h2,_⟩:=ok a ha;obtain⟨h3,_⟩:=mX.1 h;obtain⟨h4,_⟩:=mX.1 h';rw[aU]at h3 h4;have:gF (cx c) (dR c).ro act n' n=true:=fz.2 ⟨x,(zW h3 x).2 ⟨hx,hw.1⟩,bJ ((zW h4 x).2 ⟨hx,hw.2⟩)⟩;rw[this]at hc;cases hc
 have Vd:∀x,x∈rJ (L.flatMap (fH (cx c) (dR c).ro act))↔x∈act/\∃r,r∈L.filterMap (T4 (dR c).ro)/\jq (cx c) x r.dom=true:=λx=>by
  rw[BK,dY];constructor
  ·rintro⟨k,hk,hx⟩;obtain⟨n,r,rfl,h1,_⟩:=ok k hk;obtain⟨h2,h3⟩:=(zW h1 x).1 hx;refine⟨h2,r,(mrs r).2 ⟨_,hk,mX.2 ⟨by rw[aU];exact h1,λe=>?_⟩⟩,h3⟩;rcases N.wX hM rfl (bB h1)with⟨_,e2⟩ | ⟨h,_⟩
   ·obtain⟨i,j,e3,_⟩:=lr.1 h3;omega
   exact h e
  rintro⟨h2,r,h,h3⟩;obtain⟨k,hk,hf⟩:=(mrs r).1 h;obtain⟨n,r',rfl,h1,_⟩:=ok k hk;obtain⟨h4,_⟩:=mX.1 hf;rw[aU]at h4;exact⟨_,hk,(zW h4 x).2 ⟨h2,h3⟩⟩
 have hTl:T<2 ^ 64:=by
  rw[hT];refine NC _ _ _ _ ?_;have:∀(l:List Int) (S:Nat),S<2 ^ 64->l.foldl (oO (dR c) M) S<2 ^ 64:=λl=>by
   induction l with
   | nil=>exact λS h=>h
   | cons x l ih=>
    intro S h;rw[iC];refine ih _ ?_;unfold oO;split
    ·exact h
    split
    ·split
     ·exact h
     exact B3 _ _ _ _ h
    exact h
  exact this L 0 aN
 have PB:∀x,x∈jg T↔∃n:Nat,x=n/\T.testBit n=true:=λx=>by
  rw[yd];exact tZ λn=>and_congr_right λ_=>⟨λh=>h.2,λh=>⟨ZL hTl h,h⟩⟩
 have main:=N.DW hM rfl A hr hp rfl (S:=L.foldl (oO (dR c) M) 0) (λm=>by
  rw[B4 N hM L 0 (λx hx=>by obtain⟨n,r,e,h,_⟩:=ok x hx;exact⟨n,r,e,h⟩) m,yA];constructor
  ·rintro(h | ⟨x,hx,r,h,h'⟩)
   ·cases h
   exact⟨r,(mrs r).2 ⟨x,hx,h⟩,h'⟩
  rintro⟨r,h,h'⟩;obtain⟨x,hx,hf⟩:=(mrs r).1 h;exact .inr ⟨x,hx,r,hf,h'⟩) hT (nx:=Gn (cx c).length (pO act (rJ (L.flatMap (fH (cx c) (dR c).ro act))) (jg T))) (wP _ _)
 have QF:∀n:Nat,T.testBit n=true->∃r,r∈L.filterMap (T4 (dR c).ro)/\jq (cx c) n r.dom=true:=(N.DW hM rfl A hr hp rfl (S:=L.foldl (oO (dR c) M) 0) (λm=>by
  rw[B4 N hM L 0 (λx hx=>by obtain⟨n,r,e,h,_⟩:=ok x hx;exact⟨n,r,e,h⟩) m,yA];constructor
  ·rintro(h | ⟨x,hx,r,h,h'⟩)
   ·cases h
   exact⟨r,(mrs r).2 ⟨x,hx,h⟩,h'⟩
  ·rintro⟨r,h,h'⟩;obtain⟨x,hx,hf⟩:=(mrs r).1 h;exact .inr ⟨x,hx,r,hf,h'⟩) hT (nx:=Gn 64 λn=>(decide ((n:Int)∈act)&&(L.filterMap (T4 (dR c).ro)).all λr=>!jq (cx c) n r.dom)||T.testBit n) (wP _ _) (λx=>by
  rw[pA];refine tZ λn=>⟨?_,?_⟩
  ·rintro⟨rfl,_,h⟩;refine⟨rfl,?_⟩;rw[bU,aR,bX,dF]at h;exact h.imp (λh=>⟨h.1,λr hr=>by simpa using h.2 r hr⟩) id
  rintro⟨rfl,h⟩;refine⟨rfl,?_,?_⟩
  ·rcases h with⟨h,_⟩ | h
   ·obtain⟨m,e,hm,_⟩:=rL sd A h;omega
   exact ZL hTl h
  rw[bU,aR,bX,dF];exact h.imp (λh=>⟨h.1,λr hr=>by rw[h.2 r hr];rfl⟩) id)).2
 have bT:∀n:Nat,T.testBit n=true->n<(cx c).length:=λn h=>by
  obtain⟨r,_,hw⟩:=QF n h;obtain⟨i,j,e1,e2,e3,e4⟩:=lr.1 hw;have:=N.fo.pQ e4;omega
 refine⟨(main λx=>?_).1,λn hn VN h=>?_⟩
 ·rw[pA];refine tZ λn=>⟨?_,?_⟩
  ·rintro⟨rfl,hl,h⟩;refine⟨rfl,?_⟩;unfold pO at h;rw[bU,aR,da,bX,dv,bX,PB]at h;rcases h with⟨h1,h2⟩ | ⟨k,e,h⟩
   ·refine .inl ⟨h1,λr hr=>?_⟩;cases hw:jq (cx c) n r.dom with
    | false=>rfl
    | true=>exact absurd ((Vd n).2 ⟨h1,r,hr,hw⟩) h2
   have:k=n:=aG
   subst this;exact .inr h
  rintro⟨rfl,h⟩;refine⟨rfl,?_,?_⟩
  ·rcases h with⟨h,_⟩ | h
   ·obtain⟨m,e,hm,_⟩:=rL sd A h;omega
   exact bT n h
  unfold pO;rw[bU,aR,da,bX,dv,bX,PB];rcases h with⟨h1,h2⟩ | h
  ·refine .inl ⟨h1,λh=>?_⟩;obtain⟨_,r,hr,hw⟩:=(Vd n).1 h;rw[h2 r hr]at hw;cases hw
  exact .inr ⟨n,rfl,h⟩
 obtain⟨k,e,hb⟩:=(PB n).1 h;have:k=n:=aG
 subst this;obtain⟨r,hr,hw⟩:=QF k hb;exact VN ((Vd k).2 ⟨hn,r,hr,hw⟩)
end
theorem chstays_c{w:ay}{x:Ch×Nat}{cs:aK}{sst sm:Sl}{sts:List (Int×List Int×Unit)}{may:List Bool}(hx:rChU w (λ_=>True) x cs)(hS:aD ahP 2 w (λ_=>True) sst sts)(sQ:∀x,x∈sts->x.2.1.length<=1048576)(k:Int)(hM:aD rBool 1 w (λ_=>True) sm may)(hb:x.2+may.length<=1048576)(hE:Er w)(hT:Tb w):aB au 4 #[aj cs.toArray,sst.v,O ae k,sm.v] w λe w'=>e=aq (ao true)/\aA [] w w':=by
 obtain⟨c,m⟩:=x;obtain⟨D,vs,cs,rfl,hC,hn,hs⟩:=hx;dsimp only at hC hn hs hb;have hC0:=hC;cases D with
 | zero=>exact hC.root.elim
 | succ D=>
 obtain⟨en,lv,mv,kids,rfl,_⟩:=hC0.root;refine ret (am9 _ _ _ _ _ _ _ _ _ _ _ _ _ _ _ ?_);have keep:∀{w':ay},aA [] w w'->ChR false (D+1) w' (λ_=>True) c vs (oL c.root.b.k c.root.b.nm c.root.b.ini c.root.b.dft en lv mv kids c.root.b.a):=λhO=>⟨hC.vars.keep gC aN λk _ bT=>hO.block k bT aac,(cX false _).keep hC.root λk _ bT=>hO.block k bT aac⟩
 intro k0 w0 gU fD cO;have z0:=cO.size;refine(TY w0 (hE.only cO) (hT.only cO)).mono ?_;rintro _ w1 ⟨rfl,cG⟩;have z1:=cG.size;have o1:=cO.cr cG;refine⟨true,rfl,cG.same aae,(Ts (keep o1) hn aG (hE.only o1) (hT.only o1)).mono ?_⟩;rintro _ w2 ⟨⟨s,si,rQ,sr,rfl,hP⟩,dk⟩;have z2:=dk.size;have o2:=o1.cr dk;refine⟨s,si,rQ,sr,_,_,rfl,dk.same aae,λk1 k2 w3 kc jO vf xh dz=>⟨λ_=>⟨rfl,o2.cr dz⟩,λhc=>?_⟩⟩;have hl:(jK c).1=0:=aai
 have z3:=dz.size;have o3:=o2.cr dz;have N5:=(hP hl).o0 dz;have N:=TC hl;have sd:=N.sd;have kA:(cx c).length<=64:=N.le;have hrn:=N5.ro.len;have hrz:(dR c).ro.length<=pz c.root:=Tp (cx c) c.root 0;obtain⟨s0,Cq,_⟩:=sd.rt;have hW:1<=W (cx c) ((0:Nat):Int):=sd.Uj Cq;have hW:1<=W (cx c) 0:=hW;have hSn:=hS.len;have hSc:=hS.cap;have hSb:=hS.big;have hxn:=N5.sp.len;have hxc:=N5.sp.cap;have hxb:=N5.sp.big;have hxn:s.n=(cx c).length:=hxn;refine(XE (xs:=cx c) N5.sp sd).mono ?_;rintro _ w4 ⟨rfl,dK⟩;have z4:=dK.size;refine⟨_,rfl,dK.same aae,λhh=>absurd (aP hh) aG,λ_=>⟨λkv l i u=>∃(j:Nat) (L:List (Int×List Int)),i=(j:Int)/\kv+j=8/\j<=8/\PaOk (cx c) u l L/\aA [] w4 u,8,⟨0,[],rfl,rfl,aG,PaOk.nil _ _,Only.refl _ _⟩,?_⟩⟩;rintro kv l4 _ w5 ⟨j,L,rfl,sJ,hj,hL,eJ⟩;have z5:=eJ.size;have p5:=dK.cr eJ;have o5:=o3.cr p5;have hP5:=N5.o0 p5;refine⟨λoh=>?_,λoh=>⟨aG,λdL dW=>?_⟩⟩
 ·rw[aR,bX,bX]at oh;obtain⟨x,hx⟩:∃x,sts[j]? =some x:=⟨_,aQ aG⟩
  have Gs:=sQ x (bB hx);obtain⟨ad,t,a1,a2,a3⟩:=acm hS hx;refine⟨ad,a1,λw6 eH=>?_⟩;have z6:=eH.size;have o6:=o5.cr eH;have hP6:=hP5.o0 eH;refine⟨_,(TU a2 o6).eh 0 _ rfl,aG,(T1 hP6.sp sd x.1).mono ?_⟩;rintro _ w7 ⟨⟨sa,act,rfl,Vb,A,IX⟩,fN⟩;have z7:=fN.size;refine⟨sa,true,rfl,fN.same aae,ad,a1,λw8 fX=>?_⟩;have z8:=fX.size;have p8:=(eH.cr fN).cr fX;have o8:=o5.cr p8;refine⟨t,(TU a2 o8).eh 1 _ rfl,(T2 N (hP5.o0 p8) A (kI (Vb.slice bF) fX) IX (kI a3 o8) aG (hL.o0 p8)).mono ?_⟩;rintro _ w9 ⟨⟨t9,L',rfl,ZZ⟩,gH⟩;exact⟨t9,rfl,gH.same aae,kv-1,aG,j+1,L',aad,aG,aG,ZZ,(eJ.cr p8).cr gH⟩
 have PM:=dW.size;have o10:=o5.cr dW;have UY:=hP5.o0 dW;have U4:=hL.o0 dW;refine(T1 UY.sp sd k).mono ?_;rintro _ dN ⟨⟨sa,act,rfl,Vb,A,IX⟩,dX⟩;have D1:=dX.size;have VM:=o10.cr dX;have Ve:=UY.o0 dX;have Je:=Vb.slice bF;have asv:aD rBool 1 dN _ sm may:=SliceF.only qF aN hM VM aac;refine⟨sa,true,rfl,dX.same aae,(ZH Ve sd kA (DS c) aG Je aG asv).mono ?_⟩;rintro _ eT ⟨⟨t9,rfl,ht9⟩,fk⟩;have z12:=fk.size;have UW:=Ve.o0 fk;have ht9:dd dN.heap.size eT t9 (kM (cx c) (dR c).ro act may):=ht9;have C:=Ko sd A (ro:=(dR c).ro) (may:=may);have ok:∀x,x∈kM (cx c) (dR c).ro act may->∃(n:Nat) (r:Ro),x=n/\(dR c).ro[n]? =some r/\r.src∈act:=λx hx=>by
  obtain⟨n,r,e,h1,_,h2⟩:=C.ok x (C.sub x hx);exact⟨n,r,e,h1,h2⟩
 have Ja:(kM (cx c) (dR c).ro act may).Pairwise λb a=>gF (cx c) (dR c).ro act a b=false:=C.ap;have pC:=Po (cx c) (dR c).ro act may;generalize kM (cx c) (dR c).ro act may=K at*
 refine⟨t9,rfl,fk.same aae,(XI UW sd.fo (kI Je fk) IX (ht9.slice bF) aG).mono ?_⟩;rintro _ fI ⟨t10,rfl,YG,ez⟩;have VK:=ez.size;have Yg:=fk.cr ez;have KE:=rN (cx c) (dR c).ro act K;have aAb:K.length*act.length<=64*64:=CV aG IX;have PS:(rJ (K.flatMap (fH (cx c) (dR c).ro act))).length<=2000000:=by
  have h1:=tM ((K.flatMap (fH (cx c) (dR c).ro act)).mergeSort λx y=>decide (x<=y));have h2:=(sM (K.flatMap (fH (cx c) (dR c).ro act)) λx y=>decide (x<=y)).length_eq;have h3:(rJ (K.flatMap (fH (cx c) (dR c).ro act))).length=(Lib.compact ((K.flatMap (fH (cx c) (dR c).ro act)).mergeSort λx y=>decide (x<=y))).length:=rfl;omega
 have YG:dd eT.heap.size fI t10 (rJ (K.flatMap (fH (cx c) (dR c).ro act))):=YG;refine⟨t10,rfl,ez.same aae,(T2 N (Ve.o0 Yg) A (kI Je Yg) IX (YG.slice bF) PS ((U4.o0 dX).o0 Yg)).mono ?_⟩;rintro _ fS ⟨⟨t11,L',rfl,ZZ⟩,ey⟩;have z14:=ey.size;have q14:=Yg.cr ey;have D14:=ace N ZZ.ok;refine⟨t11,rfl,ey.same aae,(TJ (Ve.o0 q14) D14 ZZ.sl ZZ.g (kI (ht9.slice bF) (ez.cr ey))).mono ?_⟩;rintro _ ia ⟨⟨t12,rfl,aeu⟩,iY⟩;have z15:=iY.size;have q15:=q14.cr iY;have o15:=VM.cr q15;have asw:=Ve.o0 q15;have aeu:dd fS.heap.size ia t12 (jg (nX (cx c) (Vu (dR c) (iX L')) (cx c).length (K.foldl (oO (dR c) (iX L')) 0))):=aeu;obtain⟨LG,PB⟩:=Kx N ZZ.ok A ok Ja rfl;generalize nX (cx c) (Vu (dR c) (iX L')) (cx c).length (K.foldl (oO (dR c) (iX L')) 0)=TT at*
 have hTl:=DC TT;have asx:=kI Je q15;have asy:=kI (YG.slice bF) (ey.cr iY);have asz:=aeu.slice bF;generalize rJ (K.flatMap (fH (cx c) (dR c).ro act))=lf at*
 refine⟨t12,rfl,iY.same aae,λkv t i u=>∃q:Nat,i=(q:Int)/\kv+q=(cx c).length/\q<=(cx c).length/\dd ia.heap.size u t (Gn q (pO act lf (jg TT)))/\aA [] ia u,(cx c).length,⟨0,rfl,aG,bh _,Own.nil _ _ _ _ _ _,Only.refl _ _⟩,?_⟩;rintro Ci t13 _ io ⟨q,rfl,YA,hq,YH,ic⟩;have z16:=ic.size;refine⟨λIW=>?_,λIW=>?_⟩
 ·have IW:=aP IW;have hql:q<(cx c).length:=aG
  refine⟨λt u=>dd ia.heap.size u t (Gn (q+1) (pO act lf (jg TT)))/\aA [] ia u,?_,λb u=>b=(decide ((q:Int)∈act)&&!decide ((q:Int)∈lf))/\u=io,?_,(Ku (kI asx ic) q aG).mono ?_⟩
  ·rintro t' u' ⟨h1,h2⟩;exact⟨Ci-1,aG,q+1,aad,aG,aG,h1,h2⟩
  ·rintro bb u' ⟨rfl,hu⟩;obtain rfl:io=u':=hu.symm;refine(Ku (kI asz ic) q aG).mono ?_;rintro _ u' ⟨rfl,hu⟩;obtain rfl:io=u':=hu.symm;have fy:=rI q (pO act lf (jg TT));refine⟨_,rfl,λ_ _=>rfl,λhh=>?_,λ_=>⟨λGb=>?_,λhf=>⟨?_,ic⟩⟩⟩
   ·exfalso;rw[aR,aR,da,bX,dv,bX]at hh;exact PB q hh.1.1 hh.1.2 hh.2
   ·obtain⟨y,jM,f1,f2,s',lQ,g1,g2,g3,g4⟩:=O5 YH aG (n:=(q:Int)) ⟨aG,aG⟩ aG;have z20:=f2.size;have lz:∀k,im t13 k->ia.heap.size<=k:=λk e=>(YH.blk e).1;refine⟨y,jM,f1,f2.same aae,s',lQ,g1,λb hb=>g3.block b (by simp at hb;omega) λe=>by have:=lz b e;simp at hb;omega,?_,?_⟩
    ·have hp:pO act lf (jg TT) q=true:=Gb;rw[Ic,bc hp];exact g2
    exact(ic.mZ (f2.mZ (g3.mono (G:=λq=>ia.heap.size<=q) λq _ e=>lz q e))).only λq hq=>hq
   have hp:pO act lf (jg TT) q=false:=hf;rw[Ic,hp,aY aac,bQ];exact YH
  rintro _ u' ⟨rfl,hu⟩;obtain rfl:io=u':=hu.symm;refine⟨_,rfl,λ_ _=>rfl,λh1=>(Ku (kI asy ic) q aG).mono ?_,λh1=>⟨by rw[h1];rfl,rfl⟩⟩;rintro _ u' ⟨rfl,hu⟩;obtain rfl:io=u':=hu.symm;exact⟨_,rfl,λ_ _=>rfl,by rw[h1,cT],rfl⟩
 have IW:=aX IW;have hql:q=(cx c).length:=aG
 subst hql;have fy:=rI (cx c).length (pO act lf (jg TT));refine(XF (asw.o0 ic).sp sd (YH.slice bF) aG).mono ?_;rintro _ oQ ⟨⟨rr,rfl,N6⟩,yw⟩;refine⟨rr,rfl,yw.same aae,?_,(o15.cr ic).cr yw⟩;rw[N6.2 LG]
end Go.Proofs.YtpbgcbdclnfpnaaGreatDoor.Con
