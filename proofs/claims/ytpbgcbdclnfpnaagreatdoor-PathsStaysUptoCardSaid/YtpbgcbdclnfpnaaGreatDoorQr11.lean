import Derived.Test.YtpbgcbdclnfpnaaGreatDoorQr10
set_option linter.unusedSectionVars false
set_option linter.unusedSimpArgs false
set_option linter.unusedVariables false
set_option maxHeartbeats 1600000
set_option maxRecDepth 100000
open Go.Value renaming int->O,string->ah,pointer->ai,agg->aj,tuple->ak,bool->ao
open Go.IntKind renaming i64->ae,wrap->av
open Go.Ending renaming returned->aq
open _root_.ByteArray renaming mk->ar
open _root_.Go.Proofs.Tryz renaming prog->au
open Go.Instr renaming buildSlice->aw
open Go renaming World->ay,Value->az,Calls->aB
open Go.Kt renaming Only->aA,SliceF->aD,Cells->aE,OnlyP->aF,Blk->aH
namespace Go.Proofs.YtpbgcbdclnfpnaaGreatDoor.Con
open Go Go.RowKit Go.Kt Go.Kt.V Go.Proofs.YtpbgcbdclnfpnaaGreatDoor.Vc
theorem Oh{act:List Int}{t:Nat}(h:t+1<act.length):(act.take (t+2)).Pairwise (· <·)↔(act.take (t+1)).Pairwise (· <·)/\act[t]<act[t+1]:=by
 rw[bF (i:=t+1),aQ h,rv];constructor
 ·rintro⟨h1,_,h3⟩;refine⟨h1,h3 _ ?_ _ aaa⟩;exact List.mem_iff_getElem.2 ⟨t,adp,by rw[oV]⟩
 ·rintro⟨h1,h2⟩;refine⟨h1,aaa,λp hp q hq=>?_⟩;simp only[Option.toList,aO]at hq;subst hq;obtain⟨i,hi,rfl⟩:=jN hp;rw[cK]at hi;by_cases hit:i=t
  ·subst hit;rw[oV];exact h2
  ·have:=dN.1 h1 i t adp adp aG;rw[oV,oV]at this;rw[oV];omega
theorem Lg.zero{xs:List cR}{act:List Int}(h:Lg xs act):act[0]? =some 0:=by
 obtain⟨i,hi,he⟩:=jN h.rt;by_cases h0:i=0
 ·subst h0;rw[aQ hi,he]
 have h1:=dN.1 h.rise 0 i aG hi aG;have h2:=(h.at_ _ (eF (show 0<act.length by omega))).ge;omega
theorem MC{w:ay}{F G:aL}{l sa:Sl}{xs:List cR}{act:List Int}(h:aD nP 5 w F l xs)(hF:Sd xs)(ha:aD rInt 1 w G sa act)(hm:act.length<=1000000000):aB au 9 #[l.v,sa.v] w λe w'=>(∃r:Bool,e=aq (ao r)/\(r=true↔Lg xs act))/\aA [] w w':=by
 refine(amk l sa (λv w'=>(∃r:Bool,v=ao r/\(r=true↔Lg xs act))/\aA [] w w') w ?_).mono abe;unfold ZS;intro b b1 w1 hb jC qC axJ cJ;have z1:=cJ.size;have TV:=ha.len;have lC:=ha.cap;have OS:=kI ha cJ;have no:∀{u:ay},¬Lg xs act->aA [] w u->(∃r:Bool,Value.bool false=ao r/\(r=true↔Lg xs act))/\aA [] w u:=λhn hO=>⟨⟨false,rfl,(λh=>aaH),λh=>absurd h hn⟩,hO⟩
 obtain⟨ad,x1,a1,a2,a3⟩:∃(ad:Addr) (x1:Int),((((sa.n:Nat):Int)==0)=false->dI sa 0 1 ad)/\((((sa.n:Nat):Int)==0)=false->aE w1 ad [O ae x1])/\(0<act.length->act[0]? =some x1):=by
  by_cases h0:0<act.length
  ·obtain⟨ad,c1,c2⟩:=iu OS (aQ h0);exact⟨ad,_,λ_=>c1,λ_=>c2,λ_=>aQ h0⟩
  ·exact⟨default,0,λhh=>absurd ac8 (show ¬sa.n≠0 by omega),λhh=>absurd ac8 (show ¬sa.n≠0 by omega),λhh=>absurd hh h0⟩
 refine⟨ad,a1,x1,a2,λhc=>no (λhL=>?_) cJ,λhc=>?_⟩
 ·have e0:=hL.zero;have h0:0<act.length:=by
   cases act with
   | nil=>cases e0
   | cons a l=>exact Nat.succ_pos _
  rw[a3 h0]at e0;injection e0 with e0;rw[e0]at hc;rw[bU]at hc;rcases hc with hc | hc
  ·have:(sa.n:Int)=0:=aaw
   omega
  ·exact absurd hc aN
 rw[fT]at hc;have Uw:(sa.n:Int)≠0:=by simpa using hc.1
 have h0:0<act.length:=aG
 have e0:act[0]? =some 0:=by
  rw[a3 h0];have:x1=0:=by simpa using hc.2
  rw[this]
 have fX:act≠[]:=gq.1 h0;refine⟨⟨aG,lC,ba _⟩,λb2 b3 w5 ux axK hb3 axL eK hB uw qG wz=>?_⟩;have o5:=cJ.cy eK;have z5:=eK.size;have ha5:=kI ha o5;have JC:=SliceF.cut ha5 (lo:=1) (hi:=sa.n) (m:=sa.c) aG lC (ba _) (ba _);have hcn:(Sl.cut sa 1 sa.n sa.c 1).n=sa.n-1:=rfl;have hdr:∀t,t+1<act.length->((act.drop 1).take (sa.n-1))[t]? =act[t+1]? :=λt ht=>by
  rw[wD aG,iQ,jp]
 refine⟨λnv ris i u=>∃t:Nat,i=(t:Int)/\nv+t=act.length/\t+1<=act.length/\(ris=true↔(act.take (t+1)).Pairwise (· <·))/\w5=u,act.length,⟨0,rfl,rfl,h0,⟨λ_=>by
  rw[bF,da];cases act[0]? <;>simp,λ_=>rfl⟩,rfl⟩,?_⟩
 rintro nv ris _ _ ⟨t,rfl,hnv,ht,PI,rfl⟩;rw[hcn];refine⟨λnZ=>?_,λnZ _ _ _ _=>?_⟩
 ·have nZ:=aP nZ;have tT:t+1<act.length:=aG
  obtain⟨YE,c1,c2⟩:=iu JC (i:=t) (by rw[hdr t tT];exact aQ tT);obtain⟨tV,c3,c4⟩:=iu ha5 (aQ (show t<act.length by omega));refine⟨YE,c1,λ_ _ _ _=>⟨_,c2,tV,λ_=>c3,_,λ_=>c4,nv-1,aG,t+1,aaq,aG,aG,?_,rfl⟩⟩;rw[Oh tT,aU,PI,bJ]
 ·have nZ:=aY nZ;rw[bq aG]at PI;refine⟨λr u=>(r=true↔Lg xs act)/\aA [] w u,λr u hh _ _ _=>⟨⟨r,rfl,hh.1⟩,hh.2⟩,λhrt=>?_,λhrf=>⟨⟨(λh=>aaH),λhL=>?_⟩,o5⟩⟩
  ·obtain⟨s,hs,_⟩:=hF.rt;have hW:WkB b b1 b2 b3 l sa xs act (λk=>F k/\k<w.heap.size) (λk=>G k/\k<w.heap.size) w5:=
    ⟨hB,uw,wz,SliceF.only dh aN (SliceF.inHeap dh h aN) o5 aaa,kI (SliceF.inHeap bN ha aN) o5,λk hk=>aG,λk hk=>aG,aG,aG,λe=>by
     subst e;have:=qG;have e1:=wz;unfold aH at this e1;rw[this]at e1;injection e1 with e1;injection e1 with e1;cases e1⟩
   have hvl:=hF.Wl act xs.length hs;refine(SJ hF (PI.1 hrt) fX hm xs.length 0 hs aG hW qG aG aG).mono ?_;rintro _ w8 ⟨⟨r,rfl,JL,qK,uB,JM⟩,fV⟩;refine⟨r,rfl,fV.same λx hx=>?_,qK,uB,?_,(o5.oH (fV.p (F:=λk=>w.heap.size<=k) λx hx=>by simp only[aO]at hx;exact .inl aG)).only λk hk=>hk⟩
   ·have n3:=hW.n3;simp only[aR,bn,cm]at hx⊢;rcases hx with rfl | rfl | rfl
    ·exact⟨aG,hW.n0⟩
    ·exact⟨aG,hW.n1⟩
    ·exact⟨aG,n3⟩
   ·rw[<-hF.Ol e0 xs.length (ba _),aU];constructor
    ·rintro⟨h1,h2⟩;have h2:qK=0:=acD
     have:=JM h1;exact⟨PI.1 hrt,JL.1 h1,aG⟩
    ·rintro⟨h1,h2,h3⟩;have h4:=JL.2 h2;have:=JM h4;exact⟨h4,by rw[de];omega⟩
  ·rw[PI.2 hL.rise]at hrf;cases hrf
section
variable {w w0:ay} {F G G':aL} {l ws sa:Sl} {xs:List cR} {act:List Int} {k0:Nat}
theorem agc(h:aD nP 5 w F l xs)(hF:Sd xs)(k:Int)(hm:∀n:Nat,(jk xs xs.length 0 n).length<=1000000):aB au 10 #[l.v,O ae k] w λe w'=>(∃(s:Sl) (b:Bool) (is:List Int),e=aq (ak #[s.v,ao b])/\dA w.heap.size w' s is/\(b=true↔0<=k/\k<W xs 0)/\is=if b=true then jk xs xs.length 0 k.toNat else[])/\aA [] w w':=by
 refine(alJ l k (λv w'=>(∃(s:Sl) (b:Bool) (is:List Int),v=ak #[s.v,ao b]/\dA w.heap.size w' s is/\(b=true↔0<=k/\k<W xs 0)/\is=if b=true then jk xs xs.length 0 k.toNat else[])/\aA [] w w') w ?_).mono (by rintro _ w' ⟨v,rfl,⟨k,b,is,rfl,h⟩,h'⟩;exact⟨⟨k,b,is,rfl,h⟩,h'⟩);have hl:=h.len;have ue:=hF.fo.ne;refine(C0 h hF).mono ?_;rintro _ w1 ⟨⟨k0,ws,rfl,hY,fA,hC⟩,cJ⟩;have z1:=cJ.size;obtain⟨ad,a1,a2⟩:=iu hC.ws (ET ue);refine⟨_,rfl,⟨k0,0,none⟩,λ_=>rfl,ws,λ_=>Blk.eE hC.blk 1 rfl,ad,λ_=>a1,_,λ_=>a2,λhc=>⟨⟨Sl.nil,false,[],rfl,Own.nil _ _ _ _ _ _,⟨(λh=>aaH),λhk=>?_⟩,rfl⟩,cJ⟩,λhc=>?_⟩
 ·rw[bU,bU]at hc;rcases hc with(hc | hc) | hc
  ·have:(l.n:Int)=0:=aaw
   omega
  ·have:=aP hc;omega
  have:=aP hc;have:=hk.2;simp only[Int.ofNat_zero]at*
  omega
 rw[fT,fT]at hc;have c1:=aY hc.1.2;have c2:=aY hc.2;obtain⟨m,rfl⟩:∃m:Nat,k=m:=⟨k.toNat,aG⟩
 obtain⟨x,hx⟩:=fQ (xs:=xs) (i:=0) ue;have hC':CtB w1 k0 l ws xs (λk=>k<w1.heap.size) (λk=>k<w1.heap.size):=⟨hC.blk,SliceF.mono dh (SliceF.inHeap dh hC.sp aN) λk hk=>hk.2,SliceF.mono bN (SliceF.inHeap bN hC.ws aN) λk hk=>hk.2⟩
 have cd:m<W xs ((0:Nat):Int):=aG
 refine(Js hF hC' (λk hk=>hk) (λk hk=>hk) xs.length 0 m (out:=Sl.nil) (L:=[]) hx aG cd (Own.nil _ _ _ _ _ _) (Only.refl _ _) (by have:=hm m;simpa using this)).mono ?_;rintro _ w2 ⟨s2,rfl,J7,hG2⟩;have dw:aA [] w1 w2:=hG2.1.only λk hk=>adS
 rw[cE]at J7;exact⟨s2,rfl,⟨s2,true,_,rfl,Own.low J7 z1,⟨λ_=>⟨aG,by simpa using cd⟩,λ_=>rfl⟩,by rw[aZ rfl,aV]⟩,cJ.cy dw⟩
end
section
variable {xs:List cR}
theorem Bm{p:Int->Bool}{r0:Int}:∀{l:List Int},l.Pairwise (· <·)->r0∈l->(∀r,r∈l->(p r=true↔r=r0))->l.countP p=1
 | [],_,h,_=>aaH
 | x::l,hp,h,hi=>by
  rw[dM]at hp;rw[O1];by_cases hx:x=r0
  ·subst hx;rw[aZ ((hi x (.head _)).2 rfl)];have:l.countP p=0:=by
    rw[List.countP_eq_zero];intro r hr hpr;have h1:=(hi r (.tail _ hr)).1 hpr;have:=hp.1 r hr;omega
   omega
  ·have h':r0∈l:=by
    rw[aR]at h;exact h.resolve_left λe=>hx e.symm
   rw[aX (λe=>hx ((hi x (.head _)).1 e)),Bm hp.2 h' λr hr=>hi r (.tail _ hr)]
theorem C1{V:Int->Nat}:∀{l:List Int} {k:Nat},k<gV V l->∃r k',pick V l k=some (r,k')
 | [],k,h=>by simp[gV]at h
 | x::l,k,h=>by
  rw[pick];by_cases hk:k<V x
  ·exact⟨_,_,aZ hk⟩
  rw[aX hk];exact C1 (by rw[gV]at h;omega)
theorem HD{A:List Int}{rc:Int->Nat}{r0:Int}{k':Nat}:∀{l:List Int} {k c:Nat},l.Pairwise (· <·)->pick (W xs) l k=some (r0,k')->(∀r,r∈l->(r∈A↔r=r0))->Pb xs A false rc l c+k'=c+k+rc r0
 | [],k,c,_,h,_=>aaH
 | x::l,k,c,hp,h,hi=>by
  rw[dM]at hp;rw[pick]at h;have e:Pb xs A false rc (x::l) c=if x∈A then c+rc x else Pb xs A false rc l (c+W xs x):=rfl
  rw[e];by_cases hk:k<W xs x
  ·rw[aZ hk]at h;injection h with h;injection h with h1 h2;subst h1 h2;rw[aZ ((hi x (.head _)).2 rfl)];omega
  ·rw[aX hk]at h;have hm:=(wl h).1;have hx:x≠r0:=λe=>by
    have:=hp.1 r0 hm;omega
   rw[aX (λhA=>hx ((hi x (.head _)).1 hA))];have:=HD (rc:=rc) (c:=c+W xs x) hp.2 h λr hr=>hi r (.tail _ hr);omega
theorem HE{V:Int->Nat}:∀(l:List Int) (k:Nat),(jB V l k).2=k/ix V l
 | [],k=>by rw[jB,ix,Nat.div_one]
 | x::l,k=>by rw[jB,ix,HE l k,Nat.div_div_eq_div_mul,Nat.mul_comm]
theorem HF{A:List Int}{rc:Int->Nat}:∀{l:List Int} {k c:Nat},(∀p,p∈l.zip (jB (W xs) l k).1->rc p.1=p.2)->Pb xs A true rc l c+(jB (W xs) l k).2*ix (W xs) l=c*ix (W xs) l+k
 | [],k,c,_=>by simp[Pb,jB,ix]
 | x::l,k,c,h=>by
  have e:Pb xs A true rc (x::l) c=Pb xs A true rc l (c*W xs x+rc x):=rfl;rw[jB]at h⊢;rw[List.zip_cons_cons]at h;have hx:=h _ (.head _);have ih:=HF (l:=l) (k:=k) (c:=c*W xs x+rc x) (A:=A) λp hp=>h p (.tail _ hp);rw[e,ix];have hx:rc x=(jB (W xs) l k).2 % W xs x:=hx;rw[hx]at ih⊢;generalize (jB (W xs) l k).2=q at*
  generalize ix (W xs) l=P at*
  have hq:=Nat.div_add_mod q (W xs x);have h1:q*P=(q/W xs x)*(W xs x*P)+(q % W xs x)*P:=by
   conv=>lhs;rw[<-hq]
   rw[eM,Nat.mul_comm (W xs x) (q/W xs x),FD]
  have h2:(c*W xs x+q % W xs x)*P=c*(W xs x*P)+(q % W xs x)*P:=by rw[eM,FD]
  show Pb xs A true rc l (c*W xs x+q % W xs x)+q/W xs x*(W xs x*P)=c*(W xs x*P)+k;rw[h2]at ih;rw[h1]at ih;omega
theorem wm(f n k:Nat):(n:Int)∈jk xs f n k:=by
 cases f with
 | zero=>rw[jk];exact .head _
 | succ f=>rw[jk];exact .head _
theorem SK(hF:Sd xs):∀(f n k:Nat) {s:cR},xs[n]? =some s->xs.length<=n+f->wF s.k=true->k<W xs n->∀A:List Int,(∀x:Int,(n:Int)<=x->x<s.en->(x∈A↔x∈jk xs f n k))->
  (∀x,x∈jk xs f n k->wF (kd xs x)=true/\(x=n∨∀t,xs[x.toNat]? =some t->t.pa∈A)/\mO xs A x.toNat=true)/\Yi xs A f n=k
 | 0,n,k,s,hs,hf,_,_,A,_=>by
  have:=eT hs;omega
 | f+1,n,k,s,hs,hf,nS,hk,A,hA=>by
  have hu:=hF.fo.up n s hs;have hW:=hF.aba n;have PF:=ki hs;have hnA:(n:Int)∈A:=(hA n (oa _) hu.1).2 (wm _ _ _);have e0:jk xs (f+1) n k=(n:Int)::if kd xs n=1 then(match pick (W xs) (cV xs n) k with
   | some (r,k')=>jk xs f r.toNat k'
   | none=>[])else((cV xs n).zip (jB (W xs) (cV xs n) k).1).flatMap λp=>jk xs f p.1.toNat p.2:=rfl
  have e1:Yi xs A (f+1) n=Pb xs A (kd xs n==2) (λr=>Yi xs A f r.toNat) (cV xs n) 0:=rfl;have eo:mO xs A n=if kd xs n=2 then Hn xs A n==(cV xs n).length else Hn xs A n==min 1 (cV xs n).length:=rfl
  have ec:Hn xs A n=(cV xs n).countP λr=>decide (r∈A):=rfl;have Ih:∀{r:Int},r∈cV xs n->_:=fun{r} h=>hF.C4 (n:=n) (r:=r) h;have Un:(cV xs n).Pairwise λa b=>EC xs a<=b:=hF.rq n (nW xs n) λr hr=>hr;have PI:=nW xs n;have sub:∀(r:Int) (d:Nat),r∈cV xs n->d<W xs r->(∀x:Int,r<=x->x<EC xs r->(x∈A↔x∈jk xs f r.toNat d))->
    (∀x,x∈jk xs f r.toNat d->wF (kd xs x)=true/\(∀t,xs[x.toNat]? =some t->t.pa∈A)/\mO xs A x.toNat=true)/\Yi xs A f r.toNat=d:=λr d hr hd hAr=>by
   obtain⟨q,t,rfl,h2,h3,h4,h5,h6⟩:=Ih hr;rw[aV];rw[aV,mf h2]at hAr;obtain⟨g1,g2⟩:=SK hF f q d h2 aG h4 hd A hAr;refine⟨λx hx=>?_,g2⟩;obtain⟨a1,a2,a3⟩:=g1 x hx;refine⟨a1,?_,a3⟩;rcases a2 with rfl | a2
   ·intro t' Fj;rw[aV,h2]at Fj;injection Fj with Fj;rw[<-Fj,h3];exact hnA
   exact a2
  have inb:∀(r:Int) (d:Nat),r∈cV xs n->∀x,x∈jk xs f r.toNat d->r<=x/\x<EC xs r:=λr d hr x hx=>by
   obtain⟨q,t,rfl,h2,_⟩:=Ih hr;rw[aV]at hx;rw[mf h2];exact(ES hF f q d h2).2 x hx
  have rin:∀r,r∈cV xs n->(n:Int)<r/\r<EC xs r/\EC xs r<=s.en:=λr hr=>by
   obtain⟨q,t,rfl,h2,_,_,h5,h6⟩:=Ih hr;have:=hF.fo.up q t h2;rw[mf h2];exact⟨aG,this.1,hF.fo.Yk q hs h2 h5 (h6 s hs)⟩
  rw[e0]at hA⊢;rw[e1];rw[PF]at hW hA⊢;have aqJ:s.k=1∨s.k=2:=by simpa[wF]using nS
  generalize Tj:cV xs n=rs at*
  have top:∀{L:List Int},(∀x,x∈L->wF (kd xs x)=true/\(∀t,xs[x.toNat]? =some t->t.pa∈A)/\mO xs A x.toNat=true)->mO xs A n=true->∀x,x∈(n:Int)::L->wF (kd xs x)=true/\(x=n∨∀t,xs[x.toNat]? =some t->t.pa∈A)/\mO xs A x.toNat=true:=λhL ho x hx=>by
   rw[aR]at hx;rcases hx with rfl | hx
   ·exact⟨by rw[PF];exact nS,.inl rfl,by rw[aV];exact ho⟩
   obtain⟨a1,a2,a3⟩:=hL x hx;exact⟨a1,.inr a2,a3⟩
  by_cases h0:rs.length=0
  ·have hre:rs=[]:=bQ h0;subst hre;have hY:k=0:=by
    rw[aZ h0]at hW;omega
   subst hY;refine⟨?_,by cases(s.k==2)<;>rfl⟩;have ho:mO xs A n=true:=by
    rw[eo,ec];split<;>rfl
   split
   ·exact top (λx hx=>adf) ho
   exact top (λx hx=>adf) ho
  rw[aX h0]at hW;rcases aqJ with e | e
  ·rw[e]at hW hA⊢;rw[aX aN]at hW;obtain⟨r0,k',hp⟩:=C1 (V:=W xs) (l:=rs) (k:=k) aG;obtain⟨Zd,iy⟩:=wl hp;rw[aZ rfl,hp]at hA⊢;dsimp only at hA⊢;have hb:=rin r0 Zd;have kJ:∀r,r∈rs->(r∈A↔r=r0):=λr hr=>by
    have hbr:=rin r hr;rw[hA r aG aG,aR];constructor
    ·rintro(h | h)
     ·omega
     have h1:=inb r0 k' Zd r h;by_cases cd:r=r0
     ·exact cd
     have:r0<r:=aG
     have h2:=dN.1 Un;obtain⟨i,hi,rfl⟩:=jN Zd;obtain⟨j,hj,rfl⟩:=jN hr;have rO:i<j:=by
      refine gA λhh=>?_;by_cases rO:i=j
      ·subst rO;omega
      have:=dN.1 PI j i hj hi aG;omega
     have:=h2 i j hi hj rO;omega
    rintro rfl;right;obtain⟨q,t,rfl,_⟩:=Ih hr;rw[aV];exact wm _ _ _
   have hA0:∀x:Int,r0<=x->x<EC xs r0->(x∈A↔x∈jk xs f r0.toNat k'):=λx h1 h2=>by
    rw[hA x aG aG,aR];exact⟨λh=>h.resolve_left aG,.inr⟩
   obtain⟨g1,g2⟩:=sub r0 k' Zd iy hA0;have TN:mO xs A n=true:=by
    rw[eo,PF,e,aX aN,ec,Bm PI Zd λr hr=>by rw[bJ];exact kJ r hr,de];omega
   refine⟨top g1 TN,?_⟩;have:=HD (xs:=xs) (A:=A) (rc:=λr=>Yi xs A f r.toNat) (c:=0) PI hp kJ;have e2:((1:Int)==2)=false:=rfl;rw[e2];rw[g2]at this;omega
  rw[e]at hW hA⊢;rw[aZ rfl]at hW;rw[aX aN]at hA⊢;have yL:=Bl (W xs) rs k;have ue:∀r,r∈rs->0<W xs r:=λr hr=>by rw[<-Tj]at hr;exact hF.Ta hr
  let dg:=(jB (W xs) rs k).1
  have hdg:dg=(jB (W xs) rs k).1:=rfl;rw[<-hdg]at hA yL⊢;have zp:∀p,p∈rs.zip dg->p.1∈rs/\p.2<W xs p.1:=λp hp=>by
   refine⟨(T6 hp).1,?_⟩;obtain⟨i,hi⟩:=eY hp;have:=jf.1 hi;exact EU ue this.1 this.2
  have hA0:∀p,p∈rs.zip dg->∀x:Int,p.1<=x->x<EC xs p.1->(x∈A↔x∈jk xs f p.1.toNat p.2):=λp hp x h1 h2=>by
   have hb:=rin p.1 (zp p hp).1;rw[hA x aG aG,aR,dr];constructor
   ·rintro(h | ⟨q,hq,h⟩)
    ·omega
    have h3:=inb q.1 q.2 (zp q hq).1 x h;have hqp:q=p:=by
     obtain⟨i,hi⟩:=eY hp;obtain⟨j,hj⟩:=eY hq;have Bp:=jf.1 hi;have Pe:=jf.1 hj;have Ib:=(be.1 Bp.1).1;have iY:=(be.1 Pe.1).1;have ei:rs[i]=p.1:=by have:=Bp.1;rw[aQ Ib]at this;exact zw this
     have ej:rs[j]=q.1:=by have:=Pe.1;rw[aQ iY]at this;exact zw this
     have rO:i=j:=by
      refine gA λhh=>?_;rcases HZ hh with hh | hh
      ·have:=dN.1 Un i j Ib iY hh;rw[ei,ej]at this;omega
      have:=dN.1 Un j i iY Ib hh;rw[ei,ej]at this;omega
     subst rO;rw[hi]at hj;exact(zw hj).symm
    rw[hqp]at h;exact h
   intro h;exact .inr ⟨p,hp,h⟩
  have OP:=λp hp=>sub p.1 p.2 (zp p hp).1 (zp p hp).2 (hA0 p hp);have TN:mO xs A n=true:=by
   rw[eo,PF,e,aZ rfl,ec,de,List.countP_eq_length];intro r hr;rw[bJ];obtain⟨i,hi,rfl⟩:=jN hr;have hb:=rin _ hr;have hz:(rs[i],dg[i]' aG)∈rs.zip dg:=bD (jf.2 ⟨aQ hi,aQ aG⟩);refine(hA0 _ hz _ (oa _) hb.2.1).2 ?_;obtain⟨q,t,hq,_⟩:=Ih hr;rw[hq,aV];exact wm _ _ _
  refine⟨top (λx hx=>?_) TN,?_⟩
  ·obtain⟨p,hp,hx⟩:=dr.1 hx;exact(OP p hp).1 x hx
  have:=HF (xs:=xs) (A:=A) (rc:=λr=>Yi xs A f r.toNat) (l:=rs) (k:=k) (c:=0) λp hp=>(OP p hp).2;rw[HE,Nat.div_eq_of_lt aG,yT,fE,bM]at this;exact this
theorem Wd(hF:Sd xs){k:Nat}(hk:k<W xs 0):Lg xs (jk xs xs.length 0 k)/\Yi xs (jk xs xs.length 0 k) xs.length 0=k:=by
 obtain⟨s,hs,j9⟩:=hF.rt;have hu:=hF.fo.up 0 s hs;obtain⟨h1,h2⟩:=SK hF xs.length 0 k hs aG (by rw[j9];rfl) (by exact_mod_cast hk) _ λx _ _=>J9;obtain⟨h3,h4⟩:=ES hF xs.length 0 k hs;refine⟨⟨by exact_mod_cast wm (xs:=xs) xs.length 0 k,h3,λx hx=>?_⟩,h2⟩;obtain⟨a1,a2,a3⟩:=h1 x hx;have:=h4 x hx;exact⟨aG,aG,a1,a2.imp (λh=>abi) id,a3⟩
end
def oG:aJ:=[99,104,97,114,116,32,99,32,123,32,105,110,105,116,105,97,108,32,97,59,32,115,116,97,116,101,32,97,32,123,32,111,110,32,120,32,45,62,32,100,59,32,111,110,32,121,32,45,62,32,104,59,32,125,32,112,97,114,97,108,108,101,108,32,112,32,123,32,115,116,97,116,101,32,113,32,123,32,105,110,105,116,105,97,108,32,98,59,32,115,116,97,116,101,32,98,32,123,32,125,32,115,116,97,116,101,32,100,32,123,32,125,32,125,32,115,116,97,116,101,32,114,32,123,32,125,32,104,105,115,116,111,114,121,32,104,32,45,62,32,113,59,32,125,32,125]
def aaW(p:Pl):List Int:=gX (jj p.sp (CW p λ_=>none) p.sp.length ([0].foldl (pE p λ_=>none) 0))
def agd(p:Pl):List Int:=gX (jj p.sp (CW p λ_=>none) p.sp.length 1)
def Yj:Bool:=decide ((mV oG).1=0)&&aaA oG&&decide ((dG (dK oG).1).ro.length=2)&&decide (((dG (dK oG).1).ro[0]?).map (λr:Ro=>r.dom)=some 0)&&decide ((agd (dG (dK oG).1)).length=2)&&decide ((aaW (dG (dK oG).1)).length=4)&&decide ((aaW (dG (dK oG).1))[2]? =some 5)
theorem We:Yj=true:=by kernel_rfl
theorem Jt(w:ay)(hE:Er w)(hT:Tb w):aB au 5 #[] w λe w'=>e=aq (ao true)/\aA [] w w':=by
 refine ret (alN _ _ ?_);have mP:=We;unfold Yj at mP;simp only[aU,bJ]at mP;obtain⟨⟨⟨⟨⟨⟨h1,h2⟩,h3⟩,h4⟩,h5⟩,h6⟩,h7⟩:=mP;have h2:=aaB h2;have hc:xp oG=(dK oG).1:=by unfold xp;rw[aZ h1]
 have hl:(jy (dK oG).1).1=0:=by
  unfold mV at h1;split at h1
  ·exact h1
  rename_i h;exact absurd h1 h
 refine(VU oG h2.1 h2.2 hE hT).mono ?_;rintro _ w0 ⟨vs,cs,rfl,hC,cQ⟩;rw[hc]at hC;obtain⟨xe,xl,xm,xk,rfl,_⟩:=hC.root;have z0:=cQ.size;refine⟨vs,_,_,_,_,xe,xl,xm,xk,_,_,_,rfl,λk0 k1 w1 hY fA j9 jW cJ=>?_⟩;have z1:=cJ.size;have o1:=cQ.cy cJ;have hC1:ChR true 15 w1 (Fr w.heap.size) (dK oG).1 vs _:=⟨hC.vars.keep gv aN λk _ cd=>cJ.block k cd aaa,(cX true 15).keep hC.root λk _ cd=>cJ.block k cd aaa⟩
 refine(Sc (D:=14) hC1.off h2.1 h2.2 (hE.only o1) (hT.only o1)).mono ?_;rintro _ w2 ⟨⟨s,si,ru,sr,rfl,hP⟩,dw⟩;have z2:=dw.size;have o2:=o1.cy dw;refine⟨s,si,ru,sr,_,_,rfl,dw.same aab,λk2 k3 w3 uY xM zo xN dE=>?_⟩;have z3:=dE.size;have o3:=o2.cy dE;have OT:=(hP hl).o0 dE;have N:=Sq hl;have D:=Jo N (qy.none _);refine(Hz OT D).mono ?_;rintro _ w4 ⟨⟨t9,rfl,ht9⟩,dL⟩;have z4:=dL.size;obtain⟨y,w5,f1,f2,f3⟩:=uu w4 (a:=0) ⟨aG,aG⟩;have z5:=f2.size;have W3:=(OT.o0 dL).o0 f2;refine⟨t9,rfl,dL.same aab,y,w5,f1,f2.same aab,(wk (L:=[]) W3 D (SliceF.nil EK 2 w5 (λ_=>False)) aaa (f3.slice bN)).mono ?_⟩;rintro _ w6 ⟨⟨t11,rfl,OU⟩,eI⟩;have hP6:=W3.o0 eI;have e11:gX (jj (dG (dK oG).1).sp (CW (dG (dK oG).1) (gL [])) (dG (dK oG).1).sp.length ([0].foldl (pE (dG (dK oG).1) (gL [])) 0))=aaW (dG (dK oG).1):=rfl;have e9:gX (jj (dG (dK oG).1).sp (CW (dG (dK oG).1) λ_=>none) (dG (dK oG).1).sp.length 1)=agd (dG (dK oG).1):=rfl;rw[e11]at OU;rw[e9]at ht9;have n11:=OU.len;have n9:=ht9.len;have nr:=hP6.ro.len;obtain⟨r0,Zd⟩:∃r,(dG (dK oG).1).ro[0]? =some r:=⟨_,aQ aG⟩
 rw[Zd]at h4;simp only[dz,bc]at h4;obtain⟨ad,tg,a1,a2,_⟩:=Sv hP6.ro Zd;obtain⟨tV,b1,b2⟩:=iu (OU.slice bN) (i:=2) h7;refine⟨t11,rfl,eI.same aab,ad,λ_=>a1,r0.dom,λ_=>a2.eE 6 _ rfl,tV,λ_=>b1,5,λ_=>b2,?_,((o3.cy dL).cy f2).cy eI⟩;rw[h1,hl,h4,nr,h3,n9,h5,n11,h6];rfl
abbrev age:Rp (Int×List Int×Unit):=rPair rInt (rPair (rSl rInt 1 8) rUnit)
theorem aaX{w:ay}{F:aL}{s:Sl}{l:List (Int×List Int×Unit)}(h:aD age 2 w F s l){i:Nat}{x:Int×List Int×Unit}(hx:l[i]? =some x):∃ad,∃t:Sl,dI s (i:Int) 2 ad/\aE w ad [O ae x.1,t.v]/\aD rInt 1 w F t x.2.1:=by
 have cd:=(be.1 hx).1;have hl:=h.len;obtain⟨ad,y,cs,g1,g2,g3,g4,g5,g6⟩:=h.get (bE i) aG;rw[aV,hx]at g2;injection g2 with g2;subst g2;obtain⟨c1,c2,rfl,⟨rfl,_⟩,c3,c4,rfl,⟨t,rfl,ht,_⟩,rfl⟩:=g6;exact⟨ad,t,g1,g5,ht⟩
theorem mem_sum{α:Type}{f:α->Nat}{x:α}:∀{l:List α},x∈l->f x<=(l.map f).sum
 | a::l,h=>by
  rw[bG,cD];rcases aR.1 h with rfl | h
  ·omega
  have:=mem_sum (f:=f) h;omega
structure PaOk (xs:List cR) (u:ay) (l:Sl) (L:List (Int×List Int)):Prop where
 sl:aD EK 2 u (λ_=>True) l L
 g:∀x,x∈L->gI x.1
 ok:qy xs (gL L)
 len:∀k l,gL L k=some l->l.length<=1000000
theorem PaOk.o0{xs:List cR}{u u':ay}{l:Sl}{L:List (Int×List Int)}(h:PaOk xs u l L)(hO:aA [] u u'):PaOk xs u' l L:=
 ⟨SliceF.only mX aN h.sl hO aaa,h.g,h.ok,h.len⟩
theorem PaOk.nil(xs:List cR)(u:ay):PaOk xs u Sl.nil []:=⟨SliceF.nil _ _ _ _,λ_ h=>aaH,qy.none xs,λ_ _ h=>aaH⟩
theorem SL{xs:List cR}{act left:List Int}{M:xv}(hl:xs.length<=64)(h:∀k l,M k=some l->l.length<=1000000):∀k l,uT xs act left M k=some l->l.length<=1000000:=λk l hk=>by
 unfold uT at hk;split at hk
 ·rename_i t _;split at hk
  ·injection hk with hk;have:=Mz xs t act;unfold V8 at this;rw[<-hk];omega
  exact h k l hk
 exact h k l hk
section
variable {w:ay} {F G H:aL} {s si ru sr sa sl l4:Sl} {c:Ch} {act left:List Int} {L:List (Int×List Int)}
theorem SM(wI:aD nP 5 w F s (cH c))(sd:Sd (cH c))(i:Int):aB au 10 #[s.v,O ae ((bits .and ae i 1048575).tmod ((W (cH c) 0:Nat):Int))] w λe w'=>(∃(sa:Sl) (act:List Int),e=aq (ak #[sa.v,ao true])/\dA w.heap.size w' sa act/\Lg (cH c) act/\act.length<=64)/\aA [] w w':=by
 obtain⟨s0,Fx,_⟩:=sd.rt;have kB:=sd.le;have hW:1<=W (cH c) ((0:Nat):Int):=sd.S9 Fx;have hW:1<=W (cH c) 0:=hW;have MS:0<=(bits .and ae i 1048575).tmod ((W (cH c) 0:Nat):Int):=Int.tmod_nonneg _ (aaU i);have Pq:(bits .and ae i 1048575).tmod ((W (cH c) 0:Nat):Int)<((W (cH c) 0:Nat):Int):=Int.tmod_lt_of_pos _ aG;refine(agc (xs:=cH c) wI sd _ λq=>by have:=Wa sd (cH c).length 0 q Fx;omega).mono ?_;rintro _ w6 ⟨⟨sa,bt,act,rfl,T2,hbt,hae⟩,eI⟩;have hbt:bt=true:=hbt.2 ⟨MS,Pq⟩;rw[aZ hbt]at hae;have A:Lg (cH c) act:=by
  rw[hae];exact(Wd sd aG).1
 have TV:act.length<=64:=by rw[<-Oe sd kB A];exact xu _
 exact⟨⟨sa,act,by rw[hbt],T2,A,TV⟩,eI⟩
theorem aaY(N:Snd c (cH c) (En c))(hP:PlR w F s si ru sr (dG c))(A:Lg (cH c) act)(ha:aD rInt 1 w G sa act)(TV:act.length<=64)(hlf:aD rInt 1 w H sl left)(Ur:left.length<=2000000)(hL:PaOk (cH c) w l4 L):
  aB au 11 #[aj #[s.v,si.v,ru.v,sr.v],sa.v,sl.v,l4.v] w λe w'=>(∃(t:Sl) (L':List (Int×List Int)),e=aq t.v/\PaOk (cH c) w' t L')/\aA [] w w':=by
 refine(Od hP N.sd A ha aG hlf Ur hL.sl hL.g hL.len).mono ?_;rintro _ w' ⟨⟨t,L',rfl,h1,h2,h3⟩,hO⟩;exact⟨⟨t,L',rfl,(h1.slice mX).mono mX λ_ _=>trivial,h3,by rw[h2];exact N.aa7 hL.ok A,by rw[h2];exact SL N.le hL.len⟩,hO⟩
end
section
variable {w:ay} {F G H:aL} {sl ss sm:Sl} {l less more:List Int}
def mg(l less more:List Int)(n:Nat):Bool:=(decide ((n:Int)∈l)&&!decide ((n:Int)∈less))||decide ((n:Int)∈more)
theorem HG(hl:aD rInt 1 w F sl l)(hs:aD rInt 1 w G ss less)(hm:aD rInt 1 w H sm more)(bl:l.length<=1000000)(bs:less.length<=1000000)(bm:more.length<=1000000):
  aB au 14 #[sl.v,ss.v,sm.v] w λe w'=>∃t:Sl,e=aq t.v/\dA w.heap.size w' t (CQ 64 (mg l less more))/\aA [] w w':=by
 refine(alR sl ss sm (λv w'=>∃t:Sl,v=t.v/\dA w.heap.size w' t (CQ 64 (mg l less more))/\aA [] w w') w ?_).mono abO;refine⟨λkv t i u=>∃j:Nat,i=(j:Int)/\kv+j=64/\j<=64/\dA w.heap.size u t (CQ j (mg l less more))/\aA [] w u,64,⟨0,rfl,aG,aG,Own.nil _ _ _ _ _ _,Only.refl _ _⟩,?_⟩;rintro kv t _ u ⟨j,rfl,tX,hj,ht,hO⟩;have zu:=hO.size;refine⟨λhc=>?_,λhc=>?_⟩
 ·have hc:=aP hc;have iY:j<64:=aG
  refine⟨λt u=>dA w.heap.size u t (CQ (j+1) (mg l less more))/\aA [] w u,?_,λb u'=>b=(decide ((j:Int)∈l)&&!decide ((j:Int)∈less))/\u'=u,?_,(EO (kI hl hO) j aG).mono ?_⟩
  ·rintro t' u' ⟨h1,h2⟩;exact⟨kv-1,aG,j+1,aaq,aG,aG,h1,h2⟩
  ·rintro b u' ⟨rfl,hu⟩;obtain rfl:u=u':=hu.symm;refine(EO (kI hm hO) j aG).mono ?_;rintro _ u' ⟨rfl,hu⟩;obtain rfl:u=u':=hu.symm;have fl:=wg j (mg l less more);refine⟨_,rfl,λFj=>?_,λhf=>⟨?_,hO⟩⟩
   ·obtain⟨y,w1,k1,k3,s',w2,g1,g2,g3,g4⟩:=VX ht aG (n:=(j:Int)) ⟨aG,aG⟩ aG;refine⟨y,w1,k1,s',w2,g1,?_,?_⟩
    ·have hp:mg l less more j=true:=Fj;rw[Hm,aZ hp];exact g2
    exact(hO.oH ((k3.oH (g3.mono (G:=λq=>w.heap.size<=q) λq _ e=>(ht.blk e).1)))).only λq hq=>hq
   have hp:mg l less more j=false:=hf;rw[Hm,hp,aX aaa,bS];exact ht
  rintro _ u' ⟨rfl,hu⟩;obtain rfl:u=u':=hu.symm;refine⟨_,rfl,λh1=>(EO (kI hs hO) j aG).mono ?_,λh1=>⟨by rw[h1];rfl,rfl⟩⟩;rintro _ u' ⟨rfl,hu⟩;obtain rfl:u=u':=hu.symm;exact⟨_,rfl,by rw[h1,db],rfl⟩
 have hc:=aY hc;have iY:j=64:=aG
 subst iY;exact⟨t,rfl,ht,hO⟩
end
theorem SN{c:Ch}{M:xv}(N:Snd c (cH c) (En c))(hM:qy (cH c) M){act:List Int}(A:Lg (cH c) act){r:Ro}(hr:r∈(dG c).ro)(hs:r.src∈act){T:Nat}(hT:T=jj (cH c) (CW (dG c) M) (cH c).length (if r.dom<0 then 0 else jz (cH c) r.dom (r.tg.flatMap (dT (cH c) (dG c).dft M)) 0)):
  Lg (cH c) (CQ 64 (mg act (if r.dom<0 then[]else act.filter λx=>jA (cH c) x r.dom) (gX T))):=by
 have sd:=N.sd;have kB:=N.le;have mZ:∀x,x∈CQ 64 (mg act (if r.dom<0 then[]else act.filter λx=>jA (cH c) x r.dom) (gX T))↔∃n:Nat,x=n/\((x∈act/\¬x∈(if r.dom<0 then[]else act.filter λx=>jA (cH c) x r.dom))∨(n<64/\T.testBit n=true)):=λx=>by
  rw[tM];refine oU λn=>⟨?_,?_⟩
  ·rintro⟨rfl,h64,h⟩;refine⟨rfl,?_⟩;unfold mg at h;rw[bU,aU,dj,ch,dq,ch,nX]at h;refine h.imp id ?_;rintro⟨k,e,h1,h2⟩;have:k=n:=aG
   subst this;exact⟨h1,h2⟩
  rintro⟨rfl,h⟩;have h64:n<64:=by
   rcases h with⟨h,_⟩ | ⟨h,_⟩
   ·obtain⟨m,e,hm,_⟩:=uS sd A h;omega
   exact h
  refine⟨rfl,h64,?_⟩;unfold mg;rw[bU,aU,dj,ch,dq,ch,nX];exact h.imp id λ⟨_,h⟩=>⟨n,rfl,h64,h⟩
 rcases N.wq hM rfl hr with⟨e1,e2⟩ | ⟨h1,_,a,d,_,_,ed,_,_,G,hH⟩
 ·rw[aZ aG]at hT mZ⊢;refine(N.C6 hM rfl A (rs:=[]) (λ_ h=>aaH) List.Pairwise.nil rfl (S:=0) (λm=>?_) hT (wh _ _) λx=>(mZ x).trans (oU λn=>zy λ_=>?_)).1
  ·rw[iO];constructor
   ·intro h;cases h
   rintro⟨r,h,_⟩;cases h
  have hT0:T=0:=by rw[hT,xz]
  rw[hT0,iO];constructor
  ·rintro(⟨h,_⟩ | ⟨_,h⟩)
   ·exact .inl ⟨h,λr h=>aaH⟩
   cases h
  rintro(⟨h,_⟩ | h)
  ·exact .inl ⟨h,λh=>aaH⟩
  cases h
 rw[aX aG]at hT mZ⊢;have wC:∀g,g∈r.tg.flatMap (dT (cH c) (dG c).dft M)->pf (cH c) g:=λg hg=>by
  obtain⟨t,ht,hg⟩:=dr.1 hg;exact hH t ht g hg
 have W9:=nY N.fo N.le (d:=r.dom) aG (r.tg.flatMap (dT (cH c) (dG c).dft M)) 0 wC;have OO:=(aaP N hM hr h1 hT).2.2.2;refine(N.C6 hM rfl A (rs:=[r]) (λr' h=>?_) (List.pairwise_singleton _ _) rfl (S:=jz (cH c) r.dom (r.tg.flatMap (dT (cH c) (dG c).dft M)) 0) (λm=>?_) hT (wh _ _) λx=>(mZ x).trans (oU λn=>zy λe=>?_)).1
 ·rw[aO]at h;subst h;exact⟨hr,h1,hs⟩
 ·rw[W9,iO];constructor
  ·rintro(h | ⟨h,g,hg,hc⟩)
   ·cases h
   obtain⟨t,ht,hg⟩:=dr.1 hg;exact⟨r,.head _,h,t,ht,g,hg,hc⟩
  rintro⟨r',h',h,t,ht,g,hg,hc⟩;rw[aO]at h';subst h';exact .inr ⟨h,g,dr.2 ⟨t,ht,hg⟩,hc⟩
 constructor
 ·rintro(⟨h,hn⟩ | ⟨_,h⟩)
  ·refine .inl ⟨h,λr' h'=>?_⟩;rw[aO]at h';subst h';cases hw:jA (cH c) x r'.dom with
   | false=>rfl
   | true=>exact absurd (dv.2 ⟨h,hw⟩) hn
  exact .inr h
 rintro(⟨h,hn⟩ | h)
 ·refine .inl ⟨h,λhm=>?_⟩;have:=(dv.1 hm).2;rw[hn r (.head _)]at this;cases this
 refine .inr ⟨?_,h⟩;obtain⟨i,j,e1,e2,e3,e4⟩:=om.1 (OO n h);have:=N.fo.pF e4;omega
theorem aaZ{m:Nat}(h:m<2 ^ 64)(n:Int):CR m n<2 ^ 64:=Nat.or_lt_two_pow h (VY n)
theorem SO(xs:List cR)(d:Int):∀(f:Nat) (g:Int) (S:Nat),S<2 ^ 64->Mh xs d f g S<2 ^ 64
 | 0,g,S,h=>h
 | f+1,g,S,h=>by
  unfold Mh;split
  ·exact SO xs d f _ _ (aaZ h g)
  exact h
theorem HH(xs:List cR)(d:Int):∀(G:List Int) (S:Nat),S<2 ^ 64->jz xs d G S<2 ^ 64
 | [],S,h=>h
 | g::G,S,h=>by
  unfold jz;rw[kM];exact HH xs d G _ (SO xs d _ g S h)
theorem MD(xs:List cR)(gl:Nat->List Int):∀(n S:Nat),S<2 ^ 64->jj xs gl n S<2 ^ 64
 | 0,S,h=>h
 | n+1,S,h=>by
  have ih:=MD xs gl n S h;rw[jj];generalize jj xs gl n S=U at ih;unfold EF;split
  ·split
   ·exact VZ _ ih
   split
   ·exact HH _ _ _ _ ih
   exact ih
  exact ih
theorem agf{T n:Nat}(h:T<2 ^ 64)(hb:T.testBit n=true):n<64:=O0 λhn=>by
 have:T<2 ^ n:=cq h (lD aN hn);rw[Nat.testBit_lt_two_pow this]at hb;cases hb
theorem SP{c:Ch}(N:Snd c (cH c) (En c)):Lg (cH c) (gX (jj (cH c) (CW (dG c) λ_=>none) (cH c).length 1)):=by
 refine N.S6 (qy.none _) rfl (ini:=(dG c).ini) rfl (uR _) λx=>?_;rw[nX];refine oU λn=>zy λ_=>⟨λh=>h.2,λh=>⟨agf (MD _ _ _ 1 aN) h,h⟩⟩
theorem pstays_c{w:ay}{x:Ch×Nat}{cs:aK}{sst:Sl}{sts:List (Int×List Int×Unit)}(hx:rChU w (λ_=>True) x cs)(hb:x.2<=1048576)(hS:aD age 2 w (λ_=>True) sst sts)(rV:∀x,x∈sts->x.2.1.length<=1048576)(k:Int){jK:Int}(hR:InI jK)(hE:Er w)(hT:Tb w):aB au 3 #[aj cs.toArray,sst.v,O ae k,O ae jK] w λe w'=>e=aq (ao true)/\aA [] w w':=by
 obtain⟨c,m⟩:=x;obtain⟨D,vs,cs,rfl,hC,hn,hs⟩:=hx;dsimp only at hC hn hs hb;have hC0:=hC;cases D with
 | zero=>exact hC.root.elim
 | succ D=>
 obtain⟨en,lv,mv,kids,rfl,_⟩:=hC0.root;refine ret (alG _ _ _ _ _ _ _ _ _ _ _ _ _ _ _ ?_);have keep:∀{w':ay},aA [] w w'->ChR false (D+1) w' (λ_=>True) c vs (oC c.root.b.k c.root.b.nm c.root.b.ini c.root.b.dft en lv mv kids c.root.b.a):=λhO=>⟨hC.vars.keep gv aN λk _ cd=>hO.block k cd aaa,(cX false _).keep hC.root λk _ cd=>hO.block k cd aaa⟩
 intro k0 w0 hY fA cQ;have z0:=cQ.size;refine(Jt w0 (hE.only cQ) (hT.only cQ)).mono ?_;rintro _ w1 ⟨rfl,cJ⟩;have z1:=cJ.size;have o1:=cQ.cy cJ;refine⟨true,rfl,cJ.same aab,(Sc (keep o1) hn aG (hE.only o1) (hT.only o1)).mono ?_⟩;rintro _ w2 ⟨⟨s,si,ru,sr,rfl,hP⟩,dw⟩;have z2:=dw.size;have o2:=o1.cy dw;refine⟨s,si,ru,sr,_,_,rfl,dw.same aab,λk1 k2 w3 j9 jW uY xM dE=>⟨λ_=>⟨rfl,o2.cy dE⟩,λhc=>?_⟩⟩;have hl:(jy c).1=0:=aaw
 have z3:=dE.size;have o3:=o2.cy dE;have OT:=(hP hl).o0 dE;have N:=Sq hl;have sd:=N.sd;have kB:(cH c).length<=64:=N.le;have hrn:=OT.ro.len;obtain⟨s0,Fx,_⟩:=sd.rt;have hW:1<=W (cH c) ((0:Nat):Int):=sd.S9 Fx;have hW:1<=W (cH c) 0:=hW;have hSn:=hS.len;have hSc:=hS.cap;have hSb:=hS.big;refine(Hz OT (Jo N (qy.none _))).mono ?_;rintro _ w4 ⟨⟨t4,rfl,ht4⟩,dL⟩;have z4:=dL.size;refine⟨t4,rfl,dL.same aab,(Wc (xs:=cH c) (OT.o0 dL).sp sd).mono ?_⟩;rintro _ w5 ⟨rfl,eK⟩;have z5:=eK.size;have p5:=dL.cy eK;have W3:=OT.o0 p5;refine⟨_,rfl,eK.same aab,λbb u=>bb=false/\aA [] w5 u,?_,λhh=>absurd (aP hh) aG,λ_=>(MC W3.sp sd (kI (ht4.slice bN) eK) (by have:=xu (jj (dG c).sp (CW (dG c) λ_=>none) (dG c).sp.length 1);omega)).mono ?_⟩;rotate_left
 ·rintro _ yv ⟨⟨rr,rfl,Ih⟩,ug⟩;refine⟨rr,rfl,ug.same aab,?_,ug⟩;rw[Ih.2 (SP N)];rfl
 rintro _ w6 ⟨rfl,eI⟩;have z6:=eI.size;have p6:=p5.cy eI;have o6:=o3.cy p6;have hP6:=OT.o0 p6;refine⟨λh=>aaH,λ_=>⟨λkv l i u=>∃(j:Nat) (L:List (Int×List Int)),i=(j:Int)/\kv+j=8/\j<=8/\PaOk (cH c) u l L/\aA [] w6 u,8,⟨0,[],rfl,rfl,aG,PaOk.nil _ _,Only.refl _ _⟩,?_⟩⟩;rintro kv l4 _ w7 ⟨j,L,rfl,tX,hj,hL,fL⟩;have z7:=fL.size;have o7:=o6.cy fL;have WY:=hP6.o0 fL;refine⟨λnZ=>?_,λnZ=>⟨aG,λfp fu=>?_⟩⟩
 ·rw[aU,ch,ch]at nZ;obtain⟨x,hx⟩:∃x,sts[j]? =some x:=⟨_,aQ aG⟩
  have JB:=rV x (bD hx);obtain⟨ad,t,a1,a2,a3⟩:=aaX hS hx;refine⟨ad,a1,λw8 fV=>?_⟩;have z8:=fV.size;have o8:=o7.cy fV;have hP8:=WY.o0 fV;refine⟨_,(SH a2 o8).eE 0 _ rfl,aG,(SM hP8.sp sd x.1).mono ?_⟩;rintro _ w9 ⟨⟨sa,act,rfl,T2,A,TV⟩,gy⟩;have z9:=gy.size;refine⟨sa,true,rfl,gy.same aab,ad,a1,λdR eO=>?_⟩;have Pu:=eO.size;have WN:=(fV.cy gy).cy eO;have YV:=o7.cy WN;refine⟨t,(SH a2 YV).eE 1 _ rfl,(aaY N (WY.o0 WN) A (kI (T2.slice bN) eO) TV (kI a3 YV) aG (hL.o0 WN)).mono ?_⟩;rintro _ dS ⟨⟨t9,L',rfl,hL'⟩,ey⟩;exact⟨t9,rfl,ey.same aab,kv-1,aG,j+1,L',aaq,aG,aG,hL',(fL.cy WN).cy ey⟩
 have z12:=fu.size;have o12:=o7.cy fu;have OL:=WY.o0 fu;have ac1:=hL.o0 fu;have D12:=Jo N ac1.ok;refine(SM OL.sp sd k).mono ?_;rintro _ fD ⟨⟨sa,act,rfl,T2,A,TV⟩,eL⟩;have WO:=eL.size;have o13:=o12.cy eL;have Xb:=OL.o0 eL;have JZ:=ac1.o0 eL;refine⟨sa,true,rfl,eL.same aab,λWA=>?_,λOO=>?_⟩
 ·rw[bU,ch,ch]at WA;obtain⟨y,fP,f1,f2,f3⟩:=uu fD (a:=jK) hR;have z14:=f2.size;refine⟨y,fP,f1,f2.same aab,(wk (Xb.o0 f2) D12 (JZ.o0 f2).sl JZ.g (f3.slice bN)).mono ?_⟩;rintro _ iP ⟨⟨t11,rfl,OU⟩,iX⟩;have e:pE (dG c) (gL L) 0 jK=0:=by
   unfold pE;by_cases h0:jK<0
   ·rw[aZ h0]
   rw[aX h0,cF aG]
  rw[kM,List.foldl_nil,e,xz,HA]at OU;have Uw:t11.n=0:=OU.len;refine⟨t11,rfl,iX.same aab,?_,(o13.cy f2).cy iX⟩;rw[Uw];rfl
 simp only[fT,dq]at OO;obtain⟨rn,rfl⟩:∃n:Nat,jK=n:=⟨jK.toNat,aG⟩
 have PE:rn<(dG c).ro.length:=aG
 obtain⟨r,hr⟩:∃r,(dG c).ro[rn]? =some r:=⟨_,aQ PE⟩
 have hrm:r∈(dG c).ro:=bD hr;obtain⟨ad,tg,a1,a2,a3⟩:=Sv Xb.ro hr;have M6:=T2.slice bN;refine⟨ad,a1,r.src,a2.eE 0 _ rfl,(EO M6 r.src aG).mono ?_⟩;rintro _ u ⟨rfl,hu⟩;obtain rfl:fD=u:=hu.symm;refine⟨_,rfl,λ_ _=>rfl,λ_=>⟨rfl,o13⟩,λac2=>?_⟩;have ac2:r.src∈act:=by simpa using ac2
 have aqO:pE (dG c) (gL L) 0 rn=if r.dom<0 then 0 else jz (cH c) r.dom (r.tg.flatMap (dT (cH c) (dG c).dft (gL L))) 0:=by
  unfold pE;rw[aX aG,aV,hr];rfl
 have aiS:mW (dG c).sp (dG c).ro act rn=if r.dom<0 then[]else act.filter λx=>jA (cH c) x r.dom:=by
  unfold mW;rw[aX aG,aV,hr];rfl
 have LG:=SN N ac1.ok A hrm ac2 rfl;rw[<-aiS,<-aqO]at LG;generalize hTd:jj (cH c) (CW (dG c) (gL L)) (cH c).length (pE (dG c) (gL L) 0 rn)=T at LG;have hTl:=xu T;have hel:(mW (dG c).sp (dG c).ro act rn).length<=act.length:=by
  rw[aiS];split
  ·exact bB _
  exact cY _ _
 have InR:InI (rn:Int):=hR;refine⟨λt u=>aD rInt 1 u (λ_=>True) t (CQ 64 (mg act (mW (dG c).sp (dG c).ro act rn) (gX T)))/\aA [] fD u,?_,λjU jD=>?_⟩
 ·rintro t u ⟨ht,hO⟩;have zu:=hO.size;refine(MC (Xb.o0 hO).sp sd ht (by have:=wg 64 (mg act (mW (dG c).sp (dG c).ro act rn) (gX T));omega)).mono ?_;rintro _ jL ⟨⟨rr,rfl,Ih⟩,kT⟩;refine⟨rr,rfl,kT.same aab,?_,(o13.cy hO).cy kT⟩;rw[Ih.2 LG]
 have z19:=jD.size;have Xc:=Xb.o0 jD;have Xd:=JZ.o0 jD;have Xe:=kI M6 jD;refine⟨λk=>k=k1,rfl,rfl,?_,?_⟩
 ·refine(Ms Xc sd.fo Xe aG rn).mono ?_;rintro _ jm ⟨⟨t13,rfl,aqP⟩,kU⟩;have z20:=kU.size;obtain⟨y,lm,f1,f2,f3⟩:=uu jm (a:=(rn:Int)) InR;have z21:=f2.size;have q21:=kU.cy f2;refine⟨t13,rfl,kU.same aab,bP.only kU,y,lm,f1,f2.same aab,bP.only f2,(wk (Xc.o0 q21) D12 (Xd.o0 q21).sl Xd.g (f3.slice bN)).mono ?_⟩;rintro _ oA ⟨⟨t15,rfl,Xf⟩,xO⟩;have z22:=xO.size;have Xf:dA lm.heap.size oA t15 (gX (jj (cH c) (CW (dG c) (gL L)) (cH c).length (pE (dG c) (gL L) 0 rn))):=Xf;rw[hTd]at Xf;refine⟨t15,rfl,xO.same aab,bP.only xO,(HG (kI Xe (q21.cy xO)) (kI (aqP.slice bN) (f2.cy xO)) (Xf.slice bN) aG aG aG).mono ?_⟩;rintro _ oB ⟨t16,rfl,aqQ,kl⟩;exact⟨t16,rfl,kl.same aab,bP.only kl,(aqQ.slice bN).mono bN λ_ _=>trivial,((jD.cy q21).cy xO).cy kl⟩
 obtain⟨y,nT,f1,f2,f3⟩:=uu jU (a:=(rn:Int)) InR;have z24:=f2.size;refine⟨y,nT,f1,f2.same aab,bP.only f2,(Ms (Xc.o0 f2) sd.fo (kI Xe f2) aG rn).mono ?_⟩;rintro _ mh ⟨⟨t18,rfl,aqR⟩,qH⟩;have z25:=qH.size;have q25:=f2.cy qH;refine⟨t18,rfl,qH.same aab,bP.only qH,(wk (Xc.o0 q25) D12 (Xd.o0 q25).sl Xd.g (kI (f3.slice bN) qH)).mono ?_⟩;rintro _ pq ⟨⟨t19,rfl,Xg⟩,iz⟩;have z26:=iz.size;have Xg:dA mh.heap.size pq t19 (gX (jj (cH c) (CW (dG c) (gL L)) (cH c).length (pE (dG c) (gL L) 0 rn))):=Xg;rw[hTd]at Xg;refine⟨t19,rfl,iz.same aab,bP.only iz,(HG (kI Xe (q25.cy iz)) (kI (aqR.slice bN) iz) (Xg.slice bN) aG aG aG).mono ?_⟩;rintro _ tU ⟨t20,rfl,aqS,pH⟩;exact⟨t20,rfl,pH.same aab,bP.only pH,(aqS.slice bN).mono bN λ_ _=>trivial,((jD.cy q25).cy iz).cy pH⟩
end Go.Proofs.YtpbgcbdclnfpnaaGreatDoor.Con
