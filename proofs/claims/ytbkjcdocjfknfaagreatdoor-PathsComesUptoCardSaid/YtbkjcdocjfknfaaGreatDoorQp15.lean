import Derived.Test.YtbkjcdocjfknfaaGreatDoorQp14
set_option linter.unusedSectionVars false
namespace Go.Proofs.YtbkjcdocjfknfaaGreatDoor.Con
open Go.Value renaming int->O,string->ah,pointer->ai,agg->aj,tuple->ak,bool->ao
open Go.IntKind renaming i64->ae,wrap->av
open Go.Ending renaming returned->aq
open _root_.ByteArray renaming mk->ar
open _root_.Go.Proofs.Tryz renaming prog->au
open Go.Instr renaming buildSlice->aw
open Go renaming World->ay,Value->az,Calls->aB
open Go.Kt renaming Only->aA,SliceF->aD,Cells->aE,OnlyP->aF,Blk->aH
open Go Go.RowKit Go.Kt Go.Kt.V Go.Proofs.YtbkjcdocjfknfaaGreatDoor.Vc
set_option linter.unusedSimpArgs false
set_option linter.unusedVariables false
set_option maxRecDepth 100000
set_option linter.unusedSectionVars false
set_option maxHeartbeats 1600000
section
variable {xs:List cM}
theorem An{p:Int->Bool}{r0:Int}:∀{l:List Int},l.Pairwise (· <·)->r0∈l->(∀r,r∈l->(p r=true↔r=r0))->l.countP p=1
 | [],_,h,_=>by cases h
 | x::l,hp,h,hi=>by
  rw[fp]at hp;rw[List.countP_cons];by_cases hx:x=r0
  ·subst hx;rw[if_pos ((hi x (.head _)).2 rfl)];have:l.countP p=0:=by
    rw[List.countP_eq_zero];intro r hr hpr;have h1:=(hi r (.tail _ hr)).1 hpr;have:=hp.1 r hr;omega
   omega
  ·have h':r0∈l:=by
    rw[aR]at h;exact h.resolve_left fun e=>hx e.symm
   rw[if_neg (fun e=>hx ((hi x (.head _)).1 e)),An hp.2 h' fun r hr=>hi r (.tail _ hr)]
theorem Cg{V:Int->Nat}:∀{l:List Int} {k:Nat},k<gN V l->∃r k',pick V l k=some (r,k')
 | [],k,h=>by simp[gN]at h
 | x::l,k,h=>by
  rw[pick];by_cases hk:k<V x
  ·exact⟨_,_,if_pos hk⟩
  ·rw[if_neg hk];exact Cg (by rw[gN]at h;omega)
theorem GM{A:List Int}{rc:Int->Nat}{r0:Int}{k':Nat}:∀{l:List Int} {k c:Nat},l.Pairwise (· <·)->pick (W xs) l k=some (r0,k')->(∀r,r∈l->(r∈A↔r=r0))->NC xs A false rc l c+k'=c+k+rc r0
 | [],k,c,_,h,_=>by cases h
 | x::l,k,c,hp,h,hi=>by
  rw[fp]at hp;rw[pick]at h;have e:NC xs A false rc (x::l) c=if x∈A then c+rc x else NC xs A false rc l (c+W xs x):=rfl
  rw[e];by_cases hk:k<W xs x
  ·rw[if_pos hk]at h;injection h with h;injection h with h1 h2;subst h1 h2;rw[if_pos ((hi x (.head _)).2 rfl)];omega
  ·rw[if_neg hk]at h;have hm:=(vw h).1;have hx:x≠r0:=fun e=>by
    have:=hp.1 r0 hm;omega
   rw[if_neg (fun hA=>hx ((hi x (.head _)).1 hA))];have:=GM (rc:=rc) (c:=c+W xs x) hp.2 h fun r hr=>hi r (.tail _ hr);omega
theorem GN{V:Int->Nat}:∀(l:List Int) (k:Nat),(jo V l k).2=k/ir V l
 | [],k=>by rw[jo,ir,Nat.div_one]
 | x::l,k=>by rw[jo,ir,GN l k,Nat.div_div_eq_div_mul,Nat.mul_comm]
theorem GP{A:List Int}{rc:Int->Nat}:∀{l:List Int} {k c:Nat},(∀p,p∈l.zip (jo (W xs) l k).1->rc p.1=p.2)->NC xs A true rc l c+(jo (W xs) l k).2*ir (W xs) l=c*ir (W xs) l+k
 | [],k,c,_=>by simp[NC,jo,ir]
 | x::l,k,c,h=>by
  have e:NC xs A true rc (x::l) c=NC xs A true rc l (c*W xs x+rc x):=rfl;rw[jo]at h⊢;rw[List.zip_cons_cons]at h;have hx:=h _ (.head _);have ih:=GP (l:=l) (k:=k) (c:=c*W xs x+rc x) (A:=A) fun p hp=>h p (.tail _ hp);rw[e,ir];have hx:rc x=(jo (W xs) l k).2 % W xs x:=hx;rw[hx]at ih⊢;generalize (jo (W xs) l k).2=q at*
  generalize ir (W xs) l=P at*
  have hq:=Nat.div_add_mod q (W xs x);have h1:q*P=(q/W xs x)*(W xs x*P)+(q % W xs x)*P:=by
   conv=>lhs;rw[<-hq]
   rw[eC,Nat.mul_comm (W xs x) (q/W xs x),EG]
  have h2:(c*W xs x+q % W xs x)*P=c*(W xs x*P)+(q % W xs x)*P:=by rw[eC,EG]
  show NC xs A true rc l (c*W xs x+q % W xs x)+q/W xs x*(W xs x*P)=c*(W xs x*P)+k;rw[h2]at ih;rw[h1]at ih;omega
theorem vA(f n k:Nat):(n:Int)∈jf xs f n k:=by
 cases f with
 | zero=>rw[jf];exact .head _
 | succ f=>rw[jf];exact .head _
theorem QW(hF:Sd xs):∀(f n k:Nat) {s:cM},xs[n]? =some s->xs.length<=n+f->AJ s.k=true->k<W xs n->∀A:List Int,(∀x:Int,(n:Int)<=x->x<s.en->(x∈A↔x∈jf xs f n k))->
  (∀x,x∈jf xs f n k->AJ (kd xs x)=true/\(x=n∨∀t,xs[x.toNat]? =some t->t.pa∈A)/\xN xs A x.toNat=true)/\Wq xs A f n=k
 | 0,n,k,s,hs,hf,_,_,A,_=>by
  have:=eZ hs;omega
 | f+1,n,k,s,hs,hf,nA,hk,A,hA=>by
  have hu:=hF.fo.up n s hs;have hW:=hF.Zh n;have Vl:=nX hs;have hnA:(n:Int)∈A:=(hA n (nJ _) hu.1).2 (vA _ _ _);have e0:jf xs (f+1) n k=(n:Int)::if kd xs n=1 then(match pick (W xs) (cZ xs n) k with
   | some (r,k')=>jf xs f r.toNat k'
   | none=>[])else((cZ xs n).zip (jo (W xs) (cZ xs n) k).1).flatMap fun p=>jf xs f p.1.toNat p.2:=rfl
  have e1:Wq xs A (f+1) n=NC xs A (kd xs n==2) (fun r=>Wq xs A f r.toNat) (cZ xs n) 0:=rfl;have eo:xN xs A n=if kd xs n=2 then YN xs A n==(cZ xs n).length else YN xs A n==min 1 (cZ xs n).length:=rfl
  have ec:YN xs A n=(cZ xs n).countP fun r=>decide (r∈A):=rfl;have SK:∀{r:Int},r∈cZ xs n->_:=fun{r} h=>hF.Iy (n:=n) (r:=r) h;have SA:(cZ xs n).Pairwise fun a b=>Gs xs a<=b:=hF.um n (ta xs n) fun r hr=>hr;have hri:=ta xs n;have sub:∀(r:Int) (d:Nat),r∈cZ xs n->d<W xs r->(∀x:Int,r<=x->x<Gs xs r->(x∈A↔x∈jf xs f r.toNat d))->
    (∀x,x∈jf xs f r.toNat d->AJ (kd xs x)=true/\(∀t,xs[x.toNat]? =some t->t.pa∈A)/\xN xs A x.toNat=true)/\Wq xs A f r.toNat=d:=fun r d hr hd hAr=>by
   obtain⟨q,t,rfl,h2,h3,h4,h5,h6⟩:=SK hr;rw[aX];rw[aX,nY h2]at hAr;obtain⟨g1,g2⟩:=QW hF f q d h2 (by omega) h4 hd A hAr;refine⟨fun x hx=>?_,g2⟩;obtain⟨a1,a2,a3⟩:=g1 x hx;refine⟨a1,?_,a3⟩;rcases a2 with rfl | a2
   ·intro t' ht';rw[aX,h2]at ht';injection ht' with ht';rw[<-ht',h3];exact hnA
   ·exact a2
  have inb:∀(r:Int) (d:Nat),r∈cZ xs n->∀x,x∈jf xs f r.toNat d->r<=x/\x<Gs xs r:=fun r d hr x hx=>by
   obtain⟨q,t,rfl,h2,_⟩:=SK hr;rw[aX]at hx;rw[nY h2];exact(DV hF f q d h2).2 x hx
  have rin:∀r,r∈cZ xs n->(n:Int)<r/\r<Gs xs r/\Gs xs r<=s.en:=fun r hr=>by
   obtain⟨q,t,rfl,h2,_,_,h5,h6⟩:=SK hr;have:=hF.fo.up q t h2;rw[nY h2];exact⟨by omega,this.1,hF.fo.Y8 q hs h2 h5 (h6 s hs)⟩
  rw[e0]at hA⊢;rw[e1];rw[Vl]at hW hA⊢;have aoi:s.k=1∨s.k=2:=by simpa[AJ]using nA
  generalize Rn:cZ xs n=rs at*
  have top:∀{L:List Int},(∀x,x∈L->AJ (kd xs x)=true/\(∀t,xs[x.toNat]? =some t->t.pa∈A)/\xN xs A x.toNat=true)->xN xs A n=true->∀x,x∈(n:Int)::L->AJ (kd xs x)=true/\(x=n∨∀t,xs[x.toNat]? =some t->t.pa∈A)/\xN xs A x.toNat=true:=fun hL ho x hx=>by
   rw[aR]at hx;rcases hx with rfl | hx
   ·exact⟨by rw[Vl];exact nA,.inl rfl,by rw[aX];exact ho⟩
   ·obtain⟨a1,a2,a3⟩:=hL x hx;exact⟨a1,.inr a2,a3⟩
  by_cases h0:rs.length=0
  ·have hre:rs=[]:=bO h0;subst hre;have gU:k=0:=by
    rw[if_pos h0]at hW;omega
   subst gU;refine⟨?_,by cases(s.k==2)<;>rfl⟩;have ho:xN xs A n=true:=by
    rw[eo,ec];split<;>rfl
   split
   ·exact top (fun x hx=>by cases hx) ho
   ·exact top (fun x hx=>by cases hx) ho
  ·rw[if_neg h0]at hW;rcases aoi with e | e
   ·rw[e]at hW hA⊢;rw[if_neg (by decide)]at hW;obtain⟨r0,k',hp⟩:=Cg (V:=W xs) (l:=rs) (k:=k) (by omega);obtain⟨Vq,iv⟩:=vw hp;rw[if_pos rfl,hp]at hA⊢;dsimp only at hA⊢;have hb:=rin r0 Vq;have kr:∀r,r∈rs->(r∈A↔r=r0):=fun r hr=>by
     have hbr:=rin r hr;rw[hA r (by omega) (by omega),aR];constructor
     ·rintro(h | h)
      ·omega
      ·have h1:=inb r0 k' Vq r h;by_cases bX:r=r0
       ·exact bX
       ·have:r0<r:=by omega
        have h2:=eU.1 SA;obtain⟨i,hi,rfl⟩:=rv Vq;obtain⟨j,hj,rfl⟩:=rv hr;have rk:i<j:=by
         refine gw fun hh=>?_;by_cases rk:i=j
         ·subst rk;omega
         ·have:=eU.1 hri j i hj hi (by omega);omega
        have:=h2 i j hi hj rk;omega
     ·rintro rfl;right;obtain⟨q,t,rfl,_⟩:=SK hr;rw[aX];exact vA _ _ _
    have hA0:∀x:Int,r0<=x->x<Gs xs r0->(x∈A↔x∈jf xs f r0.toNat k'):=fun x h1 h2=>by
     rw[hA x (by omega) (by omega),aR];exact⟨fun h=>h.resolve_left (by omega),.inr⟩
    obtain⟨g1,g2⟩:=sub r0 k' Vq iv hA0;have RR:xN xs A n=true:=by
     rw[eo,Vl,e,if_neg (by decide),ec,An hri Vq fun r hr=>by rw[bL];exact kr r hr,dW];omega
    refine⟨top g1 RR,?_⟩;have:=GM (xs:=xs) (A:=A) (rc:=fun r=>Wq xs A f r.toNat) (c:=0) hri hp kr;have e2:((1:Int)==2)=false:=rfl;rw[e2];rw[g2]at this;omega
   ·rw[e]at hW hA⊢;rw[if_pos rfl]at hW;rw[if_neg (by decide)]at hA⊢;have xP:=Am (W xs) rs k;have tD:∀r,r∈rs->0<W xs r:=fun r hr=>by rw[<-Rn]at hr;exact hF.Re hr
    let dg:=(jo (W xs) rs k).1
    have hdg:dg=(jo (W xs) rs k).1:=rfl;rw[<-hdg]at hA xP⊢;have zp:∀p,p∈rs.zip dg->p.1∈rs/\p.2<W xs p.1:=fun p hp=>by
     refine⟨(Se hp).1,?_⟩;obtain⟨i,hi⟩:=eT hp;have:=iZ.1 hi;exact DX tD this.1 this.2
    have hA0:∀p,p∈rs.zip dg->∀x:Int,p.1<=x->x<Gs xs p.1->(x∈A↔x∈jf xs f p.1.toNat p.2):=fun p hp x h1 h2=>by
     have hb:=rin p.1 (zp p hp).1;rw[hA x (by omega) (by omega),aR,eI];constructor
     ·rintro(h | ⟨q,hq,h⟩)
      ·omega
      ·have h3:=inb q.1 q.2 (zp q hq).1 x h;have hqp:q=p:=by
        obtain⟨i,hi⟩:=eT hp;obtain⟨j,hj⟩:=eT hq;have Au:=iZ.1 hi;have NE:=iZ.1 hj;have Hh:=(aZ.1 Au.1).1;have ja:=(aZ.1 NE.1).1;have ei:rs[i]=p.1:=by have:=Au.1;rw[aV Hh]at this;exact yB this
        have ej:rs[j]=q.1:=by have:=NE.1;rw[aV ja]at this;exact yB this
        have rk:i=j:=by
         refine gw fun hh=>?_;rcases G7 hh with hh | hh
         ·have:=eU.1 SA i j Hh ja hh;rw[ei,ej]at this;omega
         ·have:=eU.1 SA j i ja Hh hh;rw[ei,ej]at this;omega
        subst rk;rw[hi]at hj;exact(yB hj).symm
       rw[hqp]at h;exact h
     ·intro h;exact .inr ⟨p,hp,h⟩
    have Vp:=fun p hp=>sub p.1 p.2 (zp p hp).1 (zp p hp).2 (hA0 p hp);have RR:xN xs A n=true:=by
     rw[eo,Vl,e,if_pos rfl,ec,dW,List.countP_eq_length];intro r hr;rw[bL];obtain⟨i,hi,rfl⟩:=rv hr;have hb:=rin _ hr;have hz:(rs[i],dg[i]'(by omega))∈rs.zip dg:=bD (iZ.2 ⟨aV hi,aV (by omega)⟩);refine(hA0 _ hz _ (nJ _) hb.2.1).2 ?_;obtain⟨q,t,hq,_⟩:=SK hr;rw[hq,aX];exact vA _ _ _
    refine⟨top (fun x hx=>?_) RR,?_⟩
    ·obtain⟨p,hp,hx⟩:=eI.1 hx;exact(Vp p hp).1 x hx
    ·have:=GP (xs:=xs) (A:=A) (rc:=fun r=>Wq xs A f r.toNat) (l:=rs) (k:=k) (c:=0) fun p hp=>(Vp p hp).2;rw[GN,Nat.div_eq_of_lt (by omega),xX,fx,bM]at this;exact this
theorem Uw(hF:Sd xs){k:Nat}(hk:k<W xs 0):Lg xs (jf xs xs.length 0 k)/\Wq xs (jf xs xs.length 0 k) xs.length 0=k:=by
 obtain⟨s,hs,ke⟩:=hF.rt;have hu:=hF.fo.up 0 s hs;obtain⟨h1,h2⟩:=QW hF xs.length 0 k hs (by omega) (by rw[ke];rfl) (by exact_mod_cast hk) _ fun x _ _=>Iff.rfl;obtain⟨h3,h4⟩:=DV hF xs.length 0 k hs;refine⟨⟨by exact_mod_cast vA (xs:=xs) xs.length 0 k,h3,fun x hx=>?_⟩,h2⟩;obtain⟨a1,a2,a3⟩:=h1 x hx;have:=h4 x hx;exact⟨by omega,by omega,a1,a2.imp (fun h=>by simpa using h) id,a3⟩
end
def oq:aJ:=[99,104,97,114,116,32,99,32,123,32,105,110,105,116,105,97,108,32,97,59,32,115,116,97,116,101,32,97,32,123,32,111,110,32,120,32,45,62,32,100,59,32,111,110,32,121,32,45,62,32,104,59,32,125,32,112,97,114,97,108,108,101,108,32,112,32,123,32,115,116,97,116,101,32,113,32,123,32,105,110,105,116,105,97,108,32,98,59,32,115,116,97,116,101,32,98,32,123,32,125,32,115,116,97,116,101,32,100,32,123,32,125,32,125,32,115,116,97,116,101,32,114,32,123,32,125,32,104,105,115,116,111,114,121,32,104,32,45,62,32,113,59,32,125,32,125]
def Y4(p:Pl):List Int:=gX (lc p.sp (Hd p fun _=>none) p.sp.length ([0].foldl (sB p fun _=>none) 0))
def aed(p:Pl):List Int:=gX (lc p.sp (Hd p fun _=>none) p.sp.length 1)
def Wr:Bool:=decide ((mG oq).1=0)&&Yz oq&&decide ((dB (dE oq).1).ro.length=2)&&decide (((dB (dE oq).1).ro[0]?).map (fun r:Ro=>r.dom)=some 0)&&decide ((aed (dB (dE oq).1)).length=2)&&decide ((Y4 (dB (dE oq).1)).length=4)&&decide ((Y4 (dB (dE oq).1))[2]? =some 5)
theorem Ux:Wr=true:=by kernel_rfl
theorem Iv(w:ay)(hE:Er w)(hT:Tb w):aB au 28 #[] w fun e w'=>e=aq (ao true)/\aA [] w w':=by
 refine ret (ajH _ _ ?_);have nE:=Ux;unfold Wr at nE;simp only[aQ,bL]at nE;obtain⟨⟨⟨⟨⟨⟨h1,h2⟩,h3⟩,h4⟩,h5⟩,h6⟩,h7⟩:=nE;have h2:=YA h2;have hc:wm oq=(dE oq).1:=by unfold wm;rw[if_pos h1]
 have hl:(jl (dE oq).1).1=0:=by
  unfold mG at h1;split at h1
  ·exact h1
  ·rename_i h;exact absurd h1 h
 refine(Ue oq h2.1 h2.2 hE hT).mono ?_;rintro _ w0 ⟨vs,cs,rfl,hC,cK⟩;rw[hc]at hC;obtain⟨xe,xl,xm,xk,rfl,_⟩:=hC.root;have z0:=cK.size;refine⟨vs,_,_,_,_,xe,xl,xm,xk,_,_,_,rfl,fun k0 k1 w1 gU fi ke jH cF=>?_⟩;have z1:=cF.size;have o1:=cK.cz cF;have hC1:ChR true 15 w1 (Fr w.heap.size) (dE oq).1 vs _:=⟨hC.vars.keep gq (by decide) fun k _ bX=>cF.block k bX (by simp),(cN true 15).keep hC.root fun k _ bX=>cF.block k bX (by simp)⟩
 refine(Qv (D:=14) hC1.off h2.1 h2.2 (hE.only o1) (hT.only o1)).mono ?_;rintro _ w2 ⟨⟨s,si,ph,sr,rfl,hP⟩,dh⟩;have z2:=dh.size;have o2:=o1.cz dh;refine⟨s,si,ph,sr,_,_,rfl,dh.same (by simp;omega),fun k2 k3 w3 tF wM yx wN dx=>?_⟩;have z3:=dx.size;have o3:=o2.cz dx;have I8:=(hP hl).o0 dx;have N:=QC hl;have D:=QN N (tQ.none _);refine(QM I8 D).mono ?_;rintro _ w4 ⟨⟨t9,rfl,ht9⟩,dP⟩;have z4:=dP.size;obtain⟨y,w5,f1,f2,f3⟩:=xn w4 (a:=0) ⟨by omega,by omega⟩;have z5:=f2.size;have hP5:=(I8.o0 dP).o0 f2;refine⟨t9,rfl,dP.same (by simp;omega),y,w5,f1,f2.same (by simp;omega),(GI (L:=[]) hP5 D (SliceF.nil B5 2 w5 (fun _=>False)) (by simp) (f3.slice bN)).mono ?_⟩;rintro _ w6 ⟨⟨t11,rfl,R6⟩,ez⟩;have hP6:=hP5.o0 ez;have ZA:gX (lc (dB (dE oq).1).sp (Hd (dB (dE oq).1) (fQ [])) (dB (dE oq).1).sp.length ([0].foldl (sB (dB (dE oq).1) (fQ [])) 0))=Y4 (dB (dE oq).1):=rfl;have e9:gX (lc (dB (dE oq).1).sp (Hd (dB (dE oq).1) fun _=>none) (dB (dE oq).1).sp.length 1)=aed (dB (dE oq).1):=rfl;rw[ZA]at R6;rw[e9]at ht9;have n11:=R6.len;have n9:=ht9.len;have nr:=hP6.ro.len;obtain⟨r0,Vq⟩:∃r,(dB (dE oq).1).ro[0]? =some r:=⟨_,aV (by omega)⟩
 rw[Vq]at h4;simp only[dk,ba]at h4;obtain⟨ad,tg,a1,a2,_⟩:=QG hP6.ro Vq;obtain⟨wQ,b1,b2⟩:=iQ (R6.slice bN) (i:=2) h7;refine⟨t11,rfl,ez.same (by simp;omega),ad,fun _=>a1,r0.dom,fun _=>a2.dZ 6 _ rfl,wQ,fun _=>b1,5,fun _=>b2,?_,((o3.cz dP).cz f2).cz ez⟩;rw[h1,hl,h4,nr,h3,n9,h5,n11,h6];rfl
abbrev aee:Rp (Int×List Int×Unit):=rPair rInt (rPair (rSl rInt 1 8) rUnit)
theorem Y5{w:ay}{F:aL}{s:Sl}{l:List (Int×List Int×Unit)}(h:aD aee 2 w F s l){i:Nat}{x:Int×List Int×Unit}(hx:l[i]? =some x):∃ad,∃t:Sl,dL s (i:Int) 2 ad/\aE w ad [O ae x.1,t.v]/\aD rInt 1 w F t x.2.1:=by
 have bX:=(aZ.1 hx).1;have hl:=h.len;obtain⟨ad,y,cs,g1,g2,g3,g4,g5,g6⟩:=h.get (bE i) (by omega);rw[aX,hx]at g2;injection g2 with g2;subst g2;obtain⟨c1,c2,rfl,⟨rfl,_⟩,c3,c4,rfl,⟨t,rfl,ht,_⟩,rfl⟩:=g6;exact⟨ad,t,g1,g5,ht⟩
theorem mem_sum{α:Type}{f:α->Nat}{x:α}:∀{l:List α},x∈l->f x<=(l.map f).sum
 | a::l,h=>by
  rw[bF,cy];rcases aR.1 h with rfl | h
  ·omega
  ·have:=mem_sum (f:=f) h;omega
structure PaOk (xs:List cM) (u:ay) (l:Sl) (L:List (Int×List Int)):Prop where
 sl:aD B5 2 u (fun _=>True) l L
 g:∀x,x∈L->gI x.1
 ok:tQ xs (fQ L)
 len:∀k l,fQ L k=some l->l.length<=1000000
theorem PaOk.o0{xs:List cM}{u u':ay}{l:Sl}{L:List (Int×List Int)}(h:PaOk xs u l L)(hO:aA [] u u'):PaOk xs u' l L:=
 ⟨SliceF.only lM (by decide) h.sl hO (by simp),h.g,h.ok,h.len⟩
theorem PaOk.nil(xs:List cM)(u:ay):PaOk xs u Sl.nil []:=⟨SliceF.nil _ _ _ _,fun _ h=>(by cases h),tQ.none xs,fun _ _ h=>(by cases h)⟩
theorem QX{xs:List cM}{act left:List Int}{M:xo}(hl:xs.length<=64)(h:∀k l,M k=some l->l.length<=1000000):∀k l,uk xs act left M k=some l->l.length<=1000000:=fun k l hk=>by
 unfold uk at hk;split at hk
 ·rename_i t _;split at hk
  ·injection hk with hk;have:=Lk xs t act;unfold Ur at this;rw[<-hk];omega
  ·exact h k l hk
 ·exact h k l hk
section
variable {w:ay} {F G H:aL} {s si ph sr sa sl l4:Sl} {c:Ch} {act left:List Int} {L:List (Int×List Int)}
theorem QY(xz:aD nq 5 w F s (cX c))(sd:Sd (cX c))(i:Int):aB au 21 #[s.v,O ae ((bits .and ae i 1048575).tmod ((W (cX c) 0:Nat):Int))] w fun e w'=>(∃(sa:Sl) (act:List Int),e=aq (ak #[sa.v,ao true])/\dz w.heap.size w' sa act/\Lg (cX c) act/\act.length<=64)/\aA [] w w':=by
 obtain⟨s0,EA,_⟩:=sd.rt;have ma:=sd.le;have hW:1<=W (cX c) ((0:Nat):Int):=sd.Rc EA;have hW:1<=W (cX c) 0:=hW;have LF:0<=(bits .and ae i 1048575).tmod ((W (cX c) 0:Nat):Int):=Int.tmod_nonneg _ (Y2 i);have NL:(bits .and ae i 1048575).tmod ((W (cX c) 0:Nat):Int)<((W (cX c) 0:Nat):Int):=Int.tmod_lt_of_pos _ (by omega);refine(aec (xs:=cX c) xz sd _ fun q=>by have:=Ut sd (cX c).length 0 q EA;omega).mono ?_;rintro _ w6 ⟨⟨sa,bt,act,rfl,R7,hbt,hae⟩,ez⟩;have hbt:bt=true:=hbt.2 ⟨LF,NL⟩;rw[if_pos hbt]at hae;have A:Lg (cX c) act:=by
  rw[hae];exact(Uw sd (by omega)).1
 have SJ:act.length<=64:=by rw[<-MX sd ma A];exact B0 _
 exact⟨⟨sa,act,by rw[hbt],R7,A,SJ⟩,ez⟩
theorem Y6(N:Snd c (cX c) (Ev c))(hP:PlR w F s si ph sr (dB c))(A:Lg (cX c) act)(ha:aD rInt 1 w G sa act)(SJ:act.length<=64)(hlf:aD rInt 1 w H sl left)(SC:left.length<=2000000)(hL:PaOk (cX c) w l4 L):
  aB au 29 #[aj #[s.v,si.v,ph.v,sr.v],sa.v,sl.v,l4.v] w fun e w'=>(∃(t:Sl) (L':List (Int×List Int)),e=aq t.v/\PaOk (cX c) w' t L')/\aA [] w w':=by
 refine(MW hP N.sd A ha (by omega) hlf SC hL.sl hL.g hL.len).mono ?_;rintro _ w' ⟨⟨t,L',rfl,h1,h2,h3⟩,hO⟩;exact⟨⟨t,L',rfl,(h1.slice lM).mono lM fun _ _=>trivial,h3,by rw[h2];exact N.Ze hL.ok A,by rw[h2];exact QX N.le hL.len⟩,hO⟩
end
theorem Y7{xs:List cM}{a b:Int}(h:kB xs a b=true):wB xs a b=true:=by
 obtain⟨i,j,rfl,e2,e3,e4⟩:=nT.1 h;exact YX.2 ⟨j,e2,e3,e4⟩
theorem pcomes_c{w:ay}{x:Ch×Nat}{cs:aK}{sst:Sl}{sts:List (Int×List Int×Unit)}(hx:rChU w (fun _=>True) x cs)(hb:x.2<=1048576)(hS:aD aee 2 w (fun _=>True) sst sts)(rA:∀x,x∈sts->x.2.1.length<=1048576)(k my:Int)(hE:Er w)(hT:Tb w):aB au 9 #[aj cs.toArray,sst.v,O ae k,O ae my] w fun e w'=>e=aq (ao true)/\aA [] w w':=by
 obtain⟨c,m⟩:=x;obtain⟨D,vs,cs,rfl,hC,hn,hs⟩:=hx;dsimp only at hC hn hs hb;have hC0:=hC;cases D with
 | zero=>exact hC.root.elim
 | succ D=>
 obtain⟨en,lv,mv,kids,rfl,_⟩:=hC0.root;refine ret (ajA _ _ _ _ _ _ _ _ _ _ _ _ _ _ _ ?_);have keep:∀{w':ay},aA [] w w'->ChR false (D+1) w' (fun _=>True) c vs (om c.root.b.k c.root.b.nm c.root.b.ini c.root.b.dft en lv mv kids c.root.b.a):=fun hO=>⟨hC.vars.keep gq (by decide) fun k _ bX=>hO.block k bX (by simp),(cN false _).keep hC.root fun k _ bX=>hO.block k bX (by simp)⟩
 intro k0 w0 gU fi cK;have z0:=cK.size;refine(Iv w0 (hE.only cK) (hT.only cK)).mono ?_;rintro _ w1 ⟨rfl,cF⟩;have z1:=cF.size;have o1:=cK.cz cF;refine⟨true,rfl,cF.same (by simp;omega),(Qv (keep o1) hn (by omega) (hE.only o1) (hT.only o1)).mono ?_⟩;rintro _ w2 ⟨⟨s,si,ph,sr,rfl,hP⟩,dh⟩;have z2:=dh.size;have o2:=o1.cz dh;refine⟨s,si,ph,sr,_,_,rfl,dh.same (by simp;omega),fun k1 k2 w3 ke jH tF wM dx=>⟨fun _=>⟨rfl,o2.cz dx⟩,fun hc=>?_⟩⟩;simp only[gP,dF]at hc;have hl:(jl c).1=0:=by simpa using hc.1.1.2
 have Vq:0<=my:=by omega
 have z3:=dx.size;have o3:=o2.cz dx;have I8:=(hP hl).o0 dx;have N:=QC hl;have sd:=N.sd;have ma:(cX c).length<=64:=N.le;have hrn:=I8.ro.len;obtain⟨rn,rfl⟩:∃n:Nat,my=n:=⟨my.toNat,by omega⟩
 have RZ:rn<(dB c).ro.length:=by omega
 obtain⟨r,hr⟩:∃r,(dB c).ro[rn]? =some r:=⟨_,aV RZ⟩
 have Zu:r∈(dB c).ro:=bD hr;obtain⟨s0,EA,_⟩:=sd.rt;have hW:1<=W (cX c) ((0:Nat):Int):=sd.Rc EA;have hW:1<=W (cX c) 0:=hW;refine(Uv (xs:=cX c) I8.sp sd).mono ?_;rintro _ w4 ⟨rfl,dP⟩;have z4:=dP.size;have o4:=o3.cz dP;have hSn:=hS.len;have hSc:=hS.cap;have hSb:=hS.big;refine⟨_,rfl,dP.same (by simp;omega),fun hh=>absurd (aP hh) (by omega),fun _=>⟨fun kv l i u=>∃(j:Nat) (L:List (Int×List Int)),i=(j:Int)/\kv+j=8/\j<=8/\PaOk (cX c) u l L/\aA [] w4 u,8,⟨0,[],rfl,rfl,by omega,PaOk.nil _ _,Only.refl _ _⟩,?_⟩⟩;rintro kv l4 _ w5 ⟨j,L,rfl,tX,hj,hL,eE⟩;have z5:=eE.size;have p5:=dP.cz eE;have o5:=o3.cz p5;refine⟨fun pu=>?_,fun pu=>⟨by omega,fun dI eH=>?_⟩⟩
 ·rw[aQ,cm,cm]at pu;obtain⟨x,hx⟩:∃x,sts[j]? =some x:=⟨_,aV (by omega)⟩
  have IG:=rA x (bD hx);obtain⟨ad,t,a1,a2,a3⟩:=Y5 hS hx;refine⟨ad,a1,fun w6 ez=>?_⟩;have z6:=ez.size;have o6:=o5.cz ez;have hP6:=(I8.o0 p5).o0 ez;refine⟨_,(It a2 o6).dZ 0 _ rfl,by omega,(QY hP6.sp sd x.1).mono ?_⟩;rintro _ w7 ⟨⟨sa,act,rfl,R7,A,SJ⟩,fI⟩;have z7:=fI.size;refine⟨sa,true,rfl,fI.same (by simp;omega),ad,a1,fun w8 gn=>?_⟩;have z8:=gn.size;have p8:=(ez.cz fI).cz gn;have o8:=o5.cz p8;refine⟨t,(It a2 o8).dZ 1 _ rfl,(Y6 N (((I8.o0 p5).o0 p8)) A (kI (R7.slice bN) gn) SJ (kI a3 o8) (by omega) (hL.o0 p8)).mono ?_⟩;rintro _ w9 ⟨⟨t9,L',rfl,hL'⟩,gv⟩;exact⟨t9,rfl,gv.same (by simp;omega),kv-1,by omega,j+1,L',by rw[gD (by omega) (by omega)];rfl,by omega,by omega,hL',(eE.cz p8).cz gv⟩
 ·have NP:=eH.size;have ZG:=p5.cz eH;have o10:=o3.cz ZG;have Eh:=I8.o0 ZG;have AE:=hL.o0 eH;have D10:=QN N AE.ok;refine(QY Eh.sp sd k).mono ?_;rintro _ dJ ⟨⟨sa,act,rfl,R7,A,SJ⟩,dT⟩;have Co:=dT.size;have aom:=Eh.o0 dT;obtain⟨ad,tg,a1,a2,a3⟩:=QG aom.ro hr;refine⟨sa,true,rfl,dT.same (by simp;omega),ad,a1,_,_,_,_,_,tg,_,a2,fun k6 fg hk6 Vh fj=>?_⟩;have z12:=fj.size;obtain⟨y,fC,f1,f2,f3⟩:=xn fg (a:=(rn:Int)) ⟨by omega,by have:=I8.ro.cap;have:=I8.ro.big;omega⟩;have SE:=f2.size;have p13:=(dT.cz fj).cz f2;have aon:=Eh.o0 p13;refine⟨y,fC,f1,f2.same (by simp;omega),(GI aon D10 (AE.o0 p13).sl AE.g (f3.slice bN)).mono ?_⟩;rintro _ fT ⟨⟨t11,rfl,R6⟩,dU⟩;have ZL:=dU.size;have WK:=p13.cz dU;have aoo:=Eh.o0 WK;refine⟨t11,rfl,dU.same (by simp;omega),(Uj aoo sd.fo (kI (R7.slice bN) ((fj.cz f2).cz dU)) (by omega) rn).mono ?_⟩;rintro _ iJ ⟨⟨t12,rfl,aop⟩,iu⟩;have z15:=iu.size;have p15:=WK.cz iu;have aoq:=Eh.o0 p15;have hgr:=D10.ro r Zu;refine⟨t12,rfl,iu.same (by simp;omega),(Ul aoq D10 (AE.o0 p15).sl AE.g (kI a3 (((fj.cz f2).cz dU).cz iu)) hgr).mono ?_⟩;rintro _ iX ⟨⟨t13,rfl,aor⟩,ig⟩;have z16:=ig.size;have p16:=p15.cz ig;have o16:=o10.cz p16;have aos:=Eh.o0 p16;have q16:=iu.cz ig;have AB:=kI (R6.slice bN) q16;have AD:=kI (aop.slice bN) ig;have tj:=aor.slice bN;have SI:=a3.len;have n11:=AB.len;have n12:=AD.len;have n13:=tj.len;have RO:=AB.cap;have c12:=AD.cap;have c13:=tj.cap;have WI:=AB.big;have WJ:=AD.big;have Zx:=tj.big;have oh:=B0 (lc (dB c).sp (Hd (dB c) (fQ L)) (dB c).sp.length ([(rn:Int)].foldl (sB (dB c) (fQ L)) 0));have ql:(nZ (dB c).sp (dB c).ro act rn).length<=act.length:=by
   unfold nZ;rw[if_neg (by omega),aX,hr];dsimp only;split
   ·exact bA _
   ·exact cQ _ _
  have aot:sB (dB c) (fQ L) 0 rn=if r.dom<0 then 0 else jV (dB c).sp r.dom (r.tg.flatMap (dX (dB c).sp (dB c).dft (fQ L))) 0:=by
   unfold sB;rw[if_neg (by omega),aX,hr]
  have aou:nZ (dB c).sp (dB c).ro act rn=if r.dom<0 then[]else act.filter fun x=>kB (dB c).sp x r.dom:=by
   unfold nZ;rw[if_neg (by omega),aX,hr]
  rw[mY,List.foldl_nil,aot]at AB n11 oh;rw[aou]at AD n12 ql;have R8:(r.tg=[]/\r.dom= -1)∨(r.tg≠[]/\∃d:Nat,r.dom=d):=(N.Ar AE.ok rfl Zu).imp id fun⟨h,_,_,d,_,_,e,_⟩=>⟨h,d,e⟩
  generalize hTd:lc (dB c).sp (Hd (dB c) (fQ L)) (dB c).sp.length (if r.dom<0 then 0 else jV (dB c).sp r.dom (r.tg.flatMap (dX (dB c).sp (dB c).dft (fQ L))) 0)=T at*
  have facts:(r.tg≠[]->(r.tg.flatMap (dX (cX c) (dB c).dft (fQ L)))≠[])/\(∀g,g∈r.tg.flatMap (dX (cX c) (dB c).dft (fQ L))->∃n:Nat,g=n/\n<64/\T.testBit n=true)/\(∀m:Nat,T.testBit m=true->kB (cX c) m r.dom=true)/\(r.tg=[]->T=0):=by
   rcases R8 with⟨e1,e2⟩ | ⟨h1,d,e2⟩
   ·rw[if_pos (by omega),B7]at hTd;refine⟨fun h=>absurd e1 h,fun g hg=>?_,fun m hm=>?_,fun _=>hTd.symm⟩
    ·rw[e1]at hg;cases hg
    ·rw[<-hTd,lS]at hm;cases hm
   ·rw[if_neg (by omega)]at hTd;obtain⟨_,g2,g3,g4⟩:=YU N AE.ok Zu h1 hTd.symm;exact⟨fun _=>g2,g3,g4,fun h=>absurd h h1⟩
  obtain⟨k1',k2',k3',k4'⟩:=facts;have I6:∀g:Int,g∈gX (qZ (r.tg.flatMap (dX (dB c).sp (dB c).dft (fQ L))))↔g∈r.tg.flatMap (dX (cX c) (dB c).dft (fQ L)):=fun g=>by
   rw[lK];constructor
   ·rintro⟨n,rfl,_,h⟩;rw[qc,cm]at h;exact h.2
   ·intro h;obtain⟨n,e,h64,_⟩:=k2' g h;subst e;refine⟨n,rfl,h64,?_⟩;rw[qc,cm];exact⟨h64,h⟩
  refine⟨t13,rfl,ig.same (by simp;omega),fun hh=>?_,fun _=>?_⟩
  ·exfalso;rcases R8 with⟨e1,e2⟩ | ⟨h1,d,e2⟩
   ·have t0:tg.n=0:=by rw[SI,e1];rfl
    have x11:t11.n=0:=by rw[n11,k4' e1,GJ];rfl
    have x12:t12.n=0:=by rw[n12,if_pos (by omega)];rfl
    rw[t0,x11,x12,e2]at hh;revert hh;decide
   ·have t0:tg.n≠0:=by
     rw[SI];exact fun e=>h1 (bO e)
    have e3:(((tg.n:Nat):Int)==0)=false:=by rw[beq_eq_false_iff_ne];omega
    have e4:(r.dom==(-1))=false:=by rw[beq_eq_false_iff_ne];omega
    rw[e3,e4]at hh;cases hh
  ·refine⟨fun kv i u=>∃q:Nat,i=(q:Int)/\kv+q=t13.n/\q<=t13.n/\aA [] iX u,t13.n,⟨0,rfl,by omega,bA _,Only.refl _ _⟩,?_⟩;rintro Ek _ fR ⟨q,rfl,aaL,hq,iY⟩;have z17:=iY.size;refine⟨fun I3=>?_,fun I3=>?_⟩
   ·have I3:=aP I3;have hql:q<(gX (qZ (r.tg.flatMap (dX (dB c).sp (dB c).dft (fQ L))))).length:=by omega
    obtain⟨ad3,d1,d2⟩:=iQ (kI tj iY) (aV hql);refine⟨ad3,d1,_,d2,(YW (kI AB iY) _ (by omega)).mono ?_⟩;rintro _ u ⟨rfl,hu⟩;obtain rfl:fR=u:=hu.symm;refine⟨_,rfl,fun _ _=>rfl,fun hf=>?_,fun _=>⟨Ek-1,by omega,q+1,by rw[gD (by omega) (by omega)];rfl,by omega,by omega,iY⟩⟩;exfalso;have hm:=(I6 _).1 (eJ hql);obtain⟨n,e,h64,Vo⟩:=k2' _ hm;rw[bK (lK.2 ⟨n,e,h64,Vo⟩)]at hf;cases hf
   ·obtain⟨y14,jO,g1,g2,g3⟩:=L1 (P:=au) (t:=32) (e:=3) (i:=Tryz.t3) (by kernel_rfl) (by kernel_rfl) rInt 1 fR (fun _=>False);have z19:=g3.size;have i11:=kI (SliceF.inHeap bN (kI AB iY) (by decide)) g3;have i12:=kI (SliceF.inHeap bN (kI AD iY) (by decide)) g3;have avt:(if r.dom<0 then[]else act.filter fun x=>kB (dB c).sp x r.dom).length<=64:=by omega
    obtain⟨Rr,jm,m1,m2,m3,m4⟩:=Qs (is:=[]) g2 (by omega) i11 (fun k hk hA=>by
     have h1:=(g2.blk hA).1;have h2:=hk.2;dsimp only at h1;omega) (by rw[cO];omega)
    have z20:=m3.size;have aaZ:∀k,jM Rr k->fR.heap.size<=k:=fun k hA=>by
     rcases m4 k hA with h | h
     ·exact(g2.blk h).1
     ·omega
    have geY:∀k,jM y14 k->fR.heap.size<=k:=fun k hA=>(g2.blk hA).1;rw[cr]at m2;obtain⟨M9,kV,n1,n2,n3,n4⟩:=Qs m2 (by omega) (SliceF.mw bN (by decide) i12 m3 fun k hk _ hA=>by
     have:=geY k hA;have:=hk.2;omega) (fun k hk hA=>by
     have:=aaZ k hA;have:=hk.2;omega) (by omega)
    have z21:=n3.size;have Xe:aA [] fR kV:=((g3.pd (m3.mono (G:=fun q=>fR.heap.size<=q) fun q _ e=>geY q e)).trans (n3.mono (G:=fun q=>fR.heap.size<=q) fun q _ e=>aaZ q e) fun _ h=>.inl h).only fun q hq=>hq;have o1:∀{a b:ay} {t:Sl},aF (jM t) a b->(∀k,jM t k->fR.heap.size<=k)->∀q,q<fR.heap.size->q<a.heap.size->b.heap[q]? =a.heap[q]? :=fun h hg q h1 h2=>h.block q h2 fun e=>by have:=hg q e;omega
    have sm:∀{a b:ay} {t:Sl},aF (jM t) a b->(∀k,jM t k->fR.heap.size<=k)->fR.heap.size<=a.heap.size->ci [k0,k1,k2,k6] a b:=fun h hg hz q hq=>o1 h hg q (by simp at hq;omega) (by simp at hq;omega);have Vt:=n2.slice bN;have n16:=Vt.len;have c16:=Vt.cap;have b16:=Vt.big;have jw:∀x,x∈(gX T++if r.dom<0 then[]else act.filter fun x=>kB (dB c).sp x r.dom)->kB (cX c) x r.dom=true:=fun x hx=>by
     rcases ch.1 hx with hx | hx
     ·obtain⟨n,rfl,_,hb⟩:=lK.1 hx;exact k3' n hb
     ·split at hx
      ·cases hx
      ·exact(dG.1 hx).2
    refine⟨y14,jO,g1,g3.same (by simp;omega),Rr,jm,m1,sm m3 geY (by omega),M9,kV,n1,sm n3 aaZ (by omega),fun kv i u=>∃q:Nat,i=(q:Int)/\kv+q=M9.n/\q<=M9.n/\aA [] kV u,M9.n,⟨0,rfl,by omega,bA _,Only.refl _ _⟩,?_⟩;rintro kv3 _ oS ⟨q2,rfl,avv,hq2,Az⟩;have o22:=((o16.cz iY).cz Xe).cz Az;refine⟨fun WW=>?_,fun WW=>⟨?_,o22⟩⟩
    ·have WW:=aP WW;have hql:q2<(gX T++if r.dom<0 then[]else act.filter fun x=>kB (dB c).sp x r.dom).length:=by omega
     obtain⟨ad4,d1,d2⟩:=iQ Vt (aV hql);refine⟨ad4,d1,fun nH jX=>⟨_,It d2 (Az.cz jX),(Il ((((aos.o0 iY).o0 Xe).o0 Az).o0 jX).sp _ _).mono ?_⟩⟩;rintro _ u ⟨rfl,hu⟩;obtain rfl:nH=u:=hu.symm;refine⟨_,rfl,fun _ _=>rfl,fun hf=>?_,fun _=>⟨kv3-1,by omega,q2+1,by rw[gD (by omega) (by omega)];rfl,by omega,by omega,Az.cz jX⟩⟩;exfalso;have hwb:=Y7 (jw _ (eJ hql));have hf:(!wB (cX c) (gX T++if r.dom<0 then[]else act.filter fun x=>kB (dB c).sp x r.dom)[q2] r.dom)=true:=hf;rw[hwb]at hf;cases hf
    ·congr 1;by_cases e:r.tg=[]
     ·have t0:tg.n=0:=by rw[SI,e];rfl
      rw[t0];rfl
     ·obtain⟨g,hg⟩:=fA _ (k1' e);have:=io.2 (j8 ((I6 g).2 hg));rw[bK (by omega),xY]
end Go.Proofs.YtbkjcdocjfknfaaGreatDoor.Con
