import Derived.Test.YtbkjcdocjfknfaaGreatDoorQc14
set_option linter.unusedSectionVars false
namespace Go.Proofs.YtbkjcdocjfknfaaGreatDoor.Con
open Go.Value renaming int->O,string->ab,pointer->ae,agg->ah,tuple->ai,bool->aj
open Go.IntKind renaming i64->U,wrap->ar
open Go.Ending renaming returned->ak
open _root_.ByteArray renaming mk->ao
open _root_.Go.Proofs.Tryz renaming prog->aq
open Go.Instr renaming buildSlice->au
open Go renaming World->av,Value->aw,Calls->az
open Go.Kt renaming Only->ay,SliceF->aA,Cells->aB,OnlyP->aD,Blk->aF
open Go Go.RowKit Go.Kt Go.Kt.V Go.Proofs.YtbkjcdocjfknfaaGreatDoor.Vc
set_option linter.unusedSimpArgs false
set_option linter.unusedVariables false
set_option maxRecDepth 100000
set_option linter.unusedSectionVars false
set_option maxHeartbeats 1600000
section
variable {xs:List cN}
theorem Bb{p:Int->Bool}{r0:Int}:∀{l:List Int},l.Pairwise (· <·)->r0∈l->(∀r,r∈l->(p r=true↔r=r0))->l.countP p=1
 | [],_,h,_=>by cases h
 | x::l,hp,h,hi=>by
  rw[fN]at hp;rw[List.countP_cons];by_cases hx:x=r0
  ·subst hx;rw[if_pos ((hi x (.head _)).2 rfl)];have:l.countP p=0:=by
    rw[List.countP_eq_zero];intro r hr hpr;have h1:=(hi r (.tail _ hr)).1 hpr;have:=hp.1 r hr;omega
   omega
  ·have h':r0∈l:=by
    rw[aU]at h;exact h.resolve_left fun e=>hx e.symm
   rw[if_neg (fun e=>hx ((hi x (.head _)).1 e)),Bb hp.2 h' fun r hr=>hi r (.tail _ hr)]
theorem C1{V:Int->Nat}:∀{l:List Int} {k:Nat},k<gK V l->∃r k',pick V l k=some (r,k')
 | [],k,h=>by simp[gK]at h
 | x::l,k,h=>by
  rw[pick];by_cases hk:k<V x
  ·exact⟨_,_,if_pos hk⟩
  ·rw[if_neg hk];exact C1 (by rw[gK]at h;omega)
theorem HK{A:List Int}{rc:Int->Nat}{r0:Int}{k':Nat}:∀{l:List Int} {k c:Nat},l.Pairwise (· <·)->pick (W xs) l k=some (r0,k')->(∀r,r∈l->(r∈A↔r=r0))->Pq xs A false rc l c+k'=c+k+rc r0
 | [],k,c,_,h,_=>by cases h
 | x::l,k,c,hp,h,hi=>by
  rw[fN]at hp;rw[pick]at h;have e:Pq xs A false rc (x::l) c=if x∈A then c+rc x else Pq xs A false rc l (c+W xs x):=rfl
  rw[e];by_cases hk:k<W xs x
  ·rw[if_pos hk]at h;injection h with h;injection h with h1 h2;subst h1 h2;rw[if_pos ((hi x (.head _)).2 rfl)];omega
  ·rw[if_neg hk]at h;have hm:=(wx h).1;have hx:x≠r0:=fun e=>by
    have:=hp.1 r0 hm;omega
   rw[if_neg (fun hA=>hx ((hi x (.head _)).1 hA))];have:=HK (rc:=rc) (c:=c+W xs x) hp.2 h fun r hr=>hi r (.tail _ hr);omega
theorem HL{V:Int->Nat}:∀(l:List Int) (k:Nat),(jy V l k).2=k/ix V l
 | [],k=>by rw[jy,ix,Nat.div_one]
 | x::l,k=>by rw[jy,ix,HL l k,kj,KI]
theorem HM{A:List Int}{rc:Int->Nat}:∀{l:List Int} {k c:Nat},(∀p,p∈l.zip (jy (W xs) l k).1->rc p.1=p.2)->Pq xs A true rc l c+(jy (W xs) l k).2*ix (W xs) l=c*ix (W xs) l+k
 | [],k,c,_=>by simp[Pq,jy,ix]
 | x::l,k,c,h=>by
  have e:Pq xs A true rc (x::l) c=Pq xs A true rc l (c*W xs x+rc x):=rfl;rw[jy]at h⊢;rw[List.zip_cons_cons]at h;have hx:=h _ (.head _);have ih:=HM (l:=l) (k:=k) (c:=c*W xs x+rc x) (A:=A) fun p hp=>h p (.tail _ hp);rw[e,ix];have hx:rc x=(jy (W xs) l k).2 % W xs x:=hx;rw[hx]at ih⊢;generalize (jy (W xs) l k).2=q at*
  generalize ix (W xs) l=P at*
  have hq:=Nat.div_add_mod q (W xs x);have h1:q*P=(q/W xs x)*(W xs x*P)+(q % W xs x)*P:=by
   conv=>lhs;rw[<-hq]
   rw[eC,KI (W xs x) (q/W xs x),FD]
  have h2:(c*W xs x+q % W xs x)*P=c*(W xs x*P)+(q % W xs x)*P:=by rw[eC,FD]
  show Pq xs A true rc l (c*W xs x+q % W xs x)+q/W xs x*(W xs x*P)=c*(W xs x*P)+k;rw[h2]at ih;rw[h1]at ih;omega
theorem wz(f n k:Nat):(n:Int)∈jm xs f n k:=by
 cases f with
 | zero=>rw[jm];exact .head _
 | succ f=>rw[jm];exact .head _
theorem SR(hF:Sd xs):∀(f n k:Nat) {s:cN},xs[n]? =some s->xs.length<=n+f->Bq s.k=true->k<W xs n->∀A:List Int,(∀x:Int,(n:Int)<=x->x<s.en->(x∈A↔x∈jm xs f n k))->
  (∀x,x∈jm xs f n k->Bq (kd xs x)=true/\(x=n∨∀t,xs[x.toNat]? =some t->t.pa∈A)/\xu xs A x.toNat=true)/\Yw xs A f n=k
 | 0,n,k,s,hs,hf,_,_,A,_=>by
  have:=fJ hs;omega
 | f+1,n,k,s,hs,hf,ph,hk,A,hA=>by
  have hu:=hF.fo.up n s hs;have hW:=hF.aba n;have hkd:=ux hs;have hnA:(n:Int)∈A:=(hA n (iB _) hu.1).2 (wz _ _ _);have e0:jm xs (f+1) n k=(n:Int)::if kd xs n=1 then(match pick (W xs) (dz xs n) k with
   | some (r,k')=>jm xs f r.toNat k'
   | none=>[])else((dz xs n).zip (jy (W xs) (dz xs n) k).1).flatMap fun p=>jm xs f p.1.toNat p.2:=rfl
  have e1:Yw xs A (f+1) n=Pq xs A (kd xs n==2) (fun r=>Yw xs A f r.toNat) (dz xs n) 0:=rfl;have eo:xu xs A n=if kd xs n=2 then Pj xs A n==(dz xs n).length else Pj xs A n==min 1 (dz xs n).length:=rfl
  have ec:Pj xs A n=(dz xs n).countP fun r=>decide (r∈A):=rfl;have UT:∀{r:Int},r∈dz xs n->_:=fun{r} h=>hF.JR (n:=n) (r:=r) h;have Ii:(dz xs n).Pairwise fun a b=>Hr xs a<=b:=hF.uW n (nN xs n) fun r hr=>hr;have hri:=nN xs n;have sub:∀(r:Int) (d:Nat),r∈dz xs n->d<W xs r->(∀x:Int,r<=x->x<Hr xs r->(x∈A↔x∈jm xs f r.toNat d))->
    (∀x,x∈jm xs f r.toNat d->Bq (kd xs x)=true/\(∀t,xs[x.toNat]? =some t->t.pa∈A)/\xu xs A x.toNat=true)/\Yw xs A f r.toNat=d:=fun r d hr hd hAr=>by
   obtain⟨q,t,rfl,h2,h3,h4,h5,h6⟩:=UT hr;rw[aY];rw[aY,nY h2]at hAr;obtain⟨g1,g2⟩:=SR hF f q d h2 (by omega) h4 hd A hAr;refine⟨fun x hx=>?_,g2⟩;obtain⟨a1,a2,a3⟩:=g1 x hx;refine⟨a1,?_,a3⟩;rcases a2 with rfl | a2
   ·intro t' ht';rw[aY,h2]at ht';injection ht' with ht';rw[<-ht',h3];exact hnA
   ·exact a2
  have inb:∀(r:Int) (d:Nat),r∈dz xs n->∀x,x∈jm xs f r.toNat d->r<=x/\x<Hr xs r:=fun r d hr x hx=>by
   obtain⟨q,t,rfl,h2,_⟩:=UT hr;rw[aY]at hx;rw[nY h2];exact(EI hF f q d h2).2 x hx
  have rin:∀r,r∈dz xs n->(n:Int)<r/\r<Hr xs r/\Hr xs r<=s.en:=fun r hr=>by
   obtain⟨q,t,rfl,h2,_,_,h5,h6⟩:=UT hr;have:=hF.fo.up q t h2;rw[nY h2];exact⟨by omega,this.1,hF.fo.lam q hs h2 h5 (h6 s hs)⟩
  rw[e0]at hA⊢;rw[e1];rw[hkd]at hW hA⊢;have aql:s.k=1∨s.k=2:=by simpa[Bq]using ph
  generalize hrs:dz xs n=rs at*
  have top:∀{L:List Int},(∀x,x∈L->Bq (kd xs x)=true/\(∀t,xs[x.toNat]? =some t->t.pa∈A)/\xu xs A x.toNat=true)->xu xs A n=true->∀x,x∈(n:Int)::L->Bq (kd xs x)=true/\(x=n∨∀t,xs[x.toNat]? =some t->t.pa∈A)/\xu xs A x.toNat=true:=fun hL ho x hx=>by
   rw[aU]at hx;rcases hx with rfl | hx
   ·exact⟨by rw[hkd];exact ph,.inl rfl,by rw[aY];exact ho⟩
   ·obtain⟨a1,a2,a3⟩:=hL x hx;exact⟨a1,.inr a2,a3⟩
  by_cases h0:rs.length=0
  ·have hre:rs=[]:=cb h0;subst hre;have gu:k=0:=by
    rw[if_pos h0]at hW;omega
   subst gu;refine⟨?_,by cases(s.k==2)<;>rfl⟩;have ho:xu xs A n=true:=by
    rw[eo,ec];split<;>rfl
   split
   ·exact top (fun x hx=>by cases hx) ho
   ·exact top (fun x hx=>by cases hx) ho
  ·rw[if_neg h0]at hW;rcases aql with e | e
   ·rw[e]at hW hA⊢;rw[if_neg (by decide)]at hW;obtain⟨r0,k',hp⟩:=C1 (V:=W xs) (l:=rs) (k:=k) (by omega);obtain⟨Xm,iM⟩:=wx hp;rw[if_pos rfl,hp]at hA⊢;dsimp only at hA⊢;have hb:=rin r0 Xm;have jZ:∀r,r∈rs->(r∈A↔r=r0):=fun r hr=>by
     have hbr:=rin r hr;rw[hA r (by omega) (by omega),aU];constructor
     ·rintro(h | h)
      ·omega
      ·have h1:=inb r0 k' Xm r h;by_cases bS:r=r0
       ·exact bS
       ·have:r0<r:=by omega
        have h2:=dX.1 Ii;obtain⟨i,hi,rfl⟩:=Fq Xm;obtain⟨j,hj,rfl⟩:=Fq hr;have tW:i<j:=by
         refine gq fun hh=>?_;by_cases tW:i=j
         ·subst tW;omega
         ·have:=dX.1 hri j i hj hi (by omega);omega
        have:=h2 i j hi hj tW;omega
     ·rintro rfl;right;obtain⟨q,t,rfl,_⟩:=UT hr;rw[aY];exact wz _ _ _
    have hA0:∀x:Int,r0<=x->x<Hr xs r0->(x∈A↔x∈jm xs f r0.toNat k'):=fun x h1 h2=>by
     rw[hA x (by omega) (by omega),aU];exact⟨fun h=>h.resolve_left (by omega),.inr⟩
    obtain⟨g1,g2⟩:=sub r0 k' Xm iM hA0;have Ff:xu xs A n=true:=by
     rw[eo,hkd,e,if_neg (by decide),ec,Bb hri Xm fun r hr=>by rw[bM];exact jZ r hr,ey];omega
    refine⟨top g1 Ff,?_⟩;have:=HK (xs:=xs) (A:=A) (rc:=fun r=>Yw xs A f r.toNat) (c:=0) hri hp jZ;have e2:((1:Int)==2)=false:=rfl;rw[e2];rw[g2]at this;omega
   ·rw[e]at hW hA⊢;rw[if_pos rfl]at hW;rw[if_neg (by decide)]at hA⊢;have zf:=Ba (W xs) rs k;have ug:∀r,r∈rs->0<W xs r:=fun r hr=>by rw[<-hrs]at hr;exact hF.S8 hr
    let dg:=(jy (W xs) rs k).1
    have hdg:dg=(jy (W xs) rs k).1:=rfl;rw[<-hdg]at hA zf⊢;have zp:∀p,p∈rs.zip dg->p.1∈rs/\p.2<W xs p.1:=fun p hp=>by
     refine⟨(Ub hp).1,?_⟩;obtain⟨i,hi⟩:=eT hp;have:=je.1 hi;exact EN ug this.1 this.2
    have hA0:∀p,p∈rs.zip dg->∀x:Int,p.1<=x->x<Hr xs p.1->(x∈A↔x∈jm xs f p.1.toNat p.2):=fun p hp x h1 h2=>by
     have hb:=rin p.1 (zp p hp).1;rw[hA x (by omega) (by omega),aU,qu];constructor
     ·rintro(h | ⟨q,hq,h⟩)
      ·omega
      ·have h3:=inb q.1 q.2 (zp q hq).1 x h;have hqp:q=p:=by
        obtain⟨i,hi⟩:=eT hp;obtain⟨j,hj⟩:=eT hq;have Be:=je.1 hi;have OA:=je.1 hj;have Bg:=(aV.1 Be.1).1;have j8:=(aV.1 OA.1).1;have ei:rs[i]=p.1:=by have:=Be.1;rw[aW Bg]at this;exact zm this
        have ej:rs[j]=q.1:=by have:=OA.1;rw[aW j8]at this;exact zm this
        have tW:i=j:=by
         refine gq fun hh=>?_;rcases Nat.lt_or_gt_of_ne hh with hh | hh
         ·have:=dX.1 Ii i j Bg j8 hh;rw[ei,ej]at this;omega
         ·have:=dX.1 Ii j i j8 Bg hh;rw[ei,ej]at this;omega
        subst tW;rw[hi]at hj;exact(zm hj).symm
       rw[hqp]at h;exact h
     ·intro h;exact .inr ⟨p,hp,h⟩
    have Xs:=fun p hp=>sub p.1 p.2 (zp p hp).1 (zp p hp).2 (hA0 p hp);have Ff:xu xs A n=true:=by
     rw[eo,hkd,e,if_pos rfl,ec,ey,List.countP_eq_length];intro r hr;rw[bM];obtain⟨i,hi,rfl⟩:=Fq hr;have hb:=rin _ hr;have hz:(rs[i],dg[i]'(by omega))∈rs.zip dg:=bF (je.2 ⟨aW hi,aW (by omega)⟩);refine(hA0 _ hz _ (iB _) hb.2.1).2 ?_;obtain⟨q,t,hq,_⟩:=UT hr;rw[hq,aY];exact wz _ _ _
    refine⟨top (fun x hx=>?_) Ff,?_⟩
    ·obtain⟨p,hp,hx⟩:=qu.1 hx;exact(Xs p hp).1 x hx
    ·have:=HM (xs:=xs) (A:=A) (rc:=fun r=>Yw xs A f r.toNat) (l:=rs) (k:=k) (c:=0) fun p hp=>(Xs p hp).2;rw[HL,xL (by omega),yL,dG,bO]at this;exact this
theorem EO(hF:Sd xs){k:Nat}(hk:k<W xs 0):Lg xs (jm xs xs.length 0 k)/\Yw xs (jm xs xs.length 0 k) xs.length 0=k:=by
 obtain⟨s,hs,j5⟩:=hF.rt;have hu:=hF.fo.up 0 s hs;obtain⟨h1,h2⟩:=SR hF xs.length 0 k hs (by omega) (by rw[j5];rfl) (by exact_mod_cast hk) _ fun x _ _=>Iff.rfl;obtain⟨h3,h4⟩:=EI hF xs.length 0 k hs;refine⟨⟨by exact_mod_cast wz (xs:=xs) xs.length 0 k,h3,fun x hx=>?_⟩,h2⟩;obtain⟨a1,a2,a3⟩:=h1 x hx;have:=h4 x hx;exact⟨by omega,by omega,a1,a2.imp (fun h=>by simpa using h) id,a3⟩
end
theorem JN{xs:List cN}(sd:Sd xs)(hl:xs.length<=64){act:List Int}(A:Lg xs act){ro:List Ro}{n:Nat}{r:Ro}(hr:ro[n]? =some r):iu (jX xs ro act n)=iu act&&& CT xs r:=by
 have e:jX xs ro act n=if r.dom<0 then[]else act.filter fun x=>sL xs x r.dom:=by
  unfold jX;rw[if_neg (by omega),aY,hr]
 rw[e];unfold CT;by_cases hd:r.dom<0
 ·rw[if_pos hd,if_neg (by omega),Nat.and_zero];rfl
 ·rw[if_neg hd,if_pos (by omega)];obtain⟨d,hde⟩:∃d:Nat,r.dom=d:=⟨r.dom.toNat,by omega⟩
  rw[hde,aY];refine gN fun i=>?_;rw[bX,kF,aQ,mJ sd hl A,MO sd.fo hl,tS,cA,ft,aaV];refine⟨fun h=>h.2,fun h=>⟨?_,h⟩⟩;have:=(A.at_ i h.1).lt;omega
theorem tleaves_c{w:av}{x:Ch×Nat}{cs:aI}(hx:rChU w (fun _=>True) x cs)(hb:x.2<=1048576)(k gQ:Int)(hE:Er w)(hT:Tb w)(hD:Dj w):az aq 6 #[ah cs.toArray,O U k,O U gQ] w fun e w'=>e=ak (aj true)/\ay [] w w':=by
 obtain⟨c,m⟩:=x;obtain⟨D,vs,cs,rfl,hC,hn,hs⟩:=hx;dsimp only at hC hn hs hb;have hC0:=hC;cases D with
 | zero=>exact hC.root.elim
 | succ D=>
 obtain⟨en,lv,mv,kids,rfl,_⟩:=hC0.root;refine ret (alU _ _ _ _ _ _ _ _ _ _ _ _ _ _ ?_);have keep:∀{w':av},ay [] w w'->ChR false (D+1) w' (fun _=>True) c vs (nE c.root.b.k c.root.b.nm c.root.b.ini c.root.b.dft en lv mv kids c.root.b.a):=fun hO=>⟨hC.vars.keep fA (by decide) fun k _ bS=>hO.block k bS (by simp),(cG false _).keep hC.root fun k _ bS=>hO.block k bS (by simp)⟩
 intro k0 w0 gu fe cD;have z0:=cD.size;refine(SL w0 (hE.only cD) (hT.only cD)).mono ?_;rintro _ w1 ⟨rfl,cr⟩;have z1:=cr.size;have o1:=cD.cf cr;refine⟨true,rfl,cr.same (by simp;omega),(A3 (keep o1) hn (by omega) (hE.only o1) (hT.only o1)).mono ?_⟩;rintro _ w2 ⟨⟨qn,sv,su,sc,se,rfl,Ty⟩,cR⟩;have z2:=cR.size;have o2:=o1.cf cR;refine⟨qn,sv,su,sc,se,_,_,rfl,cR.same (by simp;omega),fun k1 k2 w3 j5 iX rm rn de=>?_⟩;have z3:=de.size;have o3:=o2.cf de;refine(AQ (keep o3) hn (by omega) (hE.only o3) (hT.only o3)).mono ?_;rintro _ w4 ⟨⟨s,si,OY,sr,rfl,hP⟩,dL⟩;have z4:=dL.size;have o4:=o3.cf dL;refine⟨s,si,OY,sr,_,_,rfl,dL.same (by simp;omega),fun k3 k4 w5 wG rL Bl E9 eP=>⟨fun _=>⟨?_,o4.cf eP⟩,fun hc=>?_⟩⟩
 ·simp
 have hl:(fU c).1=0:=by
  rw[eb]at hc;simpa using hc.2
 have z5:=eP.size;have o5:=o4.cf eP;have hT5:TbR w5 _ qn sc se c:=(((Ty hl).o0 de).o0 dL).o0 eP;have Iu:=(hP hl).o0 eP;have N:=Eo hl;have sd:=N.sd;have lC:(cF c).length<=64:=N.le;obtain⟨s0,yh,_⟩:=sd.rt;have hW:1<=W (cF c) ((0:Nat):Int):=sd.Nc yh;have hW:1<=W (cF c) 0:=hW;refine(EM (xs:=cF c) Iu.sp sd).mono ?_;rintro _ w6 ⟨rfl,eB⟩;have z6:=eB.size;have o6:=o5.cf eB;have hsr:sr.n=se.n:=by
  rw[Iu.ro.len,hT5.te.len,bm];rfl
 refine⟨_,rfl,eB.same (by simp;omega),fun hh=>?_,fun _=>⟨fun _=>⟨rfl,o6⟩,fun hin=>⟨by omega,fun w7 fE=>?_⟩⟩⟩
 ·exfalso;rw[hsr,bC (by omega:¬((W (cF c) 0:Nat):Int)<1)]at hh;simp at hh
 rw[eb,cY,cY]at hin;obtain⟨n,rfl⟩:∃n:Nat,gQ=n:=⟨gQ.toNat,by omega⟩
 have z7:=fE.size;have o7:=o6.cf fE;have p7:=eB.cf fE;have Y2:=Iu.o0 p7;have hT7:=hT5.o0 p7;have Fy:0<=(bits .and U k 1048575).tmod ((W (cF c) 0:Nat):Int):=Uc _ (JL k);have Ih:(bits .and U k 1048575).tmod ((W (cF c) 0:Nat):Int)<((W (cF c) 0:Nat):Int):=H8 _ (by omega);refine(SQ (xs:=cF c) Y2.sp sd _ fun q=>by have:=EJ sd (cF c).length 0 q yh;omega).mono ?_;rintro _ w8 ⟨⟨sa,bt,act,rfl,T6,OX,Zm⟩,fy⟩;have z8:=fy.size;have o8:=o7.cf fy;have OX:bt=true:=OX.2 ⟨Fy,Ih⟩;rw[if_pos OX]at Zm;have A:Lg (cF c) act:=by
  rw[Zm];exact(EO sd (by omega)).1
 have hal:act.length<=64:=by rw[<-qj sd lC A];exact qf _
 have yr:=T6.slice bN;refine⟨sa,bt,rfl,fy.same (by simp;omega),(Es (Y2.o0 fy) sd.fo yr (by omega) n).mono ?_⟩;rintro _ w9 ⟨⟨t,rfl,ht⟩,fQ⟩;have z9:=fQ.size;have o9:=o8.cf fQ;refine⟨t,rfl,fQ.same (by simp;omega),fun b u=>b=true/\ay [] w u,?_,fun dC eu=>⟨fun _=>True,trivial,?_⟩⟩
 ·rintro _ u ⟨rfl,h⟩;exact⟨rfl,h⟩
 have C6:=eu.size;have UR:=o9.cf eu;have p11:=(fy.cf fQ).cf eu;have adb:=hT7.o0 p11;have PK:n<((wM (cF c) 0 c.root).map (CT (cF c))).length:=by
  have:=hT5.te.len;omega
 obtain⟨r,hr⟩:∃r,(wM (cF c) 0 c.root)[n]? =some r:=⟨_,aW (by rwa[bm]at PK)⟩
 have BU:=adb.te.len;obtain⟨ad,y,ds,e1,e2,e3,e4,e5,e6⟩:=adb.te.get (i:=(n:Int)) (bA n) (by omega);rw[aY,ch,hr]at e2;injection e2 with e2;subst e2;refine⟨ad,e1,trivial,_,e5.dQ 7 _ e6.1,(zd (kI (ht.slice bN) eu)).mono ?_⟩;rintro _ u ⟨rfl,hu⟩;obtain rfl:dC=u:=hu.symm;refine⟨_,rfl,bU.refl _ _,fun _ _ _=>rfl,(zd (kI yr (fQ.cf eu))).mono ?_⟩;rintro _ u ⟨rfl,hu⟩;obtain rfl:dC=u:=hu.symm;have hex:CT (cF c) r<18446744073709551616:=by
  unfold CT;split
  ·exact aa2 _ _
  ·decide
 refine⟨_,rfl,bU.refl _ _,fun _ _ _=>rfl,fun _=>⟨trivial,(zd (kI yr (fQ.cf eu))).mono ?_⟩,fun hf=>?_⟩
 ·rintro _ u ⟨rfl,hu⟩;obtain rfl:dC=u:=hu.symm;refine⟨_,rfl,bU.refl _ _,fun _ _ _=>rfl,(SP (hD.only UR) adb.tc sd lC A).mono ?_⟩;rintro _ fZ ⟨rfl,gL⟩;exact⟨_,rfl,gL.same (by simp;omega),bP.only gL,rfl,UR.cf gL⟩
 ·exfalso;rw[u64_and_nat _ _ (nZ act) hex]at hf;have e:iu (jX (gp c).sp (gp c).ro act n)=iu act&&& CT (cF c) r:=JN sd lC A hr;rw[e]at hf;simp at hf
theorem HN{α:Type}(f:α->aw):∀l:List α,(l.map fun x=>[f x]).flatten=l.map f
 | []=>rfl
 | x::l=>by rw[bD,di,bD,HN f l];rfl
theorem mkB(w:av){n:Nat}(hn:n<=2000000)(h0:0<n):∃(s:Sl) (w':av),(Instr.makeSlice 69 (O U (n:Int)) (O U (n:Int))).run aq w=.ok s.v w'/\Own rBool 1 4 w.heap.size w' (fun _=>False) s (List.replicate n false)/\ay [] w w':=by
 obtain⟨w',h1,h2,h3⟩:=run_makeSlice_full (P:=aq) (w:=w) w.heap.size 69 4 Tryz.t4 (aj false) 1 (by kernel_rfl) (by kernel_rfl) rfl rfl U U n (by omega) (by show 1*n<=_;omega) (by show n<=9223372036854775807;omega) (aX _);have e:(madeCells (Value.bool false).cells (n*1)).toList=(List.replicate n false).map Value.bool:=by
  rw[gj,List.map_replicate];exact toList_madeCells_one _ _
 rw[e]at h2;refine⟨⟨some ⟨w.heap.size,0,none⟩,n,n⟩,w',h1,?_,by have:=Only.HP h3;simpa using this⟩;rcases h2.2 with⟨h,_⟩ | ⟨g,cap,cur,h,g1,g2,g3,g4,g5,g6⟩
 ·cases h
 ·injection h with h h' h'';injection h with h;injection h with h;subst h h'';refine .inr ⟨w.heap.size,(List.replicate n false).map fun x=>[Value.bool x],cur.toList.drop n,rfl,aX _,?_,?_,by rw[db],aX _,?_,?_⟩
  ·rw[HN];rw[gj]at g6;rw[<-g6,cZ];unfold aF;rw[g2]
  ·dsimp only;rw[cH,jG,g5];omega
  ·dsimp only;omega
  ·have:∀m,fS (fun x cs=>cs.length=1/\rBool w' (fun k=>False/\k≠w.heap.size) x cs) (List.replicate m false) ((List.replicate m false).map fun x=>[Value.bool x]):=fun m=>by
    induction m with
    | zero=>trivial
    | succ m ih=>exact⟨⟨rfl,rfl⟩,ih⟩
   exact this n
def wA:aH:=[99,104,97,114,116,32,99,32,123,32,105,110,105,116,105,97,108,32,112,59,32,111,110,32,120,32,45,62,32,112,59,32,112,97,114,97,108,108,101,108,32,112,32,123,32,115,116,97,116,101,32,97,32,123,32,105,110,105,116,105,97,108,32,98,59,32,111,110,32,120,32,45,62,32,100,59,32,115,116,97,116,101,32,98,32,123,32,111,110,32,120,32,45,62,32,100,59,32,125,32,115,116,97,116,101,32,100,32,123,32,125,32,125,32,115,116,97,116,101,32,101,32,123,32,111,110,32,120,59,32,111,110,32,120,32,45,62,32,112,59,32,125,32,125,32,125]
def Yx:Bool:=decide ((lp wA).1=0)&&Wf wA&&decide ((wM (cF (dE wA).1) 0 (dE wA).1.root).length=5)&&decide (fP (cF (dE wA).1) (wM (cF (dE wA).1) 0 (dE wA).1.root) [0,1,2,3,5] [true,true,true,true,true]=[2,3])
theorem WC:Yx=true:=by kernel_rfl
theorem tU(c:Ch):(gp c).ro.Pairwise fun r s=>r.src<=s.src:=HE (cF c) c.root 0
theorem HO(w:av)(hE:Er w)(hT:Tb w):az aq 24 #[] w fun e w'=>e=ak (aj true)/\ay [] w w':=by
 refine ret (al2 _ _ ?_);have oe:=WC;unfold Yx at oe;simp only[aQ,bM]at oe;obtain⟨⟨⟨h1,h2⟩,h3⟩,h4⟩:=oe;have h2:=RW h2;have hc:sS wA=(dE wA).1:=by unfold sS;rw[if_pos h1]
 have hl:(fU (dE wA).1).1=0:=by
  unfold lp at h1;split at h1
  ·exact h1
  ·rename_i h;exact absurd h1 h
 refine(MA wA h2.1 h2.2 hE hT).mono ?_;rintro _ w0 ⟨vs,cs,rfl,hC,cD⟩;rw[hc]at hC;obtain⟨xe,xl,xm,xk,rfl,_⟩:=hC.root;have z0:=cD.size;refine⟨vs,_,_,_,_,xe,xl,xm,xk,_,_,_,rfl,fun k0 k1 w1 gu fe j5 iX cr=>?_⟩;have z1:=cr.size;have o1:=cD.cf cr;have hC1:ChR true 15 w1 (Fr w.heap.size) (dE wA).1 vs _:=⟨hC.vars.keep fA (by decide) fun k _ bS=>cr.block k bS (by simp),(cG true 15).keep hC.root fun k _ bS=>cr.block k bS (by simp)⟩
 refine(AQ (D:=14) hC1.off h2.1 h2.2 (hE.only o1) (hT.only o1)).mono ?_;rintro _ w2 ⟨⟨s,si,OY,sr,rfl,hP⟩,cR⟩;have z2:=cR.size;have o2:=o1.cf cR;refine⟨s,si,OY,sr,_,_,rfl,cR.same (by simp;omega),fun k2 k3 w3 rm rn wG rL de=>?_⟩;have z3:=de.size;have o3:=o2.cf de;have UU:=(hP hl).o0 de;have N:=Eo hl;obtain⟨y,w4,p1,p2,p3,_⟩:=gY (P:=aq) (t:=32) (e:=3) (i:=Tryz.t3) (z:=O U 0) (w:=w3) (F:=fun _=>False) (vs:=[O U 0,O U 1,O U 2,O U 3,O U 5]) (parts:=#[.mk 0 (O U 0),.mk 1 (O U 1),.mk 2 (O U 2),.mk 3 (O U 3),.mk 4 (O U 5)]) (len:=5) (xs:=[0,1,2,3,5]) (r:=fz) (size:=1) (by kernel_rfl) (by kernel_rfl) rfl rfl (by decide) rfl rfl (by decide) (by decide) bN ⟨⟨rfl,rfl,by decide,by decide⟩,⟨rfl,rfl,by decide,by decide⟩,⟨rfl,rfl,by decide,by decide⟩,⟨rfl,rfl,by decide,by decide⟩,⟨rfl,rfl,by decide,by decide⟩,trivial⟩;have z4:=p3.size;obtain⟨yb,w5,q1,q2,q3,_⟩:=gY (P:=aq) (t:=69) (e:=4) (i:=Tryz.t4) (z:=aj false) (w:=w4) (F:=fun _=>False) (vs:=[aj true,aj true,aj true,aj true,aj true]) (parts:=#[.mk 0 (aj true),.mk 1 (aj true),.mk 2 (aj true),.mk 3 (aj true),.mk 4 (aj true)]) (len:=5) (xs:=[true,true,true,true,true]) (r:=rBool) (size:=1) (by kernel_rfl) (by kernel_rfl) rfl rfl (by decide) rfl rfl (by decide) (by decide) jC ⟨⟨rfl,rfl⟩,⟨rfl,rfl⟩,⟨rfl,rfl⟩,⟨rfl,rfl⟩,⟨rfl,rfl⟩,trivial⟩;have z5:=q3.size;refine⟨y,w4,p1,p3.same (by simp;omega),yb,w5,q1,q3.same (by simp;omega),(MW ((UU.o0 p3).o0 q3) N.sd N.le (tU _) (by show(wM _ _ _).length<=_;omega) (kI (p2.slice bN) q3) (by decide) (q2.slice jC)).mono ?_⟩;rintro _ w6 ⟨⟨t,rfl,ht⟩,eB⟩;have e:fP (gp (dE wA).1).sp (gp (dE wA).1).ro [0,1,2,3,5] [true,true,true,true,true]=[2,3]:=h4;rw[e]at ht;have hts:=ht.slice bN;obtain⟨ad,a1,a2⟩:=gW hts (i:=0) rfl;obtain⟨EZ,b1,b2⟩:=gW hts (i:=1) rfl;have hrn:sr.n=5:=by rw[UU.ro.len];exact h3
 refine⟨t,rfl,eB.same (by simp;omega),ad,fun _=>a1,_,fun _=>a2,EZ,fun _=>b1,_,fun _=>b2,?_,((o3.cf p3).cf q3).cf eB⟩;rw[h1,hl,hrn,ht.len];rfl
theorem SU{n:Nat}:∀i:Nat,((List.replicate (n+1) false).set n true)[i]? =some true↔i=n:=fun i=>by
 rw[vA];by_cases h:n=i
 ·rw[if_pos h,db,if_pos (by omega)];exact⟨fun _=>h.symm,fun _=>rfl⟩
 ·rw[if_neg h,List.getElem?_replicate];constructor
  ·intro e;split at e
   ·cases e
   ·cases e
  ·intro e;exact absurd e.symm h
theorem cone_c{w:av}{x:Ch×Nat}{cs:aI}(hx:rChU w (fun _=>True) x cs)(hb:x.2<=1048576)(k gQ:Int)(hE:Er w)(hT:Tb w):az aq 8 #[ah cs.toArray,O U k,O U gQ] w fun e w'=>e=ak (aj true)/\ay [] w w':=by
 obtain⟨c,m⟩:=x;obtain⟨D,vs,cs,rfl,hC,hn,hs⟩:=hx;dsimp only at hC hn hs hb;have hC0:=hC;cases D with
 | zero=>exact hC.root.elim
 | succ D=>
 obtain⟨en,lv,mv,kids,rfl,_⟩:=hC0.root;refine ret (alW _ _ _ _ _ _ _ _ _ _ _ _ _ _ ?_);have keep:∀{w':av},ay [] w w'->ChR false (D+1) w' (fun _=>True) c vs (nE c.root.b.k c.root.b.nm c.root.b.ini c.root.b.dft en lv mv kids c.root.b.a):=fun hO=>⟨hC.vars.keep fA (by decide) fun k _ bS=>hO.block k bS (by simp),(cG false _).keep hC.root fun k _ bS=>hO.block k bS (by simp)⟩
 intro k0 w0 gu fe cD;have z0:=cD.size;refine(HO w0 (hE.only cD) (hT.only cD)).mono ?_;rintro _ w1 ⟨rfl,cr⟩;have z1:=cr.size;have o1:=cD.cf cr;refine⟨true,rfl,cr.same (by simp;omega),(AQ (keep o1) hn (by omega) (hE.only o1) (hT.only o1)).mono ?_⟩;rintro _ w2 ⟨⟨s,si,OY,sr,rfl,hP⟩,cR⟩;have z2:=cR.size;have o2:=o1.cf cR;refine⟨s,si,OY,sr,_,_,rfl,cR.same (by simp;omega),fun k1 k2 w3 j5 iX rm rn de=>⟨fun _=>⟨rfl,o2.cf de⟩,fun hc=>?_⟩⟩;rw[eb,eb,eb,cY,cY]at hc;obtain⟨⟨⟨_,uj⟩,lw⟩,Bz⟩:=hc;have hl:(fU c).1=0:=by simpa using uj
 obtain⟨n,rfl⟩:∃n:Nat,gQ=n:=⟨gQ.toNat,by omega⟩
 have z3:=de.size;have o3:=o2.cf de;have UU:=(hP hl).o0 de;have N:=Eo hl;have sd:=N.sd;have lC:(cF c).length<=64:=N.le;obtain⟨s0,yh,_⟩:=sd.rt;have hW:1<=W (cF c) ((0:Nat):Int):=sd.Nc yh;have hW:1<=W (cF c) 0:=hW;have hrn:=UU.ro.len;have hrz:(gp c).ro.length<=mO c.root:=Jx (cF c) c.root 0;refine(EM (xs:=cF c) UU.sp sd).mono ?_;rintro _ w4 ⟨rfl,dL⟩;have z4:=dL.size;refine⟨_,rfl,dL.same (by simp;omega),fun hh=>absurd (aO hh) (by omega),fun _=>⟨by omega,fun w5 eP=>?_⟩⟩;have z5:=eP.size;have p5:=dL.cf eP;have o5:=o3.cf p5;have Iu:=UU.o0 p5;have Fy:0<=(bits .and U k 1048575).tmod ((W (cF c) 0:Nat):Int):=Uc _ (JL k);have Ih:(bits .and U k 1048575).tmod ((W (cF c) 0:Nat):Int)<((W (cF c) 0:Nat):Int):=H8 _ (by omega);refine(SQ (xs:=cF c) Iu.sp sd _ fun q=>by have:=EJ sd (cF c).length 0 q yh;omega).mono ?_;rintro _ w6 ⟨⟨sa,bt,act,rfl,T6,OX,Zm⟩,eB⟩;have z6:=eB.size;have OX:bt=true:=OX.2 ⟨Fy,Ih⟩;rw[if_pos OX]at Zm;have A:Lg (cF c) act:=by
  rw[Zm];exact(EO sd (by omega)).1
 have hal:act.length<=64:=by rw[<-qj sd lC A];exact qf _
 have yr:=T6.slice bN;have eW:ar U ((n:Int)+1)=((n+1:Nat):Int):=by rw[fR (by omega) (by omega)];omega
 obtain⟨sm,w7,q1,q2,q3⟩:=mkB w6 (n:=n+1) (by omega) (by omega);have z7:=q3.size;obtain⟨g,cells,g1,g2,g3,g4,g5⟩:=Own.store (x:=true) (n:=n) (vs:=[aj true]) (G:=fun _=>False) jC q2 (by rw[db];omega) rfl rfl (fun k hk _=>hk.elim) (by decide);have hg:=(q2.blk g1).1;dsimp only at hg;refine⟨sa,bt,rfl,eB.same (by simp;omega),sm,w7,by rw[eW];exact q1,q3.same (by simp;omega),_,g2,g,n*1,cells,_,rfl,g3,g4,by omega,by omega,by omega,fun w8 fy vt=>?_⟩;have z8:=fy.size;have hM:=g5 w8 fy vt;have p8:ay [] w5 w8:=(eB.cf q3).trans fy fun x hx=>.inr (by simp only[aN]at hx;omega);have o8:=o5.cf p8;have hP8:=Iu.o0 p8;have ha8:aA fz 1 w8 _ sa act:=SliceF.only bN (by decide) (kI (SliceF.inHeap bN yr (by decide)) q3) fy fun k hk _ hm=>by simp only[aN]at hm;omega
 obtain⟨r,hr⟩:∃r,(gp c).ro[n]? =some r:=⟨_,aW (by omega)⟩
 have jZ:=JA sd A hr (may:=(List.replicate (n+1) false).set n true) SU;refine(MW hP8 sd lC (tU c) (by omega) ha8 (by omega) (hM.slice jC)).mono ?_;rintro _ w9 ⟨⟨t,rfl,ht⟩,fQ⟩;have z9:=fQ.size;have o9:=o8.cf fQ;have ht:dc w8.heap.size w9 t (fP (cF c) (gp c).ro act ((List.replicate (n+1) false).set n true)):=ht;rw[jZ]at ht;have hP9:=hP8.o0 fQ;obtain⟨ad,tg,a1,a2,_⟩:=xZ hP9.ro hr;refine⟨t,rfl,fQ.same (by simp;omega),ad,a1,r.src,a2.dQ 0 _ rfl,(JD (kI ha8 fQ) r.src (by omega)).mono ?_⟩;rintro _ u ⟨rfl,hu⟩;obtain rfl:w9=u:=hu.symm;refine⟨_,rfl,bU.refl _ _,fun hn=>⟨?_,o9⟩,fun hn=>?_⟩
 ·have hn:r.src∉act:=by simpa using hn
  rw[if_neg hn]at ht;rw[ht.len];rfl
 ·have hn:r.src∈act:=by simpa using hn
  rw[if_pos hn]at ht;obtain⟨ve,b1,b2⟩:=gW (ht.slice bN) (i:=0) rfl;refine⟨fun b u=>b=true/\ay [] w u,?_,ve,fun _=>b1,_,fun _=>b2,fun _=>?_,fun hf=>?_⟩
  ·rintro _ u ⟨rfl,h⟩;exact⟨rfl,h⟩
  ·refine(MW hP9 sd lC (tU c) (by omega) (kI ha8 fQ) (by omega) (SliceF.nil rBool 1 w9 (fun _=>True))).mono ?_;rintro _ dN ⟨⟨t2,rfl,ht2⟩,eS⟩;rw[JC]at ht2;refine⟨t2,rfl,eS.same (by simp;omega),?_,o9.cf eS⟩;rw[ht2.len];rfl
  ·exfalso;rw[ht.len]at hf;simp at hf
theorem SW(xs:List cN)(ro:List Ro)(act:List Int)(may:List Bool)(st:List Int×List Int)(x:Int):(oz xs ro act may st x).2.length<=st.2.length+1:=by
 unfold oz;dsimp only;split
 ·omega
 ·dsimp only;split
  ·omega
  ·rw[aP,bG];have:=da (fun o=>!ga xs ro act (jF xs ro may x) o) st.2;omega
theorem JO(xs:List cN)(ro:List Ro)(act:List Int)(may:List Bool)(h:xs.length<=1000000):(fP xs ro act may).length<=100000000:=by
 have key:∀(l:List Int) (st:List Int×List Int),(l.foldl (oz xs ro act may) st).2.length<=st.2.length+l.length:=fun l=>by
  induction l with
  | nil=>exact fun st=>aX _
  | cons x l ih=>
   intro st;have h1:=ih (oz xs ro act may st x);have h2:=SW xs ro act may st x;rw[rM,bf];omega
 have h1:=key (Ie xs act) ([],[]);have h2:(Ie xs act).length<=xs.length:=Em _ _;unfold fP;simp only[cz]at h1;omega
theorem capart_c{w:av}{x:Ch×Nat}{cs:aI}{sm:Sl}{may:List Bool}(hx:rChU w (fun _=>True) x cs)(k:Int)(hM:aA rBool 1 w (fun _=>True) sm may)(hb:x.2+may.length<=1048576)(hE:Er w)(hT:Tb w):az aq 7 #[ah cs.toArray,O U k,sm.v] w fun e w'=>e=ak (aj true)/\ay [] w w':=by
 obtain⟨c,m⟩:=x;obtain⟨D,vs,cs,rfl,hC,hn,hs⟩:=hx;dsimp only at hC hn hs hb;have hC0:=hC;cases D with
 | zero=>exact hC.root.elim
 | succ D=>
 obtain⟨en,lv,mv,kids,rfl,_⟩:=hC0.root;refine ret (alV _ _ _ _ _ _ _ _ _ _ _ _ _ _ ?_);have keep:∀{w':av},ay [] w w'->ChR false (D+1) w' (fun _=>True) c vs (nE c.root.b.k c.root.b.nm c.root.b.ini c.root.b.dft en lv mv kids c.root.b.a):=fun hO=>⟨hC.vars.keep fA (by decide) fun k _ bS=>hO.block k bS (by simp),(cG false _).keep hC.root fun k _ bS=>hO.block k bS (by simp)⟩
 intro k0 w0 gu fe cD;have z0:=cD.size;refine(HO w0 (hE.only cD) (hT.only cD)).mono ?_;rintro _ w1 ⟨rfl,cr⟩;have z1:=cr.size;have o1:=cD.cf cr;refine⟨true,rfl,cr.same (by simp;omega),(AQ (keep o1) hn (by omega) (hE.only o1) (hT.only o1)).mono ?_⟩;rintro _ w2 ⟨⟨s,si,OY,sr,rfl,hP⟩,cR⟩;have z2:=cR.size;have o2:=o1.cf cR;refine⟨s,si,OY,sr,_,_,rfl,cR.same (by simp;omega),fun k1 k2 w3 j5 iX rm rn de=>⟨fun _=>⟨rfl,o2.cf de⟩,fun hc=>?_⟩⟩;have hl:(fU c).1=0:=by simpa using hc
 have z3:=de.size;have o3:=o2.cf de;have UU:=(hP hl).o0 de;have N:=Eo hl;have sd:=N.sd;have lC:(cF c).length<=64:=N.le;obtain⟨s0,yh,_⟩:=sd.rt;have hW:1<=W (cF c) ((0:Nat):Int):=sd.Nc yh;have hW:1<=W (cF c) 0:=hW;have hrn:=UU.ro.len;have hrz:(gp c).ro.length<=mO c.root:=Jx (cF c) c.root 0;refine(EM (xs:=cF c) UU.sp sd).mono ?_;rintro _ w4 ⟨rfl,dL⟩;have z4:=dL.size;refine⟨_,rfl,dL.same (by simp;omega),fun hh=>absurd (aO hh) (by omega),fun _=>⟨by omega,fun w5 eP=>?_⟩⟩;have z5:=eP.size;have p5:=dL.cf eP;have o5:=o3.cf p5;have Iu:=UU.o0 p5;have Fy:0<=(bits .and U k 1048575).tmod ((W (cF c) 0:Nat):Int):=Uc _ (JL k);have Ih:(bits .and U k 1048575).tmod ((W (cF c) 0:Nat):Int)<((W (cF c) 0:Nat):Int):=H8 _ (by omega);refine(SQ (xs:=cF c) Iu.sp sd _ fun q=>by have:=EJ sd (cF c).length 0 q yh;omega).mono ?_;rintro _ w6 ⟨⟨sa,bt,act,rfl,T6,OX,Zm⟩,eB⟩;have z6:=eB.size;have OX:bt=true:=OX.2 ⟨Fy,Ih⟩;rw[if_pos OX]at Zm;have A:Lg (cF c) act:=by
  rw[Zm];exact(EO sd (by omega)).1
 have hal:act.length<=64:=by rw[<-qj sd lC A];exact qf _
 have yr:=T6.slice bN;have o6:=o5.cf eB;have hP6:=Iu.o0 eB;have hM6:aA rBool 1 w6 _ sm may:=SliceF.only jC (by decide) hM o6 (by simp);refine⟨sa,bt,rfl,eB.same (by simp;omega),(MW hP6 sd lC (tU c) (by omega) yr (by omega) hM6).mono ?_⟩;rintro _ w7 ⟨⟨t,rfl,ht⟩,fE⟩;have z7:=fE.size;have o7:=o6.cf fE;have ht:dc w6.heap.size w7 t (fP (cF c) (gp c).ro act may):=ht;have C:=uV sd A (ro:=(gp c).ro) (may:=may);have ik:=@CQ _ sd _ A (gp c).ro may;have ok:∀x,x∈fP (cF c) (gp c).ro act may->∃(n:Nat) (r:Ro),x=n/\(gp c).ro[n]? =some r/\may[n]? =some true/\r.src∈act:=fun x hx=>C.ok x (C.sub x hx);have Ii:(fP (cF c) (gp c).ro act may).Pairwise fun b a=>ga (cF c) (gp c).ro act a b=false:=C.ap;generalize hL:fP (cF c) (gp c).ro act may=L at*
 have hts:=ht.slice bN;have Xb:=hts.len;have htc:=hts.cap;have htb:=hts.big;have hmn:=hM.len;have hmc:=hM.cap;have hmb:=hM.big;refine⟨t,rfl,fE.same (by simp;omega),fun kv b i u=>∃j:Nat,i=(j:Int)/\kv+j=min may.length (gp c).ro.length/\j<=min may.length (gp c).ro.length/\(b=true↔∃n,n<j/\∃r,(gp c).ro[n]? =some r/\may[n]? =some true/\r.src∈act)/\ay [] w7 u,min may.length (gp c).ro.length,⟨0,rfl,by omega,bh _,⟨fun h=>(by cases h),fun⟨n,h,_⟩=>by omega⟩,Only.refl _ _⟩,?_⟩;rintro kv b _ w8 ⟨j,rfl,tY,hj,hbj,fy⟩;have hP8:=(hP6.o0 fE).o0 fy;have hM8:aA rBool 1 w8 _ sm may:=SliceF.only jC (by decide) (SliceF.only jC (by decide) hM6 fE (by simp)) fy (by simp);have ha8:=kI (kI yr fE) fy;refine⟨fun lw=>?_,fun lw=>?_⟩
 ·rw[aQ,cA,cA]at lw;obtain⟨r,hr⟩:∃r,(gp c).ro[j]? =some r:=⟨_,aW (by omega)⟩
  obtain⟨mb,adf⟩:∃mb,may[j]? =some mb:=⟨_,aW (by omega)⟩
  obtain⟨ad,tg,a1,a2,_⟩:=xZ hP8.ro hr;obtain⟨ve,b1,b2⟩:=Ey hM8 adf;refine⟨ad,a1,r.src,a2.dQ 0 _ rfl,(JD ha8 r.src (by omega)).mono ?_⟩;rintro _ u ⟨rfl,hu⟩;obtain rfl:w8=u:=hu.symm;refine⟨_,rfl,bU.refl _ _,ve,fun _=>b1,mb,fun _=>b2,kv-1,by omega,j+1,by rw[fR (by omega) (by omega)];rfl,by omega,by omega,?_,fy⟩;rw[cn,hbj,aQ,cA];constructor
  ·rintro(⟨n,h1,h2⟩ | ⟨h1,h2⟩)
   ·exact⟨n,by omega,h2⟩
   ·exact⟨j,by omega,r,hr,by rw[adf,h1],h2⟩
  ·rintro⟨n,h1,r',h2,h3,h4⟩;by_cases e:n=j
   ·subst e;rw[hr,aZ]at h2;rw[adf,aZ]at h3;subst h2;exact .inr ⟨h3,h4⟩
   ·exact .inl ⟨n,by omega,r',h2,h3,h4⟩
 have OA:j=min may.length (gp c).ro.length:=by
  rw[Bool.and_eq_false_iff,cY,cY]at lw;clear hbj ik ok;omega
 have Bm:b=true↔L≠[]:=by
  rw[hbj];constructor
  ·rintro⟨n,_,r,h1,h2,h3⟩;exact ik h1 h2 h3
  ·intro h;obtain⟨y,hy⟩:=List.exists_mem_of_ne_nil L h;obtain⟨n,r,_,h1,h2,h3⟩:=ok y hy;have:=(aV.1 h1).1;have:=(aV.1 h2).1;exact⟨n,by omega,r,h1,h2,h3⟩
 have hLl:L.length<=100000000:=by
  rw[<-hL];exact JO _ _ _ _ (by omega)
 refine⟨fun kv i u=>∃j:Nat,i=(j:Int)/\kv+j=L.length/\j<=L.length/\ay [] w8 u,L.length,⟨0,rfl,by omega,bh _,Only.refl _ _⟩,?_⟩;rintro T0 _ du ⟨i,rfl,OZ,hi,dM⟩;have UJ:=(fE.cf fy).cf dM;have o10:=o6.cf UJ;refine⟨fun Bz=>?_,fun Bz=>⟨?_,o10⟩⟩
 ·have Bz:=aO Bz;have Bg:i<L.length:=by omega
  have Zn:=kI (kI hts fy) dM;obtain⟨ad,a1,a2⟩:=gW Zn (aW Bg);obtain⟨n,r,vu,er,em,es⟩:=ok _ (dZ Bg);have hnr:=(aV.1 er).1;have hnm:=(aV.1 em).1;rw[vu]at a2;have aqo:aA rBool 1 du _ sm may:=SliceF.only jC (by decide) hM8 dM (by simp);obtain⟨ve,b1,b2⟩:=Ey aqo em;refine⟨ad,a1,_,a2,ad,fun _=>a1,_,fun _=>a2,ad,fun _=>a1,_,fun _=>a2,ad,fun _=>a1,_,fun _=>a2,ve,fun _=>b1,true,fun _=>b2,fun hf=>?_,fun _=>⟨ad,a1,fun dN eS=>?_⟩⟩
  ·exfalso;rw[bC (by omega:¬(n:Int)<0),bC (by omega:¬(n:Int)>=(sm.n:Int)),bC (by omega:¬(n:Int)>=(sr.n:Int))]at hf;cases hf
  have aiW:=kI Zn eS;have Zg:=UJ.cf eS;have Xe:=o6.cf Zg;have TS:=hP6.o0 Zg;have aqp:=kI yr Zg;have a2':=A2 a2 eS;obtain⟨Iv,tg,c1,c2,_⟩:=xZ TS.ro er;refine⟨_,a2',Iv,c1,r.src,c2.dQ 0 _ rfl,(JD aqp r.src (by omega)).mono ?_⟩;rintro _ u ⟨rfl,hu⟩;obtain rfl:dN=u:=hu.symm;refine⟨_,rfl,bU.refl _ _,fun hf=>?_,fun _=>?_⟩
  ·rw[bL es]at hf;cases hf
  refine⟨fun kv i' u=>∃q:Nat,i'=(q:Int)/\kv+q=i/\q<=i/\ay [] dN u,i,⟨0,rfl,by omega,bh _,Only.refl _ _⟩,?_⟩;rintro kv3 _ fk ⟨q,rfl,axR,hq,ep⟩;have aqq:ay [] w8 fk:=(dM.cf eS).cf ep;refine⟨fun Y6=>?_,fun Y6=>⟨T0-1,by omega,i+1,by rw[fR (by omega) (by omega)];rfl,by omega,by omega,aqq⟩⟩;have Y6:=aO Y6;have hql:q<L.length:=by omega
  refine⟨ad,a1,fun fZ gL=>?_⟩;have z15:=gL.size;have p15:=(Zg.cf ep).cf gL;have aiX:=kI (kI aiW ep) gL;obtain⟨ad4,d1,d2⟩:=gW aiX (aW hql);refine⟨_,A2 (A2 a2' ep) gL,ad4,d1,_,d2,(MM (hP6.o0 p15) sd.fo (kI yr p15) (by omega) n L[q]).mono ?_⟩;rintro _ gI ⟨rfl,iR⟩;have mT:ga (cF c) (gp c).ro act n L[q]=false:=by
   have:=dX.1 Ii q i hql Bg (by omega);rw[vu]at this;exact this
  have hz:du.heap.size<=fZ.heap.size:=by have:=eS.size;have:=ep.size;omega
  have hz7:w7.heap.size<=du.heap.size:=by have:=fy.size;have:=dM.size;omega
  refine⟨_,rfl,iR.same (by simp;omega),fun hf=>?_,fun _=>⟨kv3-1,by omega,q+1,by rw[fR (by omega) (by omega)];rfl,by omega,by omega,(ep.cf gL).cf iR⟩⟩;have hf:ga (cF c) (gp c).ro act n L[q]=true:=hf;rw[mT]at hf;cases hf
 ·congr 1;have e:decide ((t.n:Int)>0)=decide (L≠[]):=by
   rw[iP];constructor
   ·intro h e;rw[e]at Xb;simp at Xb;omega
   ·intro h;have:=jH.2 h;omega
  rw[e,ey,bX,Bm,cA]
end Go.Proofs.YtbkjcdocjfknfaaGreatDoor.Con
